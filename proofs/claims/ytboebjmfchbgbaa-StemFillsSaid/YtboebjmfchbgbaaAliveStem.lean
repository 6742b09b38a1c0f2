/-
  The chapter's example of layer 15 holds.
-/
import Derived.Test.YtboebjmfchbgbaaFill
namespace Go.Proofs.Ytboebjmfchbgbaa
open Go.RowKit
set_option linter.unusedSimpArgs false
set_option linter.unusedVariables false

theorem alive_match : stemM ⟨#[37, 46, 111]⟩ ⟨#[120, 46, 111]⟩ = ⟨#[120]⟩ := by
  refine ba_ext ?_; decide +kernel
theorem alive_is : isM ⟨#[37, 46, 111]⟩ ⟨#[120, 46, 111]⟩ = true := by decide +kernel
theorem alive_fill : fillS ⟨#[37, 46, 99]⟩ ⟨#[120]⟩ = ⟨#[120, 46, 99]⟩ := by
  refine ba_ext ?_; decide +kernel
set_option maxHeartbeats 4000000 in
theorem alive15_any (w : World) :
    Calls Try.prog 20 #[] w fun e w' => e = .returned (.bool true) ∧ Below w.heap.size w w' := by
  have h1 := alive_match
  have h2 := alive_is
  have h3 := alive_fill
  go_enter Try.func20, Try.ntmps20
  go_wp2_with (first | (go_at_call 21; refine (Match_any _ _ _ (by decide) (by decide)).mono ?_; rintro e w' ⟨rfl, rfl⟩; rw [h1, h2]) | (go_at_call 25; refine (Fill_any _ _ _ (by decide) (by decide)).mono ?_; rintro e w' ⟨rfl, hb⟩; rw [h3]))
  go_ret
  exact ⟨rfl, hb⟩


end Go.Proofs.Ytboebjmfchbgbaa
