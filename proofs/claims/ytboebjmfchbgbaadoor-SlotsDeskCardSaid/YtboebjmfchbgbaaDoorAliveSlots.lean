/-
  The chapter's example of layer 30.
-/
import Derived.Test.YtboebjmfchbgbaaDoorSlots
namespace Go.Proofs.YtboebjmfchbgbaaDoor
open Go Go.RowKit Go.Conc
set_option linter.unusedSimpArgs false
set_option linter.unusedVariables false

set_option maxHeartbeats 2000000 in
theorem alive30_any (w : World) :
    Calls Tryd.prog 16 #[] w fun e w' => e = .returned (.bool true) ∧ Below w.heap.size w w' := by
  go_enter Tryd.func16, Tryd.ntmps16
  go_wp2_with fail
  refine (New_ok 2 (by decide) (by decide) w).mono ?_
  rintro e w1 ⟨rfl, hb1, hS1⟩
  have hS1' : Slot w1 (w.heap.size + 1) w.heap.size [((0 : Nat) : Int), ((1 : Nat) : Int)] noTk 2 := hS1
  (try dsimp only)
  go_wp2_with fail
  refine (Take_some w1 _ _ 0 _ _ _ (by decide) hS1').mono ?_
  rintro e w2 ⟨rfl, ht2, hS2⟩
  (try dsimp only)
  go_wp2_with fail
  refine (Take_some w2 _ _ 1 _ _ _ (by decide) hS2).mono ?_
  rintro e w3 ⟨rfl, ht3, hS3⟩
  (try dsimp only)
  go_wp2_with fail
  refine (Give_ok w3 _ _ 0 _ _ _ hS3 (by decide) (by decide) rfl (by decide)).mono ?_
  rintro e w4 ⟨rfl, ht4, hS4⟩
  (try dsimp only)
  go_wp2_with fail
  refine (Take_some w4 _ _ 0 _ _ _ (by decide) hS4).mono ?_
  rintro e w5 ⟨rfl, ht5, hS5⟩
  (try dsimp only)
  clear hS1' hS1 hS2 hS3 hS4 hS5
  go_wp2_with fail
  go_returns
  have ht := ((ht2.trans ht3).trans ht4).trans ht5
  refine ⟨rfl, hb1.trans (ht.below hb1.size fun k hk => ?_)⟩
  unfold Own2
  omega

end Go.Proofs.YtboebjmfchbgbaaDoor
