/-
  Walks of package subst (layer 16): Word and Same, the reference's Wilds, and the chapter's example.
-/
import Derived.Test.YtkddighepgpccaaDoorCat
import Derived.Deep.QuietTactic
import Derived.BigQuiet
namespace Go.Proofs.YtkddighepgpccaaDoor
open Go.RowKit
set_option linter.unusedSimpArgs false
set_option linter.unusedVariables false

def wordS (x p t : ByteArray) : ByteArray := if isM p x = true then fillS t (stemM p x) else x
theorem matchM_size {p s x : ByteArray} (h : matchM p s = some x) : x.size ≤ s.size := by
  unfold matchM at h
  split at h
  · split at h
    · injection h with h
      rw [← h]
      unfold mid
      exact Nat.le_trans (trimS_size _ _) (trimP_size _ _)
    · cases h
  · split at h
    · injection h with h; rw [← h]; exact Nat.zero_le _
    · cases h
theorem stemM_size (p s : ByteArray) : (stemM p s).size ≤ s.size := by
  unfold stemM
  cases hm : matchM p s with
  | none => exact Nat.zero_le _
  | some x => exact matchM_size hm
theorem wordS_size {x p t : ByteArray} (hx : x.size ≤ 1000) (ht : t.size ≤ 1000) : (wordS x p t).size ≤ 1001000 := by
  unfold wordS
  split
  · exact fillS_size ht (Nat.le_trans (stemM_size _ _) hx)
  · omega

set_option maxHeartbeats 1000000 in
theorem Word_any (x p t : ByteArray) (w : World) (hx : x.size ≤ 1000) (hp : p.size ≤ 1000) (ht : t.size ≤ 1000) :
    Calls Tryd.prog 12 #[.string x, .string p, .string t] w fun e w' => e = .returned (.string (wordS x p t)) ∧ Below w.heap.size w w' := by
  have hsm := stemM_size p x
  obtain ⟨b, hb⟩ : ∃ b, isM p x = b := ⟨_, rfl⟩
  have HW : Hid (wordS x p t = if b = true then fillS t (stemM p x) else x) := by show _ = _; unfold wordS; rw [hb]
  cases b
  · go_enter Tryd.func12, Tryd.ntmps12
    go_wp2_with (go_at_call 32; refine (Match_any _ _ _ (by unfold maxLen; omega) (by unfold maxLen; omega)).mono ?_; rintro e w' ⟨rfl, rfl⟩; rw [hb])
    go_ret
    exact ⟨ret_str (by rw [HW.out]; rfl), Below.refl _ _⟩
  · go_enter Tryd.func12, Tryd.ntmps12
    go_wp2_with (first | (go_at_call 32; refine (Match_any _ _ _ (by unfold maxLen; omega) (by unfold maxLen; omega)).mono ?_; rintro e w' ⟨rfl, rfl⟩; rw [hb]) | (go_at_call 33; refine (Fill_any _ _ _ (by omega) (by omega)).mono ?_; rintro e w2 ⟨rfl, hb2⟩))
    go_ret
    exact ⟨ret_str (by rw [HW.out]; rfl), hb2⟩

theorem alive16_1 : wordS ⟨#[120, 46, 99]⟩ ⟨#[37, 46, 99]⟩ ⟨#[37, 46, 111]⟩ = ⟨#[120, 46, 111]⟩ := by
  refine ba_ext ?_; decide +kernel
theorem alive16_2 : wordS ⟨#[121, 46, 104]⟩ ⟨#[37, 46, 99]⟩ ⟨#[37, 46, 111]⟩ = ⟨#[121, 46, 104]⟩ := by
  refine ba_ext ?_; decide +kernel
set_option maxHeartbeats 1000000 in
theorem alive16_any (w : World) :
    Calls Tryd.prog 7 #[] w fun e w' => e = .returned (.bool true) ∧ Below w.heap.size w w' := by
  have h1 := alive16_1
  have h2 := alive16_2
  go_enter Tryd.func7, Tryd.ntmps7
  go_wp2_with (first | (go_at_call 12; refine (Word_any _ _ _ w (by decide) (by decide) (by decide)).mono ?_; rintro e w1 ⟨rfl, hb⟩; rw [h1]) | (go_at_call 12; refine (Word_any _ _ _ _ (by decide) (by decide) (by decide)).mono ?_; rintro e w2 ⟨rfl, hb2⟩; rw [h2]))
  go_ret
  exact ⟨rfl, below_next hb hb2⟩

end Go.Proofs.YtkddighepgpccaaDoor
