/-
  The walk of the reference's Fill.
-/
import Derived.Test.YtkddighepgpccaaDoorLong
import Derived.Test.YtkddighepgpccaaDoorSameT
import Derived.Test.YtkddighepgpccaaDoorCat
import Derived.Test.YtkddighepgpccaaDoorRefStem
namespace Go.Proofs.YtkddighepgpccaaDoor
open Go.RowKit
set_option linter.unusedSimpArgs false
set_option linter.unusedVariables false

set_option maxHeartbeats 1000000 in
theorem RefFill_any (m : Nat) : ∀ (p s : ByteArray) (w : World), p.size ≤ m → p.size ≤ 1000 → s.size ≤ 1000 →
    Calls Tryd.prog 35 #[.string p, .string s] w fun e w' => e = .returned (.string (fillS p s)) ∧ ∃ q, w' = w.drewN q := by
  induction m with
  | zero =>
    intro p s w h hp hs
    have h0 : wI p < 0 := by unfold wI; rw [if_neg (by have := wn_le p; omega)]; decide
    have HF := Lib.hid (fillS_none (s := s) h0)
    go_enter Tryd.func35, Tryd.ntmps35
    go_wp2_with (go_at_call 55; refine (RefWild_any _ _ (by unfold maxLen; omega)).mono ?_; rintro e w' ⟨rfl, rfl⟩)
    go_ret
    exact ⟨ret_str HF.out.symm, 0, rfl⟩
  | succ m ih =>
    intro p s w h hp hs
    obtain ⟨k, hk⟩ : ∃ k, wn p = k := ⟨_, rfl⟩
    by_cases hlt : k < p.size
    · have HI : Hid (wI p = k) := wI_yes hlt hk
      have HF := Lib.hid (fillS_split (s := s) hlt hk)
      obtain ⟨X, hX⟩ : ∃ X, p.extract 0 k = X := ⟨_, rfl⟩
      obtain ⟨R, hR⟩ : ∃ R, p.extract (k + 1) p.size = R := ⟨_, rfl⟩
      have zX : X.size ≤ 1000 := by rw [← hX, ByteArray.size_extract]; omega
      have zR : R.size ≤ m := by rw [← hR, ByteArray.size_extract]; omega
      have zR2 : R.size ≤ 1000 := by rw [← hR, ByteArray.size_extract]; omega
      obtain ⟨Y, hY⟩ : ∃ Y, X ++ s = Y := ⟨_, rfl⟩
      have zY : Y.size ≤ 2000 := by rw [← hY, ba_size, ba_append, List.length_append, ← ba_size, ← ba_size]; omega
      have zF := fillS_size zR2 hs
      have w3 : IntKind.i64.wrap ((k : Int) + 1) = (k : Int) + 1 := IntWalk.i64_in _ (by omega)
      have l0 : (0 : Int) ≤ k := by omega
      have l2 : (k : Int) ≤ p.size := by omega
      have l3 : (k : Int) + 1 ≤ p.size := by omega
      have l4 : (0 : Int) ≤ (k : Int) + 1 := by omega
      have l5 : ((k : Int) + 1).toNat = k + 1 := by omega
      have IH := Lib.hid ih
      clear ih hk
      go_enter Tryd.func35, Tryd.ntmps35
      go_wp2_with (go_at_call 55; refine (RefWild_any _ _ (by unfold maxLen; omega)).mono ?_; rintro e w' ⟨rfl, rfl⟩; rw [HI.out])
      go_quiet ((go_at_call 35; exact Calls.quiet_of (IH.out R s _ zR zR2 hs)))
      go_wp2
      go_ret
      exact ⟨ret_str (by rw [HF.out, hX, hR, hY]), _, rfl⟩
    · have h0 : wI p < 0 := by unfold wI; rw [if_neg (by omega)]; decide
      have HF := Lib.hid (fillS_none (s := s) h0)
      clear ih hk
      go_enter Tryd.func35, Tryd.ntmps35
      go_wp2_with (go_at_call 55; refine (RefWild_any _ _ (by unfold maxLen; omega)).mono ?_; rintro e w' ⟨rfl, rfl⟩)
      go_ret
      exact ⟨ret_str HF.out.symm, 0, rfl⟩

end Go.Proofs.YtkddighepgpccaaDoor
