/-
  The walk of the parser's spans.
-/
import Derived.Test.YtkddighepgpccaaDoorRexP2
import Derived.IntWalk
namespace Go.Proofs.YtkddighepgpccaaDoor
open Go Go.RowKit
set_option linter.unusedSimpArgs false
set_option linter.unusedVariables false

theorem spans_is (w : World) (P : Nat) (s : ByteArray) (a g : Nat) (bad : Bool) (hs : s.size ≤ 100) (ha : a ≤ s.size) (h : PSt w P s a g bad) {b : Bool} (hb : (!bad && spansL (rem s a)) = b) :
    Calls Tryd.prog 84 #[.pointer (some ⟨P, 0, none⟩)] w fun e w' => e = .returned (.bool b) ∧ ∃ n, w' = w.drewN n := by
  obtain ⟨c0, c1, c2, c3⟩ := h.cells
  obtain ⟨v, hv⟩ : ∃ v, seesB s a bad [45] = v := ⟨_, rfl⟩
  have HS := Lib.hid (fun n => sees_is (w.drewN n) P s a g bad hs ha (h.drewN n) ⟨#[45]⟩ hv)
  cases v with
  | false =>
    have hf : b = false := by
      rw [← hb]
      cases bad with
      | true => rfl
      | false =>
        unfold seesB at hv
        cases hr : rem s a with
        | nil => rfl
        | cons c r =>
          rw [hr] at hv
          cases r with
          | nil => rfl
          | cons d r =>
            simp [seesL] at hv
            simp [spansL, hv]
    subst hf
    clear hb hv
    go_enter Tryd.func84, Tryd.ntmps84
    go_wp2
    go_quiet ((go_at_call 70; exact Calls.quiet_of (HS.out _)))
    go_wp2
    go_ret
    exact ⟨rfl, _, rfl⟩
  | true =>
    obtain ⟨rfl, hlt, c, r, hr, hc, hr2⟩ := seesB_true hv
    have hc : c = 45 := by simpa using hc
    subst hc
    rw [hr] at hb
    by_cases hlt2 : a + 1 < s.size
    · rw [rem_cons hlt2] at hr2
      rw [hr2] at hb
      have hbb : (((s[a + 1].toNat : Int)) != 93) = b := by
        rw [← hb]
        have := byte_int s[a + 1] 93
        simp only [bne]
        rw [show (93 : Int) = (((93 : UInt8).toNat : Nat) : Int) from rfl, this]
        simp [spansL, bne]
      obtain ⟨k, hk⟩ : ∃ k, a + 1 = k := ⟨_, rfl⟩
      have hw : IntKind.i64.wrap ((a : Int) + 1) = (k : Int) := by rw [← hk]; exact IntWalk.i64_in _ (by omega)
      have hkk : s[a + 1] = s[k]'(by omega) := by simp only [hk]
      rw [hkk] at hbb
      have hd : decide (k < s.size) = true := decide_eq_true (by omega)
      have hlt3 : k < s.size := by omega
      have hbb2 : (((s[k]'hlt3).toNat : Int) != 93) = b := hbb
      clear hbb hkk
      clear hk
      clear hb hv hr hr2
      go_enter Tryd.func84, Tryd.ntmps84
      go_wp2
      go_quiet ((go_at_call 70; exact Calls.quiet_of (HS.out _)))
      go_wp2
      go_ret
      exact ⟨rfl, _, rfl⟩
    · rw [rem_nil (by omega)] at hr2
      rw [hr2] at hb
      have hf : b = false := by rw [← hb]; rfl
      subst hf
      have hw : IntKind.i64.wrap ((a : Int) + 1) = (a : Int) + 1 := IntWalk.i64_in _ (by omega)
      have hd : decide ((a : Int) + 1 < (s.size : Int)) = false := decide_eq_false (by omega)
      clear hb hv hr hr2
      go_enter Tryd.func84, Tryd.ntmps84
      go_wp2
      go_quiet ((go_at_call 70; exact Calls.quiet_of (HS.out _)))
      go_wp2
      go_ret
      exact ⟨rfl, _, rfl⟩

end Go.Proofs.YtkddighepgpccaaDoor
