/-
  What the helper Long answers.
-/
import Derived.Test.YtkddighepgpccaaDoorTxt
namespace Go.Proofs.YtkddighepgpccaaDoor
open Go.RowKit
set_option linter.unusedSimpArgs false
set_option linter.unusedVariables false

/-! ### Long -/
def longB (xs : List ByteArray) (many most : Nat) : Bool := decide (many < xs.length) || xs.any fun x => decide (most < x.size)
set_option maxHeartbeats 1000000 in
theorem Long_any (A : Option Addr) (n c : Nat) (xs : List ByteArray) (many most : Nat) (w : World) (hx : Txt w A n c xs) (hmany : many ≤ 1000000) (hmost : most ≤ 1000000) (hsz : ∀ x ∈ xs, x.size ≤ maxLen) :
    Calls Tryd.prog 8 #[.slice A n c, .int .i64 many, .int .i64 most] w fun e w' => e = .returned (.bool (longB xs many most)) ∧ w = w' := by
  have hmx := hx.max
  have hln := hx.len
  by_cases hm : many < n
  · have HL : Hid (longB xs many most = true) := by show _ = _; unfold longB; rw [hln, decide_eq_true hm]; rfl
    clear hx hsz hln
    go_enter Tryd.func8, Tryd.ntmps8
    go_wp2
    go_ret
    exact ⟨ret_bool HL.out.symm, rfl⟩
  · have HL : Hid (longB xs many most = xs.any fun x => decide (most < x.size)) := by show _ = _; unfold longB; rw [hln, decide_eq_false hm]; rfl
    have HX := Lib.hid hx
    have HZ := Lib.hid hsz
    have HLN := Lib.hid hln
    clear hx hsz hln
    go_enter Tryd.func8, Tryd.ntmps8
    go_wp2
    go_loop [15] (fun i => ∃ k : Nat, k ≤ n ∧ i = .int .i64 k ∧ Hid ((xs.take k).any (fun x => decide (most < x.size)) = false)) (fun i => n - (intOf i).toNat)
    case atStart => exact ⟨0, Nat.zero_le _, rfl, rfl⟩
    case round =>
      obtain ⟨k, hk, rfl, HA⟩ := hrel
      by_cases hlt : k < n
      · obtain ⟨a, x, rfl, hxk, hc⟩ := HX.out.at_ hlt
        have hxs := HZ.out x (List.mem_of_getElem? hxk)
        unfold maxLen at hxs
        have HS := Lib.hid (any_take_step (p := fun x : ByteArray => decide (most < x.size)) hxk)
        have HK := Lib.hid hxk
        clear hxk
        by_cases hb : most < x.size
        · have HT : Hid ((xs.any fun x => decide (most < x.size)) = true) := by
            show _ = _
            exact List.any_eq_true.2 ⟨x, List.mem_of_getElem? HK.out, decide_eq_true hb⟩
          clear HA HS
          go_wp2
          go_ret
          exact ⟨ret_bool (by rw [HL.out, HT.out]), rfl⟩
        · have HA' : Hid ((xs.take (k + 1)).any (fun x => decide (most < x.size)) = false) := by
            show _ = _
            rw [HS.out, HA.out, decide_eq_false hb]; rfl
          clear HA HS
          go_wp2
          go_round
          case rel => exact ⟨k + 1, by omega, by go_num, HA'⟩
          case measure => first | (simp [intOf]; done) | (simp [intOf]; omega)
      · have HT : Hid ((xs.any fun x => decide (most < x.size)) = false) := by
          show _ = _
          have := HA.out
          rw [show k = xs.length by rw [HLN.out]; omega, List.take_length] at this
          exact this
        clear HA
        go_wp2
        go_ret
        exact ⟨ret_bool (by rw [HL.out, HT.out]), rfl⟩

theorem longB_no {xs : List ByteArray} {many most : Nat} (h : longB xs many most = false) : xs.length ≤ many ∧ ∀ x ∈ xs, x.size ≤ most := by
  unfold longB at h
  rw [Bool.or_eq_false_iff] at h
  refine ⟨by have := of_decide_eq_false h.1; omega, fun x hx => ?_⟩
  have := (List.any_eq_false.1 h.2) x hx
  have := of_decide_eq_false (Bool.eq_false_iff.2 this)
  omega

end Go.Proofs.YtkddighepgpccaaDoor
