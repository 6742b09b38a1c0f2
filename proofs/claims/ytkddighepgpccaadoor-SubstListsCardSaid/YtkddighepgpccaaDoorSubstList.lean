/-
  The walks of subst.List and of the reference's List.
-/
import Derived.Test.YtkddighepgpccaaDoorRefFill
import Derived.Test.YtkddighepgpccaaDoorSubst
import Derived.Test.YtkddighepgpccaaDoorNum
namespace Go.Proofs.YtkddighepgpccaaDoor
open Go.RowKit
set_option linter.unusedSimpArgs false
set_option linter.unusedVariables false

theorem RefWord_any (x p t : ByteArray) (w : World) (hx : x.size ≤ 1000) (hp : p.size ≤ 1000) (ht : t.size ≤ 1000) :
    Calls Tryd.prog 13 #[.string x, .string p, .string t] w fun e w' => e = .returned (.string (wordS x p t)) ∧ ∃ q, w' = w.drewN q := by
  have hsm := stemM_size p x
  obtain ⟨b, hb⟩ : ∃ b, isM p x = b := ⟨_, rfl⟩
  have HW : Hid (wordS x p t = if b = true then fillS t (stemM p x) else x) := by show _ = _; unfold wordS; rw [hb]
  cases b
  · go_enter Tryd.func13, Tryd.ntmps13
    go_wp2_with (go_at_call 34; refine (RefMatch_any _ _ _ (by omega) (by omega)).mono ?_; rintro e w' ⟨rfl, q, rfl⟩; rw [hb])
    go_ret
    exact ⟨ret_str (by rw [HW.out]; rfl), _, rfl⟩
  · go_enter Tryd.func13, Tryd.ntmps13
    go_wp2_with (first | (go_at_call 34; refine (RefMatch_any _ _ _ (by omega) (by omega)).mono ?_; rintro e w' ⟨rfl, q, rfl⟩; rw [hb]) | (go_at_call 35; refine (RefFill_any _ _ _ _ (Nat.le_refl _) (by omega) (by omega)).mono ?_; rintro e w2 ⟨rfl, q2, rfl⟩))
    go_ret
    exact ⟨ret_str (by rw [HW.out]; rfl), q + q2, rfl⟩

/-! ### one of the texts is long -/
theorem Long1_any (x : ByteArray) (w : World) (hx : x.size ≤ 10000000) :
    Calls Tryd.prog 30 #[.string x] w fun e w' => e = .returned (.bool (decide (120 < x.size))) ∧ w = w' := by
  obtain ⟨b, hb⟩ : ∃ b, decide (120 < x.size) = b := ⟨_, rfl⟩
  rw [hb]
  cases b
  · have h := of_decide_eq_false hb
    go_enter Tryd.func30, Tryd.ntmps30
    go_wp2
    go_ret
    exact ⟨ret_bool (by simp; omega), rfl⟩
  · have h := of_decide_eq_true hb
    go_enter Tryd.func30, Tryd.ntmps30
    go_wp2
    go_ret
    exact ⟨ret_bool (by simp; omega), rfl⟩

def wordsS (xs : List ByteArray) (p t : ByteArray) : List ByteArray := xs.map fun x => wordS x p t
theorem words_take {xs : List ByteArray} {p t : ByteArray} {k : Nat} {x : ByteArray} (h : xs[k]? = some x) : wordsS (xs.take (k + 1)) p t = wordsS (xs.take k) p t ++ [wordS x p t] := map_take_snoc h

set_option maxHeartbeats 1000000 in
theorem Index_no (A : Option Addr) (n c : Nat) (ws : List ByteArray) (w : World) (hx : Txt w A n c ws) (hz : ∀ x ∈ ws, x.size ≤ 120) :
    Calls Tryd.prog 49 #[.slice A n c, .func (.func 30) #[] #[]] w fun e w' => e = .returned (.int .i64 (-1)) ∧ w = w' := by
  have hmx := hx.max
  have HX := Lib.hid hx
  have HZ := Lib.hid hz
  clear hx hz
  go_enter Tryd.func49, Tryd.ntmps49
  go_wp2
  go_loopw [8] (fun i w0 => ∃ k : Nat, k ≤ n ∧ i = .int .i64 k ∧ w0 = w) (fun i _ => n - (intOf i).toNat)
  case atStart => exact ⟨0, Nat.zero_le _, rfl, rfl⟩
  case round =>
    obtain ⟨k, hk, rfl, rfl⟩ := hrel
    by_cases hlt : k < n
    · obtain ⟨a, x, rfl, hxk, hc⟩ := HX.out.at_ hlt
      have hxs := HZ.out x (List.mem_of_getElem? hxk)
      have hno : decide (120 < x.size) = false := decide_eq_false (by omega)
      clear hxk
      go_wp2_with (go_at_call 30; refine (Long1_any _ _ (by omega)).mono ?_; rintro e w' ⟨rfl, rfl⟩; rw [hno])
      go_roundw
      case rel => exact ⟨k + 1, by omega, by go_num, trivial⟩
      case measure => first | (simp [intOf]; done) | (simp [intOf]; omega)
    · go_wp2
      go_ret
      exact ⟨rfl, rfl⟩
set_option maxHeartbeats 1000000 in
theorem Index_yes (A : Option Addr) (n c : Nat) (ws : List ByteArray) (w : World) (hx : Txt w A n c ws) (hz : ∀ x ∈ ws, x.size ≤ 10000000) (hl : ∃ x ∈ ws, 120 < x.size) :
    Calls Tryd.prog 49 #[.slice A n c, .func (.func 30) #[] #[]] w fun e w' => (∃ k : Nat, k < n ∧ e = .returned (.int .i64 k)) ∧ w = w' := by
  have hmx := hx.max
  have HX := Lib.hid hx
  have HZ := Lib.hid hz
  have HL := Lib.hid hl
  clear hx hz hl
  go_enter Tryd.func49, Tryd.ntmps49
  go_wp2
  go_loopw [8] (fun i w0 => ∃ k : Nat, k ≤ n ∧ i = .int .i64 k ∧ Hid (∀ x ∈ ws.take k, ¬ 120 < x.size) ∧ w0 = w) (fun i _ => n - (intOf i).toNat)
  case atStart => exact ⟨0, Nat.zero_le _, rfl, (by show _; intro x hx; simp at hx), rfl⟩
  case round =>
    obtain ⟨k, hk, rfl, HK, rfl⟩ := hrel
    by_cases hlt : k < n
    · obtain ⟨a, x, rfl, hxk, hc⟩ := HX.out.at_ hlt
      have hxs := HZ.out x (List.mem_of_getElem? hxk)
      obtain ⟨b, hb⟩ : ∃ b, decide (120 < x.size) = b := ⟨_, rfl⟩
      cases b
      · have hkl : k < ws.length := by rw [HX.out.len]; exact hlt
        have HK' : Hid (∀ x ∈ ws.take (k + 1), ¬ 120 < x.size) := by
          intro y hy
          rw [List.take_add_one, hxk] at hy
          rcases List.mem_append.1 hy with hy | hy
          · exact HK.out y hy
          · simp at hy
            subst hy
            exact of_decide_eq_false hb
        clear hxk HK
        go_wp2_with (go_at_call 30; refine (Long1_any _ _ (by omega)).mono ?_; rintro e w' ⟨rfl, rfl⟩; rw [hb])
        go_roundw
        case rel => exact ⟨k + 1, by omega, by go_num, HK', trivial⟩
        case measure => first | (simp [intOf]; done) | (simp [intOf]; omega)
      · clear hxk HK
        go_wp2_with (go_at_call 30; refine (Long1_any _ _ (by omega)).mono ?_; rintro e w' ⟨rfl, rfl⟩; rw [hb])
        go_ret
        exact ⟨⟨k, hlt, rfl⟩, rfl⟩
    · exfalso
      obtain ⟨x, hx, hxl⟩ := HL.out
      have : ws.take k = ws := List.take_of_length_le (by rw [HX.out.len]; omega)
      exact HK.out x (by rw [this]; exact hx) hxl
theorem Contains_no (A : Option Addr) (n c : Nat) (ws : List ByteArray) (w : World) (hx : Txt w A n c ws) (hz : ∀ x ∈ ws, x.size ≤ 120) :
    Calls Tryd.prog 31 #[.slice A n c, .func (.func 30) #[] #[]] w fun e w' => e = .returned (.bool false) ∧ w = w' := by
  go_enter Tryd.func31, Tryd.ntmps31
  go_wp2_with (go_at_call 49; refine (Index_no _ _ _ _ _ hx hz).mono ?_; rintro e w' ⟨rfl, rfl⟩)
  go_ret
  exact ⟨rfl, rfl⟩
theorem Contains_yes (A : Option Addr) (n c : Nat) (ws : List ByteArray) (w : World) (hx : Txt w A n c ws) (hz : ∀ x ∈ ws, x.size ≤ 10000000) (hl : ∃ x ∈ ws, 120 < x.size) :
    Calls Tryd.prog 31 #[.slice A n c, .func (.func 30) #[] #[]] w fun e w' => e = .returned (.bool true) ∧ w = w' := by
  go_enter Tryd.func31, Tryd.ntmps31
  go_wp2_with (go_at_call 49; refine (Index_yes _ _ _ _ _ hx hz hl).mono ?_; rintro e w' ⟨⟨k, hk, rfl⟩, rfl⟩; have hk0 : (0 : Int) ≤ (k : Int) := (by omega))
  go_ret
  exact ⟨rfl, rfl⟩

end Go.Proofs.YtkddighepgpccaaDoor
