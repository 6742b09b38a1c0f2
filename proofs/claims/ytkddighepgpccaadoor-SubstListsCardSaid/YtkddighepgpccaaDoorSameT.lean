/-
  What the helpers SameTexts (of two rows that are the same), Texts and KeptTexts answer.
-/
import Derived.Test.YtkddighepgpccaaDoorTxt
namespace Go.Proofs.YtkddighepgpccaaDoor
open Go.RowKit
set_option linter.unusedSimpArgs false
set_option linter.unusedVariables false

/-! ### SameTexts, of two rows that are the same -/
set_option maxHeartbeats 1000000 in
theorem SameTexts_yes (A B : Option Addr) (n c d : Nat) (xs : List ByteArray) (w : World) (hx : Txt w A n c xs) (hy : Txt w B n d xs) :
    Calls Tryd.prog 15 #[.slice A n c, .slice B n d] w fun e w' => e = .returned (.bool true) ∧ ∃ q, w' = w.drewN q := by
  have hmx := hx.max
  have HX := Lib.hid hx
  have HY := Lib.hid hy
  clear hx hy
  go_enter Tryd.func15, Tryd.ntmps15
  go_wp2
  go_loopw [13] (fun i wr => ∃ k : Nat, k ≤ n ∧ i = .int .i64 k ∧ ∃ q, wr = w.drewN q) (fun i _ => n - (intOf i).toNat)
  case atStart => exact ⟨0, Nat.zero_le _, rfl, 0, rfl⟩
  case round =>
    obtain ⟨k, hk, rfl, q, rfl⟩ := hrel
    by_cases hlt : k < n
    · obtain ⟨a, x, rfl, hxk, hc⟩ := HX.out.at_ hlt
      obtain ⟨b, y, rfl, hyk, hd⟩ := HY.out.at_ hlt
      rw [hxk] at hyk
      injection hyk with hyk
      subst hyk
      clear hxk
      have k0 : (0 : Int) ≤ k := by omega
      have k1 : (k : Int) < n := by omega
      go_wp2
      go_quiet (fail)
      go_wp2
      go_roundw
      case rel => exact ⟨k + 1, by omega, by go_num, _, rfl⟩
      case measure => first | (simp [intOf]; done) | (simp [intOf]; omega)
    · go_wp2
      go_ret
      exact ⟨rfl, _, rfl⟩

/-! ### Texts and KeptTexts: a copy with marked room behind it -/
theorem cells_three_new (w : World) (x y z : Value) (t : TypeId) : ∀ (j : Nat) (u : Value), [x, y, z][j]? = some u → (w.alloc (.cells #[x, y, z] t)).cell? ((⟨w.heap.size, 0, none⟩ : Addr).add j) = some u := by
  intro j u hj
  match j, hj with
  | 0, hj => simp at hj; subst hj; simp [Addr.add]
  | 1, hj => simp at hj; subst hj; simp [Addr.add]
  | 2, hj => simp at hj; subst hj; simp [Addr.add]
  | j + 3, hj => simp at hj
def marks : List ByteArray := [⟨#[1]⟩, ⟨#[2]⟩, ⟨#[3]⟩]
theorem marks_cells : txts marks = [.string ⟨#[1]⟩, .string ⟨#[2]⟩, .string ⟨#[3]⟩] := rfl

set_option maxHeartbeats 1000000 in
theorem Texts_any (A : Option Addr) (n c : Nat) (xs : List ByteArray) (w : World) (hx : Txt w A n c xs) (hn : n ≤ 1000000) :
    Calls Tryd.prog 9 #[.slice A n c] w fun e w' => ∃ g, e = .returned (.slice (some ⟨g, 0, none⟩) n (n + 3)) ∧ Txt w' (some ⟨g, 0, none⟩) (n + 3) (n + 3) (xs ++ marks) ∧ Below w.heap.size w w' := by
  obtain ⟨i0, hi, hz0, hz1, hz2⟩ := info_parts Tryd.info_str
  have HX := Lib.hid hx
  clear hx
  go_enter Tryd.func9, Tryd.ntmps9
  go_wp2_with (first
    | (at_make; refine wpList_make_own _ rfl _ _ 22 rfl w.heap.size 9 i0 (.string ByteArray.empty) 1 Tryd.underlying22 hi hz0 hz1 .i64 .i64 _ (n + 3) rfl rfl (by omega) (by rw [hz2]; omega) (by unfold maxLen; omega) (Nat.le_refl _) ?_; intro w1 hown1 hgrow1; have hb1 := (Below.refl w.heap.size w).grown hgrow1 (Nat.le_refl _) (by intro k hk; cases hk); have hs1 := hb1.size)
    | (at_builtin; refine wpList_append_fits_any _ rfl (.tmp 7) (.tmp 8) 22 rfl w.heap.size 9 i0 1 Tryd.underlying22 hi hz1 w.heap.size 0 (n + 3) [] rfl hown1 A n c (txts xs) rfl (by rw [txts_length, HX.out.len]; omega) HX.out.nil (fun a ha j u hj => (by obtain ⟨x, hx, rfl⟩ := txts_get hj; exact (HX.out.below hb1).cell a ha j x hx)) txts_one (by omega) ?_; intro w2 hown2 hgrow2; simp only [Nat.zero_add, List.nil_append] at hown2; have hb2 := hb1.grown hgrow2 hs1 (own_base hown1); have hs2 := hb2.size)
    | (at_builtin; refine wpList_append_fits _ rfl (.tmp 9) (.tmp 10) 22 rfl w.heap.size 9 i0 1 Tryd.underlying22 hi hz1 w.heap.size n (n + 3) (txts xs) rfl (hown2.alloc _) ⟨w2.heap.size, 0, none⟩ 3 3 (txts marks) rfl rfl (cells_three_new _ _ _ _ _) txts_one (by omega) ?_; intro w3 hown3 hgrow3; have hb3 := (hb2.alloc hs2 _).grown hgrow3 (by simp; omega) (own_base hown2); have hs3 := hb3.size))
  go_ret
  rw [txts_append] at hown3
  obtain ⟨A', c', he, ht⟩ := Txt.of_own hown3
  cases he
  exact ⟨_, rfl, ht, hb3⟩

theorem Txt.front {w : World} {g n m c : Nat} {xs ys : List ByteArray} (h : Txt w (some ⟨g, 0, none⟩) m c (xs ++ ys)) (hn : xs.length = n) (hm : n ≤ 9223372036854775807) : Txt w (some ⟨g, 0, none⟩) n c xs :=
  ⟨hn, hm, (fun ha => by cases ha), fun a ha j x hj => h.cell a ha j x (by rw [List.getElem?_append_left (List.getElem?_eq_some_iff.1 hj).1]; exact hj)⟩
theorem Txt.mark {w : World} {g m c : Nat} {xs : List ByteArray} (h : Txt w (some ⟨g, 0, none⟩) m c (xs ++ marks)) (j : Nat) (x : ByteArray) (hj : marks[j]? = some x) : w.cell? ⟨g, xs.length + j, none⟩ = some (.string x) := by
  have := h.cell _ rfl (xs.length + j) x (by rw [List.getElem?_append_right (by omega), Nat.add_sub_cancel_left]; exact hj)
  rw [add_plain] at this
  exact this

set_option maxHeartbeats 1000000 in
theorem KeptTexts_yes (g n c : Nat) (A : Option Addr) (xs : List ByteArray) (w : World) (hx : Txt w (some ⟨g, 0, none⟩) (n + 3) (n + 3) (xs ++ marks)) (hy : Txt w A n c xs) :
    Calls Tryd.prog 16 #[.slice (some ⟨g, 0, none⟩) n (n + 3), .slice A n c] w fun e w' => e = .returned (.bool true) ∧ ∃ q, w' = w.drewN q := by
  have hm := hx.max
  have c0 := hx.mark 0 _ rfl
  have c1 := hx.mark 1 _ rfl
  have c2 := hx.mark 2 _ rfl
  rw [hy.len] at c0 c1 c2
  rw [Nat.add_zero] at c0
  have HF := Lib.hid (hx.front hy.len (by omega))
  have HY := Lib.hid hy
  clear hx hy
  go_enter Tryd.func16, Tryd.ntmps16
  go_wp2_with (go_at_call 15; refine (SameTexts_yes _ _ _ _ _ _ _ HF.out HY.out).mono ?_; rintro e w' ⟨rfl, q, rfl⟩)
  go_ret
  exact ⟨rfl, _, rfl⟩


end Go.Proofs.YtkddighepgpccaaDoor
