/-
  Rows of texts: how a slice of strings reads, and what the helpers Long, SameTexts, Texts and KeptTexts answer.
-/
import Derived.Test.YtboebjmfchbgbaaKit
import Derived.Deep.QuietTactic
import Derived.BigQuiet
namespace Go.Proofs.Ytboebjmfchbgbaa
open Go.RowKit
set_option linter.unusedSimpArgs false
set_option linter.unusedVariables false

/-- A slice with address A, length n and capacity c reads as the texts xs. -/
structure Txt (w : World) (A : Option Addr) (n c : Nat) (xs : List ByteArray) : Prop where
  len : xs.length = n
  max : n ≤ 9223372036854775807
  nil : A = none → n = 0 ∧ c = 0
  cell : ∀ a, A = some a → ∀ j x, xs[j]? = some x → w.cell? (a.add j) = some (.string x)
theorem Txt.below {w w1 : World} {A : Option Addr} {n c : Nat} {xs : List ByteArray} (h : Txt w A n c xs) (hb : Below w.heap.size w w1) : Txt w1 A n c xs :=
  ⟨h.len, h.max, h.nil, fun a ha j x hj => cell_later hb (h.cell a ha j x hj)⟩
theorem cell_drewN {w : World} {n : Nat} {a : Addr} : (w.drewN n).cell? a = w.cell? a := rfl
theorem Txt.drewN {w : World} {A : Option Addr} {n c : Nat} {xs : List ByteArray} (h : Txt w A n c xs) (k : Nat) : Txt (w.drewN k) A n c xs :=
  ⟨h.len, h.max, h.nil, fun a ha j x hj => h.cell a ha j x hj⟩
/-- The text at a place. -/
theorem Txt.at_ {w : World} {A : Option Addr} {n c : Nat} {xs : List ByteArray} (h : Txt w A n c xs) {k : Nat} (hk : k < n) :
    ∃ a x, A = some a ∧ xs[k]? = some x ∧ w.cell? (a.add k) = some (.string x) := by
  cases A with
  | none => have := (h.nil rfl).1; omega
  | some a =>
    have hl : k < xs.length := by rw [h.len]; exact hk
    exact ⟨a, xs[k], rfl, List.getElem?_eq_getElem hl, h.cell a rfl k _ (List.getElem?_eq_getElem hl)⟩
def txts (xs : List ByteArray) : List Value := xs.map Value.string
theorem txts_append (xs ys : List ByteArray) : txts xs ++ txts ys = txts (xs ++ ys) := by simp [txts]
theorem txts_length (xs : List ByteArray) : (txts xs).length = xs.length := by simp [txts]
theorem txts_get {xs : List ByteArray} {j : Nat} {u : Value} (h : (txts xs)[j]? = some u) : ∃ x, xs[j]? = some x ∧ u = .string x := by
  rw [txts, List.getElem?_map] at h
  cases hx : xs[j]? with
  | none => rw [hx] at h; simp at h
  | some x => rw [hx] at h; simp at h; exact ⟨x, rfl, h.symm⟩
theorem txts_one {xs : List ByteArray} : ∀ u ∈ txts xs, u.oneCell' = true := by
  intro u hu
  simp only [txts, List.mem_map] at hu
  obtain ⟨x, _, rfl⟩ := hu
  rfl
/-- A row of the call's own reads as its texts. -/
theorem Txt.of_own {w : World} {base n : Nat} {v : Value} {xs : List ByteArray} (h : w.ownsRow base 9 1 v n (txts xs)) : ∃ A c, v = .slice A n c ∧ Txt w A n c xs := by
  have hl : xs.length = n := by have := h.1; simpa [txts_length] using this
  rcases h.2 with ⟨rfl, h0⟩ | ⟨g, cap, cur, rfl, h3, h4, h5, h6, h7⟩
  · exact ⟨none, 0, by rw [h0], hl, by omega, (fun _ => ⟨h0, rfl⟩), (fun a ha => by cases ha)⟩
  · refine ⟨some ⟨g, 0, none⟩, cap, rfl, hl, (by simp only [maxLen] at h6; omega), (fun ha => by cases ha), fun a ha j x hj => ?_⟩
    injection ha with ha
    subst ha
    exact h.cells (g := g) rfl j (.string x) (by rw [txts, List.getElem?_map, hj]; rfl)

/-! ### Long -/
def longB (xs : List ByteArray) (many most : Nat) : Bool := decide (many < xs.length) || xs.any fun x => decide (most < x.size)
theorem any_take_step {α : Type} {p : α → Bool} {xs : List α} {k : Nat} {x : α} (h : xs[k]? = some x) : (xs.take (k + 1)).any p = ((xs.take k).any p || p x) := by
  have hk : k < xs.length := by
    rcases Nat.lt_or_ge k xs.length with h' | h'
    · exact h'
    · rw [List.getElem?_eq_none h'] at h; cases h
  rw [List.take_succ_eq_append_getElem hk, List.any_append]
  rw [List.getElem?_eq_getElem hk] at h
  injection h with h
  simp [h]

set_option maxHeartbeats 1000000 in
theorem Long_any (A : Option Addr) (n c : Nat) (xs : List ByteArray) (many most : Nat) (w : World) (hx : Txt w A n c xs) (hmany : many ≤ 1000000) (hmost : most ≤ 1000000) (hsz : ∀ x ∈ xs, x.size ≤ maxLen) :
    Calls Try.prog 27 #[.slice A n c, .int .i64 many, .int .i64 most] w fun e w' => e = .returned (.bool (longB xs many most)) ∧ w = w' := by
  have hmx := hx.max
  have hln := hx.len
  by_cases hm : many < n
  · have HL : Hid (longB xs many most = true) := by show _ = _; unfold longB; rw [hln, decide_eq_true hm]; rfl
    clear hx hsz hln
    go_enter Try.func27, Try.ntmps27
    go_wp2
    go_ret
    exact ⟨ret_bool HL.out.symm, rfl⟩
  · have HL : Hid (longB xs many most = xs.any fun x => decide (most < x.size)) := by show _ = _; unfold longB; rw [hln, decide_eq_false hm]; rfl
    have HX := Lib.hid hx
    have HZ := Lib.hid hsz
    have HLN := Lib.hid hln
    clear hx hsz hln
    go_enter Try.func27, Try.ntmps27
    go_wp2
    go_loop [15] (fun i => ∃ k : Nat, k ≤ n ∧ i = .int .i64 k ∧ Hid ((xs.take k).any (fun x => decide (most < x.size)) = false)) (fun i => n - (intOf i).toNat)
    case atStart => exact ⟨0, Nat.zero_le _, rfl, rfl⟩
    case round =>
      obtain ⟨k, hk, rfl, HA⟩ := hrel
      by_cases hlt : k < n
      · obtain ⟨a, x, rfl, hxk, hc⟩ := HX.out.at_ hlt
        have hxs := HZ.out x (List.mem_of_getElem? hxk)
        unfold maxLen at hxs
        have HS := Lib.hid (any_take_step (p := fun x : ByteArray => decide (most < x.size)) hxk)
        have HK := Lib.hid hxk
        clear hxk
        by_cases hb : most < x.size
        · have HT : Hid ((xs.any fun x => decide (most < x.size)) = true) := by
            show _ = _
            exact List.any_eq_true.2 ⟨x, List.mem_of_getElem? HK.out, decide_eq_true hb⟩
          clear HA HS
          go_wp2
          go_ret
          exact ⟨ret_bool (by rw [HL.out, HT.out]), rfl⟩
        · have HA' : Hid ((xs.take (k + 1)).any (fun x => decide (most < x.size)) = false) := by
            show _ = _
            rw [HS.out, HA.out, decide_eq_false hb]; rfl
          clear HA HS
          go_wp2
          go_round
          case rel => exact ⟨k + 1, by omega, by go_num, HA'⟩
          case measure => first | (simp [intOf]; done) | (simp [intOf]; omega)
      · have HT : Hid ((xs.any fun x => decide (most < x.size)) = false) := by
          show _ = _
          have := HA.out
          rw [show k = xs.length by rw [HLN.out]; omega, List.take_length] at this
          exact this
        clear HA
        go_wp2
        go_ret
        exact ⟨ret_bool (by rw [HL.out, HT.out]), rfl⟩

/-! ### SameTexts, of two rows that are the same -/
set_option maxHeartbeats 1000000 in
theorem SameTexts_yes (A B : Option Addr) (n c d : Nat) (xs : List ByteArray) (w : World) (hx : Txt w A n c xs) (hy : Txt w B n d xs) :
    Calls Try.prog 30 #[.slice A n c, .slice B n d] w fun e w' => e = .returned (.bool true) ∧ ∃ q, w' = w.drewN q := by
  have hmx := hx.max
  have HX := Lib.hid hx
  have HY := Lib.hid hy
  clear hx hy
  go_enter Try.func30, Try.ntmps30
  go_wp2
  go_loopw [13] (fun i wr => ∃ k : Nat, k ≤ n ∧ i = .int .i64 k ∧ ∃ q, wr = w.drewN q) (fun i _ => n - (intOf i).toNat)
  case atStart => exact ⟨0, Nat.zero_le _, rfl, 0, rfl⟩
  case round =>
    obtain ⟨k, hk, rfl, q, rfl⟩ := hrel
    by_cases hlt : k < n
    · obtain ⟨a, x, rfl, hxk, hc⟩ := HX.out.at_ hlt
      obtain ⟨b, y, rfl, hyk, hd⟩ := HY.out.at_ hlt
      rw [hxk] at hyk
      injection hyk with hyk
      subst hyk
      clear hxk
      have k0 : (0 : Int) ≤ k := by omega
      have k1 : (k : Int) < n := by omega
      go_wp2
      go_quiet (fail)
      go_wp2
      go_roundw
      case rel => exact ⟨k + 1, by omega, by go_num, _, rfl⟩
      case measure => first | (simp [intOf]; done) | (simp [intOf]; omega)
    · go_wp2
      go_ret
      exact ⟨rfl, _, rfl⟩

/-! ### Texts and KeptTexts: a copy with marked room behind it -/
theorem Try.info_str : (Try.prog.info? 9).map (fun i => (i.zero, i.size, i.bytes)) = some (some (.string ByteArray.empty), 1, 16) := by kernel_rfl
theorem cells_three_new (w : World) (x y z : Value) (t : TypeId) : ∀ (j : Nat) (u : Value), [x, y, z][j]? = some u → (w.alloc (.cells #[x, y, z] t)).cell? ((⟨w.heap.size, 0, none⟩ : Addr).add j) = some u := by
  intro j u hj
  match j, hj with
  | 0, hj => simp at hj; subst hj; simp [Addr.add]
  | 1, hj => simp at hj; subst hj; simp [Addr.add]
  | 2, hj => simp at hj; subst hj; simp [Addr.add]
  | j + 3, hj => simp at hj
def marks : List ByteArray := [⟨#[1]⟩, ⟨#[2]⟩, ⟨#[3]⟩]
theorem marks_cells : txts marks = [.string ⟨#[1]⟩, .string ⟨#[2]⟩, .string ⟨#[3]⟩] := rfl

set_option maxHeartbeats 1000000 in
theorem Texts_any (A : Option Addr) (n c : Nat) (xs : List ByteArray) (w : World) (hx : Txt w A n c xs) (hn : n ≤ 1000000) :
    Calls Try.prog 28 #[.slice A n c] w fun e w' => ∃ g, e = .returned (.slice (some ⟨g, 0, none⟩) n (n + 3)) ∧ Txt w' (some ⟨g, 0, none⟩) (n + 3) (n + 3) (xs ++ marks) ∧ Below w.heap.size w w' := by
  obtain ⟨i0, hi, hz0, hz1, hz2⟩ := info_parts Try.info_str
  have HX := Lib.hid hx
  clear hx
  go_enter Try.func28, Try.ntmps28
  go_wp2_with (first
    | (at_make; refine wpList_make_own _ rfl _ _ 44 rfl w.heap.size 9 i0 (.string ByteArray.empty) 1 Try.underlying44 hi hz0 hz1 .i64 .i64 _ (n + 3) rfl rfl (by omega) (by rw [hz2]; omega) (by unfold maxLen; omega) (Nat.le_refl _) ?_; intro w1 hown1 hgrow1; have hb1 := (Below.refl w.heap.size w).grown hgrow1 (Nat.le_refl _) (by intro k hk; cases hk); have hs1 := hb1.size)
    | (at_builtin; refine wpList_append_fits_any _ rfl (.tmp 7) (.tmp 8) 44 rfl w.heap.size 9 i0 1 Try.underlying44 hi hz1 w.heap.size 0 (n + 3) [] rfl hown1 A n c (txts xs) rfl (by rw [txts_length, HX.out.len]; omega) HX.out.nil (fun a ha j u hj => (by obtain ⟨x, hx, rfl⟩ := txts_get hj; exact (HX.out.below hb1).cell a ha j x hx)) txts_one (by omega) ?_; intro w2 hown2 hgrow2; simp only [Nat.zero_add, List.nil_append] at hown2; have hb2 := hb1.grown hgrow2 hs1 (own_base hown1); have hs2 := hb2.size)
    | (at_builtin; refine wpList_append_fits _ rfl (.tmp 9) (.tmp 10) 44 rfl w.heap.size 9 i0 1 Try.underlying44 hi hz1 w.heap.size n (n + 3) (txts xs) rfl (hown2.alloc _) ⟨w2.heap.size, 0, none⟩ 3 3 (txts marks) rfl rfl (cells_three_new _ _ _ _ _) txts_one (by omega) ?_; intro w3 hown3 hgrow3; have hb3 := (hb2.alloc hs2 _).grown hgrow3 (by simp; omega) (own_base hown2); have hs3 := hb3.size))
  go_ret
  rw [txts_append] at hown3
  obtain ⟨A', c', he, ht⟩ := Txt.of_own hown3
  cases he
  exact ⟨_, rfl, ht, hb3⟩

theorem add_plain (g j : Nat) : (⟨g, 0, none⟩ : Addr).add j = ⟨g, j, none⟩ := by unfold Addr.add; split <;> simp_all
theorem Txt.front {w : World} {g n m c : Nat} {xs ys : List ByteArray} (h : Txt w (some ⟨g, 0, none⟩) m c (xs ++ ys)) (hn : xs.length = n) (hm : n ≤ 9223372036854775807) : Txt w (some ⟨g, 0, none⟩) n c xs :=
  ⟨hn, hm, (fun ha => by cases ha), fun a ha j x hj => h.cell a ha j x (by rw [List.getElem?_append_left (List.getElem?_eq_some_iff.1 hj).1]; exact hj)⟩
theorem Txt.mark {w : World} {g m c : Nat} {xs : List ByteArray} (h : Txt w (some ⟨g, 0, none⟩) m c (xs ++ marks)) (j : Nat) (x : ByteArray) (hj : marks[j]? = some x) : w.cell? ⟨g, xs.length + j, none⟩ = some (.string x) := by
  have := h.cell _ rfl (xs.length + j) x (by rw [List.getElem?_append_right (by omega), Nat.add_sub_cancel_left]; exact hj)
  rw [add_plain] at this
  exact this

set_option maxHeartbeats 1000000 in
theorem KeptTexts_yes (g n c : Nat) (A : Option Addr) (xs : List ByteArray) (w : World) (hx : Txt w (some ⟨g, 0, none⟩) (n + 3) (n + 3) (xs ++ marks)) (hy : Txt w A n c xs) :
    Calls Try.prog 32 #[.slice (some ⟨g, 0, none⟩) n (n + 3), .slice A n c] w fun e w' => e = .returned (.bool true) ∧ ∃ q, w' = w.drewN q := by
  have hm := hx.max
  have c0 := hx.mark 0 _ rfl
  have c1 := hx.mark 1 _ rfl
  have c2 := hx.mark 2 _ rfl
  rw [hy.len] at c0 c1 c2
  rw [Nat.add_zero] at c0
  have HF := Lib.hid (hx.front hy.len (by omega))
  have HY := Lib.hid hy
  clear hx hy
  go_enter Try.func32, Try.ntmps32
  go_wp2_with (go_at_call 30; refine (SameTexts_yes _ _ _ _ _ _ _ HF.out HY.out).mono ?_; rintro e w' ⟨rfl, q, rfl⟩)
  go_ret
  exact ⟨rfl, _, rfl⟩

end Go.Proofs.Ytboebjmfchbgbaa
