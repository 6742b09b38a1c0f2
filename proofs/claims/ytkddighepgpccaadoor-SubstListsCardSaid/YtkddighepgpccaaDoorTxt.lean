/-
  Rows of texts: how a slice of strings reads.
-/
import Derived.Test.YtkddighepgpccaaDoorKit
import Derived.Deep.QuietTactic
import Derived.BigQuiet
namespace Go.Proofs.YtkddighepgpccaaDoor
open Go.RowKit
set_option linter.unusedSimpArgs false
set_option linter.unusedVariables false

/-- A slice with address A, length n and capacity c reads as the texts xs. -/
structure Txt (w : World) (A : Option Addr) (n c : Nat) (xs : List ByteArray) : Prop where
  len : xs.length = n
  max : n ≤ 9223372036854775807
  nil : A = none → n = 0 ∧ c = 0
  cell : ∀ a, A = some a → ∀ j x, xs[j]? = some x → w.cell? (a.add j) = some (.string x)
theorem Txt.below {w w1 : World} {A : Option Addr} {n c : Nat} {xs : List ByteArray} (h : Txt w A n c xs) (hb : Below w.heap.size w w1) : Txt w1 A n c xs :=
  ⟨h.len, h.max, h.nil, fun a ha j x hj => cell_later hb (h.cell a ha j x hj)⟩
theorem cell_drewN {w : World} {n : Nat} {a : Addr} : (w.drewN n).cell? a = w.cell? a := rfl
theorem Txt.drewN {w : World} {A : Option Addr} {n c : Nat} {xs : List ByteArray} (h : Txt w A n c xs) (k : Nat) : Txt (w.drewN k) A n c xs :=
  ⟨h.len, h.max, h.nil, fun a ha j x hj => h.cell a ha j x hj⟩
/-- The text at a place. -/
theorem Txt.at_ {w : World} {A : Option Addr} {n c : Nat} {xs : List ByteArray} (h : Txt w A n c xs) {k : Nat} (hk : k < n) :
    ∃ a x, A = some a ∧ xs[k]? = some x ∧ w.cell? (a.add k) = some (.string x) := by
  cases A with
  | none => have := (h.nil rfl).1; omega
  | some a =>
    have hl : k < xs.length := by rw [h.len]; exact hk
    exact ⟨a, xs[k], rfl, List.getElem?_eq_getElem hl, h.cell a rfl k _ (List.getElem?_eq_getElem hl)⟩
def txts (xs : List ByteArray) : List Value := xs.map Value.string
theorem txts_append (xs ys : List ByteArray) : txts xs ++ txts ys = txts (xs ++ ys) := by simp [txts]
theorem txts_length (xs : List ByteArray) : (txts xs).length = xs.length := by simp [txts]
theorem txts_get {xs : List ByteArray} {j : Nat} {u : Value} (h : (txts xs)[j]? = some u) : ∃ x, xs[j]? = some x ∧ u = .string x := by
  rw [txts, List.getElem?_map] at h
  cases hx : xs[j]? with
  | none => rw [hx] at h; simp at h
  | some x => rw [hx] at h; simp at h; exact ⟨x, rfl, h.symm⟩
theorem txts_one {xs : List ByteArray} : ∀ u ∈ txts xs, u.oneCell' = true := by
  intro u hu
  simp only [txts, List.mem_map] at hu
  obtain ⟨x, _, rfl⟩ := hu
  rfl
/-- A row of the call's own reads as its texts. -/
theorem Txt.of_own {w : World} {base n : Nat} {v : Value} {xs : List ByteArray} (h : w.ownsRow base 9 1 v n (txts xs)) : ∃ A c, v = .slice A n c ∧ Txt w A n c xs := by
  have hl : xs.length = n := by have := h.1; simpa [txts_length] using this
  rcases h.2 with ⟨rfl, h0⟩ | ⟨g, cap, cur, rfl, h3, h4, h5, h6, h7⟩
  · exact ⟨none, 0, by rw [h0], hl, by omega, (fun _ => ⟨h0, rfl⟩), (fun a ha => by cases ha)⟩
  · refine ⟨some ⟨g, 0, none⟩, cap, rfl, hl, (by simp only [maxLen] at h6; omega), (fun ha => by cases ha), fun a ha j x hj => ?_⟩
    injection ha with ha
    subst ha
    exact h.cells (g := g) rfl j (.string x) (by rw [txts, List.getElem?_map, hj]; rfl)

theorem Tryd.info_str : (Tryd.prog.info? 9).map (fun i => (i.zero, i.size, i.bytes)) = some (some (.string ByteArray.empty), 1, 16) := by kernel_rfl
theorem add_plain (g j : Nat) : (⟨g, 0, none⟩ : Addr).add j = ⟨g, j, none⟩ := by unfold Addr.add; split <;> simp_all
theorem any_take_step {α : Type} {p : α → Bool} {xs : List α} {k : Nat} {x : α} (h : xs[k]? = some x) : (xs.take (k + 1)).any p = ((xs.take k).any p || p x) := by
  have hk : k < xs.length := by
    rcases Nat.lt_or_ge k xs.length with h' | h'
    · exact h'
    · rw [List.getElem?_eq_none h'] at h; cases h
  rw [List.take_succ_eq_append_getElem hk, List.any_append]
  rw [List.getElem?_eq_getElem hk] at h
  injection h with h
  simp [h]

theorem map_take_snoc {α β : Type} {f : α → β} {xs : List α} {k : Nat} {x : α} (h : xs[k]? = some x) : (xs.take (k + 1)).map f = (xs.take k).map f ++ [f x] := by
  have hk : k < xs.length := (List.getElem?_eq_some_iff.1 h).1
  rw [List.take_succ_eq_append_getElem hk, List.map_append]
  rw [List.getElem?_eq_getElem hk] at h
  injection h with h
  simp [h]

end Go.Proofs.YtkddighepgpccaaDoor
