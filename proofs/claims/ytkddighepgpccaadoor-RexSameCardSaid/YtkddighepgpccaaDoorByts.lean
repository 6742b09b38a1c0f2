/-
  Rows of bytes: how a slice of them reads; an argument that is one, opened.
-/
import Derived.Test.YtkddighepgpccaaDoorKit
import Derived.ProofKit
import Derived.ChangeSlices
namespace Go.Proofs.YtkddighepgpccaaDoor
open Go.RowKit Go.ChangeShapes Go.WideShapes Go.ChangeAt
set_option linter.unusedSimpArgs false
set_option linter.unusedVariables false

/-- A slice with address A, length n and capacity c reads as the numbers xs. -/
structure Byts (w : World) (A : Option Addr) (n c : Nat) (xs : List Int) : Prop where
  len : xs.length = n
  max : n ≤ 9223372036854775807
  nil : A = none → n = 0 ∧ c = 0
  cell : ∀ a, A = some a → ∀ j x, xs[j]? = some x → w.cell? (a.add j) = some (.int .u8 x)
theorem Byts.below {w w1 : World} {A : Option Addr} {n c : Nat} {xs : List Int} (h : Byts w A n c xs) (hb : Below w.heap.size w w1) : Byts w1 A n c xs :=
  ⟨h.len, h.max, h.nil, fun a ha j x hj => cell_later hb (h.cell a ha j x hj)⟩
theorem Byts.at_ {w : World} {A : Option Addr} {n c : Nat} {xs : List Int} (h : Byts w A n c xs) {k : Nat} (hk : k < n) :
    ∃ a x, A = some a ∧ xs[k]? = some x ∧ w.cell? (a.add k) = some (.int .u8 x) := by
  cases A with
  | none => have := (h.nil rfl).1; omega
  | some a =>
    have hl : k < xs.length := by rw [h.len]; exact hk
    exact ⟨a, xs[k], rfl, List.getElem?_eq_getElem hl, h.cell a rfl k _ (List.getElem?_eq_getElem hl)⟩

theorem open_bytes_row {P : Program} {H : Type} {enc : TypeId × Value → H} {W : World} {held : Bool} {t e : TypeId} {fuel : Nat} {A : Option Addr} {n c : Nat} {x : DataW H × List MemPlace} (ht : P.underlying t = some (.slice e)) (he : P.underlying e = some (.int .u8)) (hc : P.cellsOf e = 1)
    (h : DataW.trod enc P W 0 (fun _ => true) held fuel t (Value.slice A n c).cells.toList = some x) : ∃ xs, Byts W A n c xs ∧ ∀ x ∈ xs, (Lit.int .u8 x).wf = true := by
  rcases open_ints ht he hc h with ⟨hcs, _⟩ | ⟨a, len, cap, ss, hcs, _, hl, hm, hz, _, hcell, hws⟩
  · simp [Value.cells] at hcs
    obtain ⟨rfl, rfl, rfl⟩ := hcs
    exact ⟨[], ⟨rfl, by decide, fun _ => ⟨rfl, rfl⟩, fun a ha => by cases ha⟩, by simp⟩
  · simp [Value.cells] at hcs
    obtain ⟨rfl, rfl, rfl⟩ := hcs
    simp only [if_true] at hz
    unfold maxLen at hm
    refine ⟨ss.take n, ⟨by rw [List.length_take]; omega, by omega, (fun ha => by cases ha), fun a' ha j x hj => ?_⟩, fun x hx => hws x (List.mem_of_mem_take hx)⟩
    injection ha with ha
    subst ha
    have hjl := (List.getElem?_eq_some_iff.1 hj).1
    rw [List.length_take] at hjl
    have := hcell j (by omega)
    rw [this]
    rw [List.getElem?_take_of_lt (by omega)] at hj
    rw [List.getD_eq_getElem?_getD, hj]; rfl

end Go.Proofs.YtkddighepgpccaaDoor
