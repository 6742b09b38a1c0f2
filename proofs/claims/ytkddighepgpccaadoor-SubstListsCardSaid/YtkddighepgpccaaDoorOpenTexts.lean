/-
  An argument that is a slice of strings, opened: it reads as a row of texts.
-/
import Derived.Test.YtkddighepgpccaaDoorTxt
import Derived.ProofKit
import Derived.SliceStrings
namespace Go.Proofs.YtkddighepgpccaaDoor
open Go.RowKit Go.ChangeShapes Go.WideShapes Go.ChangeAt
set_option linter.unusedSimpArgs false
set_option linter.unusedVariables false

theorem open_texts {P : Program} {H : Type} {enc : TypeId × Value → H} {W : World} {held : Bool} {t e : TypeId} {fuel : Nat} {A : Option Addr} {n c : Nat} {x : DataW H × List MemPlace} (ht : P.underlying t = some (.slice e)) (he : P.underlying e = some .string) (hc : P.cellsOf e = 1)
    (h : DataW.trod enc P W 0 (fun _ => true) held fuel t (Value.slice A n c).cells.toList = some x) : ∃ xs, Txt W A n c xs ∧ ∀ x ∈ xs, x.size ≤ maxLen := by
  rcases open_strings ht he hc h with ⟨hcs, _⟩ | ⟨a, len, cap, ss, hcs, _, hl, hm, hz, _, hcell, hws⟩
  · simp [Value.cells] at hcs
    obtain ⟨rfl, rfl, rfl⟩ := hcs
    exact ⟨[], ⟨rfl, by decide, fun _ => ⟨rfl, rfl⟩, fun a ha => by cases ha⟩, by simp⟩
  · simp [Value.cells] at hcs
    obtain ⟨rfl, rfl, rfl⟩ := hcs
    simp only [if_true] at hz
    unfold maxLen at hm
    refine ⟨ss.take n, ⟨by rw [List.length_take]; omega, by omega, (fun ha => by cases ha), fun a' ha j x hj => ?_⟩, fun x hx => hws x (List.mem_of_mem_take hx)⟩
    injection ha with ha
    subst ha
    have hjl := (List.getElem?_eq_some_iff.1 hj).1
    rw [List.length_take] at hjl
    have := hcell j (by omega)
    rw [this]
    rw [List.getElem?_take_of_lt (by omega)] at hj
    rw [List.getD_eq_getElem?_getD, hj]; rfl

end Go.Proofs.YtkddighepgpccaaDoor
