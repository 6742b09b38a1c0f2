/-
  Some of the listed errors of a card: each variable holds an error that is not nil.
-/
import Derived.Test.YtkddighepgpccaaDoorErrs
namespace Go.Proofs.YtkddighepgpccaaDoor
open Go Go.RowKit
set_option linter.unusedSimpArgs false
set_option linter.unusedVariables false

theorem some_of_row (ns : List String) (gs : List Nat) (l : List (String × DataW Unit)) (hp : (l.all fun x => x.2.handleName?.isNone) = true) (he : (ns.zip (l.map fun x => textOf x.2)).map mkSent = l) (hl : (l.map fun x => textOf x.2).length = ns.length) (hgl : gs.length = ns.length)
    (hk : ((ns.zip gs).all fun x => Tryd.prog.globalNamed x.1 == some x.2 && (Tryd.prog.globals[x.2]?).map (·.type) == some 27) = true) {w : World} (h : laidMetH Tryd.prog l w) :
    ∃ es : List Addr, es.length = ns.length ∧ ∀ (i g : Nat) (a : Addr), gs[i]? = some g → es[i]? = some a → w.cell? ⟨g, 0, none⟩ = some (errV a) := by
  rw [MakeChecks.laidMetH_plain _ _ _ hp] at h
  rw [← he] at h
  obtain ⟨ps, hv, hnd, hrows⟩ := h
  have key : ∀ (i : Nat) (n : String) (g : Nat), ns[i]? = some n → gs[i]? = some g → Tryd.prog.globalNamed n = some g ∧ (Tryd.prog.globals[g]?).map (·.type) = some 27 := by
    intro i n g hn hg
    have hz : (ns.zip gs)[i]? = some (n, g) := by rw [List.getElem?_zip_eq_some]; exact ⟨hn, hg⟩
    have := List.all_eq_true.1 hk _ (List.mem_of_getElem? hz)
    rw [Bool.and_eq_true] at this
    exact ⟨eq_of_beq this.1, eq_of_beq this.2⟩
  obtain ⟨es, h1, h2, h3, h4⟩ := sents_of Tryd.underlying27 Tryd.rowE Tryd.underlying123 Tryd.underlying148 rfl rfl Tryd.underlying9 Tryd.cellsE Tryd.cellsS _ ps hv (fun x hx => by
    obtain ⟨i, hi⟩ := List.getElem?_of_mem (List.of_mem_zip hx).1
    have hlt := (List.getElem?_eq_some_iff.1 hi).1
    have hig : gs[i]? = some gs[i] := List.getElem?_eq_getElem (by omega)
    exact ⟨_, (key i _ _ hi hig).1, (key i _ _ hi hig).2⟩) hrows hnd
  rw [List.length_zip, hl, Nat.min_self] at h1
  refine ⟨es, h1, fun i g a hg ha => ?_⟩
  have hi : i < es.length := (List.getElem?_eq_some_iff.1 ha).1
  have hin : i < ns.length := by omega
  have hit : i < (l.map fun x => textOf x.2).length := by omega
  have h5 := h4 i (ns[i], (l.map fun x => textOf x.2)[i]) a (by rw [List.getElem?_zip_eq_some]; exact ⟨List.getElem?_eq_getElem hin, List.getElem?_eq_getElem hit⟩) ha
  have := World.var?_cell (key i _ g (List.getElem?_eq_getElem hin) hg).1 h5 0
  simpa [errV] using this

end Go.Proofs.YtkddighepgpccaaDoor
