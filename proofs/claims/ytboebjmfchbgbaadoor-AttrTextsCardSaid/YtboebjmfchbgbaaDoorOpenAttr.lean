/-
  An argument that is an attr.Attr, opened: a whole number and a text.
-/
import Derived.Test.YtboebjmfchbgbaaDoorKit
import Derived.ProofKit
import Derived.Lib.SmallJoins
namespace Go.Proofs.YtboebjmfchbgbaaDoor
open Go.RowKit Go.ChangeShapes Go.WideShapes Go.ChangeAt Go.Joins
set_option linter.unusedSimpArgs false
set_option linter.unusedVariables false

theorem cells_attr : Tryd.prog.cellsOf 23 = 2 := by kernel_rfl
set_option maxRecDepth 100000 in
theorem open_attr {H : Type} {enc : TypeId × Value → H} {W : World} {k base : Nat} {sp : Nat → Bool} {hd : Bool} {v : Value} {d : DataW H} {p : List MemPlace} (hv : Value.okWide Tryd.prog W .any k 23 v)
    (h : DataW.Trod enc Tryd.prog W base sp hd 23 v d p) : ∃ (f : Int) (s : ByteArray), v = .agg #[.int .i64 f, .string s] ∧ (Lit.int .i64 f).wf = true ∧ s.size ≤ maxLen := by
  obtain ⟨c0, c1, y0, y1, m, rfl, rfl, rfl, hy0, hy1⟩ := open_agg2 Tryd.underlying23 (by kernel_rfl) cells_attr hv h
  obtain ⟨f, e0, rfl, wa⟩ := DataW.trod_int Tryd.underlying3 hy0
  obtain ⟨s, e1, rfl, ws⟩ := DataW.trod_string Tryd.underlying9 hy1
  simp at e0 e1
  subst e0 e1
  exact ⟨f, s, rfl, wa, ws⟩

end Go.Proofs.YtboebjmfchbgbaaDoor
