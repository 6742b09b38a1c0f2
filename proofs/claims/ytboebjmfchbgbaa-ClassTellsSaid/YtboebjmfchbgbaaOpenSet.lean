/-
  An argument that is four words, opened.
-/
import Derived.Test.YtboebjmfchbgbaaSet6
import Derived.ProofKit
import Derived.Lib.SmallJoins
import Derived.Laws.IdiomArrays
namespace Go.Proofs.Ytboebjmfchbgbaa
open Go Go.RowKit Go.ChangeShapes Go.WideShapes Go.ChangeAt Go.Joins
set_option linter.unusedSimpArgs false
set_option linter.unusedVariables false

theorem word_wf {x : Int} (h : (Lit.int .u64 x).wf = true) : ∃ n : Nat, x = (n : Int) ∧ n < 18446744073709551616 := by
  simp [Lit.wf, IntKind.min, IntKind.max, IntKind.signed, IntKind.bits] at h
  obtain ⟨n, rfl⟩ := Int.eq_ofNat_of_zero_le (show 0 ≤ x by omega)
  exact ⟨n, rfl, by omega⟩
theorem cells_four : Try.prog.cellsOf 26 = 4 := by kernel_rfl
set_option maxRecDepth 100000 in
theorem open_set {H : Type} {enc : TypeId × Value → H} {W : World} {k base : Nat} {sp : Nat → Bool} {hd : Bool} {v : Value} {d : DataW H} {p : List MemPlace} (hv : Value.okWide Try.prog W .any k 26 v)
    (h : DataW.Trod enc Try.prog W base sp hd 26 v d p) : ∃ x : OK, v = x.v := by
  obtain ⟨cs, rfl, hsz, _⟩ : ∃ cs, v = .agg cs ∧ cs.size = Try.prog.cellsOf 26 ∧ Row.okWide Try.prog W .any k 26 cs := by
    simpa [Value.okWide, Try.underlying26] using hv
  rw [cells_four] at hsz
  obtain ⟨c0, c1, c2, c3, rfl⟩ := array4 hsz
  obtain ⟨fuel, hf⟩ := h
  obtain ⟨y0, y1, y2, y3, m, hx, hy0, hy1, hy2, hy3⟩ := trod_array4 Try.underlying26 Try.cells_u64 hf
  obtain ⟨x0, e0, rfl, w0⟩ := DataW.trod_int Try.underlying25 hy0
  obtain ⟨x1, e1, rfl, w1⟩ := DataW.trod_int Try.underlying25 hy1
  obtain ⟨x2, e2, rfl, w2⟩ := DataW.trod_int Try.underlying25 hy2
  obtain ⟨x3, e3, rfl, w3⟩ := DataW.trod_int Try.underlying25 hy3
  simp at e0 e1 e2 e3
  subst e0 e1 e2 e3
  obtain ⟨n0, rfl, l0⟩ := word_wf w0
  obtain ⟨n1, rfl, l1⟩ := word_wf w1
  obtain ⟨n2, rfl, l2⟩ := word_wf w2
  obtain ⟨n3, rfl, l3⟩ := word_wf w3
  exact ⟨⟨⟨n0, n1, n2, n3⟩, l0, l1, l2, l3⟩, rfl⟩

end Go.Proofs.Ytboebjmfchbgbaa
