/-
  The listed errors of a card: what the list gives a walk (addresses, pairwise different), and the walks of millwrightnum.all and Num.
-/
import Derived.Test.YtkddighepgpccaaDoorErrIs
import Derived.Stop.LaidTwo
import Derived.MakeChecks
namespace Go.Proofs.YtkddighepgpccaaDoor
open Go Go.RowKit
set_option linter.unusedSimpArgs false
set_option linter.unusedVariables false

def mkSent (x : String × List UInt8) : String × DataW Unit := (x.1, .iface "*errors.errorString" (.ptr (.agg [.lit (.string x.2)])))

/-- What a list of sentinels gives: an address each, no address twice. -/
theorem sents_of {P : Program} {W : World} {ti tp te ts : TypeId} {ms : Array (String × TypeId)} {f : Field}
    (hi : P.underlying ti = some (.interface ms)) (hrow : ∀ u, P.typeName? 3 u = some "*errors.errorString" → u = tp)
    (hp : P.underlying tp = some (.pointer te)) (he : P.underlying te = some (.struct #[f])) (hft : f.type = ts) (hfo : f.offset = 0) (hs : P.underlying ts = some .string) (hc : P.cellsOf te = 1) (hcs : P.cellsOf ts = 1) :
    ∀ (l : List (String × List UInt8)) (ps : List MemPlace), DataW.LaidVars P W (l.map mkSent) ps → (∀ x ∈ l, ∃ g, P.globalNamed x.1 = some g ∧ (P.globals[g]?).map (·.type) = some ti) →
      (∀ b off, MemPlace.cell b off ∈ ps → (∃ c t, W.heap[b]? = some (.cells c t (0, 0))) ∧ ∀ u v, W.cell? ⟨b, off, none⟩ = some (.iface u v) → Value.okWide P W .any 0 u v) → ps.Nodup →
      ∃ es : List Addr, es.length = l.length ∧ es.Nodup ∧ (∀ a ∈ es, MemPlace.cell a.block a.off ∈ ps ∧ ∃ c t, W.heap[a.block]? = some (.cells c t (0, 0))) ∧
        ∀ (i : Nat) (x : String × List UInt8) (a : Addr), l[i]? = some x → es[i]? = some a → W.var? P x.1 = some #[.iface tp (.pointer (some a))]
  | [], ps, h, hg, hrows, hnd => ⟨[], rfl, List.nodup_nil, fun a h => by simp at h, fun i x a h => by simp at h⟩
  | (n, text) :: l, ps, h, hg, hrows, hnd => by
    obtain ⟨g0, t0, cs0, f0, p0, q0, hg0, ht0, hv0, hd0, hq, e0⟩ := h
    subst e0
    obtain ⟨g, hgn, hgt⟩ := hg _ (List.mem_cons_self ..)
    obtain rfl := Option.some.inj (hgn.symm.trans hg0)
    obtain rfl := Option.some.inj (hgt.symm.trans ht0)
    obtain ⟨es, hlen, hasnd, hmem, hvar⟩ := sents_of hi hrow hp he hft hfo hs hc hcs l q0 hq (fun x hx => hg x (List.mem_cons_of_mem _ hx)) (fun b off hm => hrows b off (List.mem_append_right _ hm)) (List.Nodup.sublist (List.sublist_append_right _ _) hnd)
    obtain ⟨l0⟩ := cs0
    have ok0 : ∀ u v, l0 = [.iface u v] → Value.okWide P W .any 0 u v := fun u v e => by
      subst e
      exact (hrows g 0 (by simp [MemPlace.row])).2 u v (by simpa using World.var?_cell hg0 hv0 0)
    obtain ⟨a0, s0, rfl, hc0, hs0, hz0, rfl⟩ := errorString_of_trod hi hrow hp he hft hfo hs hc hcs hd0 ok0
    obtain ⟨c0, u0, hb0⟩ := (hrows a0.block a0.off (by simp [MemPlace.row])).1
    refine ⟨a0 :: es, by simp [hlen], ?_, ?_, ?_⟩
    · rw [List.nodup_cons]
      refine ⟨fun hm => ?_, hasnd⟩
      have h1 := (hmem _ hm).1
      rw [List.nodup_append] at hnd
      exact hnd.2.2 _ (by simp [MemPlace.row]) _ h1 rfl
    · intro a ha
      rcases List.mem_cons.1 ha with rfl | ha
      · exact ⟨by simp [MemPlace.row], c0, u0, hb0⟩
      · exact ⟨List.mem_append_right _ (hmem a ha).1, (hmem a ha).2⟩
    · intro i x a hx ha
      cases i with
      | zero =>
        simp at hx ha
        subst hx
        subst ha
        exact hv0
      | succ i =>
        simp at hx ha
        exact hvar i x a hx ha

theorem Tryd.starE : "*" ++ "errors.errorString" = "*errors.errorString" := by decide
theorem Tryd.rowE (u : TypeId) (h : Tryd.prog.typeName? 3 u = some "*errors.errorString") : u = 123 :=
  typeName_ptr_named (nm := "errors.errorString") (by rw [Tryd.starE]; kernel_rfl) (by kernel_rfl) (by decide) u (by rw [Tryd.starE]; exact h)
theorem Tryd.cellsE : Tryd.prog.cellsOf 148 = 1 := by kernel_rfl
theorem Tryd.cellsS : Tryd.prog.cellsOf 9 = 1 := by kernel_rfl

def errV (a : Addr) : Value := .iface 123 (.pointer (some a))
/-- The variables of the errors, by their numbers. -/
def errG : List Nat := [4, 0, 5, 6, 7, 1, 8, 9, 10, 2, 11, 12, 13, 14, 15, 16, 17, 18]
def errN : List String := ["millwright/api.ErrRange", "millwright/api.ErrLong", "millwright/api.ErrForm", "millwright/api.ErrName", "millwright/api.ErrQuote", "millwright/api.ErrRegex", "millwright/api.ErrAttr", "millwright/api.ErrNone", "millwright/api.ErrDup", "millwright/api.ErrFull", "millwright/api.ErrDepth", "millwright/api.ErrCycle", "millwright/api.ErrAmbig", "millwright/api.ErrState", "millwright/api.ErrFail", "millwright/api.ErrFlag", "millwright/api.ErrKind", "millwright/api.ErrLost"]

structure Errs (w : World) (es : List Addr) : Prop where
  len : es.length = 18
  nodup : es.Nodup
  row : ∀ a ∈ es, ∃ c t, w.heap[a.block]? = some (.cells c t (0, 0))
  cell : ∀ (i g : Nat) (a : Addr), errG[i]? = some g → es[i]? = some a → w.cell? ⟨g, 0, none⟩ = some (errV a)

theorem Errs.size {w : World} {es : List Addr} (h : Errs w es) : 18 ≤ w.heap.size := by
  have hl := h.len
  have h0 := h.cell
  refine Nat.le_of_not_lt fun hlt => ?_
  have key : ∀ g : Nat, g ∈ errG → g < w.heap.size := by
    intro g hg
    obtain ⟨i, hi, rfl⟩ := List.getElem_of_mem hg
    have hi' : i < es.length := by rw [hl]; exact hi
    have := h0 i _ es[i] (List.getElem?_eq_getElem hi) (List.getElem?_eq_getElem hi')
    rcases Nat.lt_or_ge errG[i] w.heap.size with h' | h'
    · exact h'
    · simp [World.cell?, Array.getElem?_eq_none h'] at this
  have hall : ∃ g, g ∈ errG ∧ 17 ≤ g := by decide
  obtain ⟨g, hg, h17⟩ := hall
  have := key g hg
  omega
theorem Errs.later {w w' : World} {es : List Addr} (h : Errs w es) (hb : Below w.heap.size w w') : Errs w' es := by
  have hlt : ∀ {b : Nat} {x : Obj}, w.heap[b]? = some x → w'.heap[b]? = some x := by
    intro b x hx
    rw [hb.block b (Array.getElem?_eq_some_iff.1 hx).1]; exact hx
  refine ⟨h.len, h.nodup, fun a ha => ?_, fun i g a hg ha => ?_⟩
  · obtain ⟨c, t, hc⟩ := h.row a ha
    exact ⟨c, t, hlt hc⟩
  · have := h.cell i g a hg ha
    have hs := h.size
    rw [← this]
    refine hb.cell (p := ⟨g, 0, none⟩) ?_
    rcases Nat.lt_or_ge g w.heap.size with h' | h'
    · exact h'
    · simp [World.cell?, Array.getElem?_eq_none h'] at this

theorem errs_of_laid (texts : List (List UInt8)) {w : World} (h : laidMet Tryd.prog ((errN.zip texts).map mkSent) w) (hl : texts.length = 18) : ∃ es, Errs w es := by
  obtain ⟨ps, hv, hnd, hrows⟩ := h
  have hz : (errN.zip texts).length = 18 := by simp [errN, hl]
  have hn : ∀ n ∈ errN, ∃ g, Tryd.prog.globalNamed n = some g ∧ (Tryd.prog.globals[g]?).map (·.type) = some 27 := by
    have hb : (errN.all fun n => match Tryd.prog.globalNamed n with | some g => (Tryd.prog.globals[g]?).map (·.type) == some 27 | none => false) = true := by kernel_rfl
    intro n hm
    have := List.all_eq_true.1 hb n hm
    split at this
    · rename_i g hg
      exact ⟨g, hg, eq_of_beq this⟩
    · cases this
  obtain ⟨es, h1, h2, h3, h4⟩ := sents_of Tryd.underlying27 Tryd.rowE Tryd.underlying123 Tryd.underlying148 rfl rfl Tryd.underlying9 Tryd.cellsE Tryd.cellsS _ ps hv (fun x hx => hn x.1 (List.of_mem_zip hx).1) hrows hnd
  refine ⟨es, by omega, h2, fun a ha => (h3 a ha).2, fun i g a hg ha => ?_⟩
  have hi : i < 18 := by
    have := (List.getElem?_eq_some_iff.1 ha).1
    omega
  have hin : i < errN.length := hi
  have hit : i < texts.length := by omega
  have h5 := h4 i (errN[i], texts[i]) a (by rw [List.getElem?_zip_eq_some]; exact ⟨List.getElem?_eq_getElem hin, List.getElem?_eq_getElem hit⟩) ha
  have hname : ∀ i : Nat, i < 18 → ∀ n g, errN[i]? = some n → errG[i]? = some g → Tryd.prog.globalNamed n = some g := by
    have hb : ((List.range 18).all fun i => match errN[i]?, errG[i]? with | some n, some g => Tryd.prog.globalNamed n == some g | _, _ => true) = true := by kernel_rfl
    intro i hi n g hn hg
    have := List.all_eq_true.1 hb i (List.mem_range.2 hi)
    rw [hn, hg] at this
    exact eq_of_beq this
  have hgn := hname i hi _ g (List.getElem?_eq_getElem hin) hg
  have := World.var?_cell hgn h5 0
  simpa [errV] using this

def textOf : DataW Unit → List UInt8
  | .iface _ (.ptr (.agg [.lit (.string s)])) => s
  | _ => []
/-- The list of a row (every listed variable is one of the errors, in the order of their numbers). -/
theorem errs_of_row (l : List (String × DataW Unit)) (hp : (l.all fun x => x.2.handleName?.isNone) = true) (he : (errN.zip (l.map fun x => textOf x.2)).map mkSent = l) (hl : (l.map fun x => textOf x.2).length = 18) {w : World} (h : laidMetH Tryd.prog l w) : ∃ es, Errs w es := by
  rw [MakeChecks.laidMetH_plain _ _ _ hp] at h
  exact errs_of_laid (l.map fun x => textOf x.2) (by rw [he]; exact h) hl

end Go.Proofs.YtkddighepgpccaaDoor
