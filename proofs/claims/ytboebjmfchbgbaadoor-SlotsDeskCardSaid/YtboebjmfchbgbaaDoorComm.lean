/-
  A region that opens with a communication which does not wait (a select with its default, a send with room), for the walk of one goroutine.
-/
import Derived.WalkKit
import Derived.Conc.LoneSelect
namespace Go.Proofs.YtboebjmfchbgbaaDoor
open Go Go.RowKit Go.Conc
set_option linter.unusedSimpArgs false
set_option linter.unusedVariables false

section
variable {P : Program} {ops : Array Oper} {Q : Exit → Act → World → Prop}

/-- What is left of a region's operations leads to a way out of which Q holds. -/
def Itm (P : Program) (ops : Array Oper) (Q : Exit → Act → World → Prop) (l : List Nat) (a : Act) (w : World) : Prop :=
  ∀ (b : Frame) (k : List Item) (cs : List Frame), ∃ e a' w', Q e a' w' ∧ Arrives P (lone (b.at a (.inRegion ops l :: k)) cs w) b k cs e a' w'

theorem Itm.ofOps {l : List Nat} {a : Act} {w : World} (h : wpOps P ops Q l a w) : Itm P ops Q l a w := wp_ops l a w h
theorem Itm.ofList {n : Nat} (l : List Oper) (m : Nat) (hm : l.length = m) {a : Act} {w : World} (hl : ∀ j, l[j]? = ops[n + j]?) (h : wpList P ops Q l a w) : Itm P ops Q (List.range' n m) a w := by
  subst hm
  exact .ofOps (by rw [wpOps_eq_wpList l n hl]; exact h)
theorem Itm.region {id : Nat} {a : Act} {w : World} (h : Itm P ops Q (List.range ops.size) a w) : (Code.region id ops false).wp P Q a w :=
  fun b k cs => let ⟨e, a', w', q, r⟩ := h b k cs; ⟨e, a', w', q, .of_steps (.one step_region) r⟩
theorem Itm.value {i : Nat} {rest : List Nat} {o : Oper} {a : Act} {w w' : World} {v : Value} (ho : ops[i]? = some o) (hw : Region.wanted o (yielded ops a.tmps) = true)
    (hr : (execOp a.eval o).run P w = .ok (.value v) w') (h : Itm P ops Q rest (a.put o.dst v) w') : Itm P ops Q (i :: rest) a w := by
  intro b k cs
  have hg := stepG_op (P := P) (b := b) (k := k) (cs := cs) (w := w) (rest := rest) ho hw
  have hfin : ∀ v, (b.at a (.inRegion ops (i :: rest) :: k)).finish v = b.at (a.put o.dst v) (.inRegion ops rest :: k) := by
    intro v; rw [Frame.finish_at, ho]; rfl
  obtain ⟨e, a', w'', hq, harr⟩ := h b k cs
  refine ⟨e, a', w'', hq, .of_steps (.one (step_lone_go ?_)) harr⟩
  rw [hg, ← hfin]; simp [stepG.apply, hr]
theorem stepG_commA {b : Frame} {k : List Item} {cs : List Frame} {i : Nat} {rest : List Nat} {o : Oper} {a : Act} {w w1 : World} {cases : Array CommCase} {blocking : Bool} {shape : CommShape} (ho : ops[i]? = some o) (hw : Region.wanted o (yielded ops a.tmps) = true)
    (hr : (execOp a.eval o).run P w = .ok (.comm cases blocking shape) w1) :
    ∃ es, stepG P true (G (b.at a (.inRegion ops (i :: rest) :: k)) cs) w = .comm (G (b.at a (.inRegion ops (i :: rest) :: k)) cs) cases blocking shape w1 es := by
  have hg := stepG_op (P := P) (b := b) (k := k) (cs := cs) (w := w) (rest := rest) ho hw
  unfold G
  rw [hg]
  simp [stepG.apply, hr, Frame.at, GStep.after]
/-- The communication is one step of the machine, whatever stands behind it. -/
theorem Itm.comm {i : Nat} {rest : List Nat} {o : Oper} {a : Act} {w w1 w2 : World} {v : Value} {cases : Array CommCase} {blocking : Bool} {shape : CommShape} (ho : ops[i]? = some o) (hw : Region.wanted o (yielded ops a.tmps) = true)
    (hr : (execOp a.eval o).run P w = .ok (.comm cases blocking shape) w1)
    (hstep : ∀ fr cs es, stepG P true (G fr cs) w = .comm (G fr cs) cases blocking shape w1 es → step P (solo (G fr cs) w) = .next (solo (G (fr.finish v) cs) w2))
    (h : Itm P ops Q rest (a.put o.dst v) w2) : Itm P ops Q (i :: rest) a w := by
  intro b k cs
  obtain ⟨es, hes⟩ := stepG_commA (b := b) (k := k) (cs := cs) (rest := rest) ho hw hr
  have hfin : ∀ v, (b.at a (.inRegion ops (i :: rest) :: k)).finish v = b.at (a.put o.dst v) (.inRegion ops rest :: k) := by
    intro v; rw [Frame.finish_at, ho]; rfl
  have hs := hstep _ _ _ hes
  rw [hfin] at hs
  obtain ⟨e, a', w'', hq, harr⟩ := h b k cs
  exact ⟨e, a', w'', hq, .of_steps (.one hs) harr⟩
/-- A region that opens with a communication which does not wait. -/
theorem wp_region_comm {id : Nat} {o : Oper} {l : List Oper} {a : Act} {w w1 w2 : World} {v : Value} {cases : Array CommCase} {blocking : Bool} {shape : CommShape} (hw : Region.wanted o (yielded (o :: l).toArray a.tmps) = true)
    (hr : (execOp a.eval o).run P w = .ok (.comm cases blocking shape) w1)
    (hstep : ∀ fr cs es, stepG P true (G fr cs) w = .comm (G fr cs) cases blocking shape w1 es → step P (solo (G fr cs) w) = .next (solo (G (fr.finish v) cs) w2))
    (h : wpList P (o :: l).toArray Q l (a.put o.dst v) w2) : (Code.region id (o :: l).toArray false).wp P Q a w := by
  refine Itm.region ?_
  have hl : List.range ((o :: l).toArray.size) = 0 :: List.range' 1 l.length := by
    rw [List.size_toArray, List.length_cons, List.range_eq_range', List.range'_succ]
  rw [hl]
  exact Itm.comm rfl hw hr hstep (Itm.ofList l _ rfl (fun j => by simp [Nat.add_comm 1 j]) h)
end

end Go.Proofs.YtboebjmfchbgbaaDoor
