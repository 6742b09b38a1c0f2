/-
  The reference's row of signs as it grows; the row of a dot.
-/
import Derived.Test.YtkddighepgpccaaDoorRefSet
import Derived.Test.YtkddighepgpccaaDoorSgn
namespace Go.Proofs.YtkddighepgpccaaDoor
open Go Go.RowKit
set_option linter.unusedSimpArgs false
set_option linter.unusedVariables false

theorem sCells_snoc (L : List Tok) (t : Tok) : sCells (L ++ [t]) = sCells L ++ (tokC t).toList := by rw [sCells_append]; simp [sCells]
theorem own_snoc {w w1 w2 : World} {B0 : Nat} {e : TypeId} {g c n : Nat} {L : List Tok} {t : Tok} {g1 c1 : Nat} {o : Obj} (hb : Below B0 w w1) (hB : B0 ≤ w1.heap.size)
    (o1 : w1.ownsRow B0 e 5 (.slice (some ⟨g, 0, none⟩) n c) n (sCells L)) (gr : (w1.alloc o).grownBy w2 (Value.slice (some ⟨g, 0, none⟩) n c).ownBlock)
    (o2 : w2.ownsRow B0 e 5 (.slice (some ⟨g1, 0, none⟩) (n + 1) c1) (n + 1) (sCells L ++ (tokC t).toList)) : w2.ownsRow B0 e 5 (.slice (some ⟨g1, 0, none⟩) (n + 1) c1) (n + 1) (sCells (L ++ [t])) ∧ Below B0 w w2 := by
  refine ⟨by rw [sCells_snoc]; exact o2, ?_⟩
  have hlt := o1.lt g rfl
  refine (hb.alloc hB o).grown gr (by simp; omega) ?_
  intro k hk
  injection hk with hk
  simp only at hk
  omega

theorem lexAll_some {r r' : List UInt8} {t : Tok} (h : lex1 r = some (t, r')) : lexAll r = (lexAll r').map (t :: ·) := by
  rw [lexAll]
  split
  · rename_i h2
    rw [h2] at h; cases h
  · rename_i t2 r2 h2
    rw [h2] at h
    injection h with h
    injection h with h3 h4
    subst h3 h4
    rfl
theorem lexAll_none {r : List UInt8} (h : lex1 r = none) (hr : r ≠ []) : lexAll r = none := by
  rw [lexAll]
  split
  · rw [if_neg hr]
  · rename_i t2 r2 h2
    rw [h2] at h; cases h
theorem lexAll_nil : lexAll [] = some [] := by
  rw [lexAll]
  rfl
theorem lex_next {R : Option (List Tok)} {L : List Tok} {r r' : List UInt8} {t : Tok} (h : R = (lexAll r).map (L ++ ·)) (h1 : lex1 r = some (t, r')) : R = (lexAll r').map ((L ++ [t]) ++ ·) := by
  rw [h, lexAll_some h1]
  cases lexAll r' <;> simp

theorem own_other {w : World} {B : Nat} {e : TypeId} {size g n c : Nat} {xs : List Value} (h : w.ownsRow B e size (.slice (some ⟨g, 0, none⟩) n c) n xs) (a : Addr) (v : Value) (hne : a.block ≠ g) : (w.setCell a v).ownsRow B e size (.slice (some ⟨g, 0, none⟩) n c) n xs := by
  rcases h.2 with e1 | ⟨g', cap, cur, hv, h3, h4, h5⟩
  · exact ⟨h.1, .inl e1⟩
  · refine ⟨h.1, .inr ⟨g', cap, cur, hv, h3, ?_, h5⟩⟩
    injection hv with hv
    injection hv with hv
    injection hv with hv
    subst hv
    have hR : RowAt w g cur e := h4
    exact hR.other v hne
def LFrow (tk : List Bool) (m : Nat) : Prop := tk.length = 256 ∧ ∀ b, b < 256 → inB tk b = (decide (b < m) && decide (b ≠ 10))
theorem LFrow.start : LFrow tk0 0 := ⟨by unfold tk0; rw [List.length_replicate], fun b hb => by rw [tk0_in]; simp⟩
theorem LFrow.step {tk : List Bool} {m : Nat} (h : LFrow tk m) (hm : m < 256) {y : Bool} (hy : y = decide (m ≠ 10)) : LFrow (tk.set m y) (m + 1) := ⟨by rw [List.length_set]; exact h.1, fun b hb => by
  rw [inB_put (by rw [h.1]; exact hm)]
  by_cases e : m = b
  · subst e
    rw [if_pos rfl, hy]; simp
  · rw [if_neg e, h.2 b hb]
    congr 1
    rw [Bool.eq_iff_iff]
    simp
    omega⟩
theorem LFrow.done {tk : List Bool} (h : LFrow tk 256) : RowIs tk notLF := ⟨h.1, fun b hb => by
  rw [h.2 b hb]
  unfold notLF
  rw [has_notS (S4.with_ok S4.zero_ok), has_with _ hb (by decide), has_zero]
  simp [hb]
  by_cases e : b = 10
  · subst e; rfl
  · have : ¬ (10 = b) := fun h => e h.symm
    simp [e, this]⟩

end Go.Proofs.YtkddighepgpccaaDoor
