/-
  An append of one node to a row of the call's own, as one law.
-/
import Derived.Test.YtkddighepgpccaaDoorRexI
namespace Go.Proofs.YtkddighepgpccaaDoor
open Go Go.RowKit
set_option linter.unusedSimpArgs false
set_option linter.unusedVariables false

def zeroNode : Array Value := #[.int .i64 0, .int .i64 0, .int .u64 0, .int .u64 0, .int .u64 0, .int .u64 0, .slice none 0 0]
theorem Tryd.info_rexNode : (Tryd.prog.info? 41).map (fun i => (i.zero, i.size, i.bytes)) = some (some (.agg zeroNode), 7, 72) := by kernel_rfl
theorem Tryd.info_refNode : (Tryd.prog.info? 46).map (fun i => (i.zero, i.size, i.bytes)) = some (some (.agg zeroNode), 7, 72) := by kernel_rfl
theorem wpList_append_node {P : Program} {ops : Array Oper} {rest : List Oper} {o : Oper} {a : Act} {Q : Exit → Act → World → Prop} {w : World} (hgd : o.guard = none) (s x : Operand) (st : TypeId)
    (ho : o.op = .call { callee := .builtin .append, args := #[s, x], argTypes := #[st, st] }) (e : TypeId) (hst : P.underlying st = some (.slice e)) (hi : (P.info? e).map (fun i => (i.zero, i.size, i.bytes)) = some (some (.agg zeroNode), 7, 72))
    (B : Nat) (v : Value) (ts : List T) (hs : a.eval s = v) (hrow : NRow e B w v ts) (t : T) (cs : Array Value) (X : Nat) (hx : a.eval x = .slice (some ⟨X, 0, none⟩) 1 1) (hX : RowAt w X cs e)
    (ht : TreeAt (fun b => B ≤ b ∧ some b ≠ v.ownBlock) w t cs) (hlen : ts.length ≤ 1000) (hB : B ≤ w.heap.size)
    (h : ∀ v' w', NRow e B w' v' (ts ++ [t]) → w.grownBy w' v.ownBlock → wpList P ops Q rest (a.put o.dst v') w') : wpList P ops Q (o :: rest) a w := by
  obtain ⟨xs, hown, hnodes⟩ := hrow
  obtain ⟨i0, hi1, hz0, hz1, hz2⟩ := info_parts hi
  refine wpList_append_lies (P := P) w hgd s x st ho B e i0 (.agg zeroNode) 7 72 hst hi1 hz0 hz1 hz2 rfl (by decide) v ts.length xs hs hown ⟨X, 0, none⟩ 1 1 cs.toList hx (by simp [ht.size]) (World.news_of_block hX) ht.oneCell (by decide) (by unfold maxLen; omega) (by omega) hB w.heap.size rfl ?_
  intro g cap w' hown' hgrow hat hlt
  have := NRow.push (H := w.heap.size) hB hnodes ht hown' hgrow hat rfl
  have e1 : (ts ++ [t]).length = ts.length + 1 := by simp
  rw [e1] at this
  exact h _ w' this hgrow
theorem NRow.own_ge {e : TypeId} {B : Nat} {w : World} {v : Value} {ts : List T} (h : NRow e B w v ts) (k : Nat) (hk : v.ownBlock = some k) : B ≤ k ∧ k < w.heap.size := by
  obtain ⟨xs, hown, _⟩ := h
  exact hown.lt k hk
theorem RowAt.grown {w w' : World} {row : Option Nat} {b : Nat} {c : Array Value} {t : TypeId} (h : RowAt w b c t) (hg : w.grownBy w' row) (hne : some b ≠ row) : RowAt w' b c t := by
  have := hg.block b h.lt hne
  unfold RowAt at h ⊢
  rw [this]; exact h

end Go.Proofs.YtkddighepgpccaaDoor
