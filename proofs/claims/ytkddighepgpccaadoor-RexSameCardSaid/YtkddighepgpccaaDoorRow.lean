/-
  A block of cells, as one fact: what its cells hold, and how it stands behind stores, calls and new blocks.
-/
import Derived.Test.YtkddighepgpccaaDoorKit
namespace Go.Proofs.YtkddighepgpccaaDoor
open Go Go.RowKit

def RowAt (w : World) (b : Nat) (c : Array Value) (t : TypeId) : Prop := w.heap[b]? = some (.cells c t (0, 0))
theorem RowAt.lt {w : World} {b : Nat} {c : Array Value} {t : TypeId} (h : RowAt w b c t) : b < w.heap.size := (Array.getElem?_eq_some_iff.1 h).1
theorem RowAt.cell {w : World} {b : Nat} {c : Array Value} {t : TypeId} (h : RowAt w b c t) (i : Nat) : w.cell? ⟨b, i, none⟩ = c[i]? := by
  unfold RowAt at h
  simp [World.cell?, h]
theorem RowAt.cellIs {w : World} {b : Nat} {c : Array Value} {t : TypeId} (h : RowAt w b c t) (i : Nat) (v : Value) (hv : c[i]? = some v) : w.cell? ⟨b, i, none⟩ = some v := by rw [h.cell, hv]
theorem RowAt.frozen {w : World} {b : Nat} {c : Array Value} {t : TypeId} (h : RowAt w b c t) (i : Nat) : w.frozen? ⟨b, i, none⟩ = false := by
  unfold RowAt at h
  simp [World.frozen?, h]
theorem RowAt.set {w : World} {b : Nat} {c : Array Value} {t : TypeId} (h : RowAt w b c t) (i : Nat) (v : Value) : RowAt (w.setCell ⟨b, i, none⟩ v) b (c.setIfInBounds i v) t := by
  unfold RowAt at h ⊢
  simp [World.setCell, Array.getElem?_modify, h]
theorem RowAt.other {w : World} {b : Nat} {c : Array Value} {t : TypeId} (h : RowAt w b c t) {a : Addr} (v : Value) (hne : a.block ≠ b) : RowAt (w.setCell a v) b c t := by
  unfold RowAt at h ⊢
  simp [World.setCell, Array.getElem?_modify, h, hne]
theorem RowAt.later {w w' : World} {b n : Nat} {c : Array Value} {t : TypeId} (h : RowAt w b c t) (hb : Below n w w') (hlt : b < n) : RowAt w' b c t := by
  unfold RowAt at h ⊢
  rw [hb.block b hlt]; exact h
theorem RowAt.old {w : World} {b : Nat} {c : Array Value} {t : TypeId} (h : RowAt w b c t) (o : Obj) : RowAt (w.alloc o) b c t := h.later ((Below.refl _ _).alloc (Nat.le_refl _) o) h.lt
theorem RowAt.new (w : World) (c : Array Value) (t : TypeId) : RowAt (w.alloc (.cells c t)) w.heap.size c t := by
  unfold RowAt
  show (w.heap.push _)[w.heap.size]? = _
  simp
theorem RowAt.drew {w : World} {b : Nat} {c : Array Value} {t : TypeId} (h : RowAt w b c t) : RowAt w.drew b c t := h
theorem RowAt.drewN {w : World} {b : Nat} {c : Array Value} {t : TypeId} (h : RowAt w b c t) (q : Nat) : RowAt (w.drewN q) b c t := h

end Go.Proofs.YtkddighepgpccaaDoor
