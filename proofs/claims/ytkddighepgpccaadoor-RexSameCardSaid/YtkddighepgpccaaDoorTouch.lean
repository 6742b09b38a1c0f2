/-
  Worlds of which only some blocks, and new ones, are turned.
-/
import Derived.Test.YtkddighepgpccaaDoorRow
import Derived.Laws.AppendOwn
import Derived.Deep.RegionHeld
namespace Go.Proofs.YtkddighepgpccaaDoor
open Go Go.RowKit
set_option linter.unusedSimpArgs false
set_option linter.unusedVariables false

/-- Only blocks of which S holds, and new ones, are turned. -/
structure Touch (w w' : World) (S : Nat → Prop) : Prop where
  os : w'.os = w.os
  tape : w'.tape = w.tape
  output : w'.output = w.output
  size : w.heap.size ≤ w'.heap.size
  block : ∀ k, k < w.heap.size → ¬ S k → w'.heap[k]? = w.heap[k]?
theorem Touch.refl (w : World) (S : Nat → Prop) : Touch w w S := ⟨rfl, rfl, rfl, Nat.le_refl _, fun _ _ _ => rfl⟩
theorem Touch.trans {a b c : World} {S : Nat → Prop} (h : Touch a b S) (k : Touch b c S) : Touch a c S :=
  ⟨k.os.trans h.os, k.tape.trans h.tape, k.output.trans h.output, Nat.le_trans h.size k.size, fun i hi hs => (k.block i (Nat.lt_of_lt_of_le hi h.size) hs).trans (h.block i hi hs)⟩
theorem Touch.ofBelow {w w' : World} (S : Nat → Prop) (h : Below w.heap.size w w') : Touch w w' S := ⟨h.os, h.tape, h.output, h.size, fun k hk _ => h.block k hk⟩
theorem Touch.below {w w' : World} {S : Nat → Prop} (h : Touch w w' S) {n : Nat} (hn : n ≤ w.heap.size) (hs : ∀ k, k < n → ¬ S k) : Below n w w' := ⟨h.os, h.tape, h.output, h.size, fun k hk => h.block k (Nat.lt_of_lt_of_le hk hn) (hs k hk)⟩
theorem Touch.setCell {w w' : World} {S : Nat → Prop} (h : Touch w w' S) {a : Addr} (v : Value) (ha : S a.block) : Touch w (w'.setCell a v) S := by
  refine ⟨h.os, h.tape, h.output, by simpa [World.setCell] using h.size, fun k hk hs => ?_⟩
  have hne : a.block ≠ k := by rintro rfl; exact hs ha
  rw [← h.block k hk hs]
  simp [World.setCell, Array.getElem?_modify, hne]
theorem Touch.drew {w w' : World} {S : Nat → Prop} (h : Touch w w' S) : Touch w w'.drew S := ⟨h.os, h.tape, h.output, h.size, h.block⟩
theorem Touch.mono {w w' : World} {S S' : Nat → Prop} (h : Touch w w' S) (hs : ∀ k, S k → S' k) : Touch w w' S' := ⟨h.os, h.tape, h.output, h.size, fun k hk hn => h.block k hk fun x => hn (hs k x)⟩
theorem RowAt.touch {w w' : World} {S : Nat → Prop} {b : Nat} {c : Array Value} {t : TypeId} (h : RowAt w b c t) (ht : Touch w w' S) (hb : ¬ S b) : RowAt w' b c t := by
  have := ht.block b h.lt hb
  unfold RowAt at h ⊢
  rw [this]; exact h
theorem Touch.put {w w' : World} {S : Nat → Prop} (h : Touch w w' S) {a : Addr} (v : Value) (ha : S a.block ∨ w.heap.size ≤ a.block) : Touch w (w'.setCell a v) S := by
  refine ⟨h.os, h.tape, h.output, by simpa [World.setCell] using h.size, fun k hk hs => ?_⟩
  have hne : a.block ≠ k := by
    rintro rfl
    rcases ha with ha | ha
    · exact hs ha
    · omega
  rw [← h.block k hk hs]
  simp [World.setCell, Array.getElem?_modify, hne]
theorem Touch.alloc {w w' : World} {S : Nat → Prop} (h : Touch w w' S) (o : Obj) : Touch w (w'.alloc o) S :=
  h.trans (Touch.ofBelow S ((Below.refl _ _).alloc (Nat.le_refl _) o))
theorem Touch.drewN {w w' : World} {S : Nat → Prop} (h : Touch w w' S) (n : Nat) : Touch w (w'.drewN n) S := ⟨h.os, h.tape, h.output, h.size, h.block⟩
theorem Touch.grown {w w' w2 : World} {S : Nat → Prop} {row : Option Nat} (h : Touch w w' S) (hg : w'.grownBy w2 row) (hr : ∀ k, row = some k → S k ∨ w.heap.size ≤ k) : Touch w w2 S := by
  refine ⟨hg.os.trans h.os, hg.tape.trans h.tape, hg.output.trans h.output, Nat.le_trans h.size hg.size, fun k hk hs => ?_⟩
  rw [hg.block k (Nat.lt_of_lt_of_le hk h.size) ?_]
  · exact h.block k hk hs
  · intro e
    rcases hr k e.symm with h1 | h1
    · exact hs h1
    · omega
theorem Touch.cell {w w' : World} {S : Nat → Prop} (h : Touch w w' S) {b o : Nat} {v : Value} (hc : w.cell? ⟨b, o, none⟩ = some v) (hb : ¬ S b) : w'.cell? ⟨b, o, none⟩ = some v := by
  have hlt : b < w.heap.size := World.block_lt_of_cell? w ⟨b, o, none⟩ hc
  rw [← hc]
  simp [World.cell?, h.block b hlt hb]

end Go.Proofs.YtkddighepgpccaaDoor
