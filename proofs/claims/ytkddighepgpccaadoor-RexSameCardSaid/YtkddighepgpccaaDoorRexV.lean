/-
  The walk of the law's alive (layer 7).
-/
import Derived.Test.YtkddighepgpccaaDoorRexL
namespace Go.Proofs.YtkddighepgpccaaDoor
open Go Go.RowKit
set_option linter.unusedSimpArgs false
set_option linter.unusedVariables false

def abcT : T := .mk 3 0 S4.zero [leaf 1 (single 97), .mk 2 0 S4.zero [leaf 1 (single 98), leaf 1 (single 99)]]
theorem prs_abc : prs ⟨#[97, 124, 98, 99]⟩ = (0, abcT) := by
  have hr : rem ⟨#[97, 124, 98, 99]⟩ 0 = [97, 124, 98, 99] := rfl
  unfold prs
  rw [if_neg (by decide), hr, Run_set (r' := [124, 98, 99]) (S := single 97) (by rfl), Run_bar (r' := [98, 99]) (by rfl), Run_set (r' := [99]) (S := single 98) (by rfl), Run_set (r' := []) (S := single 99) (by rfl), Run_nil]
  rfl
/-- A node with two parts. -/
theorem TreeAt.two {ok : Nat → Prop} {w : World} {k i : Nat} {s : S4} {t u : T} {v : Array Value} (h : TreeAt ok w (.mk k i s [t, u]) v) :
    ∃ (g cc : Nat) (ct cu : Array Value), v = nodeC k i s (.slice (some ⟨g, 0, none⟩) 2 cc) ∧ g < w.heap.size ∧ TreeAt ok w t ct ∧ TreeAt ok w u cu ∧
      (∀ j x, ct[j]? = some x → w.cell? ⟨g, 0 + j, none⟩ = some x) ∧ ∀ j x, cu[j]? = some x → w.cell? ⟨g, 7 + j, none⟩ = some x := by
  unfold TreeAt at h
  obtain ⟨_, A, c, hv, h1, _, h2⟩ := h
  cases A with
  | none => exact absurd (h1 rfl).1 (by simp)
  | some a =>
    obtain ⟨e1, _, e3, e4⟩ := h2 a rfl
    obtain ⟨ct, ht, hct⟩ := KidsAt.at_ _ 0 e4 0 t rfl
    obtain ⟨cu, hu, hcu⟩ := KidsAt.at_ _ 0 e4 1 u rfl
    exact ⟨a.block, c, ct, cu, by rw [hv, ← e1]; rfl, e3, ht, hu, hct, hcu⟩

set_option maxHeartbeats 8000000 in
set_option maxRecDepth 100000 in
theorem alive07_any (aL aR aF : Addr) (w : World) (hE : Errs3 w aL aR aF) :
    Calls Tryd.prog 17 #[] w fun e w' => e = .returned (.bool true) ∧ Below w.heap.size w w' := by
  have HP := Lib.hid (Parse_any aL aR aF ⟨#[97, 124, 98, 99]⟩ w (by decide) hE)
  go_enter Tryd.func17, Tryd.ntmps17
  go_wp2_with fail
  refine HP.out.mono ?_
  rintro e w1 ⟨cs, he, ht, hb⟩
  rw [prs_abc] at he ht
  have he : e = .returned (.tuple #[.agg cs, .nilIface]) := he
  subst he
  try dsimp only
  obtain ⟨g, cc, ct, cu, rfl, hg, ht1, ht2, hc1, hc2⟩ := TreeAt.two ht
  obtain ⟨k1, i1, S1, ks1, A1, c1, hT1, rfl, hS1⟩ := ht1.form
  obtain ⟨k2, i2, S2, ks2, A2, c2, hT2, rfl, hS2⟩ := ht2.form
  have e1 : k1 = 1 := by unfold leaf at hT1; injection hT1 with e; exact e.symm
  have e2 : k2 = 2 := by injection hT2 with e; exact e.symm
  subst e1 e2
  obtain ⟨a0, -⟩ := node_cells hc1
  obtain ⟨b0, -⟩ := node_cells hc2
  simp only [Nat.add_zero] at a0 b0
  have a0' : w1.cell? ⟨g, 0, none⟩ = some (.int .i64 1) := a0
  have b0' : w1.cell? ⟨g, 7, none⟩ = some (.int .i64 2) := b0
  have a0'' := fun o => cell_alloc a0' o
  have b0'' := fun o => cell_alloc b0' o
  clear hT1 hT2 ht1 ht2 ht hc1 hc2 a0 b0
  unfold nodeC
  go_wp2_with fail
  go_ret
  exact ⟨rfl, hb.alloc hb.size _⟩

end Go.Proofs.YtkddighepgpccaaDoor
