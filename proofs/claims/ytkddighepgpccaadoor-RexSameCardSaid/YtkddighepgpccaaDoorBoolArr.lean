/-
  Arrays of 256 bools: how they are stored and read as a whole; the reference's set of one byte.
-/
import Derived.Test.YtkddighepgpccaaDoorRexCls
import Derived.Test.YtkddighepgpccaaDoorRexN
import Derived.Deep.MidRow
import Derived.Deep.DeepCutAuto
namespace Go.Proofs.YtkddighepgpccaaDoor
open Go Go.RowKit
set_option linter.unusedSimpArgs false
set_option linter.unusedVariables false

theorem RowAt.setCells_same {b : Nat} {C : Array Value} {t : TypeId} : ∀ (cs : List Value) (o : Nat) {w : World}, (∀ j v, cs[j]? = some v → C[o + j]? = some v) → RowAt w b C t → RowAt (w.setCells b o cs) b C t
  | [], o, w, h, hR => hR
  | v :: r, o, w, h, hR => by
    unfold World.setCells
    refine RowAt.setCells_same r (o + 1) (fun j u hu => ?_) ?_
    · have := h (j + 1) u (by simpa using hu)
      rw [show o + 1 + j = o + (j + 1) by omega]; exact this
    · have h0 := h 0 v rfl
      have h1 := hR.set o v
      have h2 : C.setIfInBounds o v = C := by
        apply Array.ext_getElem?
        intro i
        rw [Array.getElem?_setIfInBounds]
        split
        · rename_i e
          subst e
          split
          · rw [Nat.add_zero] at h0; exact h0.symm
          · rename_i hh; rw [Array.getElem?_eq_none (by omega)]
        · rfl
      rw [h2] at h1
      exact h1
theorem RowAt.setCells_other {b b' : Nat} {C : Array Value} {t : TypeId} (hne : b' ≠ b) : ∀ (cs : List Value) (o : Nat) {w : World}, RowAt w b C t → RowAt (w.setCells b' o cs) b C t
  | [], o, w, hR => hR
  | v :: r, o, w, hR => by
    unfold World.setCells
    exact RowAt.setCells_other hne r (o + 1) (hR.other v hne)
theorem below_setCells {n b : Nat} {w0 : World} (hb : n ≤ b) : ∀ (cs : List Value) (o : Nat) {w : World}, Below n w0 w → Below n w0 (w.setCells b o cs)
  | [], o, w, h => h
  | v :: r, o, w, h => by
    unfold World.setCells
    exact below_setCells hb r (o + 1) (h.setCell hb v)
theorem RowAt.there {w : World} {b : Nat} {C : Array Value} {t : TypeId} (h : RowAt w b C t) : w.there b 0 C.size := by
  intro j hj
  rw [Nat.zero_add]
  refine ⟨?_, h.frozen j⟩
  rw [h.cell j, Array.getElem?_eq_getElem hj]; rfl
theorem RowAt.range {w : World} {b : Nat} {tk : List Bool} {t : TypeId} (h : RowAt w b (boolRow tk) t) : w.rangeAt b 0 (tk.map Value.bool) := by
  intro j v hv
  rw [Nat.zero_add]
  refine h.cellIs j v ?_
  unfold boolRow
  rw [List.getElem?_toArray]; exact hv
theorem range_later {w w' : World} {b o : Nat} {cs : List Value} (h : w.rangeAt b o cs) (hb : Below w.heap.size w w') : w'.rangeAt b o cs := fun j v hv => cell_later hb (h j v hv)
def tk0 : List Bool := List.replicate 256 false
theorem Tryd.zero256 (w : World) : (zeroValue 96).run Tryd.prog w = .ok (.agg (boolRow tk0)) w := by kernel_rfl
theorem Tryd.size256 : (Tryd.prog.info? 96).map (·.size) = some 256 := by kernel_rfl
theorem tk0_size : (boolRow tk0).size = 256 := by decide +kernel
theorem bools_one (tk : List Bool) : ∀ v ∈ tk.map Value.bool, v.oneCell' = true := by
  intro v hv
  simp only [List.mem_map] at hv
  obtain ⟨b, _, rfl⟩ := hv
  rfl
theorem tk0_one : (boolRow tk0).all (·.oneCell') = true := all_oneCell_toArray (bools_one tk0)
theorem tk0_in (b : Nat) : inB tk0 b = false := by
  unfold inB tk0
  rw [List.getD_eq_getElem?_getD, List.getElem?_replicate]
  split <;> rfl
theorem inB_set {tk : List Bool} {m : Nat} (hm : m < tk.length) (b : Nat) : inB (tk.set m true) b = (inB tk b || decide (m = b)) := by
  unfold inB
  rw [List.getD_eq_getElem?_getD, List.getD_eq_getElem?_getD]
  by_cases h : m = b
  · subst h
    rw [List.getElem?_set_self hm]; simp
  · rw [List.getElem?_set_ne h]; simp [h]

theorem RefOfX (tk : List Bool) (S : S4) (hS : S.ok) (ht : tk.length = 256) (h : ∀ b, b < 256 → inB tk b = S.has b) (w : World) :
    Calls Tryd.prog 62 #[.agg (boolRow tk)] w fun e w' => e = .returned (.agg #[.int .u64 (S.a0 : Int), .int .u64 (S.a1 : Int), .int .u64 (S.a2 : Int), .int .u64 (S.a3 : Int)]) ∧ Below w.heap.size w w' := by
  refine (RefOf_any w tk ht).mono ?_
  rintro e w' ⟨s, rfl, hI, hb⟩
  have : s.1 = S := set_ext s.2 hS (fun b hb => by rw [hI.done hb, h b hb])
  refine ⟨?_, hb⟩
  rw [← this]
  rfl
theorem single_has (c : UInt8) (b : Nat) (hb : b < 256) : (single c).has b = decide (c.toNat = b) := by
  have hc := c.toNat_lt
  unfold single
  rw [has_with _ hb (by omega), has_zero]
  simp

set_option maxHeartbeats 4000000 in
set_option maxRecDepth 100000 in
theorem RefSingle_any (c : UInt8) (w : World) :
    Calls Tryd.prog 60 #[.int .u8 (c.toNat : Int)] w fun e w' => e = .returned (.agg #[.int .u64 ((single c).a0 : Int), .int .u64 ((single c).a1 : Int), .int .u64 ((single c).a2 : Int), .int .u64 ((single c).a3 : Int)]) ∧ Below w.heap.size w w' := by
  obtain ⟨Z, hZ⟩ : ∃ Z, boolRow tk0 = Z := ⟨_, rfl⟩
  have zz := Tryd.zero256
  have zs : (Tryd.prog.info? 96).map (·.size) = some Z.size := by rw [Tryd.size256, ← hZ, tk0_size]
  have zo : Z.all (·.oneCell') = true := by rw [← hZ]; exact tk0_one
  rw [hZ] at zz
  have ZS := Lib.hid zs
  have ZO := Lib.hid zo
  have HZ := Lib.hid hZ
  have hc := c.toNat_lt
  clear zs zo hZ
  obtain ⟨U, hU⟩ : ∃ U, w.alloc (.cells #[.int .u64 0, .int .u64 0, .int .u64 0, .int .u64 0] 37) = U := ⟨_, rfl⟩
  have u1 : RowAt U w.heap.size #[.int .u64 0, .int .u64 0, .int .u64 0, .int .u64 0] 37 := by rw [← hU]; exact RowAt.new _ _ _
  have u2 : Below w.heap.size w U := by rw [← hU]; exact (Below.refl _ _).alloc (Nat.le_refl _) _
  have hUs : U.heap.size = w.heap.size + 1 := by rw [← hU]; simp
  have rX0 : RowAt (U.alloc (.cells Z 96)) (w.heap.size + 1) Z 96 := by rw [← hUs]; exact RowAt.new _ _ _
  have rR0 := u1.old (.cells Z 96)
  have hB0 := u2.alloc (by omega) (.cells Z 96)
  have HU := Lib.hid hU
  clear hU u1 u2 hUs
  go_enter Tryd.func60, Tryd.ntmps60
  go_upto_region 2 with (have hU := HU.out; simp only [hU]; refine wpList_store_mid rfl 96 (.tmp 3) (.tmp 4) rfl (w.heap.size + 1) 0 Z rfl rfl rX0.there ZS.out ZO.out ?_; have rX1 := rX0.setCells_same Z.toList 0 (by intro j v hv; rw [Nat.zero_add, ← Array.getElem?_toList]; exact hv); have rR1 := rR0.setCells_other (b' := w.heap.size + 1) (by omega) Z.toList 0; have hB1 := below_setCells (b := w.heap.size + 1) (by omega) Z.toList 0 hB0; generalize World.setCells _ (w.heap.size + 1) 0 Z.toList = V1 at rX1 rR1 hB1 ⊢)
  simp only [Act.put]
  have cI := rX1.cellIs c.toNat (.bool false) (by rw [← HZ.out]; unfold boolRow tk0; rw [List.getElem?_toArray, List.getElem?_map, List.getElem?_replicate]; rw [if_pos (by omega)]; rfl)
  have cF := rX1.frozen c.toNat
  have cL := rX1.lt
  have rX2 := rX1.set c.toNat (.bool true)
  rw [← HZ.out, boolRow_set] at rX2
  have rR2 := rR1.other (a := ⟨w.heap.size + 1, c.toNat, none⟩) (.bool true) (by show w.heap.size + 1 ≠ w.heap.size; omega)
  have hB2 := hB1.setCell (p := ⟨w.heap.size + 1, c.toNat, none⟩) (by show w.heap.size ≤ w.heap.size + 1; omega) (.bool true)
  go_upto_region 3 with (fail)
  generalize V1.setCell { block := w.heap.size + 1, off := c.toNat } (Value.bool true) = V2 at rX2 rR2 hB2 ⊢
  have RG := Lib.hid rX2.range
  have HO := RefOfX (tk0.set c.toNat true) (single c) (single_ok c) (by rw [List.length_set]; unfold tk0; rw [List.length_replicate]) (fun b hb => by rw [inB_set (by unfold tk0; rw [List.length_replicate]; omega), tk0_in, single_has c b hb, Bool.false_or]) V2
  have sz : (Tryd.prog.info? 96).map (·.size) = some (List.map Value.bool (tk0.set c.toNat true)).length := by rw [Tryd.size256, List.length_map, List.length_set]; unfold tk0; rw [List.length_replicate]
  have SZ := Lib.hid sz
  unfold boolRow at HO
  obtain ⟨L, hL⟩ : ∃ L, List.map Value.bool (tk0.set c.toNat true) = L := ⟨_, rfl⟩
  rw [hL] at RG SZ HO
  have hH := Lib.hid HO
  have hB3 := hB2
  clear cI cF cL sz hL HO rX2 rX1 rR1 hB1 rX0 rR0 hB0
  go_wp2_with (first | (refine wpList_load_mid rfl 96 (.tmp 3) rfl (w.heap.size + 1) 0 rfl _ _ RG.out rfl rfl SZ.out ?_) | fail)
  refine hH.out.mono ?_
  rintro e w1 ⟨rfl, hb1⟩
  try dsimp only
  have rR3 := rR2.later hb1 rR2.lt
  have hB4 := hB3.trans (hb1.mono hB3.size)
  have hLt := rR3.lt
  have n0 := rR3.cellIs 0 _ rfl
  have n1 := rR3.cellIs 1 _ rfl
  have n2 := rR3.cellIs 2 _ rfl
  have n3 := rR3.cellIs 3 _ rfl
  have m0 := rR3.frozen 0
  have m1 := rR3.frozen 1
  have m2 := rR3.frozen 2
  have m3 := rR3.frozen 3
  have hR3 := Lib.hid rR3
  have hB5 := Lib.hid hB4
  clear rR3 hB4 hB2 hB3 rR2 hb1
  go_wp2_with fail
  have hF := RowAt.four hR3.out (.int .u64 ((single c).a0 : Int)) (.int .u64 ((single c).a1 : Int)) (.int .u64 ((single c).a2 : Int)) (.int .u64 ((single c).a3 : Int))
  have hB6 := (((hB5.out.setCell (p := ⟨w.heap.size, 0, none⟩) (Nat.le_refl _) (.int .u64 ((single c).a0 : Int))).setCell (p := ⟨w.heap.size, 1, none⟩) (Nat.le_refl _) (.int .u64 ((single c).a1 : Int))).setCell (p := ⟨w.heap.size, 2, none⟩) (Nat.le_refl _) (.int .u64 ((single c).a2 : Int))).setCell (p := ⟨w.heap.size, 3, none⟩) (Nat.le_refl _) (.int .u64 ((single c).a3 : Int))
  clear n0 n1 n2 n3 m0 m1 m2 m3 hLt
  generalize World.setCell (World.setCell (World.setCell (World.setCell w1 ⟨w.heap.size, 0, none⟩ (.int .u64 ((single c).a0 : Int))) ⟨w.heap.size, 1, none⟩ (.int .u64 ((single c).a1 : Int))) ⟨w.heap.size, 2, none⟩ (.int .u64 ((single c).a2 : Int))) ⟨w.heap.size, 3, none⟩ (.int .u64 ((single c).a3 : Int)) = V4 at hF hB6 ⊢
  have n0 := hF.cellIs 0 _ rfl
  have n1 := hF.cellIs 1 _ rfl
  have n2 := hF.cellIs 2 _ rfl
  have n3 := hF.cellIs 3 _ rfl
  refine bodyPost_ret (v := .agg #[.int .u64 ((single c).a0 : Int), .int .u64 ((single c).a1 : Int), .int .u64 ((single c).a2 : Int), .int .u64 ((single c).a3 : Int)]) (by simp [results, Tryd.results60, go_sem, n0, n1, n2, n3]) rfl ?_
  exact ⟨rfl, hB6⟩

end Go.Proofs.YtkddighepgpccaaDoor
