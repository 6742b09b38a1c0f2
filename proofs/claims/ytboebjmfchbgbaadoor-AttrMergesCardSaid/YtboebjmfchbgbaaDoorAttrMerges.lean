/-
  The walk of the statement AttrMerges: any two attributes together. No condition.
-/
import Derived.Test.YtboebjmfchbgbaaDoorAttrParse
namespace Go.Proofs.YtboebjmfchbgbaaDoor
open Go.RowKit
set_option linter.unusedSimpArgs false
set_option linter.unusedVariables false

theorem hasB_or_left {f g : Int} (hf : (Lit.int .i64 f).wf = true) (hg : (Lit.int .i64 g).wf = true) : hasB (bits .or .i64 f g) f = true := by
  obtain ⟨x, rfl⟩ := int_bv hf
  obtain ⟨y, rfl⟩ := int_bv hg
  unfold hasB
  rw [or_bv, and_bv]
  have : (x ||| y) &&& x = x := by
    apply BitVec.eq_of_getLsbD_eq
    intro i hi
    rw [BitVec.getLsbD_and, BitVec.getLsbD_or]
    cases x.getLsbD i <;> simp
  rw [this]; simp
theorem hasB_or_right {f g : Int} (hf : (Lit.int .i64 f).wf = true) (hg : (Lit.int .i64 g).wf = true) : hasB (bits .or .i64 f g) g = true := by
  obtain ⟨x, rfl⟩ := int_bv hf
  obtain ⟨y, rfl⟩ := int_bv hg
  unfold hasB
  rw [or_bv, and_bv]
  have : (x ||| y) &&& y = y := by
    apply BitVec.eq_of_getLsbD_eq
    intro i hi
    rw [BitVec.getLsbD_and, BitVec.getLsbD_or]
    cases y.getLsbD i <;> simp
  rw [this]; simp
theorem or_self {f g : Int} (hf : (Lit.int .i64 f).wf = true) (hg : (Lit.int .i64 g).wf = true) : bits .or .i64 (bits .or .i64 f g) (bits .or .i64 f g) = bits .or .i64 f g := by
  obtain ⟨x, rfl⟩ := int_bv hf
  obtain ⟨y, rfl⟩ := int_bv hg
  rw [or_bv, or_bv]
  have : (x ||| y) ||| (x ||| y) = x ||| y := by
    apply BitVec.eq_of_getLsbD_eq
    intro i hi
    simp
  rw [this]
theorem firstS_self (p : ByteArray) : firstS p p = p := by unfold firstS; split <;> rfl

/-- Two boxes of attributes, one behind the other: their cells, behind a call. -/
theorem two_boxes {w w1 : World} {a b c d : Value} {t : TypeId} (hb : Below ((w.alloc (.cells #[a, b] t)).alloc (.cells #[c, d] t)).heap.size ((w.alloc (.cells #[a, b] t)).alloc (.cells #[c, d] t)) w1) :
    w1.cell? ⟨w.heap.size, 0, none⟩ = some a ∧ w1.cell? ⟨w.heap.size, 1, none⟩ = some b ∧ w1.cell? ⟨w.heap.size + 1, 0, none⟩ = some c ∧ w1.cell? ⟨w.heap.size + 1, 1, none⟩ = some d := by
  refine ⟨cell_later hb ?_, cell_later hb ?_, cell_later hb ?_, cell_later hb ?_⟩ <;> simp

theorem later6 {w wx : World} {a1 a2 a3 a4 a5 a6 : Addr} {v1 v2 v3 v4 v5 v6 : Value} (hb : Below w.heap.size w wx) (h : w.cell? a1 = some v1 ∧ w.cell? a2 = some v2 ∧ w.cell? a3 = some v3 ∧ w.cell? a4 = some v4 ∧ w.cell? a5 = some v5 ∧ w.cell? a6 = some v6) :
    wx.cell? a1 = some v1 ∧ wx.cell? a2 = some v2 ∧ wx.cell? a3 = some v3 ∧ wx.cell? a4 = some v4 ∧ wx.cell? a5 = some v5 ∧ wx.cell? a6 = some v6 :=
  ⟨cell_later hb h.1, cell_later hb h.2.1, cell_later hb h.2.2.1, cell_later hb h.2.2.2.1, cell_later hb h.2.2.2.2.1, cell_later hb h.2.2.2.2.2⟩
set_option maxHeartbeats 8000000 in
theorem attrMerges_walk (f : Int) (p : ByteArray) (g : Int) (q : ByteArray) (w : World) (hf : (Lit.int .i64 f).wf = true) (hp : p.size ≤ maxLen) (hg : (Lit.int .i64 g).wf = true) (hq : q.size ≤ maxLen) :
    Calls Tryd.prog 3 #[.agg #[.int .i64 f, .string p], .agg #[.int .i64 g, .string q]] w fun e w' => e = .returned (.bool true) ∧ Below w.heap.size w w' := by
  unfold maxLen at hp hq
  rcases (show 200 < p.size ∨ (p.size ≤ 200 ∧ 200 < q.size) ∨ (p.size ≤ 200 ∧ q.size ≤ 200) from by omega) with h | ⟨h, h'⟩ | ⟨h, h'⟩
  · go_enter Tryd.func3, Tryd.ntmps3
    go_wp2_with (go_at_call 9; refine (alive18_any _).mono ?_; rintro e w1 ⟨rfl, hb⟩; obtain ⟨hc1, hf1⟩ := old_cells hb)
    go_ret
    exact ⟨rfl, below_then (((Below.refl _ _).alloc (Nat.le_refl _) _).alloc (by simp) _) (by simp; omega) hb⟩
  · go_enter Tryd.func3, Tryd.ntmps3
    go_wp2_with (go_at_call 9; refine (alive18_any _).mono ?_; rintro e w1 ⟨rfl, hb⟩; obtain ⟨hc1, hf1⟩ := old_cells hb)
    go_ret
    exact ⟨rfl, below_then (((Below.refl _ _).alloc (Nat.le_refl _) _).alloc (by simp) _) (by simp; omega) hb⟩
  · obtain ⟨o, ho⟩ : ∃ o, bits .or .i64 f g = o := ⟨_, rfl⟩
    have b1 := hasB_or_left hf hg
    have b2 := hasB_or_right hf hg
    have b3 := or_self hf hg
    rw [ho] at b1 b2 b3
    obtain ⟨P, hP⟩ : ∃ P, firstS p q = P := ⟨_, rfl⟩
    have b4 := firstS_self P
    have hpe : p.toList = [] ∧ P = q ∨ p.toList.isEmpty = false ∧ P = p := by
      rw [← hP]; unfold firstS
      by_cases he : p.toList = []
      · exact .inl ⟨he, if_pos he⟩
      · exact .inr ⟨by simpa using he, if_neg he⟩
    clear hf hg
    rcases hpe with ⟨he, rfl⟩ | ⟨he, rfl⟩
    · have HP := Lib.hid hP
      clear hP
      go_enter Tryd.func3, Tryd.ntmps3
      go_wp2_with (first | (go_at_call 9; refine (alive18_any _).mono ?_; rintro e w1 ⟨rfl, hb⟩; have hbw : Below w.heap.size w w1 := below_then (((Below.refl _ _).alloc (Nat.le_refl _) _).alloc (by simp) _) (by simp; omega) hb; obtain ⟨c1, c2, c3, c4⟩ := two_boxes hb; clear hb) | (go_at_call 10; refine (Merge_any _ _ _ _ _).mono ?_; rw [ho, HP.out]; rintro e w2 ⟨rfl, hb2⟩; have d1 := cell_later hb2 c1; have d2 := cell_later hb2 c2; have d3 := cell_later hb2 c3; have d4 := cell_later hb2 c4; have hbw := (below_next hbw hb2).alloc (below_next hbw hb2).size (.cells #[.int .i64 o, .string P] 23); have e1 := cell_alloc d1 (.cells #[.int .i64 o, .string P] 23); have e2 := cell_alloc d2 (.cells #[.int .i64 o, .string P] 23); have e3 := cell_alloc d3 (.cells #[.int .i64 o, .string P] 23); have e4 := cell_alloc d4 (.cells #[.int .i64 o, .string P] 23); clear c1 c2 c3 c4))
      have m0 : (w2.alloc (.cells #[.int .i64 o, .string P] 23)).cell? ⟨w2.heap.size, 0, none⟩ = some (.int .i64 o) := by simp
      have m1 : (w2.alloc (.cells #[.int .i64 o, .string P] 23)).cell? ⟨w2.heap.size, 1, none⟩ = some (.string P) := by simp
      clear d1 d2 d3 d4 hb2
      have hBs := hbw.size
      generalize w2.alloc (.cells #[.int .i64 o, .string P] 23) = W at *
      generalize w2.heap.size = M at *
      generalize hBB : w.heap.size = B at *
      have HBB := Lib.hid hBB
      clear hBB
      go_region_held3 (fun w' => w'.cell? ⟨B, 0, none⟩ = some (.int .i64 f) ∧ w'.cell? ⟨B, 1, none⟩ = some (.string p) ∧ w'.cell? ⟨B + 1, 0, none⟩ = some (.int .i64 g) ∧ w'.cell? ⟨B + 1, 1, none⟩ = some (.string P) ∧ w'.cell? ⟨M, 0, none⟩ = some (.int .i64 o) ∧ w'.cell? ⟨M, 1, none⟩ = some (.string P))
        (first | exact later6 hb (by assumption) | exact ⟨e1, e2, e3, e4, m0, m1⟩ | go_keep)
        (first | (go_at_call 11; refine (Has_any _ _ _ _).mono ?_; rintro e w' ⟨rfl, hb⟩; first | (have hbw := below_then hbw hBs hb; have hBs := Nat.le_trans hBs hb.size) | (have hbw := below_then hbw.drew hBs hb; have hBs := Nat.le_trans hBs hb.size)) | (go_at_call 10; refine (Merge_any _ _ _ _ _).mono ?_; rintro e w' ⟨rfl, hb⟩; first | (have hbw := below_then hbw hBs hb; have hBs := Nat.le_trans hBs hb.size) | (have hbw := below_then hbw.drew hBs hb; have hBs := Nat.le_trans hBs hb.size)))
      go_wp2
      go_ret
      exact ⟨rfl, by rw [HBB.out]; exact hbw⟩
    · have HP := Lib.hid hP
      clear hP
      go_enter Tryd.func3, Tryd.ntmps3
      go_wp2_with (first | (go_at_call 9; refine (alive18_any _).mono ?_; rintro e w1 ⟨rfl, hb⟩; have hbw : Below w.heap.size w w1 := below_then (((Below.refl _ _).alloc (Nat.le_refl _) _).alloc (by simp) _) (by simp; omega) hb; obtain ⟨c1, c2, c3, c4⟩ := two_boxes hb; clear hb) | (go_at_call 10; refine (Merge_any _ _ _ _ _).mono ?_; rw [ho, HP.out]; rintro e w2 ⟨rfl, hb2⟩; have d1 := cell_later hb2 c1; have d2 := cell_later hb2 c2; have d3 := cell_later hb2 c3; have d4 := cell_later hb2 c4; have hbw := (below_next hbw hb2).alloc (below_next hbw hb2).size (.cells #[.int .i64 o, .string P] 23); have e1 := cell_alloc d1 (.cells #[.int .i64 o, .string P] 23); have e2 := cell_alloc d2 (.cells #[.int .i64 o, .string P] 23); have e3 := cell_alloc d3 (.cells #[.int .i64 o, .string P] 23); have e4 := cell_alloc d4 (.cells #[.int .i64 o, .string P] 23); clear c1 c2 c3 c4))
      have m0 : (w2.alloc (.cells #[.int .i64 o, .string P] 23)).cell? ⟨w2.heap.size, 0, none⟩ = some (.int .i64 o) := by simp
      have m1 : (w2.alloc (.cells #[.int .i64 o, .string P] 23)).cell? ⟨w2.heap.size, 1, none⟩ = some (.string P) := by simp
      clear d1 d2 d3 d4 hb2
      have hBs := hbw.size
      generalize w2.alloc (.cells #[.int .i64 o, .string P] 23) = W at *
      generalize w2.heap.size = M at *
      generalize hBB : w.heap.size = B at *
      have HBB := Lib.hid hBB
      clear hBB
      go_region_held3 (fun w' => w'.cell? ⟨B, 0, none⟩ = some (.int .i64 f) ∧ w'.cell? ⟨B, 1, none⟩ = some (.string P) ∧ w'.cell? ⟨B + 1, 0, none⟩ = some (.int .i64 g) ∧ w'.cell? ⟨B + 1, 1, none⟩ = some (.string q) ∧ w'.cell? ⟨M, 0, none⟩ = some (.int .i64 o) ∧ w'.cell? ⟨M, 1, none⟩ = some (.string P))
        (first | exact later6 hb (by assumption) | exact ⟨e1, e2, e3, e4, m0, m1⟩ | go_keep)
        (first | (go_at_call 11; refine (Has_any _ _ _ _).mono ?_; rintro e w' ⟨rfl, hb⟩; first | (have hbw := below_then hbw hBs hb; have hBs := Nat.le_trans hBs hb.size) | (have hbw := below_then hbw.drew hBs hb; have hBs := Nat.le_trans hBs hb.size)) | (go_at_call 10; refine (Merge_any _ _ _ _ _).mono ?_; rintro e w' ⟨rfl, hb⟩; first | (have hbw := below_then hbw hBs hb; have hBs := Nat.le_trans hBs hb.size) | (have hbw := below_then hbw.drew hBs hb; have hBs := Nat.le_trans hBs hb.size)))
      go_wp2
      go_ret
      exact ⟨rfl, by rw [HBB.out]; exact hbw⟩

end Go.Proofs.YtboebjmfchbgbaaDoor
