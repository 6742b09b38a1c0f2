/-
  The walk of the statement AttrTexts: which attributes are right, and their letters. No condition.
-/
import Derived.Test.YtboebjmfchbgbaaDoorRefAttr
namespace Go.Proofs.YtboebjmfchbgbaaDoor
open Go.RowKit
set_option linter.unusedSimpArgs false
set_option linter.unusedVariables false

def isLetter (c : UInt8) : Bool := !(c == 80) && !decide (Lib.indexByte letters c < 0)
def orAll (ls : List UInt8) (g : Int) : Int := ls.foldl (fun g c => bits .or .i64 g (2 ^ (Lib.indexByte letters c).toNat)) g
theorem parse_letters (ls l : List UInt8) : ∀ g : Int, ls.all isLetter = true → parseL (ls ++ l) g = parseL l (orAll ls g) := by
  induction ls with
  | nil => intro g _; rfl
  | cons c ls ih =>
    intro g h
    rw [List.all_cons, Bool.and_eq_true] at h
    obtain ⟨h1, h2⟩ := h
    unfold isLetter at h1
    simp only [Bool.and_eq_true, Bool.not_eq_true', beq_eq_false_iff_ne, decide_eq_false_iff_not] at h1
    rw [List.cons_append]
    conv => lhs; unfold parseL
    rw [if_neg h1.1, if_neg h1.2, ih _ h2]
    rfl
theorem letters_back : ∀ f : Nat, f < 256 → (lettK (f : Int) 8).all isLetter = true ∧ orAll (lettK (f : Int) 8) 0 = (f : Int) := by
  decide +kernel
theorem parse_text {f : Int} {p : ByteArray} (hr : rightB f p = true) : parseL (textL f p.data.toList) 0 = .ok f p.data.toList := by
  obtain ⟨h0, h1, h2⟩ := right_bounds hr
  obtain ⟨m, rfl⟩ := Int.eq_ofNat_of_zero_le h0
  obtain ⟨g1, g2⟩ := letters_back m (by omega)
  unfold textL
  rw [parse_letters _ _ _ g1, g2]
  by_cases hp : p.data.toList = []
  · rw [if_pos hp, hp]; rfl
  · rw [if_neg hp]
    unfold parseL
    rw [if_pos rfl, if_neg hp, if_neg (by rw [← ba_size]; omega)]
theorem text_size {f : Int} {p : ByteArray} (hr : rightB f p = true) : (str (textL f p.data.toList)).size ≤ 1000 := by
  obtain ⟨h0, h1, h2⟩ := right_bounds hr
  rw [str_size]
  unfold textL
  have := lettK_le f 8
  rw [List.length_append]
  split
  · simp; omega
  · rw [List.length_cons, ← ba_size]; omega

set_option maxHeartbeats 8000000 in
set_option maxRecDepth 100000 in
theorem attrTexts_walk (f : Int) (p : ByteArray) (g : Int) (w : World) (hf : (Lit.int .i64 f).wf = true) (hp : p.size ≤ maxLen) (hg : (Lit.int .i64 g).wf = true) :
    Calls Tryd.prog 4 #[.agg #[.int .i64 f, .string p], .int .i64 g] w fun e w' => e = .returned (.bool true) ∧ Below w.heap.size w w' := by
  unfold maxLen at hp
  clear hf hg
  by_cases h2 : 200 < p.size
  · go_enter Tryd.func4, Tryd.ntmps4
    go_wp2_with (go_at_call 9; refine (alive18_any _).mono ?_; rintro e w1 ⟨rfl, hb⟩; obtain ⟨hc1, hf1⟩ := old_cells hb)
    go_ret
    exact ⟨rfl, below_then ((Below.refl _ _).alloc (Nat.le_refl _) _) (by simp) hb⟩
  · obtain ⟨b, hb⟩ : ∃ b, hasB f g = b := ⟨_, rfl⟩
    have hb' : (bits .and .i64 f g == g) = b := hb
    rcases (show (rightB f p = false ∧ (f < 0 ∨ (0 ≤ f ∧ 256 ≤ f) ∨ (0 ≤ f ∧ f < 256 ∧ 120 < p.size))) ∨ (rightB f p = true ∧ 0 ≤ f ∧ f < 256 ∧ p.size ≤ 120) from by
      unfold rightB
      by_cases a1 : 0 ≤ f <;> by_cases a2 : f ≤ 255 <;> by_cases a3 : p.size ≤ 120 <;> simp [a1, a2, a3] <;> omega) with ⟨hr, h⟩ | ⟨hr, h⟩
    · have HRB := Lib.hid hr
      clear hr
      rcases h with h | ⟨h, h'⟩ | ⟨h, h', h''⟩
      · have d1 : decide (0 ≤ f) = false := decide_eq_false (by omega)
        go_enter Tryd.func4, Tryd.ntmps4
        go_wp2_with (go_at_call 9; refine (alive18_any _).mono ?_; rintro e w1 ⟨rfl, hbx⟩; have hbw : Below w.heap.size w w1 := below_then ((Below.refl _ _).alloc (Nat.le_refl _) _) (by simp) hbx; have hsw := hbw.size; have c0 : w1.cell? ⟨w.heap.size, 0, none⟩ = some (.int .i64 f) := (hbx.cell (p := ⟨w.heap.size, 0, none⟩) (by simp)).trans (by simp); have c1 : w1.cell? ⟨w.heap.size, 1, none⟩ = some (.string p) := (hbx.cell (p := ⟨w.heap.size, 1, none⟩) (by simp)).trans (by simp); clear hbx)
        go_region_held3 (fun w' => w'.cell? ⟨w.heap.size, 0, none⟩ = some (.int .i64 f) ∧ w'.cell? ⟨w.heap.size, 1, none⟩ = some (.string p))
          (first | exact later2 hbx (by assumption) | go_keep)
          (first | (go_at_call 12; refine (Right_any _ _ _ (by unfold maxLen; omega)).mono ?_; rw [HRB.out]; rintro e w' ⟨rfl, hbx⟩; (first | (have hbw := below_then hbw hsw hbx; have hsw := Nat.le_trans hsw hbx.size) | (have hbw := below_then hbw.drew hsw hbx; have hsw := Nat.le_trans hsw hbx.size)); have c0 := cell_later hbx c0; have c1 := cell_later hbx c1) | (go_at_call 11; refine (Has_any _ _ _ _).mono ?_; rw [hb]; rintro e w' ⟨rfl, hbx⟩; (first | (have hbw := below_then hbw hsw hbx; have hsw := Nat.le_trans hsw hbx.size) | (have hbw := below_then hbw.drew hsw hbx; have hsw := Nat.le_trans hsw hbx.size)); have c0 := cell_later hbx c0; have c1 := cell_later hbx c1))
        go_wp2_with (go_at_call 13; refine (Text_no _ _ _ (by unfold maxLen; omega) HRB.out).mono ?_; rintro e w2 ⟨rfl, hb2⟩; have hbw := below_then hbw hsw hb2)
        go_ret
        exact ⟨rfl, hbw⟩
      · have d1 : decide (0 ≤ f) = true := decide_eq_true h
        have d2 : decide (f < 256) = false := decide_eq_false (by omega)
        go_enter Tryd.func4, Tryd.ntmps4
        go_wp2_with (go_at_call 9; refine (alive18_any _).mono ?_; rintro e w1 ⟨rfl, hbx⟩; have hbw : Below w.heap.size w w1 := below_then ((Below.refl _ _).alloc (Nat.le_refl _) _) (by simp) hbx; have hsw := hbw.size; have c0 : w1.cell? ⟨w.heap.size, 0, none⟩ = some (.int .i64 f) := (hbx.cell (p := ⟨w.heap.size, 0, none⟩) (by simp)).trans (by simp); have c1 : w1.cell? ⟨w.heap.size, 1, none⟩ = some (.string p) := (hbx.cell (p := ⟨w.heap.size, 1, none⟩) (by simp)).trans (by simp); clear hbx)
        go_region_held3 (fun w' => w'.cell? ⟨w.heap.size, 0, none⟩ = some (.int .i64 f) ∧ w'.cell? ⟨w.heap.size, 1, none⟩ = some (.string p))
          (first | exact later2 hbx (by assumption) | go_keep)
          (first | (go_at_call 12; refine (Right_any _ _ _ (by unfold maxLen; omega)).mono ?_; rw [HRB.out]; rintro e w' ⟨rfl, hbx⟩; (first | (have hbw := below_then hbw hsw hbx; have hsw := Nat.le_trans hsw hbx.size) | (have hbw := below_then hbw.drew hsw hbx; have hsw := Nat.le_trans hsw hbx.size)); have c0 := cell_later hbx c0; have c1 := cell_later hbx c1) | (go_at_call 11; refine (Has_any _ _ _ _).mono ?_; rw [hb]; rintro e w' ⟨rfl, hbx⟩; (first | (have hbw := below_then hbw hsw hbx; have hsw := Nat.le_trans hsw hbx.size) | (have hbw := below_then hbw.drew hsw hbx; have hsw := Nat.le_trans hsw hbx.size)); have c0 := cell_later hbx c0; have c1 := cell_later hbx c1))
        go_wp2_with (go_at_call 13; refine (Text_no _ _ _ (by unfold maxLen; omega) HRB.out).mono ?_; rintro e w2 ⟨rfl, hb2⟩; have hbw := below_then hbw hsw hb2)
        go_ret
        exact ⟨rfl, hbw⟩
      · have d1 : decide (0 ≤ f) = true := decide_eq_true h
        have d2 : decide (f < 256) = true := decide_eq_true h'
        have d3 : decide ((p.size : Int) ≤ 120) = false := decide_eq_false (by omega)
        go_enter Tryd.func4, Tryd.ntmps4
        go_wp2_with (go_at_call 9; refine (alive18_any _).mono ?_; rintro e w1 ⟨rfl, hbx⟩; have hbw : Below w.heap.size w w1 := below_then ((Below.refl _ _).alloc (Nat.le_refl _) _) (by simp) hbx; have hsw := hbw.size; have c0 : w1.cell? ⟨w.heap.size, 0, none⟩ = some (.int .i64 f) := (hbx.cell (p := ⟨w.heap.size, 0, none⟩) (by simp)).trans (by simp); have c1 : w1.cell? ⟨w.heap.size, 1, none⟩ = some (.string p) := (hbx.cell (p := ⟨w.heap.size, 1, none⟩) (by simp)).trans (by simp); clear hbx)
        go_region_held3 (fun w' => w'.cell? ⟨w.heap.size, 0, none⟩ = some (.int .i64 f) ∧ w'.cell? ⟨w.heap.size, 1, none⟩ = some (.string p))
          (first | exact later2 hbx (by assumption) | go_keep)
          (first | (go_at_call 12; refine (Right_any _ _ _ (by unfold maxLen; omega)).mono ?_; rw [HRB.out]; rintro e w' ⟨rfl, hbx⟩; (first | (have hbw := below_then hbw hsw hbx; have hsw := Nat.le_trans hsw hbx.size) | (have hbw := below_then hbw.drew hsw hbx; have hsw := Nat.le_trans hsw hbx.size)); have c0 := cell_later hbx c0; have c1 := cell_later hbx c1) | (go_at_call 11; refine (Has_any _ _ _ _).mono ?_; rw [hb]; rintro e w' ⟨rfl, hbx⟩; (first | (have hbw := below_then hbw hsw hbx; have hsw := Nat.le_trans hsw hbx.size) | (have hbw := below_then hbw.drew hsw hbx; have hsw := Nat.le_trans hsw hbx.size)); have c0 := cell_later hbx c0; have c1 := cell_later hbx c1))
        go_wp2_with (go_at_call 13; refine (Text_no _ _ _ (by unfold maxLen; omega) HRB.out).mono ?_; rintro e w2 ⟨rfl, hb2⟩; have hbw := below_then hbw hsw hb2)
        go_ret
        exact ⟨rfl, hbw⟩
    · obtain ⟨h, h', h''⟩ := h
      have HPT := Lib.hid (parse_text hr)
      have hts := text_size hr
      have HRB := Lib.hid hr
      clear hr
      have d1 : decide (0 ≤ f) = true := decide_eq_true h
      have d2 : decide (f < 256) = true := decide_eq_true h'
      have d3 : decide ((p.size : Int) ≤ 120) = true := decide_eq_true (by omega)
      obtain ⟨t, ht⟩ : ∃ t, str (textL f p.data.toList) = t := ⟨_, rfl⟩
      rw [ht] at hts
      have HT := Lib.hid ht
      have htd : t.data.toList = textL f p.data.toList := by rw [← ht]; rfl
      have HPT2 : Hid (parseL t.data.toList 0 = .ok f p.data.toList) := by show _ = _; rw [htd]; exact HPT.out
      have hps : str p.data.toList = p := ba_ext rfl
      clear ht htd HPT
      go_enter Tryd.func4, Tryd.ntmps4
      go_wp2_with (go_at_call 9; refine (alive18_any _).mono ?_; rintro e w1 ⟨rfl, hbx⟩; have hbw : Below w.heap.size w w1 := below_then ((Below.refl _ _).alloc (Nat.le_refl _) _) (by simp) hbx; have hsw := hbw.size; have c0 : w1.cell? ⟨w.heap.size, 0, none⟩ = some (.int .i64 f) := (hbx.cell (p := ⟨w.heap.size, 0, none⟩) (by simp)).trans (by simp); have c1 : w1.cell? ⟨w.heap.size, 1, none⟩ = some (.string p) := (hbx.cell (p := ⟨w.heap.size, 1, none⟩) (by simp)).trans (by simp); clear hbx)
      go_region_held3 (fun w' => w'.cell? ⟨w.heap.size, 0, none⟩ = some (.int .i64 f) ∧ w'.cell? ⟨w.heap.size, 1, none⟩ = some (.string p))
        (first | exact later2 hbx (by assumption) | go_keep)
        (first | (go_at_call 12; refine (Right_any _ _ _ (by unfold maxLen; omega)).mono ?_; rw [HRB.out]; rintro e w' ⟨rfl, hbx⟩; (first | (have hbw := below_then hbw hsw hbx; have hsw := Nat.le_trans hsw hbx.size) | (have hbw := below_then hbw.drew hsw hbx; have hsw := Nat.le_trans hsw hbx.size)); have c0 := cell_later hbx c0; have c1 := cell_later hbx c1) | (go_at_call 11; refine (Has_any _ _ _ _).mono ?_; rw [hb]; rintro e w' ⟨rfl, hbx⟩; (first | (have hbw := below_then hbw hsw hbx; have hsw := Nat.le_trans hsw hbx.size) | (have hbw := below_then hbw.drew hsw hbx; have hsw := Nat.le_trans hsw hbx.size)); have c0 := cell_later hbx c0; have c1 := cell_later hbx c1))
      go_wp2_with (first | (go_at_call 13; refine (Text_yes _ _ _ HRB.out).mono ?_; rw [HT.out]; rintro e w2 ⟨rfl, hb2⟩; have hbw := below_then hbw hsw hb2; have hsw := Nat.le_trans hsw hb2.size; have c0 := cell_later hb2 c0; have c1 := cell_later hb2 c1) | (go_at_call 14; refine (Parse_ok _ _ f p.data.toList (by unfold maxLen; omega) HPT2.out).mono ?_; rw [hps]; rintro e w3 ⟨rfl, hb3⟩; have hbw := (below_then hbw hsw hb3).alloc (Nat.le_trans hsw hb3.size) (.cells #[.int .i64 f, .string p] 23); have e0 := cell_alloc (cell_later hb3 c0) (.cells #[.int .i64 f, .string p] 23); have e1 := cell_alloc (cell_later hb3 c1) (.cells #[.int .i64 f, .string p] 23)) | (go_at_call 15; refine (RefText_yes _ _ _ HRB.out).mono ?_; rw [HT.out]; rintro e w4 ⟨rfl, hb4⟩; have hbw := below_next hbw hb4; have d0 := cell_later hb4 e0; have d1 := cell_later hb4 e1; have m0 : w4.cell? ⟨w3.heap.size, 0, none⟩ = some (.int .i64 f) := cell_later hb4 (by simp); have m1 : w4.cell? ⟨w3.heap.size, 1, none⟩ = some (.string p) := cell_later hb4 (by simp)))
      go_ret
      exact ⟨rfl, hbw⟩

end Go.Proofs.YtboebjmfchbgbaaDoor
