/-
  Plain: the signs of a text are right ones; what the reference's Parse gives. The walk of the reference's Parse.
-/
import Derived.Test.YtkddighepgpccaaDoorRefE
import Derived.Test.YtkddighepgpccaaDoorSigns
import Derived.Test.YtkddighepgpccaaDoorRexS
namespace Go.Proofs.YtkddighepgpccaaDoor
open Go Go.RowKit
set_option linter.unusedSimpArgs false
set_option linter.unusedVariables false

theorem pSet_ok : ∀ (n : Nat) (first : Bool) (r : List UInt8) (S : S4), r.length ≤ n → S.ok → ∀ S' r', pSet first r S = some (S', r') → S'.ok := by
  intro n
  induction n with
  | zero =>
    intro first r S hn hS S' r' h
    obtain rfl : r = [] := List.eq_nil_of_length_eq_zero (by omega)
    rw [pSet] at h
    simp [memberL] at h
  | succ n ih =>
    intro first r S hn hS S' r' h
    rw [pSet] at h
    split at h
    · cases h
    · rename_i low r1 hr
      have h1 := memberL_lt hr
      split at h
      · split at h
        · cases h
        · simp at h
          rw [← h.1]; exact hS
      · split at h
        · split at h
          · cases h
          · rename_i high r2 hr2
            have h2 := memberL_lt hr2
            have h3 : r1.tail.length ≤ r1.length := by simp
            split at h
            · cases h
            · exact ih _ r2 _ (by omega) (S4.or_ok hS (spanS_ok _ _)) S' r' h
        · exact ih _ r1 _ (by omega) (S4.or_ok hS (spanS_ok _ _)) S' r' h
theorem pClass_ok {r r' : List UInt8} {S : S4} (h : pClass r = some (S, r')) : S.ok := by
  unfold pClass at h
  split at h
  · cases hp : pSet true r.tail S4.zero with
    | none => rw [hp] at h; cases h
    | some x =>
      rw [hp] at h
      simp at h
      rw [← h.1]; exact S4.not_ok _
  · exact pSet_ok _ _ _ _ (Nat.le_refl _) S4.zero_ok _ _ h
theorem lex1_ok {r r' : List UInt8} {t : Tok} (h : lex1 r = some (t, r')) : tokOk t := by
  cases t with
  | mark c =>
    have := (lex1_mark h).2
    show c ≠ 0
    rintro rfl
    exact absurd this (by decide)
  | set S =>
    show S.ok
    cases r with
    | nil => cases h
    | cons c r =>
      simp only [lex1] at h
      split at h
      · cases r with
        | nil => cases h
        | cons d r =>
          simp at h
          rw [← h.1]; exact single_ok _
      · split at h
        · cases hp : pClass r with
          | none => rw [hp] at h; cases h
          | some x =>
            rw [hp] at h
            simp at h
            rw [← h.1]; exact pClass_ok (S := x.1) (r' := x.2) hp
        · split at h
          · simp at h
            rw [← h.1]; exact notLF_ok
          · split at h
            · simp at h
            · simp at h
              rw [← h.1]; exact single_ok _
theorem Lx_ok {r r' : List UInt8} {l : List Tok} (h : Lx r l r') : ∀ t ∈ l, tokOk t := by
  induction h with
  | nil => intro t ht; cases ht
  | cons hl _ ih =>
    intro t ht
    rcases List.mem_cons.1 ht with rfl | ht
    · exact lex1_ok hl
    · exact ih t ht
theorem lexAll_ok {r : List UInt8} {l : List Tok} (h : lexAll r = some l) : ∀ t ∈ l, tokOk t := Lx_ok ((lexAll_Lx r.length r l (Nat.le_refl _)).1 h)
/-- What the reference's Parse gives is what Parse gives. -/
theorem prs_refP {s : ByteArray} (h : ¬ 60 < s.size) : prs s = match refP (rem s 0) with | none => (6, zeroT) | some (t, g) => if 9 < g then (10, zeroT) else (0, t) := by
  rw [← refP_run]
  unfold prs
  rw [if_neg h]
  cases Run (rem s 0) 0 [] [] with
  | none => rfl
  | some x =>
    obtain ⟨t, r, g⟩ := x
    simp only
    by_cases hr : r = []
    · rw [if_pos hr, if_pos hr]
    · rw [if_neg hr, if_neg hr]
theorem prs_lexnone {s : ByteArray} (h : ¬ 60 < s.size) (hl : lexAll (rem s 0) = none) : prs s = (6, zeroT) := by
  rw [prs_refP h]; unfold refP; rw [hl]
theorem prs_enone {s : ByteArray} (h : ¬ 60 < s.size) {l : List Tok} (hl : lexAll (rem s 0) = some l) (he : RefE l 0 = none) : prs s = (6, zeroT) := by
  rw [prs_refP h]; unfold refP; rw [hl]; simp only; rw [he]; rfl
theorem prs_esome {s : ByteArray} (h : ¬ 60 < s.size) {l : List Tok} (hl : lexAll (rem s 0) = some l) {t : T} (he : RefE l 0 = some t) : prs s = if 9 < opn l then (10, zeroT) else (0, t) := by
  rw [prs_refP h]; unfold refP; rw [hl]; simp only; rw [he]; rfl
def RefParsePost (s : ByteArray) (w : World) (e : Ending) (w' : World) : Prop :=
  ∃ cs, e = .returned (.tuple #[.agg cs, .int .i64 ((prs s).1 : Int)]) ∧ TreeAt (fun b => w.heap.size ≤ b) w' (prs s).2 cs ∧ Below w.heap.size w w'

set_option maxHeartbeats 8000000 in
set_option maxRecDepth 100000 in
theorem RefParse_long (s : ByteArray) (w : World) (hl : 60 < s.size) (hs : s.size ≤ 100) :
    Calls Tryd.prog 19 #[.string s] w (RefParsePost s w) := by
  have HP := Lib.hid (prs_long hl)
  have hd : decide (60 < s.size) = true := decide_eq_true hl
  go_enter Tryd.func19, Tryd.ntmps19
  go_wp2
  refine bodyPost_ret (v := .tuple #[.agg (nodeC 0 0 S4.zero (.slice none 0 0)), .int .i64 2]) (by simp [results, Tryd.results19, go_sem, nodeC, S4.zero]) rfl ?_
  refine ⟨nodeC 0 0 S4.zero (.slice none 0 0), ?_, ?_, ?_⟩
  · rw [HP.out]; rfl
  · rw [HP.out]; exact TreeAt.leaf _ _ 0 0 S4.zero_ok
  · exact (Below.refl _ _).alloc (Nat.le_refl _) _

set_option maxHeartbeats 8000000 in
set_option maxRecDepth 100000 in
theorem RefParse_short (s : ByteArray) (w : World) (hl : ¬ 60 < s.size) :
    Calls Tryd.prog 19 #[.string s] w (RefParsePost s w) := by
  have hd : decide (60 < s.size) = false := decide_eq_false hl
  obtain ⟨V, hV⟩ : ∃ V, w.alloc (.cells #[.int .i64 0, .int .i64 0, .int .u64 0, .int .u64 0, .int .u64 0, .int .u64 0, .slice none 0 0] 46) = V := ⟨_, rfl⟩
  have v2 : RowAt V w.heap.size #[.int .i64 0, .int .i64 0, .int .u64 0, .int .u64 0, .int .u64 0, .int .u64 0, .slice none 0 0] 46 := by rw [← hV]; exact RowAt.new _ _ _
  have v3 : Below w.heap.size w V := by rw [← hV]; exact (Below.refl _ _).alloc (Nat.le_refl _) _
  have HS := Signs_any V s (by omega)
  have HV := Lib.hid hV
  have HLL := Lib.hid hl
  unfold SignPost at HS
  clear hV
  cases hx : lexAll (rem s 0) with
  | none =>
    rw [hx] at HS
    simp only at HS
    have HS := Lib.hid HS
    have HP := Lib.hid (prs_lexnone hl hx)
    clear hx
    go_enter Tryd.func19, Tryd.ntmps19
    go_wp2_with fail
    have hV := HV.out
    simp only [hV]
    clear hV HV
    refine HS.out.mono ?_
    rintro e w1 ⟨hb1, rfl⟩
    try dsimp only
    have rz := v2.later hb1 v2.lt
    have HB := Lib.hid (v3.trans (hb1.mono v3.size))
    obtain ⟨⟨n0, n1, n2, n3, n4, n5, n6⟩, m0, m1, m2, m3, m4, m5, m6⟩ := node_facts (k := 0) (i := 0) (s := S4.zero) (sl := .slice none 0 0) rz
    go_wp2_with fail
    obtain ⟨z0, z1, z2, z3, z4, z5, z6⟩ := row7 (RowAt.seven rz (.int .i64 0) (.int .i64 0) (.int .u64 0) (.int .u64 0) (.int .u64 0) (.int .u64 0) (.slice none 0 0))
    refine bodyPost_ret (v := .tuple #[.agg (nodeC 0 0 S4.zero (.slice none 0 0)), .int .i64 6]) (by simp [results, Tryd.results19, go_sem, nodeC, S4.zero, z0, z1, z2, z3, z4, z5, z6]) rfl ?_
    unfold RefParsePost
    rw [HP.out]
    exact ⟨_, rfl, TreeAt.leaf _ _ 0 0 S4.zero_ok, below_putN HB.out (Nat.le_refl _) 0 0 S4.zero (.slice none 0 0)⟩
  | some l =>
    rw [hx] at HS
    simp only at HS
    have HS := Lib.hid HS
    have HX := Lib.hid hx
    clear hx
    go_enter Tryd.func19, Tryd.ntmps19
    go_wp2_with fail
    have hV := HV.out
    simp only [hV]
    clear hV HV
    refine HS.out.mono ?_
    rintro e w1 ⟨hb1, A, c, rfl, hsg⟩
    try dsimp only
    have r1 := v2.later hb1 v2.lt
    have b1 := v3.trans (hb1.mono v3.size)
    obtain ⟨R, hR⟩ : ∃ R, RefE l 0 = R := ⟨_, rfl⟩
    have hmx := hsg.max
    have HE : Hid (Calls Tryd.prog 40 #[.slice A l.length c, .int .i64 0] w1 (RefPost R w1)) := Lib.hid (by
      have := RefExpr_any w1 A l.length c l 0 hsg (lexAll_ok HX.out) (by omega)
      rw [hR] at this
      exact this)
    have HR := Lib.hid hR
    have HSG := Lib.hid hsg
    clear hR hsg hb1 HS
    go_wp2_with fail
    refine HE.out.mono ?_
    rintro e w2 ⟨cs, rfl, ht, hb2⟩
    try dsimp only
    obtain ⟨k1, i1, S1, ks, A1, c1, hT, rfl, hS1⟩ := ht.form
    obtain ⟨W, hW⟩ : ∃ W, w2.alloc (.cells #[.int .i64 (k1 : Int), .int .i64 (i1 : Int), .int .u64 (S1.a0 : Int), .int .u64 (S1.a1 : Int), .int .u64 (S1.a2 : Int), .int .u64 (S1.a3 : Int), .slice A1 ks.length c1] 46) = W := ⟨_, rfl⟩
    have b2W : Below w2.heap.size w2 W := by rw [← hW]; exact (Below.refl _ _).alloc (Nat.le_refl _) _
    have b1W : Below w1.heap.size w1 W := hb2.trans (b2W.mono hb2.size)
    have y0 : RowAt W w2.heap.size (nodeC k1 i1 S1 (.slice A1 ks.length c1)) 46 := by rw [← hW]; exact RowAt.new _ _ _
    have rz := r1.later b1W r1.lt
    have r1l := r1.lt
    have HB := Lib.hid (b1.trans (b1W.mono b1.size))
    have ht2 := ht.below b2W
    have HSW := Lib.hid (HSG.out.later b1W)
    have HT2 := Lib.hid ht2
    have HW := Lib.hid hW
    obtain ⟨d0, d1, d2, d3, d4, d5, d6⟩ := row7 y0
    have hlt2 := y0.lt
    unfold nodeC
    clear ht ht2 hW hb2 b2W b1W y0 r1 HE
    cases R with
    | none =>
      have HP := Lib.hid (prs_enone hl HX.out HR.out)
      clear hT d0 d1 d2 d3 d4 d5 d6
      go_upto_region 7 with (fail)
      have hW := HW.out
      simp only [hW]
      clear hW HW
      obtain ⟨⟨n0, n1, n2, n3, n4, n5, n6⟩, m0, m1, m2, m3, m4, m5, m6⟩ := node_facts (k := 0) (i := 0) (s := S4.zero) (sl := .slice none 0 0) rz
      go_wp2_with fail
      obtain ⟨z0, z1, z2, z3, z4, z5, z6⟩ := row7 (RowAt.seven rz (.int .i64 0) (.int .i64 0) (.int .u64 0) (.int .u64 0) (.int .u64 0) (.int .u64 0) (.slice none 0 0))
      refine bodyPost_ret (v := .tuple #[.agg (nodeC 0 0 S4.zero (.slice none 0 0)), .int .i64 6]) (by simp [results, Tryd.results19, go_sem, nodeC, S4.zero, z0, z1, z2, z3, z4, z5, z6]) rfl ?_
      unfold RefParsePost
      rw [HP.out]
      exact ⟨_, rfl, TreeAt.leaf _ _ 0 0 S4.zero_ok, below_putN HB.out (Nat.le_refl _) 0 0 S4.zero (.slice none 0 0)⟩
    | some t =>
      have hT : t = .mk k1 i1 S1 ks := hT
      subst hT
      have HP := Lib.hid (prs_esome hl HX.out HR.out)
      have hopn := opn_le l
      obtain ⟨q, hq⟩ : ∃ q, opn l = q := ⟨_, rfl⟩
      have HOP := Opened_any W A l.length c l HSW.out
      rw [hq] at HP HOP hopn
      have HOP := Lib.hid HOP
      clear hq
      go_upto_region 7 with (fail)
      have hW := HW.out
      simp only [hW]
      clear hW HW
      go_wp2_with fail
      refine HOP.out.mono ?_
      rintro e w3 ⟨rfl, hb3⟩
      try dsimp only
      have rz3 := rz.later hb3 rz.lt
      have e0 := cell_later hb3 d0
      have e1 := cell_later hb3 d1
      have e2 := cell_later hb3 d2
      have e3 := cell_later hb3 d3
      have e4 := cell_later hb3 d4
      have e5 := cell_later hb3 d5
      have e6 := cell_later hb3 d6
      have HB3 := Lib.hid (HB.out.trans (hb3.mono HB.out.size))
      have HT3 := Lib.hid (HT2.out.below hb3)
      clear d0 d1 d2 d3 d4 d5 d6 hb3 rz HOP HT2 HSW
      obtain ⟨⟨n0, n1, n2, n3, n4, n5, n6⟩, m0, m1, m2, m3, m4, m5, m6⟩ := node_facts (k := 0) (i := 0) (s := S4.zero) (sl := .slice none 0 0) rz3
      by_cases h9 : 9 < q
      · have hd9 : decide (9 < q) = true := decide_eq_true h9
        have HP2 : Hid (prs s = (10, zeroT)) := Lib.hid (by rw [HP.out, if_pos h9])
        clear HP
        go_wp2_with fail
        obtain ⟨z0, z1, z2, z3, z4, z5, z6⟩ := row7 (RowAt.seven rz3 (.int .i64 0) (.int .i64 0) (.int .u64 0) (.int .u64 0) (.int .u64 0) (.int .u64 0) (.slice none 0 0))
        refine bodyPost_ret (v := .tuple #[.agg (nodeC 0 0 S4.zero (.slice none 0 0)), .int .i64 10]) (by simp [results, Tryd.results19, go_sem, nodeC, S4.zero, z0, z1, z2, z3, z4, z5, z6]) rfl ?_
        unfold RefParsePost
        rw [HP2.out]
        exact ⟨_, rfl, TreeAt.leaf _ _ 0 0 S4.zero_ok, below_putN HB3.out (Nat.le_refl _) 0 0 S4.zero (.slice none 0 0)⟩
      · have hd9 : decide (9 < q) = false := decide_eq_false h9
        have HP2 : Hid (prs s = (0, .mk k1 i1 S1 ks)) := Lib.hid (by rw [HP.out, if_neg h9])
        clear HP
        go_wp2_with fail
        obtain ⟨z0, z1, z2, z3, z4, z5, z6⟩ := row7 (RowAt.seven rz3 (.int .i64 (k1 : Int)) (.int .i64 (i1 : Int)) (.int .u64 (S1.a0 : Int)) (.int .u64 (S1.a1 : Int)) (.int .u64 (S1.a2 : Int)) (.int .u64 (S1.a3 : Int)) (.slice A1 ks.length c1))
        refine bodyPost_ret (v := .tuple #[.agg (nodeC k1 i1 S1 (.slice A1 ks.length c1)), .int .i64 0]) (by simp [results, Tryd.results19, go_sem, nodeC, z0, z1, z2, z3, z4, z5, z6]) rfl ?_
        unfold RefParsePost
        rw [HP2.out]
        exact ⟨_, rfl, HT3.out.touch (touch_putN (Touch.refl w3 (· = w.heap.size)) (.inl rfl) k1 i1 S1 (.slice A1 ks.length c1)) (fun b hb => (by omega)) (fun b hb => (by omega)), below_putN HB3.out (Nat.le_refl _) k1 i1 S1 (.slice A1 ks.length c1)⟩
theorem RefParse_any (s : ByteArray) (w : World) (hs : s.size ≤ 100) :
    Calls Tryd.prog 19 #[.string s] w (RefParsePost s w) := by
  by_cases hl : 60 < s.size
  · exact RefParse_long s w hl hs
  · exact RefParse_short s w hl

end Go.Proofs.YtkddighepgpccaaDoor
