/-
  The walks of the reference's Same and of the law's sums.
-/
import Derived.Test.YtkddighepgpccaaDoorRexQ2
import Derived.Test.YtkddighepgpccaaDoorRefN
import Derived.Deep.RegionWith
import Derived.Deep.DeepCutAuto
namespace Go.Proofs.YtkddighepgpccaaDoor
open Go Go.RowKit
set_option linter.unusedSimpArgs false
set_option linter.unusedVariables false

theorem eq_four (w : World) (s t : S4) : (Op.equalIn 10000 37 s.v t.v).run Tryd.prog w = .ok (decide (s = t)) w := by
  obtain ⟨iu, hiu, hu0, hu1, hu2⟩ := info_parts Tryd.info_u64
  obtain ⟨a0, a1, a2, a3⟩ := s
  obtain ⟨b0, b1, b2, b3⟩ := t
  unfold S4.v
  simp only
  have h := run_equalIn_array (P := Tryd.prog) w 9999 #[.int .u64 (a0 : Int), .int .u64 (a1 : Int), .int .u64 (a2 : Int), .int .u64 (a3 : Int)] #[.int .u64 (b0 : Int), .int .u64 (b1 : Int), .int .u64 (b2 : Int), .int .u64 (b3 : Int)] Tryd.underlying37 hiu
  have hr : List.range 4 = [0, 1, 2, 3] := rfl
  rw [Tryd.cells_u64, hr] at h
  refine h.trans ?_
  rw [eq_step w _ _ 0 [1, 2, 3] a0 b0 rfl rfl _ (eq_step w _ _ 1 [2, 3] a1 b1 rfl rfl _ (eq_step w _ _ 2 [3] a2 b2 rfl rfl _ (eq_step w _ _ 3 [] a3 b3 rfl rfl true (by simp [Op.eqItems]))))]
  have hd : (decide (a0 = b0) && (decide (a1 = b1) && (decide (a2 = b2) && (decide (a3 = b3) && true)))) = decide ((⟨a0, a1, a2, a3⟩ : S4) = ⟨b0, b1, b2, b3⟩) := by
    rw [Bool.eq_iff_iff]
    simp
  rw [hd]
theorem Tryd.noGuard4 : Tryd.prog.eqGuardType Tryd.prog.depth 37 = false := by kernel_rfl
theorem guard4 (op : BinOp) (x y : Operand) (s t : S4) (w : World) : (eqGuard op 37 x y (.agg #[.int .u64 (s.a0 : Int), .int .u64 (s.a1 : Int), .int .u64 (s.a2 : Int), .int .u64 (s.a3 : Int)]) (.agg #[.int .u64 (t.a0 : Int), .int .u64 (t.a1 : Int), .int .u64 (t.a2 : Int), .int .u64 (t.a3 : Int)])).run Tryd.prog w = .ok () w := run_eqGuard_agg w op _ x y _ _ Tryd.noGuard4
theorem neq4 (s t : S4) (b : Bool) (h : decide (s = t) = b) (w : World) : (binOp .neq 37 (.agg #[.int .u64 (s.a0 : Int), .int .u64 (s.a1 : Int), .int .u64 (s.a2 : Int), .int .u64 (s.a3 : Int)]) (.agg #[.int .u64 (t.a0 : Int), .int .u64 (t.a1 : Int), .int .u64 (t.a2 : Int), .int .u64 (t.a3 : Int)])).run Tryd.prog w = .ok (.bool !b) w := by
  show ((Op.equalIn 10000 37 s.v t.v) >>= fun b => pure (Value.bool !b)).run Tryd.prog w = _
  rw [Sem.run_bind, eq_four w s t, h]; rfl

def SumsC (n : Nat) : Prop := ∀ (ok : Nat → Prop) (w : World) (t : T) (cs : Array Value), sizeT t < n → TreeAt ok w t cs →
  Calls Tryd.prog 24 #[.agg cs] w fun e w' => e = .returned (.tuple #[.int .i64 ((sizeT t : Nat) : Int), .int .i64 ((groupsT t : Nat) : Int)]) ∧ Below w.heap.size w w'
set_option maxHeartbeats 8000000 in
set_option maxRecDepth 100000 in
theorem SumsC_step (n : Nat) (hS : SumsC n) (hn : n ≤ 100000) : SumsC (n + 1) := by
  intro ok w t cs hsz ht
  obtain ⟨k1, i1, S1, ks, A, c1, rfl, rfl, hS1⟩ := ht.form
  obtain ⟨L, hL⟩ : ∃ L, ks.length = L := ⟨_, rfl⟩
  have hks := kids_small (ts := ks)
  have hsz2 : sizeL ks < n := by simp only [sizeT] at hsz; omega
  have hLm : L ≤ 1000000 := by omega
  have hgl := groupsL_le ks
  have HSS := Lib.hid (fun k t (h1 : ks[k]? = some t) => sizeL_drop h1)
  have HGG := Lib.hid (fun k t (h1 : ks[k]? = some t) => groupsL_drop h1)
  have HD := Lib.hid (show ∀ k, L ≤ k → sizeL (ks.drop k) = 0 ∧ groupsL (ks.drop k) = 0 from fun k hk => by rw [List.drop_eq_nil_of_le (by omega)]; exact ⟨rfl, rfl⟩)
  obtain ⟨hA, hA2⟩ := kids_of ht
  have HK := Lib.hid (show ∀ k, k < L → ∃ t g, A = some ⟨g, 0, none⟩ ∧ g < w.heap.size ∧ ks[k]? = some t ∧ sizeT t < n ∧ ∃ v, TreeAt ok w t v ∧ ∀ i x, v[i]? = some x → w.cell? ⟨g, k * 7 + i, none⟩ = some x from fun k hk => by
    cases A with
    | none => have := (hA rfl).1; subst this; simp at hL; omega
    | some a =>
      obtain ⟨e1, e2, e3⟩ := hA2 a rfl
      have h1 : ks[k]? = some ks[k] := List.getElem?_eq_getElem (by omega)
      obtain ⟨v, hv, hc⟩ := KidsAt.at_ ks 0 e3 k _ h1
      rw [Nat.zero_add] at hc
      have := sizeL_mem (List.mem_of_getElem? h1)
      exact ⟨_, a.block, by rw [e1], e2, h1, by omega, v, hv, hc⟩)
  have HC := Lib.hid hS
  obtain ⟨e1, he1⟩ : ∃ x : Nat, (if k1 = 7 then 1 else 0) = x := ⟨_, rfl⟩
  have he1l : e1 ≤ 1 := by rw [← he1]; split <;> omega
  obtain ⟨tot, htot⟩ : ∃ x, sizeT (.mk k1 i1 S1 ks) = x := ⟨_, rfl⟩
  obtain ⟨gt, hgt⟩ : ∃ x, groupsT (.mk k1 i1 S1 ks) = x := ⟨_, rfl⟩
  have htl : tot ≤ 200000 := by rw [← htot]; simp only [sizeT]; omega
  have hgtl : gt ≤ 200000 := by rw [← hgt]; simp only [groupsT]; (split <;> omega)
  have H0 : Hid (1 + sizeL (ks.drop 0) = tot ∧ e1 + groupsL (ks.drop 0) = gt) := by
    show _ ∧ _
    rw [← htot, ← hgt, ← he1]
    simp only [sizeT, groupsT, List.drop_zero]
    exact ⟨trivial, trivial⟩
  have hcase : (((k1 : Int) == 7) = true ∧ e1 = 1) ∨ (((k1 : Int) == 7) = false ∧ e1 = 0) := by
    by_cases hk7 : k1 = 7
    · exact .inl ⟨by simp; omega, by rw [← he1, if_pos hk7]⟩
    · exact .inr ⟨by simp; omega, by rw [← he1, if_neg hk7]⟩
  rw [htot, hgt]
  show Calls _ _ #[.agg (nodeC k1 i1 S1 (.slice A ks.length c1))] _ _
  rw [hL]
  have hb0 : Below w.heap.size w (w.alloc (.cells (nodeC k1 i1 S1 (.slice A L c1)) 46)) := (Below.refl _ _).alloc (Nat.le_refl _) _
  clear ht hsz hA hA2 htot hgt hS hL hks hsz2 hgl he1
  unfold nodeC at hb0 ⊢
  rcases hcase with ⟨h7, he⟩ | ⟨h7, he⟩
  all_goals have HE1 := Lib.hid he
  all_goals clear he
  all_goals (
    go_enter Tryd.func24, Tryd.ntmps24
    go_wp2_with fail
    go_loopw [4, 5, 16] (fun v u i wr => ∃ k x y : Nat, k ≤ L ∧ i = .int .i64 (k : Int) ∧ v = .int .i64 (x : Int) ∧ u = .int .i64 (y : Int) ∧ x ≤ tot ∧ y ≤ gt ∧ Hid (x + sizeL (ks.drop k) = tot ∧ y + groupsL (ks.drop k) = gt) ∧ Hid (Below w.heap.size w wr)) (fun _ _ i _ => L - (intOf i).toNat)
    case atStart => exact ⟨0, 1, e1, Nat.zero_le _, rfl, rfl, by rw [HE1.out]; rfl, by have := H0.out; omega, by have := H0.out; omega, H0, Lib.hid hb0⟩
    case round =>
      obtain ⟨k, x, y, hk, rfl, rfl, rfl, hx, hy, HR, HB⟩ := hrel
      by_cases hlt : k < L
      · obtain ⟨t, g, rfl, hg, ht, hsz, v, hv, hc⟩ := HK.out k hlt
        obtain ⟨k2, i2, S2, ks2, A2, c2, hT2, rfl, hS2⟩ := hv.form
        have hbl := HB.out
        obtain ⟨a0, a1, a2, a3, a4, a5, a6⟩ := node_cells (w := wr) (g := g) (o := k * 7) (fun j x hj => by have := hc j x hj; exact cell_of_heap (hbl.block g hg) this)
        simp only [Nat.add_zero] at a0
        have hszw := hbl.size
        have hgw : g < wr.heap.size := by omega
        obtain ⟨W2, hW2⟩ : ∃ W2, wr.alloc (.cells (nodeC k2 i2 S2 (.slice A2 ks2.length c2)) 46) = W2 := ⟨_, rfl⟩
        have hbW : Below wr.heap.size wr W2 := by rw [← hW2]; exact (Below.refl _ _).alloc (Nat.le_refl _) _
        have hbW0 : Below w.heap.size w W2 := hbl.trans (hbW.mono hszw)
        have hrow : RowAt W2 wr.heap.size (nodeC k2 i2 S2 (.slice A2 ks2.length c2)) 46 := by rw [← hW2]; exact RowAt.new _ _ _
        obtain ⟨b0, b1, b2, b3, b4, b5, b6⟩ := row7 hrow
        have HCALL := Lib.hid (HC.out ok W2 t _ hsz (hv.below hbW0))
        have hst := HSS.out k t ht
        have hst2 := HGG.out k t ht
        obtain ⟨y1, hy1⟩ : ∃ y, sizeT t = y := ⟨_, rfl⟩
        obtain ⟨y2, hy2⟩ : ∃ y, groupsT t = y := ⟨_, rfl⟩
        rw [hy1, hy2] at HCALL
        rw [hy1] at hst
        rw [hy2] at hst2
        have hle : x + y1 ≤ tot := by have := HR.out; omega
        have hle2 : y + y2 ≤ gt := by have := HR.out; omega
        have HST : Hid (x + y1 + sizeL (ks.drop (k + 1)) = tot ∧ y + y2 + groupsL (ks.drop (k + 1)) = gt) := by show _ ∧ _; have := HR.out; omega
        have HW2 := Lib.hid hW2
        have HBW := Lib.hid hbW0
        clear hc hv ht hy1 hy2 hT2 HSS HGG HK hW2 hst hst2 hS2 HR hbW hbW0 hrow hbl
        have hki : (0 : Int) ≤ (k : Int) := by omega
        have hkl : (k : Int) < (L : Int) := by omega
        go_upto_region 7 with (fail)
        have hW2 := HW2.out
        unfold nodeC at hW2 HCALL
        simp only [hW2]
        clear hW2 HW2
        go_wp2_with fail
        refine HCALL.out.mono ?_
        rintro e w2 ⟨rfl, hb2⟩
        try dsimp only
        have hbl2 := Lib.hid (HBW.out.trans (hb2.mono HBW.out.size))
        clear HCALL HBW hb2 a0 a1 a2 a3 a4 a5 a6 b0 b1 b2 b3 b4 b5 b6
        go_wp2_with fail
        go_roundw
        case rel => exact ⟨k + 1, x + y1, y + y2, by omega, by go_num, by go_num, by go_num, hle, hle2, HST, hbl2⟩
        case measure => first | (simp [intOf]; done) | (simp [intOf]; omega)
      · obtain rfl : k = L := by omega
        have HRT : Hid (x = tot ∧ y = gt) := by show _ ∧ _; have := HR.out; rw [(HD.out k (Nat.le_refl _)).1, (HD.out k (Nat.le_refl _)).2] at this; omega
        clear HK HSS HGG HR HD H0
        go_wp2_with fail
        obtain ⟨h1, h2⟩ := HRT.out
        refine bodyPost_ret (v := .tuple #[.int .i64 (x : Int), .int .i64 (y : Int)]) (by simp [results, Tryd.results24, go_sem]) rfl ?_
        rw [h1, h2]
        exact ⟨rfl, HB.out⟩)
theorem SumsC_all : ∀ n, n ≤ 100000 → SumsC n
  | 0, _ => fun ok w t cs h _ => absurd h (Nat.not_lt_zero _)
  | n + 1, h => SumsC_step n (SumsC_all n (by omega)) (by omega)
theorem Sums_any (ok : Nat → Prop) (w : World) (t : T) (cs : Array Value) (hz : sizeT t ≤ 10000) (ht : TreeAt ok w t cs) :
    Calls Tryd.prog 24 #[.agg cs] w fun e w' => e = .returned (.tuple #[.int .i64 ((sizeT t : Nat) : Int), .int .i64 ((groupsT t : Nat) : Int)]) ∧ Below w.heap.size w w' :=
  SumsC_all 100000 (Nat.le_refl _) ok w t cs (by omega) ht

def RSameC (n : Nat) : Prop := ∀ (ok : Nat → Prop) (w : World) (t u : T) (cs ds : Array Value), sizeT t < n → TreeAt ok w t cs → TreeAt ok w u ds →
  Calls Tryd.prog 21 #[.agg cs, .agg ds] w fun e w' => e = .returned (.bool (sameT t u)) ∧ Below w.heap.size w w'
set_option maxHeartbeats 8000000 in
set_option maxRecDepth 100000 in
theorem rsame_step (n : Nat) (hS : RSameC n) (hn : n ≤ 100000) : RSameC (n + 1) := by
  intro ok w t u cs ds hsz ht hu
  obtain ⟨k1, i1, S1, ts, A1, c1, rfl, rfl, hS1⟩ := ht.form
  obtain ⟨k2, i2, S2, us, A2, c2, rfl, rfl, hS2⟩ := hu.form
  obtain ⟨V, hV⟩ : ∃ V, (w.alloc (.cells (nodeC k1 i1 S1 (.slice A1 ts.length c1)) 46)).alloc (.cells (nodeC k2 i2 S2 (.slice A2 us.length c2)) 46) = V := ⟨_, rfl⟩
  have hbV : Below w.heap.size w V := by rw [← hV]; exact ((Below.refl _ _).alloc (Nat.le_refl _) _).alloc (by simp) _
  have r1 : RowAt V w.heap.size (nodeC k1 i1 S1 (.slice A1 ts.length c1)) 46 := by rw [← hV]; exact RowAt.old (RowAt.new _ _ _) _
  have r2 : RowAt V (w.heap.size + 1) (nodeC k2 i2 S2 (.slice A2 us.length c2)) 46 := by rw [← hV]; exact RowAt.new' _ _ _ (by simp)
  have hks := kids_small (ts := ts)
  have hsz2 : sizeL ts < n := by simp only [sizeT] at hsz; omega
  obtain ⟨hA, hA2⟩ := kids_of ht
  obtain ⟨hB, hB2⟩ := kids_of hu
  have hul : us.length ≤ maxLen := by
    unfold TreeAt at hu
    exact hu.2.choose_spec.choose_spec.2.2.1
  unfold maxLen at hul
  obtain ⟨b1, hb1⟩ : ∃ b, decide (k1 = k2) = b := ⟨_, rfl⟩
  obtain ⟨b2, hb2⟩ : ∃ b, decide (i1 = i2) = b := ⟨_, rfl⟩
  obtain ⟨b3, hb3⟩ : ∃ b, decide (S1 = S2) = b := ⟨_, rfl⟩
  have f1 : ((k1 : Int) != (k2 : Int)) = !b1 := by rw [← hb1, Bool.eq_iff_iff]; simp; omega
  have f2 : ((i1 : Int) != (i2 : Int)) = !b2 := by rw [← hb2, Bool.eq_iff_iff]; simp; omega
  have f3 := fun w => neq4 S1 S2 b3 hb3 w
  have hg := fun x y w => guard4 .neq x y S1 S2 w
  obtain ⟨RR, hRR⟩ : ∃ R, sameT (.mk k1 i1 S1 ts) (.mk k2 i2 S2 us) = R := ⟨_, rfl⟩
  have HR : Hid (RR = (b1 && (b2 && (b3 && sameL ts us)))) := by
    show _ = _
    rw [← hRR]
    simp only [sameT, hb1, hb2, hb3]
  rw [hRR]
  have HV := Lib.hid hV
  have HBV := Lib.hid hbV
  have HC := Lib.hid hS
  obtain ⟨x0, x1, x2, x3, x4, x5, x6⟩ := row7 r1
  obtain ⟨y0, y1, y2, y3, y4, y5, y6⟩ := row7 r2
  have HR1 := Lib.hid r1
  have HR2 := Lib.hid r2
  clear hRR hb1 hb2 hb3 hS r1 r2
  show Calls _ _ #[.agg (nodeC k1 i1 S1 (.slice A1 ts.length c1)), .agg (nodeC k2 i2 S2 (.slice A2 us.length c2))] _ _
  have hV2 := HV.out
  unfold nodeC at hV2 ⊢
  have HV2 := Lib.hid hV2
  by_cases hbb : b1 = false ∨ b2 = false ∨ b3 = false ∨ ts.length ≠ us.length
  · have HF : Hid (RR = false) := by
      show _ = _
      rw [HR.out]
      rcases hbb with rfl | rfl | rfl | h
      · rfl
      · simp
      · simp
      · rw [sameL_len h]; simp
    have hl : ((ts.length : Int) != (us.length : Int)) = !(decide (ts.length = us.length)) := by rw [Bool.eq_iff_iff]; simp; omega
    obtain ⟨b4, hb4⟩ : ∃ b, decide (ts.length = us.length) = b := ⟨_, rfl⟩
    rw [hb4] at hl
    have h4 : b1 = false ∨ b2 = false ∨ b3 = false ∨ b4 = false := by
      rcases hbb with h | h | h | h
      · exact .inl h
      · exact .inr (.inl h)
      · exact .inr (.inr (.inl h))
      · exact .inr (.inr (.inr (by rw [← hb4]; exact decide_eq_false h)))
    clear hbb hb4 hA hA2 hB hB2 ht hu hsz hsz2 hbV hV2 hV HR HC
    cases b1 with
    | false =>
      go_enter Tryd.func21, Tryd.ntmps21
      go_upto_region 1 with (fail)
      have hV2 := HV2.out
      simp only [hV2]
      clear hV2 HV2
      go_wp2_with fail
      go_ret
      exact ⟨ret_bool HF.out.symm, HBV.out⟩
    | true =>
      cases b2 with
      | false =>
        go_enter Tryd.func21, Tryd.ntmps21
        go_upto_region 1 with (fail)
        have hV2 := HV2.out
        simp only [hV2]
        clear hV2 HV2
        go_wp2_with fail
        go_ret
        exact ⟨ret_bool HF.out.symm, HBV.out⟩
      | true =>
        cases b3 with
        | false =>
          go_enter Tryd.func21, Tryd.ntmps21
          go_upto_region 1 with (fail)
          have hV2 := HV2.out
          simp only [hV2]
          clear hV2 HV2
          go_wp2_with fail
          go_ret
          exact ⟨ret_bool HF.out.symm, HBV.out⟩
        | true =>
          obtain rfl : b4 = false := by
            rcases h4 with h | h | h | h
            · cases h
            · cases h
            · cases h
            · exact h
          go_enter Tryd.func21, Tryd.ntmps21
          go_upto_region 1 with (fail)
          have hV2 := HV2.out
          simp only [hV2]
          clear hV2 HV2
          go_wp2_with fail
          go_ret
          exact ⟨ret_bool HF.out.symm, HBV.out⟩
  · have hl : ts.length = us.length := by
      rcases Nat.decEq ts.length us.length with h | h
      · exact absurd (.inr (.inr (.inr h))) hbb
      · exact h
    obtain rfl : b1 = true := by cases b1 <;> simp_all
    obtain rfl : b2 = true := by cases b2 <;> simp_all
    obtain rfl : b3 = true := by cases b3 <;> simp_all
    obtain ⟨L, hL⟩ : ∃ L, ts.length = L := ⟨_, rfl⟩
    have hU : us.length = L := by omega
    have hLm : L ≤ 1000000 := by omega
    have HSS := Lib.hid (fun k t u (h1 : ts[k]? = some t) (h2 : us[k]? = some u) => sameL_drop hl h1 h2)
    have HD := Lib.hid (show ∀ k, L ≤ k → sameL (ts.drop k) (us.drop k) = true from fun k hk => by
      rw [List.drop_eq_nil_of_le (by omega), List.drop_eq_nil_of_le (by omega)]; rfl)
    have HK := Lib.hid (show ∀ k, k < L → ∃ t u g g', A1 = some ⟨g, 0, none⟩ ∧ A2 = some ⟨g', 0, none⟩ ∧ g < w.heap.size ∧ g' < w.heap.size ∧ ts[k]? = some t ∧ us[k]? = some u ∧ sizeT t < n ∧
        (∃ v, TreeAt ok w t v ∧ ∀ i x, v[i]? = some x → w.cell? ⟨g, k * 7 + i, none⟩ = some x) ∧ ∃ v, TreeAt ok w u v ∧ ∀ i x, v[i]? = some x → w.cell? ⟨g', k * 7 + i, none⟩ = some x from fun k hk => by
      cases A1 with
      | none => have := (hA rfl).1; subst this; simp at hL; omega
      | some a =>
        cases A2 with
        | none => have := (hB rfl).1; subst this; simp at hU; omega
        | some b =>
          obtain ⟨e1, e2, e3⟩ := hA2 a rfl
          obtain ⟨d1, d2, d3⟩ := hB2 b rfl
          have h1 : ts[k]? = some ts[k] := List.getElem?_eq_getElem (by omega)
          have h2 : us[k]? = some us[k] := List.getElem?_eq_getElem (by omega)
          obtain ⟨v, hv, hc⟩ := KidsAt.at_ ts 0 e3 k _ h1
          obtain ⟨v', hv', hc'⟩ := KidsAt.at_ us 0 d3 k _ h2
          rw [Nat.zero_add] at hc hc'
          have := sizeL_mem (List.mem_of_getElem? h1)
          exact ⟨_, _, a.block, b.block, by rw [e1], by rw [d1], e2, d2, h1, h2, by omega, ⟨v, hv, hc⟩, v', hv', hc'⟩)
    have H0 : Hid (sameL (ts.drop 0) (us.drop 0) = RR) := by show _ = _; rw [HR.out]; simp
    have hne : ((L : Int) != (L : Int)) = false := by simp
    rw [hL, hU] at HV2
    rw [hL] at x6 HR1
    rw [hU] at y6 HR2
    rw [hL, hU]
    clear hA hB hA2 hB2 hsz hl hL hU hul hbb hV hV2 ht hu hbV HR HV
    go_enter Tryd.func21, Tryd.ntmps21
    go_upto_region 1 with (fail)
    have hV2 := HV2.out
    simp only [hV2]
    clear hV2 HV2
    go_wp2_with fail
    clear x0 x1 x2 x3 x4 x5 y0 y1 y2 y3 y4 y5
    go_loopw [37] (fun i wr => ∃ k : Nat, k ≤ L ∧ i = .int .i64 (k : Int) ∧ Hid (sameL (ts.drop k) (us.drop k) = RR) ∧ Hid (Below w.heap.size w wr) ∧ Hid (RowAt wr w.heap.size (nodeC k1 i1 S1 (.slice A1 L c1)) 46) ∧ Hid (RowAt wr (w.heap.size + 1) (nodeC k2 i2 S2 (.slice A2 L c2)) 46)) (fun i _ => L - (intOf i).toNat)
    case atStart => exact ⟨0, Nat.zero_le _, rfl, H0, HBV, HR1, HR2⟩
    case round =>
      obtain ⟨k, hk, rfl, HR, HB, HRA, HRB⟩ := hrel
      clear x6 y6 HR1 HR2 H0
      by_cases hlt : k < L
      · obtain ⟨t, u, g, g', rfl, rfl, hgl, hgl', ht, hu, hsz, ⟨v, hv, hc⟩, v', hv', hc'⟩ := HK.out k hlt
        obtain ⟨k3, i3, S3, ks3, A3, c3, hT3, rfl, hS3⟩ := hv.form
        obtain ⟨k4, i4, S4', ks4, A4, c4, hT4, rfl, hS4⟩ := hv'.form
        have hbl := HB.out
        obtain ⟨p0, p1, p2, p3, p4, p5, p6⟩ := node_cells (w := wr) (g := g) (o := k * 7) (fun j x hj => by have := hc j x hj; exact cell_of_heap (hbl.block g hgl) this)
        obtain ⟨q0, q1, q2, q3, q4, q5, q6⟩ := node_cells (w := wr) (g := g') (o := k * 7) (fun j x hj => by have := hc' j x hj; exact cell_of_heap (hbl.block g' hgl') this)
        simp only [Nat.add_zero] at p0 q0
        obtain ⟨-, -, -, -, -, -, x6⟩ := row7 HRA.out
        obtain ⟨-, -, -, -, -, -, y6⟩ := row7 HRB.out
        have hvd : TreeAt ok wr t _ := hv.below hbl
        have hvd' : TreeAt ok wr u _ := hv'.below hbl
        have HCALL := Lib.hid (HC.out ok wr.drew t u _ _ hsz (TreeAt.turn (w := wr) (w' := wr.drew) (Nat.le_refl _) (fun b hb _ => ⟨hb, rfl⟩) t _ hvd) (TreeAt.turn (w := wr) (w' := wr.drew) (Nat.le_refl _) (fun b hb _ => ⟨hb, rfl⟩) u _ hvd'))
        clear hvd hvd'
        obtain ⟨b, hb⟩ : ∃ b, sameT t u = b := ⟨_, rfl⟩
        rw [hb] at HCALL
        have hst := HSS.out k t u ht hu
        rw [hb, HR.out] at hst
        have HST := Lib.hid hst
        unfold nodeC at HCALL
        clear hc hc' hv hv' ht hu hb hT3 hT4 HSS HK hst hS3 hS4 hbl
        have hki : (0 : Int) ≤ (k : Int) := by omega
        have hkl : (k : Int) < (L : Int) := by omega
        go_upto_region 6 with (fail)
        go_cut [51] (fun v wx => v = .bool (!b) ∧ Hid (Below wr.heap.size wr wx))
        case first =>
          go_region_with (go_at_call 21; refine HCALL.out.mono ?_; rintro e w9 ⟨rfl, hb9⟩)
          all_goals (
            go_wp2_with fail
            go_meet
            case rel => exact ⟨rfl, Lib.hid (below_step hb9 (Below.refl _ _).drew)⟩)
        case rest =>
          obtain ⟨rfl, HBX⟩ := hcut
          have HB2 := Lib.hid (HB.out.trans (HBX.out.mono HB.out.size))
          have HRA2 := Lib.hid (HRA.out.later HBX.out HRA.out.lt)
          have HRB2 := Lib.hid (HRB.out.later HBX.out HRB.out.lt)
          clear p0 p1 p2 p3 p4 p5 p6 q0 q1 q2 q3 q4 q5 q6 x6 y6 HCALL
          cases b with
          | true =>
            go_wp2_with fail
            go_roundw
            case rel => exact ⟨k + 1, by omega, by go_num, by show _ = _; rw [HST.out]; simp, HB2, HRA2, HRB2⟩
            case measure => first | (simp [intOf]; done) | (simp [intOf]; omega)
          | false =>
            go_wp2_with fail
            go_ret
            exact ⟨ret_bool (by have := HST.out; simpa using this.symm), HB2.out⟩
      · obtain rfl : k = L := by omega
        have HRT : Hid (true = RR) := by show _ = _; rw [← HR.out, HD.out k (Nat.le_refl _)]
        clear HK HSS HR HD
        go_wp2_with fail
        go_ret
        exact ⟨ret_bool HRT.out, HB.out⟩
theorem rsame_all : ∀ n, n ≤ 100000 → RSameC n
  | 0, _ => fun ok w t u cs ds h _ _ => absurd h (Nat.not_lt_zero _)
  | n + 1, h => rsame_step n (rsame_all n (by omega)) (by omega)
theorem RSame_any (ok : Nat → Prop) (w : World) (t u : T) (cs ds : Array Value) (hz : sizeT t ≤ 10000) (ht : TreeAt ok w t cs) (hu : TreeAt ok w u ds) :
    Calls Tryd.prog 21 #[.agg cs, .agg ds] w fun e w' => e = .returned (.bool (sameT t u)) ∧ Below w.heap.size w w' :=
  rsame_all 100000 (Nat.le_refl _) ok w t u cs ds (by omega) ht hu

end Go.Proofs.YtkddighepgpccaaDoor
