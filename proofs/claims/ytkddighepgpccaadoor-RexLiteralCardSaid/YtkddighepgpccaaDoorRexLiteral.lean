/-
  The walk of the statement RexLiteral.
-/
import Derived.Test.YtkddighepgpccaaDoorRexV
import Derived.Test.YtkddighepgpccaaDoorErrsSome
import Derived.Deep.RegionHeld3
import Derived.Deep.Cut
namespace Go.Proofs.YtkddighepgpccaaDoor
open Go Go.RowKit
set_option linter.unusedSimpArgs false
set_option linter.unusedVariables false

theorem errs3_laid {W : World} (h : ∃ es : List Addr, es.length = 3 ∧ ∀ (i g : Nat) (a : Addr), [0, 1, 2][i]? = some g → es[i]? = some a → W.cell? ⟨g, 0, none⟩ = some (errV a)) : ∃ aL aR aF, Errs3 W aL aR aF := by
  obtain ⟨es, hl, hc⟩ := h
  match es, hl with
  | [a, b, c], _ => exact ⟨a, b, c, hc 0 _ _ rfl rfl, hc 1 _ _ rfl rfl, hc 2 _ _ rfl rfl⟩
theorem esc_snoc (l : List UInt8) (c : UInt8) : esc (l ++ [c]) = esc l ++ [92, c] := by
  induction l with
  | nil => rfl
  | cons d l ih => simp only [List.cons_append, esc, ih]
theorem sizeL_lf (l : List UInt8) : sizeL (l.map lf) = l.length := by
  induction l with
  | nil => rfl
  | cons c l ih => simp only [List.map_cons, sizeL, ih, lf, leaf, sizeT, List.length_cons]; omega
theorem sizeT_lits (l : List UInt8) : sizeT (joinT 2 (l.map lf)) ≤ 1 + l.length := by
  match l with
  | [] => simp [joinT, sizeT, sizeL]
  | [c] => simp [joinT, lf, leaf, sizeT, sizeL]
  | c :: d :: l =>
    show sizeT (.mk 2 0 S4.zero ((c :: d :: l).map lf)) ≤ _
    simp only [sizeT, sizeL_lf]
    omega
theorem count_single : ∀ b, b < 256 → (S4.zero.with b).count = 1 := by decide +kernel
theorem has_single (c : UInt8) : (single c).has c.toNat = true := by
  have hc := c.toNat_lt
  unfold single
  rw [has_with _ (by omega) (by omega)]
  simp
theorem HasOne (c : UInt8) (w : World) : Calls Tryd.prog 28 #[.agg #[.int .u64 ((single c).a0 : Int), .int .u64 ((single c).a1 : Int), .int .u64 ((single c).a2 : Int), .int .u64 ((single c).a3 : Int)], .int .u8 (c.toNat : Int)] w fun e w' => e = .returned (.bool true) ∧ Below w.heap.size w w' := by
  have := HasK ⟨single c, single_ok c⟩ c.toNat (by have := c.toNat_lt; omega) w
  rw [has_single c] at this
  exact this
theorem CountOne (c : UInt8) (w : World) : Calls Tryd.prog 29 #[.agg #[.int .u64 ((single c).a0 : Int), .int .u64 ((single c).a1 : Int), .int .u64 ((single c).a2 : Int), .int .u64 ((single c).a3 : Int)]] w fun e w' => e = .returned (.int .i64 1) ∧ Below w.heap.size w w' := by
  have := CountK ⟨single c, single_ok c⟩ w
  rw [show (single c).count = 1 from count_single _ (by have := c.toNat_lt; omega)] at this
  exact this

set_option maxHeartbeats 8000000 in
set_option maxRecDepth 100000 in
theorem RexLiteral_walk (s : ByteArray) (w : World) (ws : s.size ≤ maxLen) (hE : ∃ aL aR aF, Errs3 w aL aR aF) :
    Calls Tryd.prog 6 #[.string s] w fun e w' => e = .returned (.bool true) ∧ Below w.heap.size w w' := by
  unfold maxLen at ws
  obtain ⟨aL, aR, aF, hE⟩ := hE
  have HAL := Lib.hid (alive07_any aL aR aF w hE)
  by_cases h30 : 30 < s.size
  · have hd : decide (30 < s.size) = true := decide_eq_true h30
    go_enter Tryd.func6, Tryd.ntmps6
    go_wp2_with (go_at_call 17; refine HAL.out.mono ?_; rintro e w1 ⟨rfl, hb1⟩)
    go_ret
    exact ⟨rfl, hb1⟩
  · have hd : decide (30 < s.size) = false := decide_eq_false h30
    obtain ⟨l, hl⟩ : ∃ l, s.data.toList = l := ⟨_, rfl⟩
    have hln : l.length = s.size := by rw [← hl, ← ba_size]
    have HL := Lib.hid hl
    have HLN := Lib.hid hln
    have HE := Lib.hid hE
    clear hl hln hE
    go_enter Tryd.func6, Tryd.ntmps6
    go_wp2_with (go_at_call 17; refine HAL.out.mono ?_; rintro e w1 ⟨rfl, hb1⟩)
    go_loopw [3, 4] (fun v i wr => ∃ (k : Nat) (t : ByteArray), k ≤ s.size ∧ i = .int .i64 (k : Int) ∧ v = .string t ∧ t.size ≤ 2 * k ∧ Hid (t.data.toList = esc (l.take k)) ∧ wr = w1) (fun _ i _ => s.size - (intOf i).toNat)
    case atStart => exact ⟨0, ByteArray.empty, Nat.zero_le _, rfl, rfl, by decide, rfl, rfl⟩
    case round =>
      obtain ⟨k, t, hk, rfl, rfl, hts, HT, rfl⟩ := hrel
      by_cases hlt : k < s.size
      · have hkd : decide (k < s.size) = true := decide_eq_true hlt
        have HT2 : Hid ((t ++ ((⟨#[92]⟩ : ByteArray) ++ s.extract k (k + 1))).data.toList = esc (l.take (k + 1)) ∧ (t ++ ((⟨#[92]⟩ : ByteArray) ++ s.extract k (k + 1))).size ≤ 2 * (k + 1)) := by
          have hx : (s.extract k (k + 1)).data.toList = [s[k]] := by
            have hl : k < s.data.toList.length := by rw [← ba_size]; exact hlt
            rw [Lib.extract_data, List.drop_eq_getElem_cons hl, show k + 1 - k = 1 by omega]
            rfl
          have e1 : (t ++ ((⟨#[92]⟩ : ByteArray) ++ s.extract k (k + 1))).data.toList = esc (l.take (k + 1)) := by
            rw [ba_append, ba_append, HT.out, hx, ← HL.out, take_snoc s k hlt, esc_snoc]
            rfl
          refine ⟨e1, ?_⟩
          rw [ba_size, e1, esc_length, List.length_take]
          omega
        go_wp2_with fail
        go_roundw
        case rel => exact ⟨k + 1, _, by omega, by go_num, rfl, HT2.out.2, HT2.out.1, trivial⟩
        case measure => first | (simp [intOf]; done) | (simp [intOf]; omega)
      · have hkd : decide (k < s.size) = false := decide_eq_false hlt
        obtain rfl : k = s.size := by omega
        have HTE : Hid (t.data.toList = esc l) := by
          have := HT.out
          rw [List.take_of_length_le (by rw [HLN.out]; exact Nat.le_refl _)] at this
          exact this
        have hl30 : l.length ≤ 30 := by rw [HLN.out]; omega
        have HPR : Hid (prs t = (0, joinT 2 (l.map lf))) := prs_esc HTE.out hl30
        have HLI := Lib.hid (fun W => Literal_any s W (by omega))
        have HPA := Lib.hid (fun W hW => Parse_any aL aR aF t W (by omega) hW)
        clear HT HTE
        go_wp2_with fail
        refine (HPA.out _ (HE.out.later hb1)).mono ?_
        rintro e w2 ⟨cs, he, ht, hb2⟩
        rw [HPR.out] at he ht
        have he : e = .returned (.tuple #[.agg cs, .nilIface]) := he
        subst he
        try dsimp only
        obtain ⟨k1, i1, S1, ks1, A1, c1, hT1, rfl, hS1⟩ := ht.form
        have HT1 := Lib.hid ht
        have hb12 := hb1.trans (hb2.mono hb1.size)
        clear hT1 ht HPA HPR
        unfold nodeC
        go_wp2_with fail
        obtain ⟨V, hV⟩ : ∃ V, w2.alloc (.cells #[.int .i64 (k1 : Int), .int .i64 (i1 : Int), .int .u64 (S1.a0 : Int), .int .u64 (S1.a1 : Int), .int .u64 (S1.a2 : Int), .int .u64 (S1.a3 : Int), .slice A1 ks1.length c1] 41) = V := ⟨_, rfl⟩
        have v1 : RowAt V w2.heap.size (nodeC k1 i1 S1 (.slice A1 ks1.length c1)) 41 := by rw [← hV]; exact RowAt.new _ _ _
        have v2 : Below w2.heap.size w2 V := by rw [← hV]; exact (Below.refl _ _).alloc (Nat.le_refl _) _
        have v3 : Below w.heap.size w V := hb12.trans (v2.mono hb12.size)
        simp only [hV]
        clear hV
        refine (HLI.out V).mono ?_
        rintro e w3 ⟨cs, rfl, ht, hb3⟩
        rw [HL.out] at ht
        try dsimp only
        obtain ⟨k2, i2, S2, ks2, A2, c2, hT2, rfl, hS2⟩ := ht.form
        have HT2 := Lib.hid ht
        have HTE := Lib.hid hT2
        have y1 := v1.later hb3 v1.lt
        have y3 := v3.trans (hb3.mono v3.size)
        have yn := v2.trans (hb3.mono v2.size)
        clear hT2 ht HLI v1
        obtain ⟨V2, hV2⟩ : ∃ V2, w3.alloc (.cells #[.int .i64 (k2 : Int), .int .i64 (i2 : Int), .int .u64 (S2.a0 : Int), .int .u64 (S2.a1 : Int), .int .u64 (S2.a2 : Int), .int .u64 (S2.a3 : Int), .slice A2 ks2.length c2] 41) = V2 := ⟨_, rfl⟩
        have x1 : RowAt V2 w2.heap.size (nodeC k1 i1 S1 (.slice A1 ks1.length c1)) 41 := by rw [← hV2]; exact RowAt.old y1 _
        have x2 : RowAt V2 w3.heap.size (nodeC k2 i2 S2 (.slice A2 ks2.length c2)) 41 := by rw [← hV2]; exact RowAt.new _ _ _
        have x3 : Below w.heap.size w V2 := by rw [← hV2]; exact y3.alloc y3.size _
        have x4 : Below w3.heap.size w3 V2 := by rw [← hV2]; exact (Below.refl _ _).alloc (Nat.le_refl _) _
        have x5 : TreeAt (fun _ => True) V2 (joinT 2 (l.map lf)) (nodeC k1 i1 S1 (.slice A1 ks1.length c1)) := ((HT1.out.mono (fun _ _ => trivial)).below yn).below x4
        have x6 : TreeAt (fun _ => True) V2 (joinT 2 (l.map lf)) (nodeC k2 i2 S2 (.slice A2 ks2.length c2)) := (HT2.out.mono (fun _ _ => trivial)).below x4
        have hz : sizeT (joinT 2 (l.map lf)) ≤ 10000 := by have := sizeT_lits l; omega
        have HSM := Lib.hid (Same_any (fun _ => True) V2 _ _ _ _ hz x5 x6)
        rw [sameT_refl] at HSM
        have hn1 : w2.heap.size < V2.heap.size := x1.lt
        have hn2 : w3.heap.size < V2.heap.size := x2.lt
        obtain ⟨N1, hN1⟩ : ∃ N1, w2.heap.size = N1 := ⟨_, rfl⟩
        obtain ⟨N2, hN2⟩ : ∃ N2, w3.heap.size = N2 := ⟨_, rfl⟩
        have HV2 := Lib.hid hV2
        have HN1 := Lib.hid hN1
        have HN2 := Lib.hid hN2
        rw [hN1] at x1 hn1
        rw [hN2] at x2 hn2
        have HZ := Lib.hid hz
        clear hV2 hN1 hN2 y1 y3 yn v2 v3 x4 x5 hb3 hb2 hb12 HT1 HT2 hz
        unfold nodeC
        go_upto_region 12 with fail
        have hV2 := HV2.out
        have hN1 := HN1.out
        have hN2 := HN2.out
        simp only [hV2, hN1, hN2]
        clear hV2 hN1 hN2 HV2 HN1 HN2
        obtain ⟨⟨n0, n1, n2, n3, n4, n5, n6⟩, -⟩ := node_facts x1
        obtain ⟨⟨o0, o1, o2, o3, o4, o5, o6⟩, -⟩ := node_facts x2
        go_wp2_with fail
        refine HSM.out.mono ?_
        rintro e w5 ⟨rfl, hb5⟩
        try dsimp only
        have z2 := x2.later hb5 x2.lt
        have z3 := x3.trans (hb5.mono x3.size)
        have z6 := x6.below hb5
        clear n0 n1 n2 n3 n4 n5 n6 o0 o1 o2 o3 o4 o5 o6 x1 x2 x3 x6 HSM hn1
        by_cases h2 : s.size < 2
        · have hd2 : decide (s.size < 2) = true := decide_eq_true h2
          have HK : Hid (sizeT (joinT 2 (l.map lf)) = 1 ∧ k2 = s.size) := by
            show _ ∧ _
            have hln := HLN.out
            have hte := HTE.out
            match l, hln, hte with
            | [], hln, hte => exact ⟨rfl, by injection hte with e; rw [← e, ← hln]; rfl⟩
            | [c], hln, hte => exact ⟨rfl, by unfold joinT at hte; simp only [List.map_cons, List.map_nil] at hte; unfold lf leaf at hte; injection hte with e; rw [← e, ← hln]; rfl⟩
            | c :: d :: r, hln, hte => simp at hln; omega
          have HSZ := Lib.hid (Size_any (fun _ => True) w5 _ _ HZ.out z6)
          rw [HK.out.1] at HSZ
          have hk2 := HK.out.2
          subst hk2
          obtain ⟨⟨o0, o1, o2, o3, o4, o5, o6⟩, -⟩ := node_facts z2
          go_wp2_with fail
          refine HSZ.out.mono ?_
          rintro e w6 ⟨rfl, hb6⟩
          try dsimp only
          have q2 := z2.later hb6 z2.lt
          obtain ⟨⟨p0, -⟩, -⟩ := node_facts q2
          have q3 := z3.trans (hb6.mono z3.size)
          go_wp2_with fail
          go_ret
          exact ⟨rfl, q3⟩
        · have hd2 : decide (s.size < 2) = false := decide_eq_false h2
          have HK : Hid (T.mk k2 i2 S2 ks2 = .mk 2 0 S4.zero (l.map lf)) := by
            show _ = _
            have hln := HLN.out
            rw [← HTE.out]
            match l, hln with
            | [], hln => simp at hln; omega
            | [c], hln => simp at hln; omega
            | c :: d :: r, hln => rfl
          have hk := HK.out
          injection hk with e1 e2 e3 e4
          subst e1 e2 e3 e4
          have hlen : (l.map lf).length = s.size := by rw [List.length_map, HLN.out]
          rw [hlen] at z2
          have z6' : TreeAt (fun _ => True) w5 (.mk 2 0 S4.zero (l.map lf)) (nodeC 2 0 S4.zero (.slice A2 (l.map lf).length c2)) := by rw [← HTE.out]; exact z6
          have HKD := Lib.hid (kids_of z6')
          have HLEN := Lib.hid hlen
          clear hk z6 z6' HZ hlen
          obtain ⟨⟨o0, o1, o2, o3, o4, o5, o6⟩, -⟩ := node_facts (k := 2) (i := 0) (s := S4.zero) (sl := .slice A2 s.size c2) z2
          go_wp2_with fail
          have hn5 : N2 < w5.heap.size := z2.lt
          have HZ2 := Lib.hid z2
          clear o0 o1 o2 o3 o4 o5 o6 z2
          go_loopw [60] (fun v wr => ∃ j : Nat, j ≤ s.size ∧ v = .int .i64 (j : Int) ∧ Below w5.heap.size w5 wr) (fun v _ => s.size - (intOf v).toNat)
          case atStart => exact ⟨0, Nat.zero_le _, rfl, Below.refl _ _⟩
          case round =>
            obtain ⟨j, hj, rfl, hbl⟩ := hrel
            have hsz5 := hbl.size
            by_cases hlt : j < s.size
            · have hjd : decide (j < s.size) = true := decide_eq_true hlt
              have hjd2 : decide (s.size ≤ j) = false := by simp; omega
              have HKID : Hid (∃ g v, A2 = some ⟨g, 0, none⟩ ∧ g < w5.heap.size ∧ TreeAt (fun _ => True) w5 (lf s[j]) v ∧ ∀ i x, v[i]? = some x → w5.cell? ⟨g, j * 7 + i, none⟩ = some x) := by
                show ∃ g v, A2 = some ⟨g, 0, none⟩ ∧ g < w5.heap.size ∧ TreeAt (fun _ => True) w5 (lf s[j]) v ∧ ∀ i x, v[i]? = some x → w5.cell? ⟨g, j * 7 + i, none⟩ = some x
                obtain ⟨hA, hA2⟩ := HKD.out
                have hlj : (l.map lf)[j]? = some (lf s[j]) := by
                  rw [List.getElem?_map, ← HL.out, ba_at s j hlt]; rfl
                cases A2 with
                | none => have := (hA rfl).1; rw [this] at hlj; simp at hlj
                | some a =>
                  obtain ⟨e1, e2, e3⟩ := hA2 a rfl
                  obtain ⟨v, hv, hc⟩ := KidsAt.at_ _ 0 e3 j _ hlj
                  rw [Nat.zero_add] at hc
                  exact ⟨a.block, v, by rw [e1], e2, hv, hc⟩
              obtain ⟨g, v, rfl, hg, hv, hc⟩ := HKID.out
              obtain ⟨k3, i3, S3, ks3, A3, c3, hT3, rfl, hS3⟩ := hv.form
              have e1 : k3 = 1 ∧ S3 = single s[j] := by
                unfold lf leaf at hT3
                injection hT3 with e1 e2 e3 e4
                exact ⟨e1.symm, e3.symm⟩
              obtain ⟨rfl, rfl⟩ := e1
              obtain ⟨a0, a1, a2, a3, a4, a5, a6⟩ := node_cells (w := wr) (g := g) (o := j * 7) (fun i x hi => cell_of_heap (hbl.block g hg) (hc i x hi))
              simp only [Nat.add_zero] at a0
              have hgw : g < wr.heap.size := by omega
              have hki : (0 : Int) ≤ (j : Int) := by omega
              have hkl : (j : Int) < (s.size : Int) := by omega
              obtain ⟨W, hW⟩ : ∃ W, wr.alloc (.cells #[.int .i64 1, .int .i64 (i3 : Int), .int .u64 ((single s[j]).a0 : Int), .int .u64 ((single s[j]).a1 : Int), .int .u64 ((single s[j]).a2 : Int), .int .u64 ((single s[j]).a3 : Int), .slice A3 ks3.length c3] 41) = W := ⟨_, rfl⟩
              have w1' : RowAt W wr.heap.size (nodeC 1 i3 (single s[j]) (.slice A3 ks3.length c3)) 41 := by rw [← hW]; exact RowAt.new _ _ _
              have w2' : Below w5.heap.size w5 W := by rw [← hW]; exact hbl.alloc hsz5 _
              have HW := Lib.hid hW
              obtain ⟨K, hK⟩ : ∃ K, wr.heap.size = K := ⟨_, rfl⟩
              have HK := Lib.hid hK
              rw [hK] at w1'
              have gK := fun W' (hb : Below W.heap.size W W') => (node_facts (w1'.later hb w1'.lt)).1
              have HH := Lib.hid (HasOne s[j])
              have HC := Lib.hid (CountOne s[j])
              clear hW hK hv hc hT3 hS3 HKD HKID w1'
              go_upto_region 19 with fail
              have hW := HW.out
              have hK := HK.out
              simp only [hW, hK]
              clear hW HW hK HK a0 a1 a2 a3 a4 a5 a6
              go_region_held3 (fun w' : World => Below W.heap.size W w') (first | assumption | exact below_step hb9 (by assumption) | exact Below.drew (by assumption) | exact (Below.refl _ _).drew) (first | (go_at_call 28; refine (HH.out _).mono ?_; rintro e w9 ⟨rfl, hb9⟩) | (go_at_call 29; refine (HC.out _).mono ?_; rintro e w9 ⟨rfl, hb9⟩))
              have hbw : Below W.heap.size W w9 := by assumption
              have hb59 := w2'.trans (hbw.mono w2'.size)
              clear gK
              go_wp2_with fail
              go_roundw
              case rel => exact ⟨j + 1, by omega, by go_num, hb59⟩
              case measure => first | (simp [intOf]; done) | (simp [intOf]; omega)
            · have hjd : decide (j < s.size) = false := decide_eq_false hlt
              have z2' := HZ2.out.later hbl hn5
              obtain ⟨⟨o0, o1, o2, o3, o4, o5, o6⟩, -⟩ := node_facts (k := 2) (i := 0) (s := S4.zero) (sl := .slice A2 s.size c2) z2'
              have hbb := z3.trans (hbl.mono z3.size)
              clear HKD
              go_wp2_with fail
              go_ret
              exact ⟨rfl, hbb⟩

end Go.Proofs.YtkddighepgpccaaDoor
