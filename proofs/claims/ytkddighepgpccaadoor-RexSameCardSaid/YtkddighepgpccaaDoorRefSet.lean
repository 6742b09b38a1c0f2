/-
  The walk of the reference's class.
-/
import Derived.Test.YtkddighepgpccaaDoorRefSetA
namespace Go.Proofs.YtkddighepgpccaaDoor
open Go Go.RowKit
set_option linter.unusedSimpArgs false
set_option linter.unusedVariables false

/-- What the reference's class answers. -/
def SetPost (s : ByteArray) (a : Nat) (w : World) (e : Ending) (w' : World) : Prop := Below w.heap.size w w' ∧
  match refSet (rem s a) with
  | none => ∃ S : S4, e = .returned (.tuple #[.agg #[.int .u64 (S.a0 : Int), .int .u64 (S.a1 : Int), .int .u64 (S.a2 : Int), .int .u64 (S.a3 : Int)], .int .i64 (-1)])
  | some (S, r') => ∃ q, q < s.size ∧ rem s q = 93 :: r' ∧ e = .returned (.tuple #[.agg #[.int .u64 (S.a0 : Int), .int .u64 (S.a1 : Int), .int .u64 (S.a2 : Int), .int .u64 (S.a3 : Int)], .int .i64 (q : Int)])

set_option maxHeartbeats 4000000 in
set_option maxRecDepth 100000 in
theorem RefSet_any (w : World) (s : ByteArray) (a : Nat) (hs : s.size ≤ 100) (ha : a ≤ s.size) :
    Calls Tryd.prog 61 #[.string s, .int .i64 (a : Int)] w (SetPost s a w) := by
  obtain ⟨V, hV⟩ : ∃ V, w.alloc (.cells #[.int .u64 0, .int .u64 0, .int .u64 0, .int .u64 0] 37) = V := ⟨_, rfl⟩
  have rR : RowAt V w.heap.size #[.int .u64 0, .int .u64 0, .int .u64 0, .int .u64 0] 37 := by rw [← hV]; exact RowAt.new _ _ _
  have hB : Below w.heap.size w V := by rw [← hV]; exact (Below.refl _ _).alloc (Nat.le_refl _) _
  have HV := Lib.hid hV
  clear hV
  obtain ⟨neg, hneg⟩ : ∃ neg : Bool, neg = decide ((rem s a).head? = some 94) := ⟨_, rfl⟩
  obtain ⟨a1, ha1⟩ : ∃ a1 : Nat, a1 = if neg then a + 1 else a := ⟨_, rfl⟩
  have hG : (if (rem s a).head? = some 94 then (rem s a).tail else rem s a) = rem s a1 := by
    rw [ha1]
    by_cases h : (rem s a).head? = some 94
    · rw [if_pos h, hneg, decide_eq_true h]
      have hlt : a < s.size := by
        rcases Nat.lt_or_ge a s.size with h' | h'
        · exact h'
        · rw [rem_nil h'] at h; cases h
      rw [rem_cons hlt]; rfl
    · rw [if_neg h, hneg, decide_eq_false h]; rfl
  have ha1s : a1 ≤ s.size := by
    rw [ha1, hneg]
    split
    · rename_i h
      have h := of_decide_eq_true h
      rcases Nat.lt_or_ge a s.size with h' | h'
      · omega
      · rw [rem_nil h'] at h; cases h
    · exact ha
  have hRS : refSet (rem s a) = match collL (rem s a1) with | none => none | some (L, r') => if L = [] then none else (spL L S4.zero).map fun x => (if neg = true then x.not else x, r') := by
    unfold refSet
    rw [hG]
    by_cases h : (rem s a).head? = some 94
    · rw [show neg = true by rw [hneg, decide_eq_true h]]
      simp only [if_pos h, if_true]
      rcases collL (rem s a1) with _ | ⟨L, r'⟩ <;> rfl
    · rw [show neg = false by rw [hneg, decide_eq_false h]]
      simp only [if_neg h, Bool.false_eq_true, if_false]
      rcases collL (rem s a1) with _ | ⟨L, r'⟩ <;> rfl
  have RS := Lib.hid hRS
  clear hRS
  have HN := Lib.hid hneg
  have HA1 := Lib.hid ha1
  have HG := Lib.hid hG
  clear hneg ha1 hG
  go_enter Tryd.func61, Tryd.ntmps61
  go_upto_region 1 with (fail)
  have hV := HV.out
  simp only [hV]
  clear hV
  go_cut [6] (fun n wx => n = .bool neg ∧ wx = V)
  case first =>
    rcases Nat.lt_or_ge a s.size with hlt | hge
    · have hr := rem_cons hlt
      have hd : decide ((a : Int) < (s.size : Int)) = true := decide_eq_true (by omega)
      by_cases h94 : s[a] = 94
      · have hn : neg = true := by rw [HN.out, hr, h94]; rfl
        subst hn
        go_wp2
        go_meet
        case rel => exact ⟨rfl, rfl⟩
      · have hn : neg = false := by rw [HN.out, hr]; simp [h94]
        subst hn
        have hb : ((s[a].toNat : Int) == 94) = false := by
          have : s[a].toNat ≠ 94 := fun h => h94 (UInt8.toNat_inj.1 h)
          simp; omega
        go_wp2
        go_meet
        case rel => exact ⟨rfl, rfl⟩
    · have hr := rem_nil hge
      have hn : neg = false := by rw [HN.out, hr]; rfl
      subst hn
      have hd : decide ((a : Int) < (s.size : Int)) = false := decide_eq_false (by omega)
      go_wp2
      go_meet
      case rel => exact ⟨rfl, rfl⟩
  case rest =>
    obtain ⟨rfl, hw⟩ := hcut
    obtain rfl := hw.symm
    go_upto_if 25 with (fail)
    go_cut [1] (fun t wx => t = .int .i64 (a1 : Int) ∧ wx = V)
    case first =>
      cases neg
      · go_wp2
        go_meet
        case rel => exact ⟨by rw [HA1.out]; rfl, rfl⟩
      · go_wp2
        go_meet
        case rel => exact ⟨by rw [HA1.out]; go_num, rfl⟩
    case rest =>
      obtain ⟨rfl, hw⟩ := hcut
      obtain rfl := hw.symm
      have rU := rR.lt
      have T0 : Two ((V.alloc (.cells #[] 5)).alloc (.cells #[] 4)) (w.heap.size + 1) V.heap.size 0 (V.heap.size + 1) 0 0 [] := by
        refine ⟨rfl, (World.ownsRow_lit (base := w.heap.size + 1) (e := 5) (size := 1) V #[] 0 (by omega) (by decide) rfl).alloc _, ?_, by omega⟩
        have := World.ownsRow_lit (base := w.heap.size + 1) (e := 4) (size := 1) (V.alloc (.cells #[] 5)) #[] 0 (by simp <;> omega) (by decide) rfl
        simpa [tcells] using this
      have R0 := (rR.old (.cells #[] 5)).old (.cells #[] 4)
      have B0 := (hB.alloc (by omega) (.cells #[] 5)).alloc (by simp <;> omega) (.cells #[] 4)
      clear rR hB
      have C0 : Hid (collL (rem s a1) = (collL (rem s a1)).map (fun x => ([] ++ x.1, x.2))) := Lib.hid (by cases collL (rem s a1) <;> rfl)
      have R0 := Lib.hid R0
      have B0 := Lib.hid B0
      have T0 := Lib.hid T0
      go_wp2
      go_loopw [1, 7, 8] (fun t x y wr => ∃ (k g c g2 c2 n : Nat) (L : List (UInt8 × Bool)), k ≤ s.size ∧ t = .int .i64 (k : Int) ∧ x = .slice (some ⟨g, 0, none⟩) n c ∧ y = .slice (some ⟨g2, 0, none⟩) n c2 ∧ n ≤ k ∧ Hid (Two wr (w.heap.size + 1) g c g2 c2 n L) ∧ Hid (RowAt wr w.heap.size #[.int .u64 0, .int .u64 0, .int .u64 0, .int .u64 0] 37) ∧ Hid (Below w.heap.size w wr) ∧ Hid (collL (rem s a1) = (collL (rem s k)).map (fun x => (L ++ x.1, x.2)))) (fun t _ _ _ => s.size - (intOf t).toNat)
      case atStart => exact ⟨a1, _, 0, _, 0, 0, [], ha1s, rfl, rfl, rfl, Nat.zero_le _, T0, R0, B0, C0⟩
      case round =>
        obtain ⟨k, g, c, g2, c2, n, L, hk, rfl, rfl, rfl, hnk, T, R, B, C⟩ := hrel
        have hlt1 := T.out.lt
        have hne1 := T.out.ne
        have TL := Lib.hid T.out.len
        have rsz := R.out.lt
        clear T0 R0 B0 C0
        have qU8 := Tryd.underlying5
        rcases Nat.lt_or_ge k s.size with hlt | hge
        · have hr := rem_cons hlt
          have hd : decide ((k : Int) < (s.size : Int)) = true := decide_eq_true (by omega)
          by_cases h93 : s[k] = 93
          · have HR := Lib.hid hr
            clear hr
            have hb : ((s[k].toNat : Int) == 93) = true := by rw [h93]; rfl
            have hd2 : decide ((s.size : Int) ≤ (k : Int)) = false := decide_eq_false (by omega)
            by_cases hn0 : n = 0
            · subst hn0
              have hx : refSet (rem s a) = none := by
                have hL : L = [] := List.eq_nil_of_length_eq_zero TL.out
                rw [RS.out, C.out, HR.out, collL_cons, if_pos h93, hL]; rfl
              have HX := Lib.hid hx
              clear hx
              have n0 := R.out.cellIs 0 _ rfl
              have n1 := R.out.cellIs 1 _ rfl
              have n2 := R.out.cellIs 2 _ rfl
              have n3 := R.out.cellIs 3 _ rfl
              have m0 := R.out.frozen 0
              have m1 := R.out.frozen 1
              have m2 := R.out.frozen 2
              have m3 := R.out.frozen 3
              go_wp2_with fail
              have hF := RowAt.four R.out (.int .u64 0) (.int .u64 0) (.int .u64 0) (.int .u64 0)
              have hB6 := (((B.out.setCell (p := ⟨w.heap.size, 0, none⟩) (Nat.le_refl _) (.int .u64 0)).setCell (p := ⟨w.heap.size, 1, none⟩) (Nat.le_refl _) (.int .u64 0)).setCell (p := ⟨w.heap.size, 2, none⟩) (Nat.le_refl _) (.int .u64 0)).setCell (p := ⟨w.heap.size, 3, none⟩) (Nat.le_refl _) (.int .u64 0)
              clear n0 n1 n2 n3 m0 m1 m2 m3
              generalize (World.setCell (World.setCell (World.setCell (World.setCell wr ⟨w.heap.size, 0, none⟩ (.int .u64 0)) ⟨w.heap.size, 1, none⟩ (.int .u64 0)) ⟨w.heap.size, 2, none⟩ (.int .u64 0)) ⟨w.heap.size, 3, none⟩ (.int .u64 0)) = V4 at hF hB6 ⊢
              have n0 := hF.cellIs 0 _ rfl
              have n1 := hF.cellIs 1 _ rfl
              have n2 := hF.cellIs 2 _ rfl
              have n3 := hF.cellIs 3 _ rfl
              refine bodyPost_ret (v := .tuple #[.agg #[.int .u64 0, .int .u64 0, .int .u64 0, .int .u64 0], .int .i64 (-1)]) (by simp [results, Tryd.results61, go_sem, n0, n1, n2, n3]) rfl ?_
              refine ⟨hB6, ?_⟩
              rw [HX.out]
              exact ⟨S4.zero, rfl⟩
            · have hnb : ((n : Int) == 0) = false := by simp; omega
              have hL : L ≠ [] := fun h => hn0 (by rw [← TL.out, h]; rfl)
              have RS2 : Hid (refSet (rem s a) = (spL L S4.zero).map fun x => (if neg = true then x.not else x, rem s (k + 1))) := Lib.hid (by rw [RS.out, C.out, HR.out, collL_cons, if_pos h93]; simp only [Option.map_some, List.append_nil]; rw [if_neg hL])
              clear RS C
              go_upto_region 16 with (fail)
              obtain ⟨Z, hZ⟩ : ∃ Z, boolRow tk0 = Z := ⟨_, rfl⟩
              have zz := Tryd.zero256
              have zs : (Tryd.prog.info? 96).map (·.size) = some Z.size := by rw [Tryd.size256, ← hZ, tk0_size]
              have zo : Z.all (·.oneCell') = true := by rw [← hZ]; exact tk0_one
              rw [hZ] at zz
              have ZS := Lib.hid zs
              have ZO := Lib.hid zo
              have HZ := Lib.hid hZ
              clear zs zo hZ
              obtain ⟨I, hI⟩ : ∃ I, wr.heap.size = I := ⟨_, rfl⟩
              have HI := Lib.hid hI
              have hIg : g < I ∧ g2 < I ∧ w.heap.size < I := by omega
              have rX0 : RowAt (wr.alloc (.cells Z 96)) I Z 96 := by rw [← hI]; exact RowAt.new _ _ _
              have rR0 := R.out.old (.cells Z 96)
              have hB0 := B.out.alloc (by omega) (.cells Z 96)
              have T0 := T.out.later ((Below.refl wr.heap.size wr).alloc (Nat.le_refl _) (.cells Z 96)) (by omega) (by omega)
              clear hI
              go_upto_region 17 with (have hI := HI.out; simp only [hI]; refine wpList_store_mid rfl 96 (.tmp 9) (.tmp 81) rfl I 0 Z rfl rfl rX0.there ZS.out ZO.out ?_; have rX1 := rX0.setCells_same Z.toList 0 (by intro j v hv; rw [Nat.zero_add, ← Array.getElem?_toList]; exact hv); have rR1 := rR0.setCells_other (b' := I) (by omega) Z.toList 0; have hB1 := below_setCells (b := I) (by omega) Z.toList 0 hB0; have hB2 := below_setCells (b := I) (Nat.le_refl _) Z.toList 0 (Below.refl I (wr.alloc (.cells Z 96))); have T1 := T0.later hB2 (by omega) (by omega); clear hB2; generalize World.setCells _ I 0 Z.toList = V1 at rX1 rR1 hB1 T1 ⊢)
              simp only [Act.put]
              have X0 : Hid (RowAt V1 I (boolRow tk0) 96) := Lib.hid (by rw [HZ.out]; exact rX1)
              have R1 := Lib.hid rR1
              have B1 := Lib.hid hB1
              have T1 := Lib.hid T1
              clear rX1 rR1 hB1 zz ZS ZO HZ T0 rX0 rR0 hB0 hI HI T R B hlt1 rsz
              clear wr
              go_wp2
              go_loopw [10] (fun v wr => ∃ (i : Nat) (S : S4) (tk : List Bool), i ≤ n ∧ v = .int .i64 (i : Int) ∧ Hid (RowIs tk S) ∧ Hid S.ok ∧ Hid (RowAt wr I (boolRow tk) 96) ∧ Hid (RowAt wr w.heap.size #[.int .u64 0, .int .u64 0, .int .u64 0, .int .u64 0] 37) ∧ Hid (Below w.heap.size w wr) ∧ Hid (Two wr (w.heap.size + 1) g c g2 c2 n L) ∧ Hid (spL (L.drop i) S = spL L S4.zero)) (fun v _ => n - (intOf v).toNat)
              case atStart => exact ⟨0, S4.zero, tk0, Nat.zero_le _, rfl, Lib.hid RowIs.zero, Lib.hid S4.zero_ok, X0, R1, B1, T1, Lib.hid rfl⟩
              case round =>
                obtain ⟨i, S, tk, hi, rfl, RI, SO, X, R, B, T, SP⟩ := hrel
                clear X0 R1 B1 T1
                rcases Nat.lt_or_ge i n with hin | hin
                · have hdi : decide ((i : Int) < (n : Int)) = true := decide_eq_true (by omega)
                  obtain ⟨⟨ch, cb⟩, hx⟩ : ∃ x, L[i]? = some x := ⟨_, List.getElem?_eq_getElem (by rw [TL.out]; exact hin)⟩
                  have c1 := T.out.at1 hx
                  have hdr : L.drop i = (ch, cb) :: L.drop (i + 1) := by
                    obtain ⟨hl, he⟩ := List.getElem?_eq_some_iff.1 hx
                    rw [List.drop_eq_getElem_cons hl, he]
                  have DR := Lib.hid hdr
                  simp only at c1
                  have HX := Lib.hid hx
                  clear hx hdr
                  go_wp2
                  go_quiet (fail)
                  have X2 := Lib.hid (X.out.drewN nq)
                  have R2 := Lib.hid (R.out.drewN nq)
                  have B2 := Lib.hid (below_drewN B.out nq)
                  have T2 := Lib.hid (T.out.drewN nq)
                  clear c1 X R B T
                  generalize wr.drewN nq = W2 at X2 R2 B2 T2 ⊢
                  clear nq
                  clear wr
                  rcases Nat.lt_or_ge (i + 2) n with hi2 | hi2
                  · have hd2 : decide ((i : Int) + 2 < (n : Int)) = true := decide_eq_true (by omega)
                    obtain ⟨⟨dh, db⟩, hy⟩ : ∃ x, L[i + 1]? = some x := ⟨_, List.getElem?_eq_getElem (by rw [TL.out]; omega)⟩
                    obtain ⟨⟨eh, eb⟩, hz⟩ : ∃ x, L[i + 2]? = some x := ⟨_, List.getElem?_eq_getElem (by rw [TL.out]; omega)⟩
                    have d2 := T2.out.at1 hy
                    have d3 := T2.out.at2 hy
                    have d4 := T2.out.at1 hz
                    simp only at d2 d3 d4
                    have HY := Lib.hid hy
                    have HZ := Lib.hid hz
                    clear hy hz
                    by_cases h45 : dh = 45
                    · have hb45 : ((dh.toNat : Int) == 45) = true := by rw [h45]; rfl
                      cases db
                      · have SP2 : Hid (spL (L.drop (i + 1)) (S.or (spanS ch ch)) = spL L S4.zero) := Lib.hid (by rw [← SP.out]; exact (spL_bare HX.out HY.out (by simp) S).symm)
                        have hlo := ch.toNat_lt
                        have hhi := ch.toNat_lt
                        have hle : ch.toNat ≤ ch.toNat := Nat.le_refl _
                        have hwl := Lib.hid (wrap64_nat (n := ch.toNat) (by omega))
                        have HLO := Lib.hid hlo
                        have HHI := Lib.hid hhi
                        have HLE := Lib.hid hle
                        clear hlo hhi hle
                        go_upto_region 27 with (fail)
                        have hlo := HLO.out
                        have hhi := HHI.out
                        have hle := HLE.out
                        have hwl := hwl.out
                        simp only [hwl]
                        clear hwl
                        go_loopw [13] (fun v wr => ∃ (m : Nat) (tk' : List Bool), v = .int .i64 (m : Int) ∧ ch.toNat ≤ m ∧ m ≤ ch.toNat + 1 ∧ Hid (Upto tk tk' ch.toNat m) ∧ Hid (RowAt wr I (boolRow tk') 96) ∧ Hid (RowAt wr w.heap.size #[.int .u64 0, .int .u64 0, .int .u64 0, .int .u64 0] 37) ∧ Hid (Below w.heap.size w wr) ∧ Hid (Two wr (w.heap.size + 1) g c g2 c2 n L)) (fun v _ => ch.toNat + 1 - (intOf v).toNat)
                        case atStart => exact ⟨_, tk, rfl, Nat.le_refl _, by omega, Lib.hid (Upto.start RI.out _), X2, R2, B2, T2⟩
                        case round =>
                          obtain ⟨m, tk', rfl, hm1, hm2, UP, X3, R3, B3, T3⟩ := hrel
                          clear X2 R2 B2 T2 hlo hhi hle
                          have hsz3 := T3.out.lt
                          have HM1 := Lib.hid hm1
                          have HM2 := Lib.hid hm2
                          clear hm1 hm2
                          rcases Nat.lt_or_ge m (ch.toNat + 1) with hmh | hmh
                          · have hdm : decide ((m : Int) ≤ wrap64 (ch.toNat : Int)) = true := by
                              rw [wrap64_nat (by have := HHI.out; omega)]
                              exact decide_eq_true (by omega)
                            have hm256 : m < 256 := by have := HHI.out; omega
                            have HMH := Lib.hid hmh
                            have k1 := X3.out.cellIs m _ (boolRow_in (by rw [UP.out.1]; omega))
                            have k2 := X3.out.frozen m
                            have kl := X3.out.lt
                            clear hmh hsz3
                            go_wp2
                            go_roundw
                            case rel =>
                              have := HMH.out
                              have hm1 := HM1.out
                              refine ⟨m + 1, tk'.set m true, by go_num, by omega, by omega, Lib.hid (UP.out.step hm256 hm1), ?_, Lib.hid (R3.out.other _ (by simp <;> omega)), Lib.hid (B3.out.setCell (by simp <;> omega) _), Lib.hid (T3.out.setOther _ _ (by simp <;> omega) (by simp <;> omega))⟩
                              have := X3.out.set m (.bool true)
                              rw [boolRow_set] at this
                              exact Lib.hid this
                            case measure => have := HMH.out; simp [intOf]; omega
                          · have hm : m = ch.toNat + 1 := by have := HM2.out; omega
                            have hdm : decide ((m : Int) ≤ wrap64 (ch.toNat : Int)) = false := by
                              rw [wrap64_nat (by have := HHI.out; omega)]
                              exact decide_eq_false (by omega)
                            have HMM := Lib.hid hm
                            clear hmh hsz3 hm
                            go_wp2
                            go_roundw
                            case rel =>
                              have := HLE.out
                              have UP2 := UP.out
                              rw [HMM.out] at UP2
                              exact ⟨i + 1, S.or (spanS ch ch), tk', by omega, by go_num, Lib.hid (UP2.done RI.out (by rw [UInt8.lt_iff_toNat_lt]; omega)), Lib.hid (S4.or_ok SO.out (spanS_ok _ _)), X3, R3, B3, T3, SP2⟩
                            case measure => simp [intOf]; omega
                      · subst h45
                        have hsp := spL_span HX.out HY.out HZ.out S
                        simp only at hsp
                        by_cases hlt : eh < ch
                        · have hlt' : decide ((eh.toNat : Int) < (ch.toNat : Int)) = true := decide_eq_true (by rw [UInt8.lt_iff_toNat_lt] at hlt; omega)
                          rw [if_pos hlt, SP.out] at hsp
                          have HF : Hid (refSet (rem s a) = none) := Lib.hid (by rw [RS2.out, hsp]; rfl)
                          clear hsp
                          have n0 := R2.out.cellIs 0 _ rfl
                          have n1 := R2.out.cellIs 1 _ rfl
                          have n2 := R2.out.cellIs 2 _ rfl
                          have n3 := R2.out.cellIs 3 _ rfl
                          have m0 := R2.out.frozen 0
                          have m1 := R2.out.frozen 1
                          have m2 := R2.out.frozen 2
                          have m3 := R2.out.frozen 3
                          go_wp2_with fail
                          have hF := RowAt.four R2.out (.int .u64 0) (.int .u64 0) (.int .u64 0) (.int .u64 0)
                          have hB6 := (((B2.out.setCell (p := ⟨w.heap.size, 0, none⟩) (Nat.le_refl _) (.int .u64 0)).setCell (p := ⟨w.heap.size, 1, none⟩) (Nat.le_refl _) (.int .u64 0)).setCell (p := ⟨w.heap.size, 2, none⟩) (Nat.le_refl _) (.int .u64 0)).setCell (p := ⟨w.heap.size, 3, none⟩) (Nat.le_refl _) (.int .u64 0)
                          clear n0 n1 n2 n3 m0 m1 m2 m3
                          generalize (World.setCell (World.setCell (World.setCell (World.setCell W2 ⟨w.heap.size, 0, none⟩ (.int .u64 0)) ⟨w.heap.size, 1, none⟩ (.int .u64 0)) ⟨w.heap.size, 2, none⟩ (.int .u64 0)) ⟨w.heap.size, 3, none⟩ (.int .u64 0)) = V4 at hF hB6 ⊢
                          have n0 := hF.cellIs 0 _ rfl
                          have n1 := hF.cellIs 1 _ rfl
                          have n2 := hF.cellIs 2 _ rfl
                          have n3 := hF.cellIs 3 _ rfl
                          refine bodyPost_ret (v := .tuple #[.agg #[.int .u64 0, .int .u64 0, .int .u64 0, .int .u64 0], .int .i64 (-1)]) (by simp [results, Tryd.results61, go_sem, n0, n1, n2, n3]) rfl ?_
                          refine ⟨hB6, ?_⟩
                          rw [HF.out]
                          exact ⟨S4.zero, rfl⟩
                        · rw [if_neg hlt, SP.out] at hsp
                          have SP2 := Lib.hid hsp.symm
                          clear hsp
                          have hlo := ch.toNat_lt
                          have hhi := eh.toNat_lt
                          have hle : ch.toNat ≤ eh.toNat := by rw [UInt8.lt_iff_toNat_lt] at hlt; omega
                          have hwl := Lib.hid (wrap64_nat (n := ch.toNat) (by omega))
                          have HLO := Lib.hid hlo
                          have HHI := Lib.hid hhi
                          have HLE := Lib.hid hle
                          clear hlo hhi hle
                          go_upto_region 27 with (fail)
                          have hlo := HLO.out
                          have hhi := HHI.out
                          have hle := HLE.out
                          have hwl := hwl.out
                          simp only [hwl]
                          clear hwl
                          go_loopw [13] (fun v wr => ∃ (m : Nat) (tk' : List Bool), v = .int .i64 (m : Int) ∧ ch.toNat ≤ m ∧ m ≤ eh.toNat + 1 ∧ Hid (Upto tk tk' ch.toNat m) ∧ Hid (RowAt wr I (boolRow tk') 96) ∧ Hid (RowAt wr w.heap.size #[.int .u64 0, .int .u64 0, .int .u64 0, .int .u64 0] 37) ∧ Hid (Below w.heap.size w wr) ∧ Hid (Two wr (w.heap.size + 1) g c g2 c2 n L)) (fun v _ => eh.toNat + 1 - (intOf v).toNat)
                          case atStart => exact ⟨_, tk, rfl, Nat.le_refl _, by omega, Lib.hid (Upto.start RI.out _), X2, R2, B2, T2⟩
                          case round =>
                            obtain ⟨m, tk', rfl, hm1, hm2, UP, X3, R3, B3, T3⟩ := hrel
                            clear X2 R2 B2 T2 hlo hhi hle
                            have hsz3 := T3.out.lt
                            have HM1 := Lib.hid hm1
                            have HM2 := Lib.hid hm2
                            clear hm1 hm2
                            rcases Nat.lt_or_ge m (eh.toNat + 1) with hmh | hmh
                            · have hdm : decide ((m : Int) ≤ wrap64 (eh.toNat : Int)) = true := by
                                rw [wrap64_nat (by have := HHI.out; omega)]
                                exact decide_eq_true (by omega)
                              have hm256 : m < 256 := by have := HHI.out; omega
                              have HMH := Lib.hid hmh
                              have k1 := X3.out.cellIs m _ (boolRow_in (by rw [UP.out.1]; omega))
                              have k2 := X3.out.frozen m
                              have kl := X3.out.lt
                              clear hmh hsz3
                              go_wp2
                              go_roundw
                              case rel =>
                                have := HMH.out
                                have hm1 := HM1.out
                                refine ⟨m + 1, tk'.set m true, by go_num, by omega, by omega, Lib.hid (UP.out.step hm256 hm1), ?_, Lib.hid (R3.out.other _ (by simp <;> omega)), Lib.hid (B3.out.setCell (by simp <;> omega) _), Lib.hid (T3.out.setOther _ _ (by simp <;> omega) (by simp <;> omega))⟩
                                have := X3.out.set m (.bool true)
                                rw [boolRow_set] at this
                                exact Lib.hid this
                              case measure => have := HMH.out; simp [intOf]; omega
                            · have hm : m = eh.toNat + 1 := by have := HM2.out; omega
                              have hdm : decide ((m : Int) ≤ wrap64 (eh.toNat : Int)) = false := by
                                rw [wrap64_nat (by have := HHI.out; omega)]
                                exact decide_eq_false (by omega)
                              have HMM := Lib.hid hm
                              clear hmh hsz3 hm
                              go_wp2
                              go_roundw
                              case rel =>
                                have := HLE.out
                                have UP2 := UP.out
                                rw [HMM.out] at UP2
                                exact ⟨(i + 2) + 1, S.or (spanS ch eh), tk', by omega, by go_num, Lib.hid (UP2.done RI.out (by rw [UInt8.lt_iff_toNat_lt]; omega)), Lib.hid (S4.or_ok SO.out (spanS_ok _ _)), X3, R3, B3, T3, SP2⟩
                              case measure => simp [intOf]; omega
                    · have hb45 : ((dh.toNat : Int) == 45) = false := by
                        have : dh.toNat ≠ 45 := fun h => h45 (UInt8.toNat_inj.1 h)
                        simp; omega
                      have SP2 : Hid (spL (L.drop (i + 1)) (S.or (spanS ch ch)) = spL L S4.zero) := Lib.hid (by rw [← SP.out]; exact (spL_bare HX.out HY.out (fun h => h45 h.1) S).symm)
                      have hlo := ch.toNat_lt
                      have hhi := ch.toNat_lt
                      have hle : ch.toNat ≤ ch.toNat := Nat.le_refl _
                      have hwl := Lib.hid (wrap64_nat (n := ch.toNat) (by omega))
                      have HLO := Lib.hid hlo
                      have HHI := Lib.hid hhi
                      have HLE := Lib.hid hle
                      clear hlo hhi hle
                      go_upto_region 27 with (fail)
                      have hlo := HLO.out
                      have hhi := HHI.out
                      have hle := HLE.out
                      have hwl := hwl.out
                      simp only [hwl]
                      clear hwl
                      go_loopw [13] (fun v wr => ∃ (m : Nat) (tk' : List Bool), v = .int .i64 (m : Int) ∧ ch.toNat ≤ m ∧ m ≤ ch.toNat + 1 ∧ Hid (Upto tk tk' ch.toNat m) ∧ Hid (RowAt wr I (boolRow tk') 96) ∧ Hid (RowAt wr w.heap.size #[.int .u64 0, .int .u64 0, .int .u64 0, .int .u64 0] 37) ∧ Hid (Below w.heap.size w wr) ∧ Hid (Two wr (w.heap.size + 1) g c g2 c2 n L)) (fun v _ => ch.toNat + 1 - (intOf v).toNat)
                      case atStart => exact ⟨_, tk, rfl, Nat.le_refl _, by omega, Lib.hid (Upto.start RI.out _), X2, R2, B2, T2⟩
                      case round =>
                        obtain ⟨m, tk', rfl, hm1, hm2, UP, X3, R3, B3, T3⟩ := hrel
                        clear X2 R2 B2 T2 hlo hhi hle
                        have hsz3 := T3.out.lt
                        have HM1 := Lib.hid hm1
                        have HM2 := Lib.hid hm2
                        clear hm1 hm2
                        rcases Nat.lt_or_ge m (ch.toNat + 1) with hmh | hmh
                        · have hdm : decide ((m : Int) ≤ wrap64 (ch.toNat : Int)) = true := by
                            rw [wrap64_nat (by have := HHI.out; omega)]
                            exact decide_eq_true (by omega)
                          have hm256 : m < 256 := by have := HHI.out; omega
                          have HMH := Lib.hid hmh
                          have k1 := X3.out.cellIs m _ (boolRow_in (by rw [UP.out.1]; omega))
                          have k2 := X3.out.frozen m
                          have kl := X3.out.lt
                          clear hmh hsz3
                          go_wp2
                          go_roundw
                          case rel =>
                            have := HMH.out
                            have hm1 := HM1.out
                            refine ⟨m + 1, tk'.set m true, by go_num, by omega, by omega, Lib.hid (UP.out.step hm256 hm1), ?_, Lib.hid (R3.out.other _ (by simp <;> omega)), Lib.hid (B3.out.setCell (by simp <;> omega) _), Lib.hid (T3.out.setOther _ _ (by simp <;> omega) (by simp <;> omega))⟩
                            have := X3.out.set m (.bool true)
                            rw [boolRow_set] at this
                            exact Lib.hid this
                          case measure => have := HMH.out; simp [intOf]; omega
                        · have hm : m = ch.toNat + 1 := by have := HM2.out; omega
                          have hdm : decide ((m : Int) ≤ wrap64 (ch.toNat : Int)) = false := by
                            rw [wrap64_nat (by have := HHI.out; omega)]
                            exact decide_eq_false (by omega)
                          have HMM := Lib.hid hm
                          clear hmh hsz3 hm
                          go_wp2
                          go_roundw
                          case rel =>
                            have := HLE.out
                            have UP2 := UP.out
                            rw [HMM.out] at UP2
                            exact ⟨i + 1, S.or (spanS ch ch), tk', by omega, by go_num, Lib.hid (UP2.done RI.out (by rw [UInt8.lt_iff_toNat_lt]; omega)), Lib.hid (S4.or_ok SO.out (spanS_ok _ _)), X3, R3, B3, T3, SP2⟩
                          case measure => simp [intOf]; omega
                  · have hd2 : decide ((i : Int) + 2 < (n : Int)) = false := decide_eq_false (by omega)
                    have SP2 : Hid (spL (L.drop (i + 1)) (S.or (spanS ch ch)) = spL L S4.zero) := Lib.hid (by rw [← SP.out]; exact (spL_last TL.out HX.out (by omega) S).symm)
                    have hlo := ch.toNat_lt
                    have hhi := ch.toNat_lt
                    have hle : ch.toNat ≤ ch.toNat := Nat.le_refl _
                    have hwl := Lib.hid (wrap64_nat (n := ch.toNat) (by omega))
                    have HLO := Lib.hid hlo
                    have HHI := Lib.hid hhi
                    have HLE := Lib.hid hle
                    clear hlo hhi hle
                    go_upto_region 27 with (fail)
                    have hlo := HLO.out
                    have hhi := HHI.out
                    have hle := HLE.out
                    have hwl := hwl.out
                    simp only [hwl]
                    clear hwl
                    go_loopw [13] (fun v wr => ∃ (m : Nat) (tk' : List Bool), v = .int .i64 (m : Int) ∧ ch.toNat ≤ m ∧ m ≤ ch.toNat + 1 ∧ Hid (Upto tk tk' ch.toNat m) ∧ Hid (RowAt wr I (boolRow tk') 96) ∧ Hid (RowAt wr w.heap.size #[.int .u64 0, .int .u64 0, .int .u64 0, .int .u64 0] 37) ∧ Hid (Below w.heap.size w wr) ∧ Hid (Two wr (w.heap.size + 1) g c g2 c2 n L)) (fun v _ => ch.toNat + 1 - (intOf v).toNat)
                    case atStart => exact ⟨_, tk, rfl, Nat.le_refl _, by omega, Lib.hid (Upto.start RI.out _), X2, R2, B2, T2⟩
                    case round =>
                      obtain ⟨m, tk', rfl, hm1, hm2, UP, X3, R3, B3, T3⟩ := hrel
                      clear X2 R2 B2 T2 hlo hhi hle
                      have hsz3 := T3.out.lt
                      have HM1 := Lib.hid hm1
                      have HM2 := Lib.hid hm2
                      clear hm1 hm2
                      rcases Nat.lt_or_ge m (ch.toNat + 1) with hmh | hmh
                      · have hdm : decide ((m : Int) ≤ wrap64 (ch.toNat : Int)) = true := by
                          rw [wrap64_nat (by have := HHI.out; omega)]
                          exact decide_eq_true (by omega)
                        have hm256 : m < 256 := by have := HHI.out; omega
                        have HMH := Lib.hid hmh
                        have k1 := X3.out.cellIs m _ (boolRow_in (by rw [UP.out.1]; omega))
                        have k2 := X3.out.frozen m
                        have kl := X3.out.lt
                        clear hmh hsz3
                        go_wp2
                        go_roundw
                        case rel =>
                          have := HMH.out
                          have hm1 := HM1.out
                          refine ⟨m + 1, tk'.set m true, by go_num, by omega, by omega, Lib.hid (UP.out.step hm256 hm1), ?_, Lib.hid (R3.out.other _ (by simp <;> omega)), Lib.hid (B3.out.setCell (by simp <;> omega) _), Lib.hid (T3.out.setOther _ _ (by simp <;> omega) (by simp <;> omega))⟩
                          have := X3.out.set m (.bool true)
                          rw [boolRow_set] at this
                          exact Lib.hid this
                        case measure => have := HMH.out; simp [intOf]; omega
                      · have hm : m = ch.toNat + 1 := by have := HM2.out; omega
                        have hdm : decide ((m : Int) ≤ wrap64 (ch.toNat : Int)) = false := by
                          rw [wrap64_nat (by have := HHI.out; omega)]
                          exact decide_eq_false (by omega)
                        have HMM := Lib.hid hm
                        clear hmh hsz3 hm
                        go_wp2
                        go_roundw
                        case rel =>
                          have := HLE.out
                          have UP2 := UP.out
                          rw [HMM.out] at UP2
                          exact ⟨i + 1, S.or (spanS ch ch), tk', by omega, by go_num, Lib.hid (UP2.done RI.out (by rw [UInt8.lt_iff_toNat_lt]; omega)), Lib.hid (S4.or_ok SO.out (spanS_ok _ _)), X3, R3, B3, T3, SP2⟩
                        case measure => simp [intOf]; omega
                · have hdi : decide ((i : Int) < (n : Int)) = false := decide_eq_false (by omega)
                  obtain rfl : i = n := by omega
                  have hend : spL L S4.zero = some S := by
                    rw [← SP.out, List.drop_eq_nil_of_le (by rw [TL.out]; exact Nat.le_refl _)]; rfl
                  have RS3 : Hid (refSet (rem s a) = some (if neg = true then S.not else S, rem s (k + 1))) := Lib.hid (by rw [RS2.out, hend]; rfl)
                  clear hend RS2 SP
                  cases neg
                  · have RS3 : Hid (refSet (rem s a) = some (S, rem s (k + 1))) := RS3
                    go_upto_region 36 with (fail)
                    have RG := Lib.hid X.out.range
                    have HO := RefOfX tk S SO.out RI.out.1 RI.out.2 wr
                    have sz : (Tryd.prog.info? 96).map (·.size) = some (List.map Value.bool tk).length := by rw [Tryd.size256, List.length_map, RI.out.1]
                    have SZ := Lib.hid sz
                    unfold boolRow at HO
                    obtain ⟨LL, hLL⟩ : ∃ LL, List.map Value.bool tk = LL := ⟨_, rfl⟩
                    rw [hLL] at RG SZ HO
                    have hH := Lib.hid HO
                    clear sz hLL HO
                    go_wp2_with (first | (refine wpList_load_mid rfl 96 (.tmp 9) rfl I 0 rfl _ _ RG.out rfl rfl SZ.out ?_) | fail)
                    refine hH.out.mono ?_
                    rintro e w1 ⟨rfl, hb1⟩
                    try dsimp only
                    have rR3 := R.out.later hb1 R.out.lt
                    have hB4 := B.out.trans (hb1.mono B.out.size)
                    have hLt := rR3.lt
                    have n0 := rR3.cellIs 0 _ rfl
                    have n1 := rR3.cellIs 1 _ rfl
                    have n2 := rR3.cellIs 2 _ rfl
                    have n3 := rR3.cellIs 3 _ rfl
                    have m0 := rR3.frozen 0
                    have m1 := rR3.frozen 1
                    have m2 := rR3.frozen 2
                    have m3 := rR3.frozen 3
                    have hR3 := Lib.hid rR3
                    have hB5 := Lib.hid hB4
                    clear rR3 hB4 hb1
                    go_wp2_with fail
                    have hF := RowAt.four hR3.out (.int .u64 ((S).a0 : Int)) (.int .u64 ((S).a1 : Int)) (.int .u64 ((S).a2 : Int)) (.int .u64 ((S).a3 : Int))
                    have hB6 := (((hB5.out.setCell (p := ⟨w.heap.size, 0, none⟩) (Nat.le_refl _) (.int .u64 ((S).a0 : Int))).setCell (p := ⟨w.heap.size, 1, none⟩) (Nat.le_refl _) (.int .u64 ((S).a1 : Int))).setCell (p := ⟨w.heap.size, 2, none⟩) (Nat.le_refl _) (.int .u64 ((S).a2 : Int))).setCell (p := ⟨w.heap.size, 3, none⟩) (Nat.le_refl _) (.int .u64 ((S).a3 : Int))
                    clear n0 n1 n2 n3 m0 m1 m2 m3
                    generalize (World.setCell (World.setCell (World.setCell (World.setCell w1 ⟨w.heap.size, 0, none⟩ (.int .u64 ((S).a0 : Int))) ⟨w.heap.size, 1, none⟩ (.int .u64 ((S).a1 : Int))) ⟨w.heap.size, 2, none⟩ (.int .u64 ((S).a2 : Int))) ⟨w.heap.size, 3, none⟩ (.int .u64 ((S).a3 : Int))) = V4 at hF hB6 ⊢
                    have n0 := hF.cellIs 0 _ rfl
                    have n1 := hF.cellIs 1 _ rfl
                    have n2 := hF.cellIs 2 _ rfl
                    have n3 := hF.cellIs 3 _ rfl
                    refine bodyPost_ret (v := .tuple #[.agg #[.int .u64 ((S).a0 : Int), .int .u64 ((S).a1 : Int), .int .u64 ((S).a2 : Int), .int .u64 ((S).a3 : Int)], .int .i64 (k : Int)]) (by simp [results, Tryd.results61, go_sem, n0, n1, n2, n3]) rfl ?_
                    refine ⟨hB6, ?_⟩
                    rw [RS3.out]
                    exact ⟨k, hlt, by rw [HR.out, h93], rfl⟩
                  · have RS3 : Hid (refSet (rem s a) = some (S.not, rem s (k + 1))) := RS3
                    go_wp2
                    go_loopw [138, 14] (fun v x wr => ∃ (m : Nat) (tk' : List Bool), m ≤ 256 ∧ v = .int .i64 (m : Int) ∧ Hid (Turned tk tk' m) ∧ Hid (RowAt wr I (boolRow tk') 96) ∧ Hid (RowAt wr w.heap.size #[.int .u64 0, .int .u64 0, .int .u64 0, .int .u64 0] 37) ∧ Hid (Below w.heap.size w wr)) (fun v _ _ => 256 - (intOf v).toNat)
                    case atStart => exact ⟨0, tk, by omega, rfl, Lib.hid (Turned.start RI.out), X, R, B⟩
                    case round =>
                      obtain ⟨m, tk', hm, rfl, UP, X3, R3, B3⟩ := hrel
                      clear X R B
                      rcases Nat.lt_or_ge m 256 with hm256 | hm256
                      · have hdm : decide ((m : Int) < 256) = true := decide_eq_true (by omega)
                        have k1 := X3.out.cellIs m _ (boolRow_in (by rw [UP.out.1]; exact hm256))
                        have k2 := X3.out.frozen m
                        have kl := X3.out.lt
                        have UP2 := Lib.hid (UP.out.step hm256)
                        have X4 := X3.out.set m (.bool (!inB tk' m))
                        rw [boolRow_set] at X4
                        have X4 := Lib.hid X4
                        have HI6 := Lib.hid hIg
                        obtain ⟨y, hy⟩ : ∃ y, inB tk' m = y := ⟨_, rfl⟩
                        rw [hy] at k1 UP2 X4
                        have HM6 := Lib.hid hm256
                        clear hy
                        go_wp2
                        go_roundw
                        case rel => exact ⟨m + 1, tk'.set m (!y), by have := HM6.out; omega, by go_num, UP2, X4, Lib.hid (R3.out.other _ (by have := HI6.out; simp <;> omega)), Lib.hid (B3.out.setCell (by have := HI6.out; simp <;> omega) _)⟩
                        case measure => have := HM6.out; simp [intOf]; omega
                      · have hm' : m = 256 := by omega
                        have hdm : decide ((m : Int) < 256) = false := decide_eq_false (by omega)
                        have UP2 := UP.out
                        rw [hm'] at UP2
                        clear hm' hm256
                        go_upto_region 36 with (fail)
                        have RG := Lib.hid X3.out.range
                        have HO := RefOfX tk' S.not (S4.not_ok S) (UP2.done RI.out SO.out).1 (UP2.done RI.out SO.out).2 wr
                        have sz : (Tryd.prog.info? 96).map (·.size) = some (List.map Value.bool tk').length := by rw [Tryd.size256, List.length_map, (UP2.done RI.out SO.out).1]
                        have SZ := Lib.hid sz
                        unfold boolRow at HO
                        obtain ⟨LL, hLL⟩ : ∃ LL, List.map Value.bool tk' = LL := ⟨_, rfl⟩
                        rw [hLL] at RG SZ HO
                        have hH := Lib.hid HO
                        clear sz hLL HO
                        go_wp2_with (first | (refine wpList_load_mid rfl 96 (.tmp 9) rfl I 0 rfl _ _ RG.out rfl rfl SZ.out ?_) | fail)
                        refine hH.out.mono ?_
                        rintro e w1 ⟨rfl, hb1⟩
                        try dsimp only
                        have rR3 := R3.out.later hb1 R3.out.lt
                        have hB4 := B3.out.trans (hb1.mono B3.out.size)
                        have hLt := rR3.lt
                        have n0 := rR3.cellIs 0 _ rfl
                        have n1 := rR3.cellIs 1 _ rfl
                        have n2 := rR3.cellIs 2 _ rfl
                        have n3 := rR3.cellIs 3 _ rfl
                        have m0 := rR3.frozen 0
                        have m1 := rR3.frozen 1
                        have m2 := rR3.frozen 2
                        have m3 := rR3.frozen 3
                        have hR3 := Lib.hid rR3
                        have hB5 := Lib.hid hB4
                        clear rR3 hB4 hb1
                        go_wp2_with fail
                        have hF := RowAt.four hR3.out (.int .u64 ((S.not).a0 : Int)) (.int .u64 ((S.not).a1 : Int)) (.int .u64 ((S.not).a2 : Int)) (.int .u64 ((S.not).a3 : Int))
                        have hB6 := (((hB5.out.setCell (p := ⟨w.heap.size, 0, none⟩) (Nat.le_refl _) (.int .u64 ((S.not).a0 : Int))).setCell (p := ⟨w.heap.size, 1, none⟩) (Nat.le_refl _) (.int .u64 ((S.not).a1 : Int))).setCell (p := ⟨w.heap.size, 2, none⟩) (Nat.le_refl _) (.int .u64 ((S.not).a2 : Int))).setCell (p := ⟨w.heap.size, 3, none⟩) (Nat.le_refl _) (.int .u64 ((S.not).a3 : Int))
                        clear n0 n1 n2 n3 m0 m1 m2 m3
                        generalize (World.setCell (World.setCell (World.setCell (World.setCell w1 ⟨w.heap.size, 0, none⟩ (.int .u64 ((S.not).a0 : Int))) ⟨w.heap.size, 1, none⟩ (.int .u64 ((S.not).a1 : Int))) ⟨w.heap.size, 2, none⟩ (.int .u64 ((S.not).a2 : Int))) ⟨w.heap.size, 3, none⟩ (.int .u64 ((S.not).a3 : Int))) = V4 at hF hB6 ⊢
                        have n0 := hF.cellIs 0 _ rfl
                        have n1 := hF.cellIs 1 _ rfl
                        have n2 := hF.cellIs 2 _ rfl
                        have n3 := hF.cellIs 3 _ rfl
                        refine bodyPost_ret (v := .tuple #[.agg #[.int .u64 ((S.not).a0 : Int), .int .u64 ((S.not).a1 : Int), .int .u64 ((S.not).a2 : Int), .int .u64 ((S.not).a3 : Int)], .int .i64 (k : Int)]) (by simp [results, Tryd.results61, go_sem, n0, n1, n2, n3]) rfl ?_
                        refine ⟨hB6, ?_⟩
                        rw [RS3.out]
                        exact ⟨k, hlt, by rw [HR.out, h93], rfl⟩
          · have hb : ((s[k].toNat : Int) == 93) = false := by
              have : s[k].toNat ≠ 93 := fun h => h93 (UInt8.toNat_inj.1 h)
              simp; omega
            by_cases h92 : s[k] = 92
            · rcases Nat.lt_or_ge (k + 1) s.size with hlt2 | hge2
              · have hd2 : decide ((s.size : Int) ≤ (k : Int) + 1) = false := decide_eq_false (by omega)
                have C1 : Hid (collL (rem s a1) = (collL (rem s (k + 1 + 1))).map (fun x => ((L ++ [(s[k + 1], false)]) ++ x.1, x.2))) := Lib.hid (by rw [C.out, hr, collL_cons, if_neg h93, if_pos h92, rem_cons hlt2]; simp [Function.comp_def])
                clear hr
                go_wp2_with (first | (at_builtin; refine wpList_append_row rfl (.tmp 51) (.tmp 55) 81 rfl 5 Tryd.underlying81 (.int .u8 0) 1 1 Tryd.info_uS rfl (by decide) (by decide) (w.heap.size + 1) (.slice (some ⟨g, 0, none⟩) n c) n _ rfl (T.out.one.alloc _) #[.int .u8 (s[k + 1].toNat : Int)] wr.heap.size rfl (RowAt.new _ _ _) rfl (by intro u hu; simp at hu; subst hu; rfl) (by omega) (by simp <;> omega) ?_; intro g1 c1 w1 o1 gr1 p1 lt1; have s1 := gr1.size; simp only [World.size_alloc] at s1; have q1 := Lib.hid p1; have t1 := Lib.hid (T.out.keep gr1); have h1 := Lib.hid gr1; have n1 := Lib.hid o1; clear o1 gr1 p1) | (at_builtin; refine wpList_append_row rfl (.tmp 57) (.tmp 58) 113 rfl 4 Tryd.underlying113 (.bool false) 1 1 Tryd.info_bS rfl (by decide) (by decide) (w.heap.size + 1) (.slice (some ⟨g2, 0, none⟩) n c2) n _ rfl (t1.out.alloc _) #[.bool false] w1.heap.size rfl (RowAt.new _ _ _) rfl (by intro u hu; simp at hu; subst hu; rfl) (by omega) (by simp <;> omega) ?_; intro g3 c3 w2 o2 gr2 p2 lt2; have T2 := Lib.hid (T.out.next (s[k + 1], false) rfl rfl n1.out h1.out q1.out lt1 o2 gr2 p2 lt2); have F2 := Lib.hid (T.out.frame B.out R.out h1.out gr2); clear q1 t1 h1 n1 o2 gr2 p2 lt2 lt1 s1))
                go_roundw
                case rel => exact ⟨k + 1 + 1, g1, c1, g3, c3, n + 1, _, by omega, by go_num, by go_num, by go_num, by omega, T2, Lib.hid F2.out.2, Lib.hid F2.out.1, C1⟩
                case measure => simp [intOf]; omega
              · have hd2 : decide ((s.size : Int) ≤ (k : Int) + 1) = true := decide_eq_true (by omega)
                have hx : refSet (rem s a) = none := by rw [RS.out, C.out, hr, collL_cons, if_neg h93, if_pos h92, rem_nil hge2]; rfl
                have HX := Lib.hid hx
                clear hx hr
                have n0 := R.out.cellIs 0 _ rfl
                have n1 := R.out.cellIs 1 _ rfl
                have n2 := R.out.cellIs 2 _ rfl
                have n3 := R.out.cellIs 3 _ rfl
                have m0 := R.out.frozen 0
                have m1 := R.out.frozen 1
                have m2 := R.out.frozen 2
                have m3 := R.out.frozen 3
                go_wp2_with fail
                have hF := RowAt.four R.out (.int .u64 0) (.int .u64 0) (.int .u64 0) (.int .u64 0)
                have hB6 := (((B.out.setCell (p := ⟨w.heap.size, 0, none⟩) (Nat.le_refl _) (.int .u64 0)).setCell (p := ⟨w.heap.size, 1, none⟩) (Nat.le_refl _) (.int .u64 0)).setCell (p := ⟨w.heap.size, 2, none⟩) (Nat.le_refl _) (.int .u64 0)).setCell (p := ⟨w.heap.size, 3, none⟩) (Nat.le_refl _) (.int .u64 0)
                clear n0 n1 n2 n3 m0 m1 m2 m3
                generalize (World.setCell (World.setCell (World.setCell (World.setCell wr ⟨w.heap.size, 0, none⟩ (.int .u64 0)) ⟨w.heap.size, 1, none⟩ (.int .u64 0)) ⟨w.heap.size, 2, none⟩ (.int .u64 0)) ⟨w.heap.size, 3, none⟩ (.int .u64 0)) = V4 at hF hB6 ⊢
                have n0 := hF.cellIs 0 _ rfl
                have n1 := hF.cellIs 1 _ rfl
                have n2 := hF.cellIs 2 _ rfl
                have n3 := hF.cellIs 3 _ rfl
                refine bodyPost_ret (v := .tuple #[.agg #[.int .u64 0, .int .u64 0, .int .u64 0, .int .u64 0], .int .i64 (-1)]) (by simp [results, Tryd.results61, go_sem, n0, n1, n2, n3]) rfl ?_
                refine ⟨hB6, ?_⟩
                rw [HX.out]
                exact ⟨S4.zero, rfl⟩
            · have hb2 : ((s[k].toNat : Int) == 92) = false := by
                have : s[k].toNat ≠ 92 := fun h => h92 (UInt8.toNat_inj.1 h)
                simp; omega
              have C1 : Hid (collL (rem s a1) = (collL (rem s (k + 1))).map (fun x => ((L ++ [(s[k], true)]) ++ x.1, x.2))) := Lib.hid (by rw [C.out, hr, collL_cons, if_neg h93, if_neg h92]; simp [Function.comp_def])
              clear hr
              go_wp2_with (first | (at_builtin; refine wpList_append_row rfl (.tmp 60) (.tmp 64) 81 rfl 5 Tryd.underlying81 (.int .u8 0) 1 1 Tryd.info_uS rfl (by decide) (by decide) (w.heap.size + 1) (.slice (some ⟨g, 0, none⟩) n c) n _ rfl (T.out.one.alloc _) #[.int .u8 (s[k].toNat : Int)] wr.heap.size rfl (RowAt.new _ _ _) rfl (by intro u hu; simp at hu; subst hu; rfl) (by omega) (by simp <;> omega) ?_; intro g1 c1 w1 o1 gr1 p1 lt1; have s1 := gr1.size; simp only [World.size_alloc] at s1; have q1 := Lib.hid p1; have t1 := Lib.hid (T.out.keep gr1); have h1 := Lib.hid gr1; have n1 := Lib.hid o1; clear o1 gr1 p1) | (at_builtin; refine wpList_append_row rfl (.tmp 66) (.tmp 67) 113 rfl 4 Tryd.underlying113 (.bool false) 1 1 Tryd.info_bS rfl (by decide) (by decide) (w.heap.size + 1) (.slice (some ⟨g2, 0, none⟩) n c2) n _ rfl (t1.out.alloc _) #[.bool true] w1.heap.size rfl (RowAt.new _ _ _) rfl (by intro u hu; simp at hu; subst hu; rfl) (by omega) (by simp <;> omega) ?_; intro g3 c3 w2 o2 gr2 p2 lt2; have T2 := Lib.hid (T.out.next (s[k], true) rfl rfl n1.out h1.out q1.out lt1 o2 gr2 p2 lt2); have F2 := Lib.hid (T.out.frame B.out R.out h1.out gr2); clear q1 t1 h1 n1 o2 gr2 p2 lt2 lt1 s1))
              go_roundw
              case rel => exact ⟨k + 1, g1, c1, g3, c3, n + 1, _, by omega, by go_num, by go_num, by go_num, by omega, T2, Lib.hid F2.out.2, Lib.hid F2.out.1, C1⟩
              case measure => simp [intOf]; omega
        · have hd : decide ((k : Int) < (s.size : Int)) = false := decide_eq_false (by omega)
          have hd2 : decide ((s.size : Int) ≤ (k : Int)) = true := decide_eq_true (by omega)
          have hx : refSet (rem s a) = none := by rw [RS.out, C.out, rem_nil hge]; rfl
          have HX := Lib.hid hx
          clear hx
          have n0 := R.out.cellIs 0 _ rfl
          have n1 := R.out.cellIs 1 _ rfl
          have n2 := R.out.cellIs 2 _ rfl
          have n3 := R.out.cellIs 3 _ rfl
          have m0 := R.out.frozen 0
          have m1 := R.out.frozen 1
          have m2 := R.out.frozen 2
          have m3 := R.out.frozen 3
          go_wp2_with fail
          have hF := RowAt.four R.out (.int .u64 0) (.int .u64 0) (.int .u64 0) (.int .u64 0)
          have hB6 := (((B.out.setCell (p := ⟨w.heap.size, 0, none⟩) (Nat.le_refl _) (.int .u64 0)).setCell (p := ⟨w.heap.size, 1, none⟩) (Nat.le_refl _) (.int .u64 0)).setCell (p := ⟨w.heap.size, 2, none⟩) (Nat.le_refl _) (.int .u64 0)).setCell (p := ⟨w.heap.size, 3, none⟩) (Nat.le_refl _) (.int .u64 0)
          clear n0 n1 n2 n3 m0 m1 m2 m3
          generalize (World.setCell (World.setCell (World.setCell (World.setCell wr ⟨w.heap.size, 0, none⟩ (.int .u64 0)) ⟨w.heap.size, 1, none⟩ (.int .u64 0)) ⟨w.heap.size, 2, none⟩ (.int .u64 0)) ⟨w.heap.size, 3, none⟩ (.int .u64 0)) = V4 at hF hB6 ⊢
          have n0 := hF.cellIs 0 _ rfl
          have n1 := hF.cellIs 1 _ rfl
          have n2 := hF.cellIs 2 _ rfl
          have n3 := hF.cellIs 3 _ rfl
          refine bodyPost_ret (v := .tuple #[.agg #[.int .u64 0, .int .u64 0, .int .u64 0, .int .u64 0], .int .i64 (-1)]) (by simp [results, Tryd.results61, go_sem, n0, n1, n2, n3]) rfl ?_
          refine ⟨hB6, ?_⟩
          rw [HX.out]
          exact ⟨S4.zero, rfl⟩

end Go.Proofs.YtkddighepgpccaaDoor
