/-
  The walk of the reference's signs.
-/
import Derived.Test.YtkddighepgpccaaDoorSignA
namespace Go.Proofs.YtkddighepgpccaaDoor
open Go Go.RowKit
set_option linter.unusedSimpArgs false
set_option linter.unusedVariables false

theorem Tryd.info_sign : (Tryd.prog.info? 93).map (fun i => (i.zero, i.size, i.bytes)) = some (some (.agg #[.int .u8 0, .int .u64 0, .int .u64 0, .int .u64 0, .int .u64 0]), 5, 40) := by kernel_rfl
def SignPost (s : ByteArray) (w : World) (e : Ending) (w' : World) : Prop := Below w.heap.size w w' ∧
  match lexAll (rem s 0) with
  | none => e = .returned (.tuple #[.slice none 0 0, .bool false])
  | some l => ∃ A c, e = .returned (.tuple #[.slice A l.length c, .bool true]) ∧ Signs w' A l.length c l

set_option maxHeartbeats 1000000 in
set_option maxRecDepth 100000 in
theorem Signs_any (w : World) (s : ByteArray) (hs : s.size ≤ 100) :
    Calls Tryd.prog 39 #[.string s] w (SignPost s w) := by
  have H0 : (w.alloc (.cells #[] 93)).ownsRow w.heap.size 93 5 (.slice (some ⟨w.heap.size, 0, none⟩) 0 0) 0 (sCells []) := World.ownsRow_lit (base := w.heap.size) (e := 93) (size := 5) w #[] 0 (Nat.le_refl _) (by decide) rfl
  have H0 := Lib.hid H0
  go_enter Tryd.func39, Tryd.ntmps39
  go_wp2
  go_loopw [4, 5] (fun x t wr => ∃ (k n g c : Nat) (L : List Tok), k ≤ s.size ∧ t = .int .i64 (k : Int) ∧ x = .slice (some ⟨g, 0, none⟩) n c ∧ n ≤ k ∧ Hid (L.length = n) ∧ Hid (wr.ownsRow w.heap.size 93 5 (.slice (some ⟨g, 0, none⟩) n c) n (sCells L)) ∧ Hid (Below w.heap.size w wr) ∧ Hid (lexAll (rem s 0) = (lexAll (rem s k)).map (L ++ ·))) (fun _ t _ => s.size - (intOf t).toNat)
  case atStart => exact ⟨0, 0, _, 0, [], Nat.zero_le _, rfl, rfl, Nat.le_refl _, Lib.hid rfl, H0, Lib.hid ((Below.refl _ _).alloc (Nat.le_refl _) _), Lib.hid (by cases lexAll (rem s 0) <;> rfl)⟩
  case round =>
    obtain ⟨k, n, g, c, L, hk, rfl, rfl, hnk, LL, O, B, C⟩ := hrel
    clear H0
    rcases Nat.lt_or_ge k s.size with hlt | hge
    · have hr := rem_cons hlt
      have hd : decide ((k : Int) < (s.size : Int)) = true := decide_eq_true (by omega)
      by_cases h92 : s[k] = 92
      · rcases Nat.lt_or_ge (k + 1) s.size with hlt2 | hge2
        · have hd2 : decide ((s.size : Int) ≤ (k : Int) + 1) = false := decide_eq_false (by omega)
          have C1 : Hid (lexAll (rem s 0) = (lexAll (rem s (k + 1 + 1))).map ((L ++ [.set (single s[k + 1])]) ++ ·)) := Lib.hid (lex_next C.out (by rw [hr, rem_cons hlt2]; simp [lex1, h92]))
          clear hr
          go_wp2_with (first | (go_at_call 60; refine (RefSingle_any s[k + 1] wr).mono ?_; rintro e w1 ⟨rfl, hb1⟩; have O1 := Lib.hid (own_below O.out hb1); have B1 := Lib.hid (below_then B.out B.out.size hb1); clear hb1) | (at_builtin; refine wpList_append_row rfl (.tmp 36) (.tmp 42) 72 rfl 93 Tryd.underlying72 (.agg #[.int .u8 0, .int .u64 0, .int .u64 0, .int .u64 0, .int .u64 0]) 5 40 Tryd.info_sign rfl (by decide) (by decide) w.heap.size (.slice (some ⟨g, 0, none⟩) n c) n _ rfl (O1.out.alloc _) (tokC (.set (single s[k + 1]))) w1.heap.size rfl (RowAt.new _ _ _) rfl (tokC_one (.set (single s[k + 1]))) (by omega) (by have := B1.out.size; simp <;> omega) ?_; intro g1 c1 w2 o2 gr2 p2 lt2; have F2 := Lib.hid (own_snoc (t := (.set (single s[k + 1]))) B1.out B1.out.size O1.out gr2 o2); clear o2 gr2 p2 lt2))
          go_roundw
          case rel => exact ⟨k + 1 + 1, n + 1, g1, c1, _, by omega, by go_num, by go_num, by omega, Lib.hid (by rw [List.length_append, LL.out]; rfl), Lib.hid F2.out.1, Lib.hid F2.out.2, C1⟩
          case measure => simp [intOf]; omega
        · have hd2 : decide ((s.size : Int) ≤ (k : Int) + 1) = true := decide_eq_true (by omega)
          have hx : lexAll (rem s 0) = none := by rw [C.out, lexAll_none (by rw [hr, rem_nil hge2]; simp [lex1, h92]) (by rw [hr]; simp)]; rfl
          have HX := Lib.hid hx
          clear hx hr
          go_wp2
          refine bodyPost_ret (v := .tuple #[.slice none 0 0, .bool false]) (by simp [results, Tryd.results39, go_sem]) rfl ?_
          refine ⟨B.out, ?_⟩
          rw [HX.out]
      · by_cases h91 : s[k] = 91
        · have HS := RefSet_any wr s (k + 1) hs (by omega)
          unfold SetPost at HS
          cases hq : refSet (rem s (k + 1)) with
          | none =>
            rw [hq] at HS
            simp only at HS
            have hx : lexAll (rem s 0) = none := by rw [C.out, lexAll_none (by rw [hr]; simp [lex1, h91, pClass_ref, hq]) (by rw [hr]; simp)]; rfl
            have HX := Lib.hid hx
            have HS := Lib.hid HS
            clear hx hr hq
            go_wp2_with fail
            refine HS.out.mono ?_
            rintro e w1 ⟨hb1, S, rfl⟩
            try dsimp only
            have B1 := Lib.hid (below_then B.out B.out.size hb1)
            clear hb1
            go_wp2
            refine bodyPost_ret (v := .tuple #[.slice none 0 0, .bool false]) (by simp [results, Tryd.results39, go_sem]) rfl ?_
            refine ⟨B1.out.alloc B1.out.size _, ?_⟩
            rw [HX.out]
          | some x =>
            obtain ⟨S, r'⟩ := x
            rw [hq] at HS
            simp only at HS
            have h1 : lex1 (rem s k) = some (.set S, r') := by rw [hr]; simp [lex1, h91, pClass_ref, hq]
            have HL := Lib.hid (lex1_lt h1)
            have C0 : Hid (lexAll (rem s 0) = (lexAll r').map ((L ++ [.set S]) ++ ·)) := Lib.hid (lex_next C.out h1)
            have HS := Lib.hid HS
            clear h1 hr hq
            go_wp2_with fail
            refine HS.out.mono ?_
            rintro e w1 ⟨hb1, q, hq1, hq2, rfl⟩
            try dsimp only
            have hrq := rem_cons hq1
            rw [hq2] at hrq
            injection hrq with _ hrq
            subst hrq
            have C1 := C0
            clear C0 HS hq2
            have hqk : k ≤ q := by
              have := HL.out
              rw [rem_length, rem_length] at this
              omega
            have hq0 : decide ((q : Int) < 0) = false := decide_eq_false (by omega)
            obtain ⟨V, hV⟩ : ∃ V, w1.alloc (.cells #[.int .u64 (S.a0 : Int), .int .u64 (S.a1 : Int), .int .u64 (S.a2 : Int), .int .u64 (S.a3 : Int)] 37) = V := ⟨_, rfl⟩
            have rV : RowAt V w1.heap.size #[.int .u64 (S.a0 : Int), .int .u64 (S.a1 : Int), .int .u64 (S.a2 : Int), .int .u64 (S.a3 : Int)] 37 := by rw [← hV]; exact RowAt.new _ _ _
            have O1 : Hid (V.ownsRow w.heap.size 93 5 (.slice (some ⟨g, 0, none⟩) n c) n (sCells L)) := Lib.hid (by rw [← hV]; exact (own_below O.out hb1).alloc _)
            have B1 : Hid (Below w.heap.size w V) := Lib.hid (by rw [← hV]; exact (below_then B.out B.out.size hb1).alloc (by have := B.out.size; have := hb1.size; omega) _)
            have n0 := rV.cellIs 0 _ rfl
            have n1 := rV.cellIs 1 _ rfl
            have n2 := rV.cellIs 2 _ rfl
            have n3 := rV.cellIs 3 _ rfl
            have HV := Lib.hid hV
            clear hV rV hb1 HL
            go_upto_region 15 with (fail)
            have hV := HV.out
            simp only [hV]
            clear hV
            go_wp2_with (first | (at_builtin; refine wpList_append_row rfl (.tmp 55) (.tmp 58) 72 rfl 93 Tryd.underlying72 (.agg #[.int .u8 0, .int .u64 0, .int .u64 0, .int .u64 0, .int .u64 0]) 5 40 Tryd.info_sign rfl (by decide) (by decide) w.heap.size (.slice (some ⟨g, 0, none⟩) n c) n _ rfl (O1.out.alloc _) (tokC (.set S)) V.heap.size rfl (RowAt.new _ _ _) rfl (tokC_one (.set S)) (by omega) (by have := B1.out.size; simp <;> omega) ?_; intro g1 c1 w2 o2 gr2 p2 lt2; have F2 := Lib.hid (own_snoc (t := (.set S)) B1.out B1.out.size O1.out gr2 o2); clear o2 gr2 p2 lt2))
            go_roundw
            case rel => exact ⟨q + 1, n + 1, g1, c1, _, by omega, by go_num, by go_num, by omega, Lib.hid (by rw [List.length_append, LL.out]; rfl), Lib.hid F2.out.1, Lib.hid F2.out.2, C1⟩
            case measure => simp [intOf]; omega
        · by_cases h46 : s[k] = 46
          · have C1 : Hid (lexAll (rem s 0) = (lexAll (rem s (k + 1))).map ((L ++ [.set notLF]) ++ ·)) := Lib.hid (lex_next C.out (by rw [hr]; simp [lex1, h46]))
            clear hr
            obtain ⟨Z, hZ⟩ : ∃ Z, boolRow tk0 = Z := ⟨_, rfl⟩
            have zz := Tryd.zero256
            have zs : (Tryd.prog.info? 96).map (·.size) = some Z.size := by rw [Tryd.size256, ← hZ, tk0_size]
            have zo : Z.all (·.oneCell') = true := by rw [← hZ]; exact tk0_one
            rw [hZ] at zz
            have ZS := Lib.hid zs
            have ZO := Lib.hid zo
            have HZ := Lib.hid hZ
            clear zs zo hZ
            obtain ⟨I, hI⟩ : ∃ I, wr.heap.size = I := ⟨_, rfl⟩
            have HI := Lib.hid hI
            have hgl := O.out.lt g rfl
            have hIg : g < I ∧ w.heap.size ≤ I := by omega
            have rX0 : RowAt (wr.alloc (.cells Z 96)) I Z 96 := by rw [← hI]; exact RowAt.new _ _ _
            have rO0 := O.out.alloc (.cells Z 96)
            have hB0 := B.out.alloc (by omega) (.cells Z 96)
            clear hI
            go_upto_region 21 with (have hI := HI.out; simp only [hI]; refine wpList_store_mid rfl 96 (.tmp 9) (.tmp 63) rfl I 0 Z rfl rfl rX0.there ZS.out ZO.out ?_; have rX1 := rX0.setCells_same Z.toList 0 (by intro j v hv; rw [Nat.zero_add, ← Array.getElem?_toList]; exact hv); have hB1 := below_setCells (b := I) (by omega) Z.toList 0 hB0; have hB2 := below_setCells (b := I) (Nat.le_refl _) Z.toList 0 (Below.refl I (wr.alloc (.cells Z 96))); have rO1 := own_later rO0 hB2 (fun k hk => by injection hk with hk; simp only at hk; omega); clear hB2; generalize World.setCells _ I 0 Z.toList = V1 at rX1 hB1 rO1 ⊢)
            simp only [Act.put]
            have X0 : Hid (RowAt V1 I (boolRow tk0) 96) := Lib.hid (by rw [HZ.out]; exact rX1)
            have B1 := Lib.hid hB1
            have O1 := Lib.hid rO1
            clear rX1 hB1 rO1 zz ZS ZO HZ rX0 rO0 hB0 hI HI O B hgl
            clear wr
            go_wp2
            go_loopw [64, 10] (fun v x wr => ∃ (m : Nat) (tk' : List Bool), m ≤ 256 ∧ v = .int .i64 (m : Int) ∧ Hid (LFrow tk' m) ∧ Hid (RowAt wr I (boolRow tk') 96) ∧ Hid (wr.ownsRow w.heap.size 93 5 (.slice (some ⟨g, 0, none⟩) n c) n (sCells L)) ∧ Hid (Below w.heap.size w wr)) (fun v _ _ => 256 - (intOf v).toNat)
            case atStart => exact ⟨0, tk0, by omega, rfl, Lib.hid LFrow.start, X0, O1, B1⟩
            case round =>
              obtain ⟨m, tk', hm, rfl, UP, X, O, B⟩ := hrel
              clear X0 O1 B1
              rcases Nat.lt_or_ge m 256 with hm256 | hm256
              · have hdm : decide ((m : Int) < 256) = true := decide_eq_true (by omega)
                have k1 := X.out.cellIs m _ (boolRow_in (by rw [UP.out.1]; exact hm256))
                have k2 := X.out.frozen m
                have kl := X.out.lt
                have HI6 := Lib.hid hIg
                have hyb : ((m : Int) != 10) = decide (m ≠ 10) := by
                  rw [Bool.eq_iff_iff]
                  simp
                  omega
                have UP2 := Lib.hid (UP.out.step hm256 hyb)
                have X4 := X.out.set m (.bool ((m : Int) != 10))
                rw [boolRow_set] at X4
                have X4 := Lib.hid X4
                clear hyb
                go_wp2
                go_roundw
                case rel => exact ⟨m + 1, _, by omega, by go_num, UP2, X4, Lib.hid (own_other O.out _ _ (by have := HI6.out; simp <;> omega)), Lib.hid (B.out.setCell (by have := HI6.out; simp <;> omega) _)⟩
                case measure => simp [intOf]; omega
              · have hm' : m = 256 := by omega
                have hdm : decide ((m : Int) < 256) = false := decide_eq_false (by omega)
                have UP2 := UP.out
                rw [hm'] at UP2
                have RI := UP2.done
                have RG := Lib.hid X.out.range
                have HO := RefOfX tk' notLF notLF_ok RI.1 RI.2 wr
                have sz : (Tryd.prog.info? 96).map (·.size) = some (List.map Value.bool tk').length := by rw [Tryd.size256, List.length_map, RI.1]
                have SZ := Lib.hid sz
                unfold boolRow at HO
                obtain ⟨LLL, hLL⟩ : ∃ LLL, List.map Value.bool tk' = LLL := ⟨_, rfl⟩
                rw [hLL] at RG SZ HO
                have hH := Lib.hid HO
                clear sz hLL HO RI UP2 hm' hm256
                go_upto_region 26 with (fail)
                go_wp2_with (first | (refine wpList_load_mid rfl 96 (.tmp 9) rfl I 0 rfl _ _ RG.out rfl rfl SZ.out ?_) | fail)
                refine hH.out.mono ?_
                rintro e w1 ⟨rfl, hb1⟩
                try dsimp only
                have O1 := Lib.hid (own_below O.out hb1)
                have B1 := Lib.hid (below_then B.out B.out.size hb1)
                clear hb1
                go_wp2_with (first | (at_builtin; refine wpList_append_row rfl (.tmp 72) (.tmp 76) 72 rfl 93 Tryd.underlying72 (.agg #[.int .u8 0, .int .u64 0, .int .u64 0, .int .u64 0, .int .u64 0]) 5 40 Tryd.info_sign rfl (by decide) (by decide) w.heap.size (.slice (some ⟨g, 0, none⟩) n c) n _ rfl (O1.out.alloc _) (tokC (.set notLF)) w1.heap.size rfl (RowAt.new _ _ _) rfl (tokC_one (.set notLF)) (by omega) (by have := B1.out.size; simp <;> omega) ?_; intro g1 c1 w2 o2 gr2 p2 lt2; have F2 := Lib.hid (own_snoc (t := (.set notLF)) B1.out B1.out.size O1.out gr2 o2); clear o2 gr2 p2 lt2))
                go_roundw
                case rel => exact ⟨k + 1, n + 1, g1, c1, _, by omega, by go_num, by go_num, by omega, Lib.hid (by rw [List.length_append, LL.out]; rfl), Lib.hid F2.out.1, Lib.hid F2.out.2, C1⟩
                case measure => simp [intOf]; omega
          ·
            have hb92 : ((s[k].toNat : Int) == 92) = false := by
              have : s[k].toNat ≠ 92 := fun h => h92 (UInt8.toNat_inj.1 h)
              simp; omega
            have hb91 : ((s[k].toNat : Int) == 91) = false := by
              have : s[k].toNat ≠ 91 := fun h => h91 (UInt8.toNat_inj.1 h)
              simp; omega
            have hb46 : ((s[k].toNat : Int) == 46) = false := by
              have : s[k].toNat ≠ 46 := fun h => h46 (UInt8.toNat_inj.1 h)
              simp; omega
            by_cases h40 : s[k] = 40
            · have C1 : Hid (lexAll (rem s 0) = (lexAll (rem s (k + 1))).map ((L ++ [.mark 40]) ++ ·)) := Lib.hid (lex_next C.out (by rw [hr]; simp [lex1, h40, isMark, isOp]))
              clear hr
              go_wp2_with (first | (at_builtin; refine wpList_append_row rfl (.tmp 87) (.tmp 90) 72 rfl 93 Tryd.underlying72 (.agg #[.int .u8 0, .int .u64 0, .int .u64 0, .int .u64 0, .int .u64 0]) 5 40 Tryd.info_sign rfl (by decide) (by decide) w.heap.size (.slice (some ⟨g, 0, none⟩) n c) n _ rfl (O.out.alloc _) (tokC (.mark 40)) wr.heap.size rfl (RowAt.new _ _ _) rfl (tokC_one (.mark 40)) (by omega) (by have := B.out.size; simp <;> omega) ?_; intro g1 c1 w2 o2 gr2 p2 lt2; have F2 := Lib.hid (own_snoc (t := (.mark 40)) B.out B.out.size O.out gr2 o2); clear o2 gr2 p2 lt2))
              go_roundw
              case rel => exact ⟨k + 1, n + 1, g1, c1, _, by omega, by go_num, by go_num, by omega, Lib.hid (by rw [List.length_append, LL.out]; rfl), Lib.hid F2.out.1, Lib.hid F2.out.2, C1⟩
              case measure => simp [intOf]; omega
            ·
              have hb40 : ((s[k].toNat : Int) == 40) = false := by
                have : s[k].toNat ≠ 40 := fun h => h40 (UInt8.toNat_inj.1 h)
                simp; omega
              by_cases h41 : s[k] = 41
              · have C1 : Hid (lexAll (rem s 0) = (lexAll (rem s (k + 1))).map ((L ++ [.mark 41]) ++ ·)) := Lib.hid (lex_next C.out (by rw [hr]; simp [lex1, h41, isMark, isOp]))
                clear hr
                go_wp2_with (first | (at_builtin; refine wpList_append_row rfl (.tmp 87) (.tmp 90) 72 rfl 93 Tryd.underlying72 (.agg #[.int .u8 0, .int .u64 0, .int .u64 0, .int .u64 0, .int .u64 0]) 5 40 Tryd.info_sign rfl (by decide) (by decide) w.heap.size (.slice (some ⟨g, 0, none⟩) n c) n _ rfl (O.out.alloc _) (tokC (.mark 41)) wr.heap.size rfl (RowAt.new _ _ _) rfl (tokC_one (.mark 41)) (by omega) (by have := B.out.size; simp <;> omega) ?_; intro g1 c1 w2 o2 gr2 p2 lt2; have F2 := Lib.hid (own_snoc (t := (.mark 41)) B.out B.out.size O.out gr2 o2); clear o2 gr2 p2 lt2))
                go_roundw
                case rel => exact ⟨k + 1, n + 1, g1, c1, _, by omega, by go_num, by go_num, by omega, Lib.hid (by rw [List.length_append, LL.out]; rfl), Lib.hid F2.out.1, Lib.hid F2.out.2, C1⟩
                case measure => simp [intOf]; omega
              ·
                have hb41 : ((s[k].toNat : Int) == 41) = false := by
                  have : s[k].toNat ≠ 41 := fun h => h41 (UInt8.toNat_inj.1 h)
                  simp; omega
                by_cases h124 : s[k] = 124
                · have C1 : Hid (lexAll (rem s 0) = (lexAll (rem s (k + 1))).map ((L ++ [.mark 124]) ++ ·)) := Lib.hid (lex_next C.out (by rw [hr]; simp [lex1, h124, isMark, isOp]))
                  clear hr
                  go_wp2_with (first | (at_builtin; refine wpList_append_row rfl (.tmp 87) (.tmp 90) 72 rfl 93 Tryd.underlying72 (.agg #[.int .u8 0, .int .u64 0, .int .u64 0, .int .u64 0, .int .u64 0]) 5 40 Tryd.info_sign rfl (by decide) (by decide) w.heap.size (.slice (some ⟨g, 0, none⟩) n c) n _ rfl (O.out.alloc _) (tokC (.mark 124)) wr.heap.size rfl (RowAt.new _ _ _) rfl (tokC_one (.mark 124)) (by omega) (by have := B.out.size; simp <;> omega) ?_; intro g1 c1 w2 o2 gr2 p2 lt2; have F2 := Lib.hid (own_snoc (t := (.mark 124)) B.out B.out.size O.out gr2 o2); clear o2 gr2 p2 lt2))
                  go_roundw
                  case rel => exact ⟨k + 1, n + 1, g1, c1, _, by omega, by go_num, by go_num, by omega, Lib.hid (by rw [List.length_append, LL.out]; rfl), Lib.hid F2.out.1, Lib.hid F2.out.2, C1⟩
                  case measure => simp [intOf]; omega
                ·
                  have hb124 : ((s[k].toNat : Int) == 124) = false := by
                    have : s[k].toNat ≠ 124 := fun h => h124 (UInt8.toNat_inj.1 h)
                    simp; omega
                  by_cases h42 : s[k] = 42
                  · have C1 : Hid (lexAll (rem s 0) = (lexAll (rem s (k + 1))).map ((L ++ [.mark 42]) ++ ·)) := Lib.hid (lex_next C.out (by rw [hr]; simp [lex1, h42, isMark, isOp]))
                    clear hr
                    go_wp2_with (first | (at_builtin; refine wpList_append_row rfl (.tmp 87) (.tmp 90) 72 rfl 93 Tryd.underlying72 (.agg #[.int .u8 0, .int .u64 0, .int .u64 0, .int .u64 0, .int .u64 0]) 5 40 Tryd.info_sign rfl (by decide) (by decide) w.heap.size (.slice (some ⟨g, 0, none⟩) n c) n _ rfl (O.out.alloc _) (tokC (.mark 42)) wr.heap.size rfl (RowAt.new _ _ _) rfl (tokC_one (.mark 42)) (by omega) (by have := B.out.size; simp <;> omega) ?_; intro g1 c1 w2 o2 gr2 p2 lt2; have F2 := Lib.hid (own_snoc (t := (.mark 42)) B.out B.out.size O.out gr2 o2); clear o2 gr2 p2 lt2))
                    go_roundw
                    case rel => exact ⟨k + 1, n + 1, g1, c1, _, by omega, by go_num, by go_num, by omega, Lib.hid (by rw [List.length_append, LL.out]; rfl), Lib.hid F2.out.1, Lib.hid F2.out.2, C1⟩
                    case measure => simp [intOf]; omega
                  ·
                    have hb42 : ((s[k].toNat : Int) == 42) = false := by
                      have : s[k].toNat ≠ 42 := fun h => h42 (UInt8.toNat_inj.1 h)
                      simp; omega
                    by_cases h43 : s[k] = 43
                    · have C1 : Hid (lexAll (rem s 0) = (lexAll (rem s (k + 1))).map ((L ++ [.mark 43]) ++ ·)) := Lib.hid (lex_next C.out (by rw [hr]; simp [lex1, h43, isMark, isOp]))
                      clear hr
                      go_wp2_with (first | (at_builtin; refine wpList_append_row rfl (.tmp 87) (.tmp 90) 72 rfl 93 Tryd.underlying72 (.agg #[.int .u8 0, .int .u64 0, .int .u64 0, .int .u64 0, .int .u64 0]) 5 40 Tryd.info_sign rfl (by decide) (by decide) w.heap.size (.slice (some ⟨g, 0, none⟩) n c) n _ rfl (O.out.alloc _) (tokC (.mark 43)) wr.heap.size rfl (RowAt.new _ _ _) rfl (tokC_one (.mark 43)) (by omega) (by have := B.out.size; simp <;> omega) ?_; intro g1 c1 w2 o2 gr2 p2 lt2; have F2 := Lib.hid (own_snoc (t := (.mark 43)) B.out B.out.size O.out gr2 o2); clear o2 gr2 p2 lt2))
                      go_roundw
                      case rel => exact ⟨k + 1, n + 1, g1, c1, _, by omega, by go_num, by go_num, by omega, Lib.hid (by rw [List.length_append, LL.out]; rfl), Lib.hid F2.out.1, Lib.hid F2.out.2, C1⟩
                      case measure => simp [intOf]; omega
                    ·
                      have hb43 : ((s[k].toNat : Int) == 43) = false := by
                        have : s[k].toNat ≠ 43 := fun h => h43 (UInt8.toNat_inj.1 h)
                        simp; omega
                      by_cases h63 : s[k] = 63
                      · have C1 : Hid (lexAll (rem s 0) = (lexAll (rem s (k + 1))).map ((L ++ [.mark 63]) ++ ·)) := Lib.hid (lex_next C.out (by rw [hr]; simp [lex1, h63, isMark, isOp]))
                        clear hr
                        go_wp2_with (first | (at_builtin; refine wpList_append_row rfl (.tmp 87) (.tmp 90) 72 rfl 93 Tryd.underlying72 (.agg #[.int .u8 0, .int .u64 0, .int .u64 0, .int .u64 0, .int .u64 0]) 5 40 Tryd.info_sign rfl (by decide) (by decide) w.heap.size (.slice (some ⟨g, 0, none⟩) n c) n _ rfl (O.out.alloc _) (tokC (.mark 63)) wr.heap.size rfl (RowAt.new _ _ _) rfl (tokC_one (.mark 63)) (by omega) (by have := B.out.size; simp <;> omega) ?_; intro g1 c1 w2 o2 gr2 p2 lt2; have F2 := Lib.hid (own_snoc (t := (.mark 63)) B.out B.out.size O.out gr2 o2); clear o2 gr2 p2 lt2))
                        go_roundw
                        case rel => exact ⟨k + 1, n + 1, g1, c1, _, by omega, by go_num, by go_num, by omega, Lib.hid (by rw [List.length_append, LL.out]; rfl), Lib.hid F2.out.1, Lib.hid F2.out.2, C1⟩
                        case measure => simp [intOf]; omega
                      ·
                        have hb63 : ((s[k].toNat : Int) == 63) = false := by
                          have : s[k].toNat ≠ 63 := fun h => h63 (UInt8.toNat_inj.1 h)
                          simp; omega
                        by_cases h94 : s[k] = 94
                        · have C1 : Hid (lexAll (rem s 0) = (lexAll (rem s (k + 1))).map ((L ++ [.mark 94]) ++ ·)) := Lib.hid (lex_next C.out (by rw [hr]; simp [lex1, h94, isMark, isOp]))
                          clear hr
                          go_wp2_with (first | (at_builtin; refine wpList_append_row rfl (.tmp 87) (.tmp 90) 72 rfl 93 Tryd.underlying72 (.agg #[.int .u8 0, .int .u64 0, .int .u64 0, .int .u64 0, .int .u64 0]) 5 40 Tryd.info_sign rfl (by decide) (by decide) w.heap.size (.slice (some ⟨g, 0, none⟩) n c) n _ rfl (O.out.alloc _) (tokC (.mark 94)) wr.heap.size rfl (RowAt.new _ _ _) rfl (tokC_one (.mark 94)) (by omega) (by have := B.out.size; simp <;> omega) ?_; intro g1 c1 w2 o2 gr2 p2 lt2; have F2 := Lib.hid (own_snoc (t := (.mark 94)) B.out B.out.size O.out gr2 o2); clear o2 gr2 p2 lt2))
                          go_roundw
                          case rel => exact ⟨k + 1, n + 1, g1, c1, _, by omega, by go_num, by go_num, by omega, Lib.hid (by rw [List.length_append, LL.out]; rfl), Lib.hid F2.out.1, Lib.hid F2.out.2, C1⟩
                          case measure => simp [intOf]; omega
                        ·
                          have hb94 : ((s[k].toNat : Int) == 94) = false := by
                            have : s[k].toNat ≠ 94 := fun h => h94 (UInt8.toNat_inj.1 h)
                            simp; omega
                          by_cases h36 : s[k] = 36
                          · have C1 : Hid (lexAll (rem s 0) = (lexAll (rem s (k + 1))).map ((L ++ [.mark 36]) ++ ·)) := Lib.hid (lex_next C.out (by rw [hr]; simp [lex1, h36, isMark, isOp]))
                            clear hr
                            go_wp2_with (first | (at_builtin; refine wpList_append_row rfl (.tmp 87) (.tmp 90) 72 rfl 93 Tryd.underlying72 (.agg #[.int .u8 0, .int .u64 0, .int .u64 0, .int .u64 0, .int .u64 0]) 5 40 Tryd.info_sign rfl (by decide) (by decide) w.heap.size (.slice (some ⟨g, 0, none⟩) n c) n _ rfl (O.out.alloc _) (tokC (.mark 36)) wr.heap.size rfl (RowAt.new _ _ _) rfl (tokC_one (.mark 36)) (by omega) (by have := B.out.size; simp <;> omega) ?_; intro g1 c1 w2 o2 gr2 p2 lt2; have F2 := Lib.hid (own_snoc (t := (.mark 36)) B.out B.out.size O.out gr2 o2); clear o2 gr2 p2 lt2))
                            go_roundw
                            case rel => exact ⟨k + 1, n + 1, g1, c1, _, by omega, by go_num, by go_num, by omega, Lib.hid (by rw [List.length_append, LL.out]; rfl), Lib.hid F2.out.1, Lib.hid F2.out.2, C1⟩
                            case measure => simp [intOf]; omega
                          ·
                            have hb36 : ((s[k].toNat : Int) == 36) = false := by
                              have : s[k].toNat ≠ 36 := fun h => h36 (UInt8.toNat_inj.1 h)
                              simp; omega
                            have C1 : Hid (lexAll (rem s 0) = (lexAll (rem s (k + 1))).map ((L ++ [.set (single s[k])]) ++ ·)) := Lib.hid (lex_next C.out (by rw [hr]; simp [lex1, isMark, isOp, h92, h91, h46, h40, h41, h124, h42, h43, h63, h94, h36]))
                            clear hr
                            go_wp2_with (first | (go_at_call 60; refine (RefSingle_any s[k] wr).mono ?_; rintro e w1 ⟨rfl, hb1⟩; have O1 := Lib.hid (own_below O.out hb1); have B1 := Lib.hid (below_then B.out B.out.size hb1); clear hb1) | (at_builtin; refine wpList_append_row rfl (.tmp 22) (.tmp 26) 72 rfl 93 Tryd.underlying72 (.agg #[.int .u8 0, .int .u64 0, .int .u64 0, .int .u64 0, .int .u64 0]) 5 40 Tryd.info_sign rfl (by decide) (by decide) w.heap.size (.slice (some ⟨g, 0, none⟩) n c) n _ rfl (O1.out.alloc _) (tokC (.set (single s[k]))) w1.heap.size rfl (RowAt.new _ _ _) rfl (tokC_one (.set (single s[k]))) (by omega) (by have := B1.out.size; simp <;> omega) ?_; intro g1 c1 w2 o2 gr2 p2 lt2; have F2 := Lib.hid (own_snoc (t := (.set (single s[k]))) B1.out B1.out.size O1.out gr2 o2); clear o2 gr2 p2 lt2))
                            go_roundw
                            case rel => exact ⟨k + 1, n + 1, g1, c1, _, by omega, by go_num, by go_num, by omega, Lib.hid (by rw [List.length_append, LL.out]; rfl), Lib.hid F2.out.1, Lib.hid F2.out.2, C1⟩
                            case measure => simp [intOf]; omega
    · have hd : decide ((k : Int) < (s.size : Int)) = false := decide_eq_false (by omega)
      have hx : lexAll (rem s 0) = some L := by rw [C.out, rem_nil hge, lexAll_nil]; simp
      have HX := Lib.hid hx
      clear hx
      go_wp2
      refine bodyPost_ret (v := .tuple #[.slice (some ⟨g, 0, none⟩) n c, .bool true]) (by simp [results, Tryd.results39, go_sem]) rfl ?_
      refine ⟨B.out, ?_⟩
      rw [HX.out]
      exact ⟨some ⟨g, 0, none⟩, c, by rw [LL.out], by rw [LL.out]; exact Signs.of_own O.out LL.out (by omega)⟩

end Go.Proofs.YtkddighepgpccaaDoor
