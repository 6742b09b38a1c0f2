/-
  The walk of the statement ClassTells.
-/
import Derived.Test.YtboebjmfchbgbaaTells3
import Derived.Deep.DeepCutAuto
import Derived.Deep.RegionHeld3
namespace Go.Proofs.Ytboebjmfchbgbaa
open Go Go.RowKit
set_option linter.unusedSimpArgs false
set_option linter.unusedVariables false

theorem two_blocks {w : World} {c0 c1 : Array Value} {t : TypeId} : RowAt ((w.alloc (.cells c0 t)).alloc (.cells c1 t)) w.heap.size c0 t ∧ RowAt ((w.alloc (.cells c0 t)).alloc (.cells c1 t)) (w.heap.size + 1) c1 t := by
  have h1 := RowAt.new (w.alloc (.cells c0 t)) c1 t
  simp only [World.size_alloc] at h1
  exact ⟨(RowAt.new w c0 t).old _, h1⟩

theorem RefHasP (s : OK) (b : Nat) (hb : b < 256) {p : Bool} (h : s.1.has b = p) (w : World) : Calls Try.prog 34 #[s.v, .int .i64 (b : Int)] w fun e w' => e = .returned (.bool p) ∧ Below w.heap.size w w' := by
  subst h
  exact RefHasK s b hb w
theorem HasP (s : OK) (b : Nat) (hb : b < 256) {p : Bool} (h : s.1.has b = p) (w : World) : Calls Try.prog 35 #[s.v, .int .u8 (b : Int)] w fun e w' => e = .returned (.bool p) ∧ Below w.heap.size w w' := by
  subst h
  exact HasK s b hb w
theorem CountP (s : OK) {n : Nat} (h : s.1.count = n) (w : World) : Calls Try.prog 18 #[s.v] w fun e w' => e = .returned (.int .i64 (n : Int)) ∧ Below w.heap.size w w' := by
  subst h
  exact CountK s w
theorem WithinP (s t : OK) {p : Bool} (h : decide ((s.and t).1 = s.1) = p) (w : World) : Calls Try.prog 19 #[s.v, t.v] w fun e w' => e = .returned (.bool p) ∧ Below w.heap.size w w' := by
  subst h
  exact WithinK s t w
theorem EmptyP (s : OK) {p : Bool} (h : decide (s.1 = S4.zero) = p) (w : World) : Calls Try.prog 17 #[s.v] w fun e w' => e = .returned (.bool p) ∧ Below w.heap.size w w' := by
  subst h
  exact EmptyK s w

set_option maxHeartbeats 8000000 in
set_option maxRecDepth 100000 in
theorem ClassTells_walk (x y : OK) (w : World) :
    Calls Try.prog 8 #[x.v, y.v] w fun e w' => e = .returned (.bool true) ∧ Below w.heap.size w w' := by
  show Calls _ _ #[.agg x.1.cells, .agg y.1.cells] _ _
  have q0 := (RowAt.new w x.1.cells 26).old (.cells y.1.cells 26)
  have q1 := RowAt.new (w.alloc (.cells x.1.cells 26)) y.1.cells 26
  simp only [World.size_alloc] at q1
  have hb0 : Below w.heap.size w _ := ((Below.refl w.heap.size w).alloc (Nat.le_refl _) (.cells x.1.cells 26)).alloc (by simp) (.cells y.1.cells 26)
  obtain ⟨W, hW⟩ : ∃ W, (w.alloc (.cells x.1.cells 26)).alloc (.cells y.1.cells 26) = W := ⟨_, rfl⟩
  rw [hW] at q0 q1 hb0
  go_enter Try.func8, Try.ntmps8
  go_upto_region 3 with (go_at_call 9; refine (alive06_any _).mono ?_; rintro e w1 ⟨rfl, hb1⟩)
  have q0' := q0.later hb1 q0.lt
  have q1' := q1.later hb1 q1.lt
  have g0 := set_cells q0'
  have g1 := set_cells q1'
  have hbA : Below w.heap.size w w1 := hb0.trans (hb1.mono hb0.size)
  go_cut [5, 6] (fun s5 s6 wx => ∃ X Y, s5 = .pointer (some ⟨X, 0, none⟩) ∧ s6 = .pointer (some ⟨Y, 0, none⟩) ∧ RowAt wx X x.1.cells 27 ∧ RowAt wx Y y.1.cells 27 ∧ Below w1.heap.size w1 wx)
  case first =>
    go_region_held3 (fun w' : World => Below w1.heap.size w1 w') (first | exact (Below.refl _ _).drew | exact ((Below.refl _ _).alloc (Nat.le_refl _) _).drew | exact (((Below.refl _ _).alloc (Nat.le_refl _) _).alloc (by simp) _).drew) (fail)
    all_goals (
      go_wp2_with fail
      go_meet
      refine ⟨_, _, rfl, rfl, ?_, ?_, (((Below.refl _ _).alloc (Nat.le_refl _) _).alloc (by simp) _).drew⟩
      · first | exact RowAt.drew two_blocks.1 | exact RowAt.drew two_blocks.2
      · first | exact RowAt.drew two_blocks.1 | exact RowAt.drew two_blocks.2)
  case rest =>
    obtain ⟨X, Y, rfl, rfl, r0, r1, hbc⟩ := hcut
    clear g0 g1
    go_upto_region 4 with fail
    go_cut [7, 8, 9] (fun s7 s8 s9 wx => ∃ U M N, s7 = .pointer (some ⟨U, 0, none⟩) ∧ s8 = .pointer (some ⟨M, 0, none⟩) ∧ s9 = .pointer (some ⟨N, 0, none⟩) ∧ RowAt wx U (x.or y).1.cells 27 ∧ RowAt wx M (x.and y).1.cells 27 ∧ RowAt wx N x.not.1.cells 27 ∧ RowAt wx X x.1.cells 27 ∧ RowAt wx Y y.1.cells 27 ∧ Below w1.heap.size w1 wx)
    case first =>
      refine wp_region_any (by kernel_rfl) (wpAny_inv (fun n l a w' => ∃ (b0 b1 b2 b3 b4 b5 b6 b7 b8 b9 b10 b11 b12 b13 : Bool) (v7 v8 v9 v20 v21 v22 v23 v24 v25 v26 v27 : Value), n = (!b0).toNat + (!b1).toNat + (!b2).toNat + (!b3).toNat + (!b4).toNat + (!b5).toNat + (!b6).toNat + (!b7).toNat + (!b8).toNat + (!b9).toNat + (!b10).toNat + (!b11).toNat + (!b12).toNat + (!b13).toNat ∧ l = #[b0, b1, b2, b3, b4, b5, b6, b7, b8, b9, b10, b11, b12, b13] ∧ a = ⟨#[.agg x.1.cells, .agg y.1.cells, .pointer (some ⟨w.heap.size, 0, none⟩), .pointer (some ⟨w.heap.size + 1, 0, none⟩), .bool false, .pointer (some ⟨X, 0, none⟩), .pointer (some ⟨Y, 0, none⟩), v7, v8, v9, undef, undef, undef, undef, undef, undef, u16, u17, u18, u19, v20, v21, v22, v23, v24, v25, v26, v27, u28, u29, u30, u31, u32, u33, u34, u35, u36, u37, u38, u39, u40, u41, u42, u43, u44, u45, u46, u47, u48, u49, u50, u51, u52, u53, u54, u55, u56, u57, u58, u59, u60, u61, u62, u63, u64, u65, u66, u67, u68, u69, u70, u71, u72, u73, u74, u75, u76, u77, u78, u79, u80, u81, u82, u83, u84, u85, u86, u87, u88, u89, u90, u91, u92, u93, u94, u95, u96, u97, u98, u99, u100, u101, u102, u103, u104, u105, u106, u107, u108, u109, u110, u111, u112, u113, u114, u115, u116, u117, u118, u119, u120, u121, u122, u123], []⟩ ∧ R4 wc x y b0 b1 b2 b3 b4 b5 b6 b7 b8 b9 b10 b11 b12 b13 v7 v8 v9 v20 v21 v22 v23 v24 v25 v26 v27 w') ?h0 ?hf ?hs 14 _ _ _ ?st)
      case st =>
        exact ⟨false, false, false, false, false, false, false, false, false, false, false, false, false, false, undef, undef, undef, u20, u21, u22, u23, u24, u25, u26, u27, rfl, rfl, rfl, ⟨(Below.refl _ _).drew, (fun h => by cases h), (fun h => by cases h), (fun h => by cases h), (fun h => by cases h), (fun h => by cases h), (fun h => by cases h), (fun h => by cases h), (fun h => by cases h), VarAt.not_yet, VarAt.not_yet, VarAt.not_yet, (fun h => by cases h), (fun h => by cases h), (fun h => by cases h), (fun _ => rfl), (fun _ => rfl), (fun _ => rfl)⟩⟩
      case h0 =>
        rintro l a w' ⟨b0, b1, b2, b3, b4, b5, b6, b7, b8, b9, b10, b11, b12, b13, v7, v8, v9, v20, v21, v22, v23, v24, v25, v26, v27, hn, rfl, rfl, hR⟩
        clear hR
        have e0 : (!b0).toNat = 0 := by omega
        have e1 : (!b1).toNat = 0 := by omega
        have e2 : (!b2).toNat = 0 := by omega
        have e3 : (!b3).toNat = 0 := by omega
        have e4 : (!b4).toNat = 0 := by omega
        have e5 : (!b5).toNat = 0 := by omega
        have e6 : (!b6).toNat = 0 := by omega
        have e7 : (!b7).toNat = 0 := by omega
        have e8 : (!b8).toNat = 0 := by omega
        have e9 : (!b9).toNat = 0 := by omega
        have e10 : (!b10).toNat = 0 := by omega
        have e11 : (!b11).toNat = 0 := by omega
        have e12 : (!b12).toNat = 0 := by omega
        have e13 : (!b13).toNat = 0 := by omega
        obtain rfl : b0 = true := by cases b0 <;> first | rfl | (simp at e0)
        obtain rfl : b1 = true := by cases b1 <;> first | rfl | (simp at e1)
        obtain rfl : b2 = true := by cases b2 <;> first | rfl | (simp at e2)
        obtain rfl : b3 = true := by cases b3 <;> first | rfl | (simp at e3)
        obtain rfl : b4 = true := by cases b4 <;> first | rfl | (simp at e4)
        obtain rfl : b5 = true := by cases b5 <;> first | rfl | (simp at e5)
        obtain rfl : b6 = true := by cases b6 <;> first | rfl | (simp at e6)
        obtain rfl : b7 = true := by cases b7 <;> first | rfl | (simp at e7)
        obtain rfl : b8 = true := by cases b8 <;> first | rfl | (simp at e8)
        obtain rfl : b9 = true := by cases b9 <;> first | rfl | (simp at e9)
        obtain rfl : b10 = true := by cases b10 <;> first | rfl | (simp at e10)
        obtain rfl : b11 = true := by cases b11 <;> first | rfl | (simp at e11)
        obtain rfl : b12 = true := by cases b12 <;> first | rfl | (simp at e12)
        obtain rfl : b13 = true := by cases b13 <;> first | rfl | (simp at e13)
        rfl
      case hf =>
        rintro n l a w' ⟨b0, b1, b2, b3, b4, b5, b6, b7, b8, b9, b10, b11, b12, b13, v7, v8, v9, v20, v21, v22, v23, v24, v25, v26, v27, hn, rfl, rfl, hR⟩ hr
        clear hn
        obtain rfl : b0 = true := by
          cases hb : b0 with
          | true => rfl
          | false =>
            subst hb
            exact (not_ready hr 0 _ rfl rfl (by simp [Region.binds])).elim
        obtain rfl : b1 = true := by
          cases hb : b1 with
          | true => rfl
          | false =>
            subst hb
            exact (not_ready hr 1 _ rfl rfl (by simp [Region.binds])).elim
        obtain rfl : b2 = true := by
          cases hb : b2 with
          | true => rfl
          | false =>
            subst hb
            exact (not_ready hr 2 _ rfl rfl (by simp [Region.binds])).elim
        obtain rfl : b3 = true := by
          cases hb : b3 with
          | true => rfl
          | false =>
            subst hb
            exact (not_ready hr 3 _ rfl rfl (by simp [Region.binds])).elim
        obtain rfl : b4 = true := by
          cases hb : b4 with
          | true => rfl
          | false =>
            subst hb
            exact (not_ready hr 4 _ rfl rfl (by simp [Region.binds])).elim
        obtain rfl : b5 = true := by
          cases hb : b5 with
          | true => rfl
          | false =>
            subst hb
            exact (not_ready hr 5 _ rfl rfl (by simp [Region.binds])).elim
        obtain rfl : b6 = true := by
          cases hb : b6 with
          | true => rfl
          | false =>
            subst hb
            exact (not_ready hr 6 _ rfl rfl (by simp [Region.binds])).elim
        obtain rfl : b7 = true := by
          cases hb : b7 with
          | true => rfl
          | false =>
            subst hb
            exact (not_ready hr 7 _ rfl rfl (by simp [Region.binds])).elim
        obtain rfl : b8 = true := by
          cases hb : b8 with
          | true => rfl
          | false =>
            subst hb
            exact (not_ready hr 8 _ rfl rfl (by simp [Region.binds])).elim
        obtain rfl : b9 = true := by
          cases hb : b9 with
          | true => rfl
          | false =>
            subst hb
            exact (not_ready hr 9 _ rfl rfl (by simp [Region.binds])).elim
        obtain rfl : b10 = true := by
          cases hb : b10 with
          | true => rfl
          | false =>
            subst hb
            exact (not_ready hr 10 _ rfl rfl (by simp [Region.binds])).elim
        obtain rfl : b11 = true := by
          cases hb : b11 with
          | true => rfl
          | false =>
            subst hb
            exact (not_ready hr 11 _ rfl rfl (by simp [Region.binds])).elim
        obtain rfl : b12 = true := by
          cases hb : b12 with
          | true => rfl
          | false =>
            subst hb
            exact (not_ready hr 12 _ rfl rfl (by simp [Region.binds])).elim
        obtain rfl : b13 = true := by
          cases hb : b13 with
          | true => rfl
          | false =>
            subst hb
            exact (not_ready hr 13 _ rfl rfl (by simp [Region.binds])).elim
        obtain ⟨U, h1, hU, hUr⟩ := hR.a7 rfl
        obtain ⟨M, h2, hM, hMr⟩ := hR.a8 rfl
        obtain ⟨N, h3, hN, hNr⟩ := hR.a9 rfl
        have hbel := hR.bel
        clear hR hr
        unfold ptr at h1 h2 h3
        subst h1 h2 h3
        have g2 : RowAt w' X x.1.cells 27 := r0.later hbel r0.lt
        have g3 : RowAt w' Y y.1.cells 27 := r1.later hbel r1.lt
        have g4 : Below w1.heap.size w1 w' := hbc.trans (hbel.mono hbc.size)
        clear hbel r0 r1 hbc
        go_wp2_with fail
        go_meet
        exact ⟨_, _, _, rfl, rfl, rfl, hUr, hMr, hNr, g2, g3, g4⟩
      case hs =>
        rintro n l a w' ⟨b0, b1, b2, b3, b4, b5, b6, b7, b8, b9, b10, b11, b12, b13, v7, v8, v9, v20, v21, v22, v23, v24, v25, v26, v27, hn, rfl, rfl, hR⟩ i hi
        rw [mem_ready] at hi
        obtain ⟨hb, o, ho, hall⟩ := hi
        have hlt : i < 14 := (Array.getElem?_eq_some_iff.1 ho).1
        have hi : i = 0 ∨ i = 1 ∨ i = 2 ∨ i = 3 ∨ i = 4 ∨ i = 5 ∨ i = 6 ∨ i = 7 ∨ i = 8 ∨ i = 9 ∨ i = 10 ∨ i = 11 ∨ i = 12 ∨ i = 13 := by omega
        rcases hi with rfl | rfl | rfl | rfl | rfl | rfl | rfl | rfl | rfl | rfl | rfl | rfl | rfl | rfl
        · have hb : b0 = false := hb
          subst hb
          cases ho
          clear hall hlt
          have gc := set_cells r0 w' hR.bel
          obtain ⟨gc0, gc1, gc2, gc3⟩ := gc
          have hraw := x.raw
          refine wpOp_step rfl (fun K hK => ?_)
          go_simp
          refine hK _ _ ?_
          exact ⟨true, b1, b2, b3, b4, b5, b6, b7, b8, b9, b10, b11, b12, b13, v7, v8, v9, x.v, v21, v22, v23, v24, v25, v26, v27, by simp only [Bool.not_false, Bool.not_true, Bool.toNat_true, Bool.toNat_false] at hn ⊢; omega, rfl, rfl, { hR with c0 := fun _ => rfl }⟩
        · have hb : b1 = false := hb
          subst hb
          cases ho
          clear hall hlt
          have gc := set_cells r1 w' hR.bel
          obtain ⟨gc0, gc1, gc2, gc3⟩ := gc
          have hraw := y.raw
          refine wpOp_step rfl (fun K hK => ?_)
          go_simp
          refine hK _ _ ?_
          exact ⟨b0, true, b2, b3, b4, b5, b6, b7, b8, b9, b10, b11, b12, b13, v7, v8, v9, v20, y.v, v22, v23, v24, v25, v26, v27, by simp only [Bool.not_false, Bool.not_true, Bool.toNat_true, Bool.toNat_false] at hn ⊢; omega, rfl, rfl, { hR with c1 := fun _ => rfl }⟩
        · have hb : b2 = false := hb
          subst hb
          cases ho
          have t0 : b0 = true := hall ⟨0, .data⟩ (by simp) rfl
          have t1 : b1 = true := hall ⟨1, .data⟩ (by simp) rfl
          clear hall hlt
          subst t0 t1
          have q20 := hR.c0 rfl
          have q21 := hR.c1 rfl
          subst q20 q21
          refine wpOp_step rfl (fun K hK => ?_)
          go_simp
          refine (UnionK x y _).mono ?_
          rintro e w9 ⟨rfl, hb9⟩
          refine hK _ _ ?_
          exact ⟨true, true, true, b3, b4, b5, b6, b7, b8, b9, b10, b11, b12, b13, v7, v8, v9, x.v, y.v, (x.or y).v, v23, v24, v25, v26, v27, by simp only [Bool.not_false, Bool.not_true, Bool.toNat_true, Bool.toNat_false] at hn ⊢; omega, rfl, rfl, { hR with bel := below_step hb9 hR.bel, c2 := fun _ => rfl, a7 := hR.a7.below hb9, a8 := hR.a8.below hb9, a9 := hR.a9.below hb9 }⟩
        · have hb : b3 = false := hb
          subst hb
          cases ho
          clear hall hlt
          have gc := set_cells r0 w' hR.bel
          obtain ⟨gc0, gc1, gc2, gc3⟩ := gc
          have hraw := x.raw
          refine wpOp_step rfl (fun K hK => ?_)
          go_simp
          refine hK _ _ ?_
          exact ⟨b0, b1, b2, true, b4, b5, b6, b7, b8, b9, b10, b11, b12, b13, v7, v8, v9, v20, v21, v22, x.v, v24, v25, v26, v27, by simp only [Bool.not_false, Bool.not_true, Bool.toNat_true, Bool.toNat_false] at hn ⊢; omega, rfl, rfl, { hR with c3 := fun _ => rfl }⟩
        · have hb : b4 = false := hb
          subst hb
          cases ho
          clear hall hlt
          have gc := set_cells r1 w' hR.bel
          obtain ⟨gc0, gc1, gc2, gc3⟩ := gc
          have hraw := y.raw
          refine wpOp_step rfl (fun K hK => ?_)
          go_simp
          refine hK _ _ ?_
          exact ⟨b0, b1, b2, b3, true, b5, b6, b7, b8, b9, b10, b11, b12, b13, v7, v8, v9, v20, v21, v22, v23, y.v, v25, v26, v27, by simp only [Bool.not_false, Bool.not_true, Bool.toNat_true, Bool.toNat_false] at hn ⊢; omega, rfl, rfl, { hR with c4 := fun _ => rfl }⟩
        · have hb : b5 = false := hb
          subst hb
          cases ho
          have t3 : b3 = true := hall ⟨3, .data⟩ (by simp) rfl
          have t4 : b4 = true := hall ⟨4, .data⟩ (by simp) rfl
          have t2 : b2 = true := hall ⟨2, .chain⟩ (by simp) rfl
          clear hall hlt
          subst t3 t4 t2
          have q23 := hR.c3 rfl
          have q24 := hR.c4 rfl
          subst q23 q24
          refine wpOp_step rfl (fun K hK => ?_)
          go_simp
          refine (MeetK x y _).mono ?_
          rintro e w9 ⟨rfl, hb9⟩
          refine hK _ _ ?_
          exact ⟨b0, b1, true, true, true, true, b6, b7, b8, b9, b10, b11, b12, b13, v7, v8, v9, v20, v21, v22, x.v, y.v, (x.and y).v, v26, v27, by simp only [Bool.not_false, Bool.not_true, Bool.toNat_true, Bool.toNat_false] at hn ⊢; omega, rfl, rfl, { hR with bel := below_step hb9 hR.bel, c5 := fun _ => rfl, a7 := hR.a7.below hb9, a8 := hR.a8.below hb9, a9 := hR.a9.below hb9 }⟩
        · have hb : b6 = false := hb
          subst hb
          cases ho
          clear hall hlt
          have gc := set_cells r0 w' hR.bel
          obtain ⟨gc0, gc1, gc2, gc3⟩ := gc
          have hraw := x.raw
          refine wpOp_step rfl (fun K hK => ?_)
          go_simp
          refine hK _ _ ?_
          exact ⟨b0, b1, b2, b3, b4, b5, true, b7, b8, b9, b10, b11, b12, b13, v7, v8, v9, v20, v21, v22, v23, v24, v25, x.v, v27, by simp only [Bool.not_false, Bool.not_true, Bool.toNat_true, Bool.toNat_false] at hn ⊢; omega, rfl, rfl, { hR with c6 := fun _ => rfl }⟩
        · have hb : b7 = false := hb
          subst hb
          cases ho
          have t6 : b6 = true := hall ⟨6, .data⟩ (by simp) rfl
          have t5 : b5 = true := hall ⟨5, .chain⟩ (by simp) rfl
          clear hall hlt
          subst t6 t5
          have q26 := hR.c6 rfl
          subst q26
          refine wpOp_step rfl (fun K hK => ?_)
          go_simp
          refine (NotK x _).mono ?_
          rintro e w9 ⟨rfl, hb9⟩
          refine hK _ _ ?_
          exact ⟨b0, b1, b2, b3, b4, true, true, true, b8, b9, b10, b11, b12, b13, v7, v8, v9, v20, v21, v22, v23, v24, v25, x.v, x.not.v, by simp only [Bool.not_false, Bool.not_true, Bool.toNat_true, Bool.toNat_false] at hn ⊢; omega, rfl, rfl, { hR with bel := below_step hb9 hR.bel, c7 := fun _ => rfl, a7 := hR.a7.below hb9, a8 := hR.a8.below hb9, a9 := hR.a9.below hb9 }⟩
        · have hb : b8 = false := hb
          subst hb
          cases ho
          clear hall hlt
          obtain rfl : b11 = false := hR.l8 rfl
          have hbl : ∀ o, Below w'.heap.size w' (w'.alloc o) := fun o => (Below.refl _ _).alloc (Nat.le_refl _) o
          refine wpOp_step rfl (fun K hK => ?_)
          go_simp
          refine hK _ _ ?_
          exact ⟨b0, b1, b2, b3, b4, b5, b6, b7, true, b9, b10, false, b12, b13, ptr w'.heap.size, v8, v9, v20, v21, v22, v23, v24, v25, v26, v27, by simp only [Bool.not_false, Bool.not_true, Bool.toNat_true, Bool.toNat_false] at hn ⊢; omega, rfl, rfl, { hR with bel := below_step (hbl _) hR.bel, a7 := VarAt.made hR.bel.size, a8 := hR.a8.below (hbl _), a9 := hR.a9.below (hbl _), n78 := fun _ h => (hR.a8.ne_new h).symm, n79 := fun _ h => (hR.a9.ne_new h).symm, l8 := fun h => by cases h }⟩
        · have hb : b9 = false := hb
          subst hb
          cases ho
          clear hall hlt
          obtain rfl : b12 = false := hR.l9 rfl
          have hbl : ∀ o, Below w'.heap.size w' (w'.alloc o) := fun o => (Below.refl _ _).alloc (Nat.le_refl _) o
          refine wpOp_step rfl (fun K hK => ?_)
          go_simp
          refine hK _ _ ?_
          exact ⟨b0, b1, b2, b3, b4, b5, b6, b7, b8, true, b10, b11, false, b13, v7, ptr w'.heap.size, v9, v20, v21, v22, v23, v24, v25, v26, v27, by simp only [Bool.not_false, Bool.not_true, Bool.toNat_true, Bool.toNat_false] at hn ⊢; omega, rfl, rfl, { hR with bel := below_step (hbl _) hR.bel, a8 := VarAt.made hR.bel.size, a7 := hR.a7.below (hbl _), a9 := hR.a9.below (hbl _), n78 := fun h _ => hR.a7.ne_new h, n89 := fun _ h => (hR.a9.ne_new h).symm, l9 := fun h => by cases h }⟩
        · have hb : b10 = false := hb
          subst hb
          cases ho
          clear hall hlt
          obtain rfl : b13 = false := hR.l10 rfl
          have hbl : ∀ o, Below w'.heap.size w' (w'.alloc o) := fun o => (Below.refl _ _).alloc (Nat.le_refl _) o
          refine wpOp_step rfl (fun K hK => ?_)
          go_simp
          refine hK _ _ ?_
          exact ⟨b0, b1, b2, b3, b4, b5, b6, b7, b8, b9, true, b11, b12, false, v7, v8, ptr w'.heap.size, v20, v21, v22, v23, v24, v25, v26, v27, by simp only [Bool.not_false, Bool.not_true, Bool.toNat_true, Bool.toNat_false] at hn ⊢; omega, rfl, rfl, { hR with bel := below_step (hbl _) hR.bel, a9 := VarAt.made hR.bel.size, a7 := hR.a7.below (hbl _), a8 := hR.a8.below (hbl _), n79 := fun h _ => hR.a7.ne_new h, n89 := fun h _ => hR.a8.ne_new h, l10 := fun h => by cases h }⟩
        · have hb : b11 = false := hb
          subst hb
          cases ho
          have t8 : b8 = true := hall ⟨8, .data⟩ (by simp) rfl
          have t2 : b2 = true := hall ⟨2, .data⟩ (by simp) rfl
          have t7 : b7 = true := hall ⟨7, .chain⟩ (by simp) rfl
          have t0 : b0 = true := hall ⟨0, .phase⟩ (by simp) rfl
          have t1 : b1 = true := hall ⟨1, .phase⟩ (by simp) rfl
          have t9 : b9 = true := hall ⟨9, .phase⟩ (by simp) rfl
          have t10 : b10 = true := hall ⟨10, .phase⟩ (by simp) rfl
          clear hall hlt
          subst t8 t2 t7 t0 t1 t9 t10
          obtain ⟨U, hv, hU, ⟨ca, cb, cc, cd, k0, k1, k2, k3⟩, f0, f1, f2, f3⟩ := hR.a7.cells
          have q : v22 = .agg #[.int .u64 ((x.or y).1.a0 : Int), .int .u64 ((x.or y).1.a1 : Int), .int .u64 ((x.or y).1.a2 : Int), .int .u64 ((x.or y).1.a3 : Int)] := hR.c2 rfl
          unfold ptr at hv
          subst hv q
          refine wpOp_step rfl (fun K hK => ?_)
          go_simp
          refine hK _ _ ?_
          exact ⟨true, true, true, b3, b4, b5, b6, true, true, true, true, true, b12, b13, ptr U, v8, v9, v20, v21, (x.or y).v, v23, v24, v25, v26, v27, by simp only [Bool.not_false, Bool.not_true, Bool.toNat_true, Bool.toNat_false] at hn ⊢; omega, rfl, rfl, { hR with bel := below_put4 hR.bel hU (x.or y), c2 := fun _ => rfl, a7 := hR.a7.filled, a8 := hR.a8.other U (x.or y) (fun _ h => hR.n78 rfl rfl h.symm), a9 := hR.a9.other U (x.or y) (fun _ h => hR.n79 rfl rfl h.symm), l8 := fun h => by cases h }⟩
        · have hb : b12 = false := hb
          subst hb
          cases ho
          have t9 : b9 = true := hall ⟨9, .data⟩ (by simp) rfl
          have t5 : b5 = true := hall ⟨5, .data⟩ (by simp) rfl
          have t11 : b11 = true := hall ⟨11, .chain⟩ (by simp) rfl
          have t0 : b0 = true := hall ⟨0, .phase⟩ (by simp) rfl
          have t1 : b1 = true := hall ⟨1, .phase⟩ (by simp) rfl
          have t2 : b2 = true := hall ⟨2, .phase⟩ (by simp) rfl
          have t3 : b3 = true := hall ⟨3, .phase⟩ (by simp) rfl
          have t4 : b4 = true := hall ⟨4, .phase⟩ (by simp) rfl
          have t8 : b8 = true := hall ⟨8, .phase⟩ (by simp) rfl
          have t10 : b10 = true := hall ⟨10, .phase⟩ (by simp) rfl
          clear hall hlt
          subst t9 t5 t11 t0 t1 t2 t3 t4 t8 t10
          obtain ⟨U, hv, hU, ⟨ca, cb, cc, cd, k0, k1, k2, k3⟩, f0, f1, f2, f3⟩ := hR.a8.cells
          have q : v25 = .agg #[.int .u64 ((x.and y).1.a0 : Int), .int .u64 ((x.and y).1.a1 : Int), .int .u64 ((x.and y).1.a2 : Int), .int .u64 ((x.and y).1.a3 : Int)] := hR.c5 rfl
          unfold ptr at hv
          subst hv q
          refine wpOp_step rfl (fun K hK => ?_)
          go_simp
          refine hK _ _ ?_
          exact ⟨true, true, true, true, true, true, b6, b7, true, true, true, true, true, b13, v7, ptr U, v9, v20, v21, v22, v23, v24, (x.and y).v, v26, v27, by simp only [Bool.not_false, Bool.not_true, Bool.toNat_true, Bool.toNat_false] at hn ⊢; omega, rfl, rfl, { hR with bel := below_put4 hR.bel hU (x.and y), c5 := fun _ => rfl, a8 := hR.a8.filled, a7 := hR.a7.other U (x.and y) (fun _ => hR.n78 rfl rfl), a9 := hR.a9.other U (x.and y) (fun _ h => hR.n89 rfl rfl h.symm), l9 := fun h => by cases h }⟩
        · have hb : b13 = false := hb
          subst hb
          cases ho
          have t10 : b10 = true := hall ⟨10, .data⟩ (by simp) rfl
          have t7 : b7 = true := hall ⟨7, .data⟩ (by simp) rfl
          have t12 : b12 = true := hall ⟨12, .chain⟩ (by simp) rfl
          have t0 : b0 = true := hall ⟨0, .phase⟩ (by simp) rfl
          have t1 : b1 = true := hall ⟨1, .phase⟩ (by simp) rfl
          have t2 : b2 = true := hall ⟨2, .phase⟩ (by simp) rfl
          have t3 : b3 = true := hall ⟨3, .phase⟩ (by simp) rfl
          have t4 : b4 = true := hall ⟨4, .phase⟩ (by simp) rfl
          have t5 : b5 = true := hall ⟨5, .phase⟩ (by simp) rfl
          have t6 : b6 = true := hall ⟨6, .phase⟩ (by simp) rfl
          have t8 : b8 = true := hall ⟨8, .phase⟩ (by simp) rfl
          have t9 : b9 = true := hall ⟨9, .phase⟩ (by simp) rfl
          have t11 : b11 = true := hall ⟨11, .phase⟩ (by simp) rfl
          clear hall hlt
          subst t10 t7 t12 t0 t1 t2 t3 t4 t5 t6 t8 t9 t11
          obtain ⟨U, hv, hU, ⟨ca, cb, cc, cd, k0, k1, k2, k3⟩, f0, f1, f2, f3⟩ := hR.a9.cells
          have q : v27 = .agg #[.int .u64 (x.not.1.a0 : Int), .int .u64 (x.not.1.a1 : Int), .int .u64 (x.not.1.a2 : Int), .int .u64 (x.not.1.a3 : Int)] := hR.c7 rfl
          unfold ptr at hv
          subst hv q
          refine wpOp_step rfl (fun K hK => ?_)
          go_simp
          refine hK _ _ ?_
          exact ⟨true, true, true, true, true, true, true, true, true, true, true, true, true, true, v7, v8, ptr U, v20, v21, v22, v23, v24, v25, v26, x.not.v, by simp only [Bool.not_false, Bool.not_true, Bool.toNat_true, Bool.toNat_false] at hn ⊢; omega, rfl, rfl, { hR with bel := below_put4 hR.bel hU x.not, c7 := fun _ => rfl, a9 := hR.a9.filled, a7 := hR.a7.other U x.not (fun _ => hR.n79 rfl rfl), a8 := hR.a8.other U x.not (fun _ => hR.n89 rfl rfl), l10 := fun h => by cases h }⟩
    case rest =>
      obtain ⟨U, M, N, rfl, rfl, rfl, r2, r3, r4, r0', r1', hbd⟩ := hcut
      have kp := set_cells (q0'.later hbd q0'.lt)
      have kq := set_cells (q1'.later hbd q1'.lt)
      have kx := set_cells r0'
      have ky := set_cells r1'
      have ku := set_cells r2
      have km := set_cells r3
      have kn := set_cells r4
      have hbF : Below w.heap.size w wc := hbA.trans (hbd.mono hbA.size)
      clear q0 q1 q0' q1' r0 r1 r0' r1' r2 r3 r4 hbd hbc hb0 hb1 hbA hW
      have hx := x.raw
      have hy := y.raw
      have hu := (x.or y).raw
      have hm := (x.and y).raw
      have hn := x.not.raw
      have HB := Lib.hid (BytesK x)
      have hrefl := Below.refl wc.heap.size wc
      obtain ⟨L, hL⟩ : ∃ L, (bytesN x.1 256).length = L := ⟨_, rfl⟩
      have hL256 : L ≤ 256 := by rw [← hL]; exact bytesN_le _ _
      have HL := Lib.hid hL
      clear hL
      go_wp2_with (go_at_call 33; refine (HB.out _).mono ?_; rintro e w2 ⟨v, rfl, hrow, hb2⟩; obtain ⟨A, c, rfl, hT⟩ := byts_of hrow; rw [HL.out] at hT; rw [HL.out])
      have hbF2 : Below w.heap.size w w2 := hbF.trans (hb2.mono hbF.size)
      have kp2 := fun w' (h : Below w2.heap.size w2 w') => kp w' (hb2.trans (h.mono hb2.size))
      have kq2 := fun w' (h : Below w2.heap.size w2 w') => kq w' (hb2.trans (h.mono hb2.size))
      have kx2 := fun w' (h : Below w2.heap.size w2 w') => kx w' (hb2.trans (h.mono hb2.size))
      have ky2 := fun w' (h : Below w2.heap.size w2 w') => ky w' (hb2.trans (h.mono hb2.size))
      have ku2 := fun w' (h : Below w2.heap.size w2 w') => ku w' (hb2.trans (h.mono hb2.size))
      have km2 := fun w' (h : Below w2.heap.size w2 w') => km w' (hb2.trans (h.mono hb2.size))
      have kn2 := fun w' (h : Below w2.heap.size w2 w') => kn w' (hb2.trans (h.mono hb2.size))
      clear kp kq kx ky ku km kn hrefl hrow hbF hb2 HB
      have HT := Lib.hid hT
      clear hT
      go_loopw [11, 12, 13] (fun vn vw i wr => ∃ (k m : Nat) (wi : Bool), k ≤ 256 ∧ i = .int .i64 (k : Int) ∧ vn = .int .i64 (m : Int) ∧ vw = .bool wi ∧ m ≤ k ∧ Hid (m = (bytesN x.1 k).length) ∧ Hid (wi = wB x y k) ∧ Below w2.heap.size w2 wr) (fun _ _ i _ => 256 - (intOf i).toNat)
      case atStart => exact ⟨0, 0, true, Nat.zero_le _, rfl, rfl, rfl, Nat.le_refl _, rfl, rfl, Below.refl _ _⟩
      case round =>
        obtain ⟨k, m, wi, hk, rfl, rfl, rfl, hmk, HM, HW, hbw⟩ := hrel
        by_cases hlt : k < 256
        · have hw8 : IntKind.u8.wrap (k : Int) = (k : Int) := by rw [IntKind.wrap_u8']; omega
          obtain ⟨p, hp⟩ : ∃ p, x.1.has k = p := ⟨_, rfl⟩
          obtain ⟨q, hq⟩ : ∃ q, y.1.has k = q := ⟨_, rfl⟩
          have R1 := Lib.hid (RefHasP x k hlt hp)
          have R2 := Lib.hid (RefHasP y k hlt hq)
          have C1 := Lib.hid (HasP x k hlt hp)
          have C2 := Lib.hid (HasP (x.or y) k hlt (p := (p || q)) (by rw [has_or, hp, hq]))
          have C3 := Lib.hid (HasP (x.and y) k hlt (p := (p && q)) (by rw [has_and, hp, hq]))
          have C4 := Lib.hid (HasP x.not k hlt (p := !p) (by rw [has_not, hp]))
          have HM' : Hid (m + p.toNat = (bytesN x.1 (k + 1)).length) := by show _ = _; rw [bytes_step, ← HM.out, hp]
          have HW' : Hid ((wi && (!p || q)) = wB x y (k + 1)) := by show _ = (wB x y k && (!x.1.has k || y.1.has k)); rw [← HW.out, hp, hq]
          have HLT : Hid (p = true → m < L ∧ (bytesN x.1 256)[m]? = some k) := by
            intro hpt
            have h1 := bytes_at x.1 (hp.trans hpt) 256 hlt
            rw [← HM.out] at h1
            exact ⟨by rw [← HL.out]; exact (List.getElem?_eq_some_iff.1 h1).1, h1⟩
          clear hp hq HM HW
          have hkd : decide ((k : Int) < 256) = true := by simp; omega
          go_upto_region 11 with fail
          clear hkd
          go_region_held3 (fun w' : World => Below w2.heap.size w2 w') (first | assumption | exact below_step hb9 (by assumption) | exact Below.drew (by assumption)) (first | (go_at_call 34; have := hs1; refine (R2.out _).mono ?_; rintro e w9 ⟨rfl, hb9⟩) | (go_at_call 34; refine (R1.out _).mono ?_; rintro e w9 ⟨rfl, hb9⟩; have hs1 := True.intro))
          have hbw : Below w2.heap.size w2 w9 := by assumption
          clear kp2 kq2 R1 R2
          cases p
          · cases q <;> cases wi <;> (
              go_wp2_with (first | (go_at_call 35; have := h3; refine (C4.out _).mono ?_; rintro e w9 ⟨rfl, hb9⟩; have hbw := below_step hb9 hbw) | (go_at_call 35; have := h2; refine (C3.out _).mono ?_; rintro e w9 ⟨rfl, hb9⟩; have hbw := below_step hb9 hbw; have h3 := True.intro) | (go_at_call 35; have := h1; refine (C2.out _).mono ?_; rintro e w9 ⟨rfl, hb9⟩; have hbw := below_step hb9 hbw; have h2 := True.intro) | (go_at_call 35; refine (C1.out _).mono ?_; rintro e w9 ⟨rfl, hb9⟩; have hbw := below_step hb9 hbw; have h1 := True.intro))
              go_roundw
              case rel => exact ⟨k + 1, m, _, by omega, by go_num, by go_num, rfl, by omega, HM', HW', hbw⟩
              case measure => first | (simp [intOf]; done) | (simp [intOf]; omega))
          · obtain ⟨hmL, hat⟩ := HLT.out rfl
            obtain ⟨a, xv, rfl, hxk, ck⟩ := (HT.out.below hbw).at_ hmL
            have hxv : xv = (k : Int) := by
              rw [List.getElem?_map, hat] at hxk
              simpa using hxk.symm
            subst hxv
            have kc := fun w' (h : Below w2.heap.size w2 w') => (HT.out.below h).cell a rfl m _ hxk
            clear hat hxk HLT ck
            have hg0 : decide (L ≤ m) = false := by simp; omega
            have hg1 : decide (m < L) = true := by simp; omega
            have hm0 : (0 : Int) ≤ (m : Int) := by omega
            have hm1 : (m : Int) < (L : Int) := by omega
            cases q <;> cases wi <;> (
              go_wp2_with (first | (go_at_call 35; have := h3; refine (C4.out _).mono ?_; rintro e w9 ⟨rfl, hb9⟩; have hbw := below_step hb9 hbw) | (go_at_call 35; have := h2; refine (C3.out _).mono ?_; rintro e w9 ⟨rfl, hb9⟩; have hbw := below_step hb9 hbw; have h3 := True.intro) | (go_at_call 35; have := h1; refine (C2.out _).mono ?_; rintro e w9 ⟨rfl, hb9⟩; have hbw := below_step hb9 hbw; have h2 := True.intro) | (go_at_call 35; refine (C1.out _).mono ?_; rintro e w9 ⟨rfl, hb9⟩; have hbw := below_step hb9 hbw; have h1 := True.intro))
              go_roundw
              case rel => exact ⟨k + 1, m + 1, _, by omega, by go_num, by go_num, rfl, by omega, HM', HW', hbw⟩
              case measure => first | (simp [intOf]; done) | (simp [intOf]; omega))
        · obtain rfl : k = 256 := by omega
          obtain rfl : m = L := HM.out.trans HL.out
          have K1 := Lib.hid (CountP x (n := m) (by rw [← bytes_count]; exact HL.out))
          have K2 := Lib.hid (WithinP x y (p := wi) (by rw [wB_within]; exact HW.out.symm))
          by_cases h0 : m = 0
          · have K3 := Lib.hid (EmptyP x (p := true) (decide_eq_true (bytes_none (HL.out.trans h0))))
            cases wi <;> (
              go_wp2_with (first | (go_at_call 18; refine (K1.out _).mono ?_; rintro e w9 ⟨rfl, hb9⟩; have hbw := below_step hb9 hbw) | (go_at_call 17; refine (K3.out _).mono ?_; rintro e w9 ⟨rfl, hb9⟩; have hbw := below_step hb9 hbw) | (go_at_call 19; refine (K2.out _).mono ?_; rintro e w9 ⟨rfl, hb9⟩; have hbw := below_step hb9 hbw))
              go_returns
              exact ⟨rfl, hbF2.trans (hbw.mono hbF2.size)⟩)
          · have hne : ((m : Int) == 0) = false := by simp; omega
            have K3 := Lib.hid (EmptyP x (p := false) (decide_eq_false (fun hz => h0 (by rw [← HL.out, hz]; exact zero_none))))
            cases wi <;> (
              go_wp2_with (first | (go_at_call 18; refine (K1.out _).mono ?_; rintro e w9 ⟨rfl, hb9⟩; have hbw := below_step hb9 hbw) | (go_at_call 17; refine (K3.out _).mono ?_; rintro e w9 ⟨rfl, hb9⟩; have hbw := below_step hb9 hbw) | (go_at_call 19; refine (K2.out _).mono ?_; rintro e w9 ⟨rfl, hb9⟩; have hbw := below_step hb9 hbw))
              go_returns
              exact ⟨rfl, hbF2.trans (hbw.mono hbF2.size)⟩)

end Go.Proofs.Ytboebjmfchbgbaa
