/-
  The walk of the statement ClassAlgebra.
-/
import Derived.Test.YtboebjmfchbgbaaAlgebra
import Derived.Deep.DeepCutAuto
namespace Go.Proofs.Ytboebjmfchbgbaa
open Go Go.RowKit
set_option linter.unusedSimpArgs false
set_option linter.unusedVariables false

theorem three_blocks {w : World} {n : Nat} {c0 c1 c2 : Array Value} {t : TypeId} (hn : n ≤ w.heap.size) (w0 : World) (h0 : Below n w0 w) :
    ∃ W, ((w.alloc (.cells c0 t)).alloc (.cells c1 t)).alloc (.cells c2 t) = W ∧ RowAt W w.heap.size c0 t ∧ RowAt W (w.heap.size + 1) c1 t ∧ RowAt W (w.heap.size + 1 + 1) c2 t ∧ Below n w0 W := by
  obtain ⟨q0, q1, q2⟩ := RowAt.three (w := w) (c0 := c0) (c1 := c1) (c2 := c2) (t := t)
  exact ⟨_, rfl, q0, q1, q2, ((h0.alloc hn _).alloc (by simp; omega) _).alloc (by simp; omega) _⟩

set_option maxHeartbeats 4000000 in
set_option maxRecDepth 100000 in
theorem ClassAlgebra_walk (x y z : OK) (w : World) :
    Calls Try.prog 4 #[x.v, y.v, z.v] w fun e w' => e = .returned (.bool true) ∧ Below w.heap.size w w' := by
  show Calls _ _ #[.agg x.1.cells, .agg y.1.cells, .agg z.1.cells] _ _
  obtain ⟨W, hW, q0, q1, q2, hb0⟩ := three_blocks (c0 := x.1.cells) (c1 := y.1.cells) (c2 := z.1.cells) (t := 26) (Nat.le_refl _) w (Below.refl w.heap.size w)
  go_enter Try.func4, Try.ntmps4
  go_upto_region 3 with (go_at_call 9; refine (alive06_any _).mono ?_; rintro e w1 ⟨rfl, hb1⟩)
  have g0 := set_cells (q0.later hb1 q0.lt)
  have g1 := set_cells (q1.later hb1 q1.lt)
  have g2 := set_cells (q2.later hb1 q2.lt)
  have hbA : Below w.heap.size w w1 := hb0.trans (hb1.mono hb0.size)
  go_cut [7, 8, 9] (fun s7 s8 s9 wx => ∃ X Y Z, s7 = .pointer (some ⟨X, 0, none⟩) ∧ s8 = .pointer (some ⟨Y, 0, none⟩) ∧ s9 = .pointer (some ⟨Z, 0, none⟩) ∧ RowAt wx X x.1.cells 27 ∧ RowAt wx Y y.1.cells 27 ∧ RowAt wx Z z.1.cells 27 ∧ Below w.heap.size w wx)
  case first =>
    go_region_held3 (fun w' : World => Below w1.heap.size w1 w') (first | exact (Below.refl _ _).drew | exact ((Below.refl _ _).alloc (Nat.le_refl _) _).drew | exact (((Below.refl _ _).alloc (Nat.le_refl _) _).alloc (by simp) _).drew | exact ((((Below.refl _ _).alloc (Nat.le_refl _) _).alloc (by simp) _).alloc (by first | (simp; done) | (simp; omega)) _).drew) (fail)
    all_goals (
      go_wp2_with fail
      have hsA := hbA.size
      go_meet
      refine ⟨_, _, _, rfl, rfl, rfl, ?_, ?_, ?_, ((((hbA.alloc hbA.size _).alloc (by simp; omega) _).alloc (by simp; omega) _).drew)⟩
      · first | exact RowAt.drew RowAt.three.1 | exact RowAt.drew RowAt.three.2.1 | exact RowAt.drew RowAt.three.2.2
      · first | exact RowAt.drew RowAt.three.1 | exact RowAt.drew RowAt.three.2.1 | exact RowAt.drew RowAt.three.2.2
      · first | exact RowAt.drew RowAt.three.1 | exact RowAt.drew RowAt.three.2.1 | exact RowAt.drew RowAt.three.2.2)
  case rest =>
    obtain ⟨X, Y, Z, rfl, rfl, rfl, r0, r1, r2, hbc⟩ := hcut
    clear g0 g1 g2 q0 q1 q2 hb0 hb1 hbA hW
    go_upto_region 4 with fail
    have k0 := set_cells r0
    have k1 := set_cells r1
    have k2 := set_cells r2
    clear r0 r1 r2
    have hx := x.raw
    have hy := y.raw
    have hz := z.raw
    have HU := Lib.hid UnionK
    have HM := Lib.hid MeetK
    have HN := Lib.hid NotK
    have HA := Lib.hid AllK
    have HE := Lib.hid EmptyK
    have HC := Lib.hid CountK
    have HI := Lib.hid WithinK
    have hg := guardK
    have n1 := neqK ((x.or y).not) ((x.not).and (y.not)) true (decide_eq_true (alg1 x y))
    have n2 := neqK ((x.and y).not) ((x.not).or (y.not)) true (decide_eq_true (alg2 x y))
    have n3 := neqK ((x.not).not) x true (decide_eq_true (alg3 x))
    go_region_held3 (fun w' : World => Below wc.heap.size wc w') (first | assumption | exact below_step hb9 (by assumption) | exact Below.drew (by assumption) | exact (Below.refl _ _).drew) (first | (go_at_call 13; refine (HU.out _ _ _).mono ?_; rintro e w9 ⟨rfl, hb9⟩) | (go_at_call 15; refine (HM.out _ _ _).mono ?_; rintro e w9 ⟨rfl, hb9⟩) | (go_at_call 14; refine (HN.out _ _).mono ?_; rintro e w9 ⟨rfl, hb9⟩) | (go_at_call 16; refine (HA.out _).mono ?_; rintro e w9 ⟨rfl, hb9⟩) | (go_at_call 17; refine (HE.out _ _).mono ?_; rintro e w9 ⟨rfl, hb9⟩) | (go_at_call 18; refine (HC.out _ _).mono ?_; rintro e w9 ⟨rfl, hb9⟩) | (go_at_call 19; refine (HI.out _ _ _).mono ?_; rintro e w9 ⟨rfl, hb9⟩))
    go_upto_region 6 with fail
    clear n1 n2 n3
    have n4 := neqK (x.or y) (y.or x) true (decide_eq_true (alg4 x y))
    have n5 := neqK (x.and (y.or z)) ((x.and y).or (x.and z)) true (decide_eq_true (alg5 x y z))
    have n6 := neqK (x.or (x.and y)) x true (decide_eq_true (alg6 x y))
    have n7 := neqK (x.or (x.not)) (OK.zero.not) true (decide_eq_true (alg7 x))
    go_region_held3 (fun w' : World => Below wc.heap.size wc w') (first | assumption | exact below_step hb9 (by assumption) | exact Below.drew (by assumption) | exact (Below.refl _ _).drew) (first | (go_at_call 13; refine (HU.out _ _ _).mono ?_; rintro e w9 ⟨rfl, hb9⟩) | (go_at_call 15; refine (HM.out _ _ _).mono ?_; rintro e w9 ⟨rfl, hb9⟩) | (go_at_call 14; refine (HN.out _ _).mono ?_; rintro e w9 ⟨rfl, hb9⟩) | (go_at_call 16; refine (HA.out _).mono ?_; rintro e w9 ⟨rfl, hb9⟩) | (go_at_call 17; refine (HE.out _ _).mono ?_; rintro e w9 ⟨rfl, hb9⟩) | (go_at_call 18; refine (HC.out _ _).mono ?_; rintro e w9 ⟨rfl, hb9⟩) | (go_at_call 19; refine (HI.out _ _ _).mono ?_; rintro e w9 ⟨rfl, hb9⟩))
    go_upto_region 8 with fail
    clear n4 n5 n6 n7
    have e0 := eqlK x y _ rfl
    have h8 := alg8 x
    have h9 : (((x.or y).1.count : Int) + ((x.and y).1.count : Int)) = (x.1.count : Int) + (y.1.count : Int) := by have := alg9 x y; omega
    have l1 := count_le (x.or y)
    have l2 := count_le (x.and y)
    have l3 := count_le x
    have l4 := count_le y
    have h10 := alg10 x y
    have h13 := alg13 x y
    obtain ⟨b1, hb1⟩ : ∃ b, decide ((x.and y).1 = x.1) = b := ⟨_, rfl⟩
    obtain ⟨b2, hb2⟩ : ∃ b, decide ((y.and x).1 = y.1) = b := ⟨_, rfl⟩
    obtain ⟨b3, hb3⟩ : ∃ b, decide (x.1 = y.1) = b := ⟨_, rfl⟩
    rw [hb1, hb2, hb3] at h13
    rw [hb3] at e0
    clear hb3
    have W1 := Lib.hid (fun w => by have := WithinK x (x.or y) w; rw [decide_eq_true h10] at this; exact this)
    have W2 := Lib.hid (fun w => by have := WithinK x y w; rw [hb1] at this; exact this)
    have W3 := Lib.hid (fun w => by have := WithinK y x w; rw [hb2] at this; exact this)
    have E1 := Lib.hid (fun w => by have := EmptyK (x.and (x.not)) w; rw [decide_eq_true h8] at this; exact this)
    clear hb1 hb2 h8 h10 HI HE
    cases b1
    · simp only [Bool.false_and] at h13
      subst h13
      refine wp_region_noPanic ?_
      refine wp_region_held_drew (S := fun w' : World => Below wc.heap.size wc w') (by kernel_rfl) ?_ (fun hHeld => ?_)
      · exact Below.drew (by assumption)
      refine wpAnyH_take (i := 0) (oi := ({ dst := some 83, op := Op.load 27 (Operand.tmp 7), type := 27, pos := "law.go:71", after := #[], guard := none } : Oper)) (v := ?v0) rfl (by kernel_rfl) (by kernel_rfl) (by kernel_rfl) (fun _ _ _ h => h) (Or.inl ⟨by rfl, ?hy0⟩) (by assumption) ?rest0
      case hy0 => (intro w hSw; (try dsimp only at hSw); (first | (go_simp; done) | (go_simp; with_reducible rfl)))
      try simp only [Act.put, List.setIfInBounds_toArray, List.set_cons_zero, List.set_cons_succ]
      refine wpAnyH_take (i := 1) (oi := ({ dst := some 84, op := Op.load 27 (Operand.tmp 7), type := 27, pos := "law.go:71", after := #[], guard := none } : Oper)) (v := ?v1) rfl (by kernel_rfl) (by kernel_rfl) (by kernel_rfl) (fun _ _ _ h => h) (Or.inl ⟨by rfl, ?hy1⟩) (by assumption) ?rest1
      case hy1 => (intro w hSw; (try dsimp only at hSw); (first | (go_simp; done) | (go_simp; with_reducible rfl)))
      try simp only [Act.put, List.setIfInBounds_toArray, List.set_cons_zero, List.set_cons_succ]
      refine wpAnyH_ready (rs := [2]) (by kernel_rfl) (by simp) ?_
      refine AllReadyH.cons (o := ({ dst := some 85, op := Op.call { callee := Callee.value (Operand.func 14), args := #[Operand.tmp 84], argTypes := #[27] }, type := 27, pos := "law.go:71", after := #[{ on := 1, ground := Ground.data }], guard := none } : Oper)) rfl (fun K hK => ?_) AllReadyH.nil
      go_simp
      refine (HN.out _ _).mono ?_
      rintro e w9 ⟨rfl, hb9⟩
      (try go_wp2_with fail)
      refine hK.out _ _ ?_ (fun hHeld => ?_)
      · (try dsimp only); exact below_step hb9 (by assumption)
      clear hK K
      try simp only [Act.put, List.setIfInBounds_toArray, List.set_cons_zero, List.set_cons_succ]
      refine wpAnyH_ready (rs := [3]) (by kernel_rfl) (by simp) ?_
      refine AllReadyH.cons (o := ({ dst := some 86, op := Op.call { callee := Callee.value (Operand.func 15), args := #[Operand.tmp 83, Operand.tmp 85], argTypes := #[27, 27] }, type := 27, pos := "law.go:71", after := #[{ on := 0, ground := Ground.data }, { on := 2, ground := Ground.data }, { on := 2, ground := Ground.chain }], guard := none } : Oper)) rfl (fun K hK => ?_) AllReadyH.nil
      go_simp
      refine (HM.out _ _ _).mono ?_
      rintro e w9 ⟨rfl, hb9⟩
      (try go_wp2_with fail)
      refine hK.out _ _ ?_ (fun hHeld => ?_)
      · (try dsimp only); exact below_step hb9 (by assumption)
      clear hK K
      try simp only [Act.put, List.setIfInBounds_toArray, List.set_cons_zero, List.set_cons_succ]
      refine wpAnyH_ready (rs := [4]) (by kernel_rfl) (by simp) ?_
      refine AllReadyH.cons (o := ({ dst := some 87, op := Op.call { callee := Callee.value (Operand.func 17), args := #[Operand.tmp 86], argTypes := #[27] }, type := 4, pos := "law.go:71", after := #[{ on := 3, ground := Ground.data }, { on := 3, ground := Ground.chain }], guard := none } : Oper)) rfl (fun K hK => ?_) AllReadyH.nil
      go_simp
      refine (E1.out _).mono ?_
      rintro e w9 ⟨rfl, hb9⟩
      (try go_wp2_with fail)
      refine hK.out _ _ ?_ (fun hHeld => ?_)
      · (try dsimp only); exact below_step hb9 (by assumption)
      clear hK K
      try simp only [Act.put, List.setIfInBounds_toArray, List.set_cons_zero, List.set_cons_succ]
      refine wpAnyH_take (i := 5) (oi := ({ dst := some 88, op := Op.move (Operand.tmp 87), type := 4, pos := "law.go:71", after := #[{ on := 4, ground := Ground.data }, { on := 4, ground := Ground.chain }], guard := none } : Oper)) (v := ?v5) rfl (by kernel_rfl) (by kernel_rfl) (by kernel_rfl) (fun _ _ _ h => h) (Or.inl ⟨by rfl, ?hy5⟩) (by assumption) ?rest5
      case hy5 => (intro w hSw; (try dsimp only at hSw); (first | (go_simp; done) | (go_simp; with_reducible rfl)))
      try simp only [Act.put, List.setIfInBounds_toArray, List.set_cons_zero, List.set_cons_succ]
      refine wpAnyH_take (i := 6) (oi := ({ dst := some 89, op := Op.load 27 (Operand.tmp 7), type := 27, pos := "law.go:71", after := #[{ on := 5, ground := Ground.guard }], guard := some (5, true) } : Oper)) (v := ?v6) rfl (by kernel_rfl) (by kernel_rfl) (by kernel_rfl) (fun _ _ _ h => h) (Or.inl ⟨by rfl, ?hy6⟩) (by assumption) ?rest6
      case hy6 => (intro w hSw; (try dsimp only at hSw); (first | (go_simp; done) | (go_simp; with_reducible rfl)))
      try simp only [Act.put, List.setIfInBounds_toArray, List.set_cons_zero, List.set_cons_succ]
      refine wpAnyH_take (i := 7) (oi := ({ dst := some 90, op := Op.load 27 (Operand.tmp 8), type := 27, pos := "law.go:71", after := #[{ on := 5, ground := Ground.guard }], guard := some (5, true) } : Oper)) (v := ?v7) rfl (by kernel_rfl) (by kernel_rfl) (by kernel_rfl) (fun _ _ _ h => h) (Or.inl ⟨by rfl, ?hy7⟩) (by assumption) ?rest7
      case hy7 => (intro w hSw; (try dsimp only at hSw); (first | (go_simp; done) | (go_simp; with_reducible rfl)))
      try simp only [Act.put, List.setIfInBounds_toArray, List.set_cons_zero, List.set_cons_succ]
      refine wpAnyH_take (i := 10) (oi := ({ dst := some 93, op := Op.load 27 (Operand.tmp 7), type := 27, pos := "law.go:71", after := #[{ on := 5, ground := Ground.guard }], guard := some (5, true) } : Oper)) (v := ?v10) rfl (by kernel_rfl) (by kernel_rfl) (by kernel_rfl) (fun _ _ _ h => h) (Or.inl ⟨by rfl, ?hy10⟩) (by assumption) ?rest10
      case hy10 => (intro w hSw; (try dsimp only at hSw); (first | (go_simp; done) | (go_simp; with_reducible rfl)))
      try simp only [Act.put, List.setIfInBounds_toArray, List.set_cons_zero, List.set_cons_succ]
      refine wpAnyH_take (i := 11) (oi := ({ dst := some 94, op := Op.load 27 (Operand.tmp 8), type := 27, pos := "law.go:71", after := #[{ on := 5, ground := Ground.guard }], guard := some (5, true) } : Oper)) (v := ?v11) rfl (by kernel_rfl) (by kernel_rfl) (by kernel_rfl) (fun _ _ _ h => h) (Or.inl ⟨by rfl, ?hy11⟩) (by assumption) ?rest11
      case hy11 => (intro w hSw; (try dsimp only at hSw); (first | (go_simp; done) | (go_simp; with_reducible rfl)))
      try simp only [Act.put, List.setIfInBounds_toArray, List.set_cons_zero, List.set_cons_succ]
      refine wpAnyH_take (i := 15) (oi := ({ dst := some 98, op := Op.load 27 (Operand.tmp 7), type := 27, pos := "law.go:71", after := #[{ on := 5, ground := Ground.guard }], guard := some (5, true) } : Oper)) (v := ?v15) rfl (by kernel_rfl) (by kernel_rfl) (by kernel_rfl) (fun _ _ _ h => h) (Or.inl ⟨by rfl, ?hy15⟩) (by assumption) ?rest15
      case hy15 => (intro w hSw; (try dsimp only at hSw); (first | (go_simp; done) | (go_simp; with_reducible rfl)))
      try simp only [Act.put, List.setIfInBounds_toArray, List.set_cons_zero, List.set_cons_succ]
      refine wpAnyH_take (i := 17) (oi := ({ dst := some 100, op := Op.load 27 (Operand.tmp 8), type := 27, pos := "law.go:71", after := #[{ on := 5, ground := Ground.guard }], guard := some (5, true) } : Oper)) (v := ?v17) rfl (by kernel_rfl) (by kernel_rfl) (by kernel_rfl) (fun _ _ _ h => h) (Or.inl ⟨by rfl, ?hy17⟩) (by assumption) ?rest17
      case hy17 => (intro w hSw; (try dsimp only at hSw); (first | (go_simp; done) | (go_simp; with_reducible rfl)))
      try simp only [Act.put, List.setIfInBounds_toArray, List.set_cons_zero, List.set_cons_succ]
      refine wpAnyH_ready (rs := [8]) (by kernel_rfl) (by simp) ?_
      refine AllReadyH.cons (o := ({ dst := some 91, op := Op.call { callee := Callee.value (Operand.func 13), args := #[Operand.tmp 89, Operand.tmp 90], argTypes := #[27, 27] }, type := 27, pos := "law.go:71", after := #[{ on := 6, ground := Ground.data }, { on := 7, ground := Ground.data }, { on := 5, ground := Ground.chain }, { on := 5, ground := Ground.guard }], guard := some (5, true) } : Oper)) rfl (fun K hK => ?_) AllReadyH.nil
      go_simp
      refine (HU.out _ _ _).mono ?_
      rintro e w9 ⟨rfl, hb9⟩
      (try go_wp2_with fail)
      refine hK.out _ _ ?_ (fun hHeld => ?_)
      · (try dsimp only); exact below_step hb9 (by assumption)
      clear hK K
      try simp only [Act.put, List.setIfInBounds_toArray, List.set_cons_zero, List.set_cons_succ]
      refine wpAnyH_ready (rs := [9]) (by kernel_rfl) (by simp) ?_
      refine AllReadyH.cons (o := ({ dst := some 92, op := Op.call { callee := Callee.value (Operand.func 18), args := #[Operand.tmp 91], argTypes := #[27] }, type := 3, pos := "law.go:71", after := #[{ on := 8, ground := Ground.data }, { on := 8, ground := Ground.chain }, { on := 5, ground := Ground.guard }], guard := some (5, true) } : Oper)) rfl (fun K hK => ?_) AllReadyH.nil
      go_simp
      refine (HC.out _ _).mono ?_
      rintro e w9 ⟨rfl, hb9⟩
      (try go_wp2_with fail)
      refine hK.out _ _ ?_ (fun hHeld => ?_)
      · (try dsimp only); exact below_step hb9 (by assumption)
      clear hK K
      try simp only [Act.put, List.setIfInBounds_toArray, List.set_cons_zero, List.set_cons_succ]
      refine wpAnyH_ready (rs := [12]) (by kernel_rfl) (by simp) ?_
      refine AllReadyH.cons (o := ({ dst := some 95, op := Op.call { callee := Callee.value (Operand.func 15), args := #[Operand.tmp 93, Operand.tmp 94], argTypes := #[27, 27] }, type := 27, pos := "law.go:71", after := #[{ on := 10, ground := Ground.data }, { on := 11, ground := Ground.data }, { on := 9, ground := Ground.chain }, { on := 5, ground := Ground.guard }], guard := some (5, true) } : Oper)) rfl (fun K hK => ?_) AllReadyH.nil
      go_simp
      refine (HM.out _ _ _).mono ?_
      rintro e w9 ⟨rfl, hb9⟩
      (try go_wp2_with fail)
      refine hK.out _ _ ?_ (fun hHeld => ?_)
      · (try dsimp only); exact below_step hb9 (by assumption)
      clear hK K
      try simp only [Act.put, List.setIfInBounds_toArray, List.set_cons_zero, List.set_cons_succ]
      refine wpAnyH_ready (rs := [13]) (by kernel_rfl) (by simp) ?_
      refine AllReadyH.cons (o := ({ dst := some 96, op := Op.call { callee := Callee.value (Operand.func 18), args := #[Operand.tmp 95], argTypes := #[27] }, type := 3, pos := "law.go:71", after := #[{ on := 12, ground := Ground.data }, { on := 12, ground := Ground.chain }, { on := 5, ground := Ground.guard }], guard := some (5, true) } : Oper)) rfl (fun K hK => ?_) AllReadyH.nil
      go_simp
      refine (HC.out _ _).mono ?_
      rintro e w9 ⟨rfl, hb9⟩
      (try go_wp2_with fail)
      refine hK.out _ _ ?_ (fun hHeld => ?_)
      · (try dsimp only); exact below_step hb9 (by assumption)
      clear hK K
      try simp only [Act.put, List.setIfInBounds_toArray, List.set_cons_zero, List.set_cons_succ]
      refine wpAnyH_take (i := 14) (oi := ({ dst := some 97, op := Op.binOp BinOp.add 3 (Operand.tmp 92) (Operand.tmp 96) 3, type := 3, pos := "law.go:71", after := #[{ on := 9, ground := Ground.data }, { on := 13, ground := Ground.data }, { on := 5, ground := Ground.guard }], guard := some (5, true) } : Oper)) (v := ?v14) rfl (by kernel_rfl) (by kernel_rfl) (by kernel_rfl) (fun _ _ _ h => h) (Or.inl ⟨by rfl, ?hy14⟩) (by assumption) ?rest14
      case hy14 => (intro w hSw; (try dsimp only at hSw); (first | (go_simp; done) | (go_simp; with_reducible rfl)))
      try simp only [Act.put, List.setIfInBounds_toArray, List.set_cons_zero, List.set_cons_succ]
      refine wpAnyH_ready (rs := [16]) (by kernel_rfl) (by simp) ?_
      refine AllReadyH.cons (o := ({ dst := some 99, op := Op.call { callee := Callee.value (Operand.func 18), args := #[Operand.tmp 98], argTypes := #[27] }, type := 3, pos := "law.go:71", after := #[{ on := 15, ground := Ground.data }, { on := 13, ground := Ground.chain }, { on := 5, ground := Ground.guard }], guard := some (5, true) } : Oper)) rfl (fun K hK => ?_) AllReadyH.nil
      go_simp
      refine (HC.out _ _).mono ?_
      rintro e w9 ⟨rfl, hb9⟩
      (try go_wp2_with fail)
      refine hK.out _ _ ?_ (fun hHeld => ?_)
      · (try dsimp only); exact below_step hb9 (by assumption)
      clear hK K
      try simp only [Act.put, List.setIfInBounds_toArray, List.set_cons_zero, List.set_cons_succ]
      refine wpAnyH_ready (rs := [18]) (by kernel_rfl) (by simp) ?_
      refine AllReadyH.cons (o := ({ dst := some 101, op := Op.call { callee := Callee.value (Operand.func 18), args := #[Operand.tmp 100], argTypes := #[27] }, type := 3, pos := "law.go:71", after := #[{ on := 17, ground := Ground.data }, { on := 16, ground := Ground.chain }, { on := 5, ground := Ground.guard }], guard := some (5, true) } : Oper)) rfl (fun K hK => ?_) AllReadyH.nil
      go_simp
      refine (HC.out _ _).mono ?_
      rintro e w9 ⟨rfl, hb9⟩
      (try go_wp2_with fail)
      refine hK.out _ _ ?_ (fun hHeld => ?_)
      · (try dsimp only); exact below_step hb9 (by assumption)
      clear hK K
      try simp only [Act.put, List.setIfInBounds_toArray, List.set_cons_zero, List.set_cons_succ]
      refine wpAnyH_take (i := 19) (oi := ({ dst := some 102, op := Op.binOp BinOp.add 3 (Operand.tmp 99) (Operand.tmp 101) 3, type := 3, pos := "law.go:71", after := #[{ on := 16, ground := Ground.data }, { on := 18, ground := Ground.data }, { on := 5, ground := Ground.guard }], guard := some (5, true) } : Oper)) (v := ?v19) rfl (by kernel_rfl) (by kernel_rfl) (by kernel_rfl) (fun _ _ _ h => h) (Or.inl ⟨by rfl, ?hy19⟩) (by assumption) ?rest19
      case hy19 => (intro w hSw; (try dsimp only at hSw); (first | (go_simp; done) | (go_simp; with_reducible rfl)))
      try simp only [Act.put, List.setIfInBounds_toArray, List.set_cons_zero, List.set_cons_succ]
      refine wpAnyH_take (i := 20) (oi := ({ dst := some 103, op := Op.binOp BinOp.eql 3 (Operand.tmp 97) (Operand.tmp 102) 3, type := 4, pos := "law.go:71", after := #[{ on := 14, ground := Ground.data }, { on := 19, ground := Ground.data }, { on := 5, ground := Ground.guard }], guard := some (5, true) } : Oper)) (v := ?v20) rfl (by kernel_rfl) (by kernel_rfl) (by kernel_rfl) (fun _ _ _ h => h) (Or.inl ⟨by rfl, ?hy20⟩) (by assumption) ?rest20
      case hy20 => (intro w hSw; (try dsimp only at hSw); (first | (go_simp; done) | (go_simp; with_reducible rfl)))
      try simp only [Act.put, List.setIfInBounds_toArray, List.set_cons_zero, List.set_cons_succ]
      refine wpAnyH_take (i := 21) (oi := ({ dst := some 104, op := Op.pick (Operand.tmp 88) (Operand.tmp 103) (Operand.const (Value.bool false)), type := 4, pos := "law.go:71", after := #[{ on := 5, ground := Ground.data }, { on := 20, ground := Ground.data }], guard := none } : Oper)) (v := ?v21) rfl (by kernel_rfl) (by kernel_rfl) (by kernel_rfl) (fun _ _ _ h => h) (Or.inl ⟨by rfl, ?hy21⟩) (by assumption) ?rest21
      case hy21 => (intro w hSw; (try dsimp only at hSw); (first | (go_simp; done) | (go_simp; with_reducible rfl)))
      try simp only [Act.put, List.setIfInBounds_toArray, List.set_cons_zero, List.set_cons_succ]
      refine wpAnyH_take (i := 22) (oi := ({ dst := some 105, op := Op.move (Operand.tmp 104), type := 4, pos := "law.go:71", after := #[{ on := 21, ground := Ground.data }, { on := 18, ground := Ground.chain }], guard := none } : Oper)) (v := ?v22) rfl (by kernel_rfl) (by kernel_rfl) (by kernel_rfl) (fun _ _ _ h => h) (Or.inl ⟨by rfl, ?hy22⟩) (by assumption) ?rest22
      case hy22 => (intro w hSw; (try dsimp only at hSw); (first | (go_simp; done) | (go_simp; with_reducible rfl)))
      try simp only [Act.put, List.setIfInBounds_toArray, List.set_cons_zero, List.set_cons_succ]
      refine wpAnyH_take (i := 23) (oi := ({ dst := some 106, op := Op.load 27 (Operand.tmp 7), type := 27, pos := "law.go:71", after := #[{ on := 22, ground := Ground.guard }], guard := some (22, true) } : Oper)) (v := ?v23) rfl (by kernel_rfl) (by kernel_rfl) (by kernel_rfl) (fun _ _ _ h => h) (Or.inl ⟨by rfl, ?hy23⟩) (by assumption) ?rest23
      case hy23 => (intro w hSw; (try dsimp only at hSw); (first | (go_simp; done) | (go_simp; with_reducible rfl)))
      try simp only [Act.put, List.setIfInBounds_toArray, List.set_cons_zero, List.set_cons_succ]
      refine wpAnyH_take (i := 24) (oi := ({ dst := some 107, op := Op.load 27 (Operand.tmp 7), type := 27, pos := "law.go:71", after := #[{ on := 22, ground := Ground.guard }], guard := some (22, true) } : Oper)) (v := ?v24) rfl (by kernel_rfl) (by kernel_rfl) (by kernel_rfl) (fun _ _ _ h => h) (Or.inl ⟨by rfl, ?hy24⟩) (by assumption) ?rest24
      case hy24 => (intro w hSw; (try dsimp only at hSw); (first | (go_simp; done) | (go_simp; with_reducible rfl)))
      try simp only [Act.put, List.setIfInBounds_toArray, List.set_cons_zero, List.set_cons_succ]
      refine wpAnyH_take (i := 25) (oi := ({ dst := some 108, op := Op.load 27 (Operand.tmp 8), type := 27, pos := "law.go:71", after := #[{ on := 22, ground := Ground.guard }], guard := some (22, true) } : Oper)) (v := ?v25) rfl (by kernel_rfl) (by kernel_rfl) (by kernel_rfl) (fun _ _ _ h => h) (Or.inl ⟨by rfl, ?hy25⟩) (by assumption) ?rest25
      case hy25 => (intro w hSw; (try dsimp only at hSw); (first | (go_simp; done) | (go_simp; with_reducible rfl)))
      try simp only [Act.put, List.setIfInBounds_toArray, List.set_cons_zero, List.set_cons_succ]
      refine wpAnyH_ready (rs := [26]) (by kernel_rfl) (by simp) ?_
      refine AllReadyH.cons (o := ({ dst := some 109, op := Op.call { callee := Callee.value (Operand.func 13), args := #[Operand.tmp 107, Operand.tmp 108], argTypes := #[27, 27] }, type := 27, pos := "law.go:71", after := #[{ on := 24, ground := Ground.data }, { on := 25, ground := Ground.data }, { on := 22, ground := Ground.chain }, { on := 22, ground := Ground.guard }], guard := some (22, true) } : Oper)) rfl (fun K hK => ?_) AllReadyH.nil
      go_simp
      refine (HU.out _ _ _).mono ?_
      rintro e w9 ⟨rfl, hb9⟩
      (try go_wp2_with fail)
      refine hK.out _ _ ?_ (fun hHeld => ?_)
      · (try dsimp only); exact below_step hb9 (by assumption)
      clear hK K
      try simp only [Act.put, List.setIfInBounds_toArray, List.set_cons_zero, List.set_cons_succ]
      refine wpAnyH_ready (rs := [27]) (by kernel_rfl) (by simp) ?_
      refine AllReadyH.cons (o := ({ dst := some 110, op := Op.call { callee := Callee.value (Operand.func 19), args := #[Operand.tmp 106, Operand.tmp 109], argTypes := #[27, 27] }, type := 4, pos := "law.go:71", after := #[{ on := 23, ground := Ground.data }, { on := 26, ground := Ground.data }, { on := 26, ground := Ground.chain }, { on := 22, ground := Ground.guard }], guard := some (22, true) } : Oper)) rfl (fun K hK => ?_) AllReadyH.nil
      go_simp
      refine (W1.out _).mono ?_
      rintro e w9 ⟨rfl, hb9⟩
      (try go_wp2_with fail)
      refine hK.out _ _ ?_ (fun hHeld => ?_)
      · (try dsimp only); exact below_step hb9 (by assumption)
      clear hK K
      try simp only [Act.put, List.setIfInBounds_toArray, List.set_cons_zero, List.set_cons_succ]
      refine wpAnyH_take (i := 28) (oi := ({ dst := some 111, op := Op.pick (Operand.tmp 105) (Operand.tmp 110) (Operand.const (Value.bool false)), type := 4, pos := "law.go:71", after := #[{ on := 22, ground := Ground.data }, { on := 27, ground := Ground.data }], guard := none } : Oper)) (v := ?v28) rfl (by kernel_rfl) (by kernel_rfl) (by kernel_rfl) (fun _ _ _ h => h) (Or.inl ⟨by rfl, ?hy28⟩) (by assumption) ?rest28
      case hy28 => (intro w hSw; (try dsimp only at hSw); (first | (go_simp; done) | (go_simp; with_reducible rfl)))
      try simp only [Act.put, List.setIfInBounds_toArray, List.set_cons_zero, List.set_cons_succ]
      refine wpAnyH_take (i := 29) (oi := ({ dst := some 112, op := Op.move (Operand.tmp 111), type := 4, pos := "law.go:71", after := #[{ on := 28, ground := Ground.data }, { on := 27, ground := Ground.chain }], guard := none } : Oper)) (v := ?v29) rfl (by kernel_rfl) (by kernel_rfl) (by kernel_rfl) (fun _ _ _ h => h) (Or.inl ⟨by rfl, ?hy29⟩) (by assumption) ?rest29
      case hy29 => (intro w hSw; (try dsimp only at hSw); (first | (go_simp; done) | (go_simp; with_reducible rfl)))
      try simp only [Act.put, List.setIfInBounds_toArray, List.set_cons_zero, List.set_cons_succ]
      refine wpAnyH_take (i := 30) (oi := ({ dst := some 113, op := Op.load 27 (Operand.tmp 7), type := 27, pos := "law.go:71", after := #[{ on := 29, ground := Ground.guard }], guard := some (29, true) } : Oper)) (v := ?v30) rfl (by kernel_rfl) (by kernel_rfl) (by kernel_rfl) (fun _ _ _ h => h) (Or.inl ⟨by rfl, ?hy30⟩) (by assumption) ?rest30
      case hy30 => (intro w hSw; (try dsimp only at hSw); (first | (go_simp; done) | (go_simp; with_reducible rfl)))
      try simp only [Act.put, List.setIfInBounds_toArray, List.set_cons_zero, List.set_cons_succ]
      refine wpAnyH_take (i := 31) (oi := ({ dst := some 114, op := Op.load 27 (Operand.tmp 8), type := 27, pos := "law.go:71", after := #[{ on := 29, ground := Ground.guard }], guard := some (29, true) } : Oper)) (v := ?v31) rfl (by kernel_rfl) (by kernel_rfl) (by kernel_rfl) (fun _ _ _ h => h) (Or.inl ⟨by rfl, ?hy31⟩) (by assumption) ?rest31
      case hy31 => (intro w hSw; (try dsimp only at hSw); (first | (go_simp; done) | (go_simp; with_reducible rfl)))
      try simp only [Act.put, List.setIfInBounds_toArray, List.set_cons_zero, List.set_cons_succ]
      refine wpAnyH_take (i := 38) (oi := ({ dst := some 121, op := Op.load 27 (Operand.tmp 7), type := 27, pos := "law.go:71", after := #[{ on := 29, ground := Ground.guard }], guard := some (29, true) } : Oper)) (v := ?v38) rfl (by kernel_rfl) (by kernel_rfl) (by kernel_rfl) (fun _ _ _ h => h) (Or.inl ⟨by rfl, ?hy38⟩) (by assumption) ?rest38
      case hy38 => (intro w hSw; (try dsimp only at hSw); (first | (go_simp; done) | (go_simp; with_reducible rfl)))
      try simp only [Act.put, List.setIfInBounds_toArray, List.set_cons_zero, List.set_cons_succ]
      refine wpAnyH_take (i := 39) (oi := ({ dst := some 122, op := Op.load 27 (Operand.tmp 8), type := 27, pos := "law.go:71", after := #[{ on := 29, ground := Ground.guard }], guard := some (29, true) } : Oper)) (v := ?v39) rfl (by kernel_rfl) (by kernel_rfl) (by kernel_rfl) (fun _ _ _ h => h) (Or.inl ⟨by rfl, ?hy39⟩) (by assumption) ?rest39
      case hy39 => (intro w hSw; (try dsimp only at hSw); (first | (go_simp; done) | (go_simp; with_reducible rfl)))
      try simp only [Act.put, List.setIfInBounds_toArray, List.set_cons_zero, List.set_cons_succ]
      refine wpAnyH_take (i := 40) (oi := ({ dst := some 123, op := Op.binOp BinOp.eql 27 (Operand.tmp 121) (Operand.tmp 122) 27, type := 4, pos := "law.go:71", after := #[{ on := 38, ground := Ground.data }, { on := 39, ground := Ground.data }, { on := 29, ground := Ground.guard }], guard := some (29, true) } : Oper)) (v := ?v40) rfl (by kernel_rfl) (by kernel_rfl) (by kernel_rfl) (fun _ _ _ h => h) (Or.inl ⟨by rfl, ?hy40⟩) (by assumption) ?rest40
      case hy40 => (intro w hSw; (try dsimp only at hSw); (first | (go_simp; done) | (go_simp; with_reducible rfl)))
      try simp only [Act.put, List.setIfInBounds_toArray, List.set_cons_zero, List.set_cons_succ]
      refine wpAnyH_ready (rs := [32]) (by kernel_rfl) (by simp) ?_
      refine AllReadyH.cons (o := ({ dst := some 115, op := Op.call { callee := Callee.value (Operand.func 19), args := #[Operand.tmp 113, Operand.tmp 114], argTypes := #[27, 27] }, type := 4, pos := "law.go:71", after := #[{ on := 30, ground := Ground.data }, { on := 31, ground := Ground.data }, { on := 29, ground := Ground.chain }, { on := 29, ground := Ground.guard }], guard := some (29, true) } : Oper)) rfl (fun K hK => ?_) AllReadyH.nil
      go_simp
      refine (W2.out _).mono ?_
      rintro e w9 ⟨rfl, hb9⟩
      (try go_wp2_with fail)
      refine hK.out _ _ ?_ (fun hHeld => ?_)
      · (try dsimp only); exact below_step hb9 (by assumption)
      clear hK K
      try simp only [Act.put, List.setIfInBounds_toArray, List.set_cons_zero, List.set_cons_succ]
      refine wpAnyH_take (i := 33) (oi := ({ dst := some 116, op := Op.move (Operand.tmp 115), type := 4, pos := "law.go:71", after := #[{ on := 32, ground := Ground.data }, { on := 32, ground := Ground.chain }, { on := 29, ground := Ground.guard }], guard := some (29, true) } : Oper)) (v := ?v33) rfl (by kernel_rfl) (by kernel_rfl) (by kernel_rfl) (fun _ _ _ h => h) (Or.inl ⟨by rfl, ?hy33⟩) (by assumption) ?rest33
      case hy33 => (intro w hSw; (try dsimp only at hSw); (first | (go_simp; done) | (go_simp; with_reducible rfl)))
      try simp only [Act.put, List.setIfInBounds_toArray, List.set_cons_zero, List.set_cons_succ]
      refine wpAnyH_take (i := 34) (oi := ({ dst := some 117, op := Op.load 27 (Operand.tmp 8), type := 27, pos := "law.go:71", after := #[{ on := 33, ground := Ground.guard }], guard := some (33, true) } : Oper)) (v := undef) rfl (by kernel_rfl) (by kernel_rfl) (by kernel_rfl) (fun _ _ _ h => h) (Or.inr ⟨by rfl, rfl⟩) (by assumption) ?_
      try simp only [Act.put, List.setIfInBounds_toArray, List.set_cons_zero, List.set_cons_succ]
      refine wpAnyH_take (i := 35) (oi := ({ dst := some 118, op := Op.load 27 (Operand.tmp 7), type := 27, pos := "law.go:71", after := #[{ on := 33, ground := Ground.guard }], guard := some (33, true) } : Oper)) (v := undef) rfl (by kernel_rfl) (by kernel_rfl) (by kernel_rfl) (fun _ _ _ h => h) (Or.inr ⟨by rfl, rfl⟩) (by assumption) ?_
      try simp only [Act.put, List.setIfInBounds_toArray, List.set_cons_zero, List.set_cons_succ]
      refine wpAnyH_ready (rs := [36]) (by kernel_rfl) (by simp) ?_
      refine AllReadyH.cons (o := ({ dst := some 119, op := Op.call { callee := Callee.value (Operand.func 19), args := #[Operand.tmp 117, Operand.tmp 118], argTypes := #[27, 27] }, type := 4, pos := "law.go:71", after := #[{ on := 34, ground := Ground.data }, { on := 35, ground := Ground.data }, { on := 33, ground := Ground.chain }, { on := 33, ground := Ground.guard }], guard := some (33, true) } : Oper)) rfl (fun K hK => ?_) AllReadyH.nil
      go_simp
      refine hK.out _ _ ?_ (fun hHeld => ?_)
      · assumption
      clear hK K
      try simp only [Act.put, List.setIfInBounds_toArray, List.set_cons_zero, List.set_cons_succ]
      refine wpAnyH_take (i := 37) (oi := ({ dst := some 120, op := Op.pick (Operand.tmp 116) (Operand.tmp 119) (Operand.const (Value.bool false)), type := 4, pos := "law.go:71", after := #[{ on := 33, ground := Ground.data }, { on := 36, ground := Ground.data }, { on := 29, ground := Ground.guard }], guard := some (29, true) } : Oper)) (v := ?v37) rfl (by kernel_rfl) (by kernel_rfl) (by kernel_rfl) (fun _ _ _ h => h) (Or.inl ⟨by rfl, ?hy37⟩) (by assumption) ?rest37
      case hy37 => (intro w hSw; (try dsimp only at hSw); (first | (go_simp; done) | (go_simp; with_reducible rfl)))
      try simp only [Act.put, List.setIfInBounds_toArray, List.set_cons_zero, List.set_cons_succ]
      refine wpAnyH_take (i := 41) (oi := ({ dst := some 124, op := Op.binOp BinOp.eql 4 (Operand.tmp 120) (Operand.tmp 123) 4, type := 4, pos := "law.go:71", after := #[{ on := 37, ground := Ground.data }, { on := 40, ground := Ground.data }, { on := 29, ground := Ground.guard }], guard := some (29, true) } : Oper)) (v := ?v41) rfl (by kernel_rfl) (by kernel_rfl) (by kernel_rfl) (fun _ _ _ h => h) (Or.inl ⟨by rfl, ?hy41⟩) (by assumption) ?rest41
      case hy41 => (intro w hSw; (try dsimp only at hSw); (first | (go_simp; done) | (go_simp; with_reducible rfl)))
      try simp only [Act.put, List.setIfInBounds_toArray, List.set_cons_zero, List.set_cons_succ]
      refine wpAnyH_take (i := 42) (oi := ({ dst := some 125, op := Op.pick (Operand.tmp 112) (Operand.tmp 124) (Operand.const (Value.bool false)), type := 4, pos := "law.go:71", after := #[{ on := 29, ground := Ground.data }, { on := 41, ground := Ground.data }], guard := none } : Oper)) (v := ?v42) rfl (by kernel_rfl) (by kernel_rfl) (by kernel_rfl) (fun _ _ _ h => h) (Or.inl ⟨by rfl, ?hy42⟩) (by assumption) ?rest42
      case hy42 => (intro w hSw; (try dsimp only at hSw); (first | (go_simp; done) | (go_simp; with_reducible rfl)))
      try simp only [Act.put, List.setIfInBounds_toArray, List.set_cons_zero, List.set_cons_succ]
      refine wpAnyH_take (i := 43) (oi := ({ dst := some 6, op := Op.assign (Operand.tmp 125), type := 4, pos := "law.go:71", after := #[{ on := 42, ground := Ground.data }, { on := 36, ground := Ground.chain }, { on := 0, ground := Ground.phase }, { on := 1, ground := Ground.phase }, { on := 2, ground := Ground.phase }, { on := 3, ground := Ground.phase }, { on := 4, ground := Ground.phase }, { on := 5, ground := Ground.phase }, { on := 6, ground := Ground.phase }, { on := 7, ground := Ground.phase }, { on := 8, ground := Ground.phase }, { on := 9, ground := Ground.phase }, { on := 10, ground := Ground.phase }, { on := 11, ground := Ground.phase }, { on := 12, ground := Ground.phase }, { on := 13, ground := Ground.phase }, { on := 14, ground := Ground.phase }, { on := 15, ground := Ground.phase }, { on := 16, ground := Ground.phase }, { on := 17, ground := Ground.phase }, { on := 18, ground := Ground.phase }, { on := 19, ground := Ground.phase }, { on := 20, ground := Ground.phase }, { on := 21, ground := Ground.phase }, { on := 22, ground := Ground.phase }, { on := 23, ground := Ground.phase }, { on := 24, ground := Ground.phase }, { on := 25, ground := Ground.phase }, { on := 26, ground := Ground.phase }, { on := 27, ground := Ground.phase }, { on := 28, ground := Ground.phase }, { on := 29, ground := Ground.phase }, { on := 30, ground := Ground.phase }, { on := 31, ground := Ground.phase }, { on := 32, ground := Ground.phase }, { on := 33, ground := Ground.phase }, { on := 34, ground := Ground.phase }, { on := 35, ground := Ground.phase }, { on := 36, ground := Ground.phase }, { on := 37, ground := Ground.phase }, { on := 38, ground := Ground.phase }, { on := 39, ground := Ground.phase }, { on := 40, ground := Ground.phase }, { on := 41, ground := Ground.phase }, { on := 42, ground := Ground.phase }], guard := none } : Oper)) (v := ?v43) rfl (by kernel_rfl) (by kernel_rfl) (by kernel_rfl) (fun _ _ _ h => h) (Or.inl ⟨by rfl, ?hy43⟩) (by assumption) ?rest43
      case hy43 => (intro w hSw; (try dsimp only at hSw); (first | (go_simp; done) | (go_simp; with_reducible rfl)))
      try simp only [Act.put, List.setIfInBounds_toArray, List.set_cons_zero, List.set_cons_succ]
      refine wpAnyH_done (by kernel_rfl) ?_ _
      refine NoPanic.normal ?_
      all_goals go_wp2_with fail
      all_goals go_returns
      all_goals exact ⟨rfl, hbc.trans (Below.mono (by assumption) hbc.size)⟩
    · simp only [Bool.true_and] at h13
      subst h13
      cases b2
      · first | go_region_held3 (fun w' : World => Below wc.heap.size wc w') (first | assumption | exact below_step hb9 (by assumption) | exact Below.drew (by assumption) | exact (Below.refl _ _).drew) (first | (go_at_call 13; refine (HU.out _ _ _).mono ?_; rintro e w9 ⟨rfl, hb9⟩) | (go_at_call 15; refine (HM.out _ _ _).mono ?_; rintro e w9 ⟨rfl, hb9⟩) | (go_at_call 14; refine (HN.out _ _).mono ?_; rintro e w9 ⟨rfl, hb9⟩) | (go_at_call 16; refine (HA.out _).mono ?_; rintro e w9 ⟨rfl, hb9⟩) | (go_at_call 17; refine (E1.out _).mono ?_; rintro e w9 ⟨rfl, hb9⟩) | (go_at_call 18; refine (HC.out _ _).mono ?_; rintro e w9 ⟨rfl, hb9⟩) | (go_at_call 19; have := hw2; refine (W3.out _).mono ?_; rintro e w9 ⟨rfl, hb9⟩) | (go_at_call 19; have := hw1; refine (W2.out _).mono ?_; rintro e w9 ⟨rfl, hb9⟩; have hw2 := True.intro) | (go_at_call 19; refine (W1.out _).mono ?_; rintro e w9 ⟨rfl, hb9⟩; have hw1 := True.intro)) | fail
        go_wp2_with fail
        go_returns
        exact ⟨rfl, hbc.trans (Below.mono (by assumption) hbc.size)⟩
      · first | go_region_held3 (fun w' : World => Below wc.heap.size wc w') (first | assumption | exact below_step hb9 (by assumption) | exact Below.drew (by assumption) | exact (Below.refl _ _).drew) (first | (go_at_call 13; refine (HU.out _ _ _).mono ?_; rintro e w9 ⟨rfl, hb9⟩) | (go_at_call 15; refine (HM.out _ _ _).mono ?_; rintro e w9 ⟨rfl, hb9⟩) | (go_at_call 14; refine (HN.out _ _).mono ?_; rintro e w9 ⟨rfl, hb9⟩) | (go_at_call 16; refine (HA.out _).mono ?_; rintro e w9 ⟨rfl, hb9⟩) | (go_at_call 17; refine (E1.out _).mono ?_; rintro e w9 ⟨rfl, hb9⟩) | (go_at_call 18; refine (HC.out _ _).mono ?_; rintro e w9 ⟨rfl, hb9⟩) | (go_at_call 19; have := hw2; refine (W3.out _).mono ?_; rintro e w9 ⟨rfl, hb9⟩) | (go_at_call 19; have := hw1; refine (W2.out _).mono ?_; rintro e w9 ⟨rfl, hb9⟩; have hw2 := True.intro) | (go_at_call 19; refine (W1.out _).mono ?_; rintro e w9 ⟨rfl, hb9⟩; have hw1 := True.intro)) | fail
        go_wp2_with fail
        go_returns
        exact ⟨rfl, hbc.trans (Below.mono (by assumption) hbc.size)⟩

end Go.Proofs.Ytboebjmfchbgbaa
