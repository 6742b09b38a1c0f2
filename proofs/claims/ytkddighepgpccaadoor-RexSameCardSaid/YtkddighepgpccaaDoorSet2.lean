/-
  The walks of package class: two sets together.
-/
import Derived.Test.YtkddighepgpccaaDoorSet
import Derived.Deep.RegionWith
namespace Go.Proofs.YtkddighepgpccaaDoor
open Go Go.RowKit
set_option linter.unusedSimpArgs false
set_option linter.unusedVariables false

def S4.or (s t : S4) : S4 := ⟨s.a0 ||| t.a0, s.a1 ||| t.a1, s.a2 ||| t.a2, s.a3 ||| t.a3⟩
def S4.and (s t : S4) : S4 := ⟨s.a0 &&& t.a0, s.a1 &&& t.a1, s.a2 &&& t.a2, s.a3 &&& t.a3⟩
theorem RowAt.three {w : World} {c0 c1 c2 : Array Value} {t : TypeId} : RowAt (((w.alloc (.cells c0 t)).alloc (.cells c1 t)).alloc (.cells c2 t)) w.heap.size c0 t ∧ RowAt (((w.alloc (.cells c0 t)).alloc (.cells c1 t)).alloc (.cells c2 t)) (w.heap.size + 1) c1 t ∧ RowAt (((w.alloc (.cells c0 t)).alloc (.cells c1 t)).alloc (.cells c2 t)) (w.heap.size + 1 + 1) c2 t := by
  have h1 := RowAt.new (w.alloc (.cells c0 t)) c1 t
  have h2 := RowAt.new ((w.alloc (.cells c0 t)).alloc (.cells c1 t)) c2 t
  simp only [World.size_alloc] at h1 h2
  exact ⟨((RowAt.new w c0 t).old _).old _, h1.old _, h2⟩

theorem Union1_any (w : World) (x y : Nat) (hx : x < 18446744073709551616) (hy : y < 18446744073709551616) :
    Calls Tryd.prog 88 #[.int .u64 (x : Int), .int .u64 (y : Int)] w fun e w' => e = .returned (.int .u64 ((x ||| y : Nat) : Int)) ∧ w = w' := by
  have hb := u64_or_nat x y hx hy
  generalize x ||| y = z at *
  go_enter Tryd.func88, Tryd.ntmps88
  go_wp2
  go_returns
  exact ⟨rfl, rfl⟩

set_option maxHeartbeats 2000000 in
theorem bothUnion_any (w : World) (s t : S4) (hs : s.ok) (ht : t.ok) :
    Calls Tryd.prog 87 #[s.v, t.v, .func (.func 88) #[] #[]] w fun e w' => e = .returned (s.or t).v ∧ Below w.heap.size w w' := by
  obtain ⟨a0, a1, a2, a3⟩ := s
  obtain ⟨t0, t1, t2, t3⟩ := t
  obtain ⟨h0, h1, h2, h3⟩ := hs
  obtain ⟨g0, g1, g2, g3⟩ := ht
  simp only at h0 h1 h2 h3 g0 g1 g2 g3
  have m0 := fun w => Union1_any w a0 t0 h0 g0
  have m1 := fun w => Union1_any w a1 t1 h1 g1
  have m2 := fun w => Union1_any w a2 t2 h2 g2
  have m3 := fun w => Union1_any w a3 t3 h3 g3
  unfold S4.v S4.or
  simp only
  generalize a0 ||| t0 = b0 at *
  generalize a1 ||| t1 = b1 at *
  generalize a2 ||| t2 = b2 at *
  generalize a3 ||| t3 = b3 at *
  have M0 := Lib.hid m0
  have M1 := Lib.hid m1
  have M2 := Lib.hid m2
  have M3 := Lib.hid m3
  clear m0 m1 m2 m3
  go_enter Tryd.func87, Tryd.ntmps87
  go_wp2
  go_loopw [8] (fun i wr => ∃ (k : Nat) (cs : Array Value), k ≤ 4 ∧ i = .int .i64 k ∧ RowAt wr w.heap.size cs 38 ∧ RowAt wr (w.heap.size + 1) #[.int .u64 (t0 : Int), .int .u64 (t1 : Int), .int .u64 (t2 : Int), .int .u64 (t3 : Int)] 38 ∧ RowAt wr (w.heap.size + 1 + 1) #[.int .u64 0, .int .u64 0, .int .u64 0, .int .u64 0] 38 ∧ Below w.heap.size w wr ∧ (k = 0 → cs = #[.int .u64 (a0 : Int), .int .u64 (a1 : Int), .int .u64 (a2 : Int), .int .u64 (a3 : Int)]) ∧ (k = 1 → cs = #[.int .u64 (b0 : Int), .int .u64 (a1 : Int), .int .u64 (a2 : Int), .int .u64 (a3 : Int)]) ∧ (k = 2 → cs = #[.int .u64 (b0 : Int), .int .u64 (b1 : Int), .int .u64 (a2 : Int), .int .u64 (a3 : Int)]) ∧ (k = 3 → cs = #[.int .u64 (b0 : Int), .int .u64 (b1 : Int), .int .u64 (b2 : Int), .int .u64 (a3 : Int)]) ∧ (k = 4 → cs = #[.int .u64 (b0 : Int), .int .u64 (b1 : Int), .int .u64 (b2 : Int), .int .u64 (b3 : Int)])) (fun i _ => 4 - (intOf i).toNat)
  case atStart =>
    obtain ⟨q0, q1, q2⟩ := RowAt.three (w := w) (c0 := #[.int .u64 (a0 : Int), .int .u64 (a1 : Int), .int .u64 (a2 : Int), .int .u64 (a3 : Int)]) (c1 := #[.int .u64 (t0 : Int), .int .u64 (t1 : Int), .int .u64 (t2 : Int), .int .u64 (t3 : Int)]) (c2 := #[.int .u64 0, .int .u64 0, .int .u64 0, .int .u64 0]) (t := 38)
    exact ⟨0, _, Nat.zero_le _, rfl, q0, q1, q2, (((Below.refl _ _).alloc (Nat.le_refl _) _).alloc (by simp) _).alloc (by first | (simp; done) | (simp; omega)) _, fun _ => rfl, fun h => (by cases h), fun h => (by cases h), fun h => (by cases h), fun h => (by cases h)⟩
  case round =>
    obtain ⟨k, cs, hk, rfl, hR, hT, hZ, hbl, e0, e1, e2, e3, e4⟩ := hrel
    have : k = 0 ∨ k = 1 ∨ k = 2 ∨ k = 3 ∨ k = 4 := by omega
    rcases this with rfl | rfl | rfl | rfl | rfl
    · obtain rfl := e0 rfl
      clear e0 e1 e2 e3 e4
      have c := hR.cellIs 0 _ rfl
      have f := hR.frozen 0
      have d := hT.cellIs 0 _ rfl
      go_wp2
      go_region_with (go_at_call 88; refine (M0.out _).mono ?_; rintro e w' ⟨rfl, rfl⟩)
      all_goals (
        go_wp2
        go_roundw
        case rel => exact ⟨1, _, by omega, by go_num, (hR.set 0 _).drew, (hT.other _ (by simp)).drew, (hZ.other _ (by first | (simp; done) | (simp; omega))).drew, (hbl.setCell (Nat.le_refl _) _).drew, fun h => (by cases h), fun _ => rfl, fun h => (by cases h), fun h => (by cases h), fun h => (by cases h)⟩
        case measure => first | (simp [intOf]; done) | (simp [intOf]; omega))
    · obtain rfl := e1 rfl
      clear e0 e1 e2 e3 e4
      have c := hR.cellIs 1 _ rfl
      have f := hR.frozen 1
      have d := hT.cellIs 1 _ rfl
      go_wp2
      go_region_with (go_at_call 88; refine (M1.out _).mono ?_; rintro e w' ⟨rfl, rfl⟩)
      all_goals (
        go_wp2
        go_roundw
        case rel => exact ⟨2, _, by omega, by go_num, (hR.set 1 _).drew, (hT.other _ (by simp)).drew, (hZ.other _ (by first | (simp; done) | (simp; omega))).drew, (hbl.setCell (Nat.le_refl _) _).drew, fun h => (by cases h), fun h => (by cases h), fun _ => rfl, fun h => (by cases h), fun h => (by cases h)⟩
        case measure => first | (simp [intOf]; done) | (simp [intOf]; omega))
    · obtain rfl := e2 rfl
      clear e0 e1 e2 e3 e4
      have c := hR.cellIs 2 _ rfl
      have f := hR.frozen 2
      have d := hT.cellIs 2 _ rfl
      go_wp2
      go_region_with (go_at_call 88; refine (M2.out _).mono ?_; rintro e w' ⟨rfl, rfl⟩)
      all_goals (
        go_wp2
        go_roundw
        case rel => exact ⟨3, _, by omega, by go_num, (hR.set 2 _).drew, (hT.other _ (by simp)).drew, (hZ.other _ (by first | (simp; done) | (simp; omega))).drew, (hbl.setCell (Nat.le_refl _) _).drew, fun h => (by cases h), fun h => (by cases h), fun h => (by cases h), fun _ => rfl, fun h => (by cases h)⟩
        case measure => first | (simp [intOf]; done) | (simp [intOf]; omega))
    · obtain rfl := e3 rfl
      clear e0 e1 e2 e3 e4
      have c := hR.cellIs 3 _ rfl
      have f := hR.frozen 3
      have d := hT.cellIs 3 _ rfl
      go_wp2
      go_region_with (go_at_call 88; refine (M3.out _).mono ?_; rintro e w' ⟨rfl, rfl⟩)
      all_goals (
        go_wp2
        go_roundw
        case rel => exact ⟨4, _, by omega, by go_num, (hR.set 3 _).drew, (hT.other _ (by simp)).drew, (hZ.other _ (by first | (simp; done) | (simp; omega))).drew, (hbl.setCell (Nat.le_refl _) _).drew, fun h => (by cases h), fun h => (by cases h), fun h => (by cases h), fun h => (by cases h), fun _ => rfl⟩
        case measure => first | (simp [intOf]; done) | (simp [intOf]; omega))
    · obtain rfl := e4 rfl
      clear e0 e1 e2 e3 e4
      have c0 := hR.cellIs 0 _ rfl
      have c1 := hR.cellIs 1 _ rfl
      have c2 := hR.cellIs 2 _ rfl
      have c3 := hR.cellIs 3 _ rfl
      have f0 := hZ.frozen 0
      have f1 := hZ.frozen 1
      have f2 := hZ.frozen 2
      have f3 := hZ.frozen 3
      have z0 := hZ.cellIs 0 _ rfl
      have z1 := hZ.cellIs 1 _ rfl
      have z2 := hZ.cellIs 2 _ rfl
      have z3 := hZ.cellIs 3 _ rfl
      go_wp2
      have hZ4 := hZ.four (.int .u64 (b0 : Int)) (.int .u64 (b1 : Int)) (.int .u64 (b2 : Int)) (.int .u64 (b3 : Int))
      have r0 := hZ4.cellIs 0 _ rfl
      have r1 := hZ4.cellIs 1 _ rfl
      have r2 := hZ4.cellIs 2 _ rfl
      have r3 := hZ4.cellIs 3 _ rfl
      refine bodyPost_ret (by simp [results, Tryd.results87, go_sem, r0, r1, r2, r3]; try rfl) rfl ?_
      exact ⟨rfl, (((hbl.setCell (by simp; omega) _).setCell (by simp; omega) _).setCell (by simp; omega) _).setCell (by simp; omega) _⟩

theorem Union_any (w : World) (s t : S4) (hs : s.ok) (ht : t.ok) :
    Calls Tryd.prog 85 #[s.v, t.v] w fun e w' => e = .returned (s.or t).v ∧ Below w.heap.size w w' := by
  have hc := fun w => bothUnion_any w s t hs ht
  obtain ⟨a0, a1, a2, a3⟩ := s
  obtain ⟨t0, t1, t2, t3⟩ := t
  unfold S4.v S4.or at *
  simp only at *
  generalize a0 ||| t0 = b0 at *
  generalize a1 ||| t1 = b1 at *
  generalize a2 ||| t2 = b2 at *
  generalize a3 ||| t3 = b3 at *
  clear hs ht
  have HC := Lib.hid hc
  clear hc
  obtain ⟨q0, q1, q2⟩ := RowAt.three (w := w) (c0 := #[.int .u64 (a0 : Int), .int .u64 (a1 : Int), .int .u64 (a2 : Int), .int .u64 (a3 : Int)]) (c1 := #[.int .u64 (t0 : Int), .int .u64 (t1 : Int), .int .u64 (t2 : Int), .int .u64 (t3 : Int)]) (c2 := #[.int .u64 0, .int .u64 0, .int .u64 0, .int .u64 0]) (t := 38)
  have hb0 : Below w.heap.size w _ := (((Below.refl _ _).alloc (Nat.le_refl _) (.cells #[.int .u64 (a0 : Int), .int .u64 (a1 : Int), .int .u64 (a2 : Int), .int .u64 (a3 : Int)] 38)).alloc (by simp) (.cells #[.int .u64 (t0 : Int), .int .u64 (t1 : Int), .int .u64 (t2 : Int), .int .u64 (t3 : Int)] 38)).alloc (by first | (simp; done) | (simp; omega)) (.cells #[.int .u64 0, .int .u64 0, .int .u64 0, .int .u64 0] 38)
  go_enter Tryd.func85, Tryd.ntmps85
  go_wp2_with (go_at_call 87; refine (HC.out _).mono ?_; rintro e w2 ⟨rfl, hb2⟩; have hZ := q2.later hb2 q2.lt; have f0 := hZ.frozen 0; have f1 := hZ.frozen 1; have f2 := hZ.frozen 2; have f3 := hZ.frozen 3; have z0 := hZ.cellIs 0 _ rfl; have z1 := hZ.cellIs 1 _ rfl; have z2 := hZ.cellIs 2 _ rfl; have z3 := hZ.cellIs 3 _ rfl)
  have hZ4 := hZ.four (.int .u64 (b0 : Int)) (.int .u64 (b1 : Int)) (.int .u64 (b2 : Int)) (.int .u64 (b3 : Int))
  have r0 := hZ4.cellIs 0 _ rfl
  have r1 := hZ4.cellIs 1 _ rfl
  have r2 := hZ4.cellIs 2 _ rfl
  have r3 := hZ4.cellIs 3 _ rfl
  refine bodyPost_ret (by simp [results, Tryd.results85, go_sem, r0, r1, r2, r3]; try rfl) rfl ?_
  exact ⟨rfl, ((((hb0.trans (hb2.mono hb0.size)).setCell (by simp; omega) _).setCell (by simp; omega) _).setCell (by simp; omega) _).setCell (by simp; omega) _⟩

end Go.Proofs.YtkddighepgpccaaDoor
