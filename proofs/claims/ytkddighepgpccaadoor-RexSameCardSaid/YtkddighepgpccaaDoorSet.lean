/-
  The walks of package class: sets of four words.
-/
import Derived.Test.YtkddighepgpccaaDoorKit
import Derived.Test.YtkddighepgpccaaDoorRow
import Derived.Test.YtkddighepgpccaaDoorArr
import Derived.Test.YtkddighepgpccaaDoorPop
import Derived.Laws.BitsAll
import Derived.Handy
namespace Go.Proofs.YtkddighepgpccaaDoor
open Go Go.RowKit
set_option linter.unusedSimpArgs false
set_option linter.unusedVariables false

structure S4 where
  (a0 a1 a2 a3 : Nat)
deriving DecidableEq
def S4.ok (s : S4) : Prop := s.a0 < 18446744073709551616 ∧ s.a1 < 18446744073709551616 ∧ s.a2 < 18446744073709551616 ∧ s.a3 < 18446744073709551616
def S4.v (s : S4) : Value := .agg #[.int .u64 (s.a0 : Int), .int .u64 (s.a1 : Int), .int .u64 (s.a2 : Int), .int .u64 (s.a3 : Int)]
def inv (x : Nat) : Nat := 18446744073709551615 - x
def S4.not (s : S4) : S4 := ⟨inv s.a0, inv s.a1, inv s.a2, inv s.a3⟩
theorem xor_max (x : Nat) (hx : x < 18446744073709551616) : bits .xor .u64 (if IntKind.u64.signed = true then -1 else IntKind.u64.max) (x : Int) = ((inv x : Nat) : Int) := by
  show bits .xor .u64 18446744073709551615 (x : Int) = _
  have := u64_xor_nat 18446744073709551615 x (by decide) hx
  rw [show ((18446744073709551615 : Nat) : Int) = 18446744073709551615 from rfl] at this
  rw [this]
  congr 1
  apply Nat.eq_of_testBit_eq
  intro i
  unfold inv
  rw [Nat.testBit_xor, show (18446744073709551615 : Nat) = 2 ^ 64 - 1 from rfl, Nat.testBit_two_pow_sub_one, show 2 ^ 64 - 1 - x = 2 ^ 64 - (x + 1) by omega, Nat.testBit_two_pow_sub_succ (by omega)]
  by_cases h : i < 64
  · simp [h]
  · simp [h]
    exact Nat.testBit_lt_two_pow (Nat.lt_of_lt_of_le hx (Nat.pow_le_pow_right (n := 2) (i := 64) (by decide) (by omega)))

theorem Tryd.isAgg_u64 (w : World) : (isAgg 36).run Tryd.prog w = .ok false w := by kernel_rfl
theorem Tryd.info_u64 : (Tryd.prog.info? 36).map (fun i => (i.zero, i.size, i.bytes)) = some (some (.int .u64 0), 1, 8) := by kernel_rfl

theorem RowAt.four {w : World} {b : Nat} {z0 z1 z2 z3 : Value} {t : TypeId} (h : RowAt w b #[z0, z1, z2, z3] t) (v0 v1 v2 v3 : Value) : RowAt ((((w.setCell ⟨b, 0, none⟩ v0).setCell ⟨b, 1, none⟩ v1).setCell ⟨b, 2, none⟩ v2).setCell ⟨b, 3, none⟩ v3) b #[v0, v1, v2, v3] t :=
  (((h.set 0 v0).set 1 v1).set 2 v2).set 3 v3
theorem Not_any (w : World) (s : S4) (hs : s.ok) :
    Calls Tryd.prog 82 #[s.v] w fun e w' => e = .returned s.not.v ∧ Below w.heap.size w w' := by
  obtain ⟨a0, a1, a2, a3⟩ := s
  obtain ⟨h0, h1, h2, h3⟩ := hs
  simp only at h0 h1 h2 h3
  have n0 := xor_max a0 h0
  have n1 := xor_max a1 h1
  have n2 := xor_max a2 h2
  have n3 := xor_max a3 h3
  unfold S4.v S4.not
  simp only
  generalize inv a0 = b0 at *
  generalize inv a1 = b1 at *
  generalize inv a2 = b2 at *
  generalize inv a3 = b3 at *
  obtain ⟨iu, hiu, hu0, hu1, hu2⟩ := info_parts Tryd.info_u64
  obtain ⟨A, hA⟩ : ∃ A, #[Value.int .u64 (a0 : Int), .int .u64 (a1 : Int), .int .u64 (a2 : Int), .int .u64 (a3 : Int)] = A := ⟨_, rfl⟩
  have HA := Lib.hid hA
  clear hA
  go_enter Tryd.func82, Tryd.ntmps82
  go_wp2
  have hA := HA.out
  simp only [hA]
  clear hA
  go_loopw [6] (fun i wr => ∃ (k : Nat) (cs : Array Value), k ≤ 4 ∧ i = .int .i64 k ∧ RowAt wr w.heap.size cs 38 ∧ RowAt wr (w.heap.size + 1) #[.int .u64 0, .int .u64 0, .int .u64 0, .int .u64 0] 38 ∧ Below w.heap.size w wr ∧
    (k = 0 → cs = #[.int .u64 (a0 : Int), .int .u64 (a1 : Int), .int .u64 (a2 : Int), .int .u64 (a3 : Int)]) ∧ (k = 1 → cs = #[.int .u64 (b0 : Int), .int .u64 (a1 : Int), .int .u64 (a2 : Int), .int .u64 (a3 : Int)]) ∧ (k = 2 → cs = #[.int .u64 (b0 : Int), .int .u64 (b1 : Int), .int .u64 (a2 : Int), .int .u64 (a3 : Int)]) ∧ (k = 3 → cs = #[.int .u64 (b0 : Int), .int .u64 (b1 : Int), .int .u64 (b2 : Int), .int .u64 (a3 : Int)]) ∧ (k = 4 → cs = #[.int .u64 (b0 : Int), .int .u64 (b1 : Int), .int .u64 (b2 : Int), .int .u64 (b3 : Int)])) (fun i _ => 4 - (intOf i).toNat)
  case atStart =>
    refine ⟨0, _, Nat.zero_le _, rfl, (RowAt.new _ _ _).old _, ?_, ((Below.refl _ _).alloc (Nat.le_refl _) _).alloc (by simp) _, fun _ => HA.out.symm, fun h => (by cases h), fun h => (by cases h), fun h => (by cases h), fun h => (by cases h)⟩
    have := RowAt.new (w.alloc (.cells A 38)) #[.int .u64 0, .int .u64 0, .int .u64 0, .int .u64 0] 38
    simp only [World.size_alloc] at this
    exact this
  case round =>
    obtain ⟨k, cs, hk, rfl, hR, hZ, hbl, e0, e1, e2, e3, e4⟩ := hrel
    have : k = 0 ∨ k = 1 ∨ k = 2 ∨ k = 3 ∨ k = 4 := by omega
    rcases this with rfl | rfl | rfl | rfl | rfl
    · obtain rfl := e0 rfl
      clear e0 e1 e2 e3 e4
      have c := hR.cellIs 0 _ rfl
      have f := hR.frozen 0
      have hix : ∀ w, (Instr.index 38 (.agg A) (.int .i64 0)).run Tryd.prog w = .ok (.int .u64 (a0 : Int)) w := fun w => run_index_arr 0 Tryd.underlying38 hiu hu1 (Tryd.isAgg_u64 w) (by decide) (by rw [← HA.out]; rfl) .i64
      go_wp2
      go_roundw
      case rel => exact ⟨1, _, by omega, by go_num, hR.set 0 _, hZ.other _ (by simp), hbl.setCell (Nat.le_refl _) _, fun h => (by cases h), fun _ => rfl, fun h => (by cases h), fun h => (by cases h), fun h => (by cases h)⟩
      case measure => first | (simp [intOf]; done) | (simp [intOf]; omega)
    · obtain rfl := e1 rfl
      clear e0 e1 e2 e3 e4
      have c := hR.cellIs 1 _ rfl
      have f := hR.frozen 1
      have hix : ∀ w, (Instr.index 38 (.agg A) (.int .i64 1)).run Tryd.prog w = .ok (.int .u64 (a1 : Int)) w := fun w => run_index_arr 1 Tryd.underlying38 hiu hu1 (Tryd.isAgg_u64 w) (by decide) (by rw [← HA.out]; rfl) .i64
      go_wp2
      go_roundw
      case rel => exact ⟨2, _, by omega, by go_num, hR.set 1 _, hZ.other _ (by simp), hbl.setCell (Nat.le_refl _) _, fun h => (by cases h), fun h => (by cases h), fun _ => rfl, fun h => (by cases h), fun h => (by cases h)⟩
      case measure => first | (simp [intOf]; done) | (simp [intOf]; omega)
    · obtain rfl := e2 rfl
      clear e0 e1 e2 e3 e4
      have c := hR.cellIs 2 _ rfl
      have f := hR.frozen 2
      have hix : ∀ w, (Instr.index 38 (.agg A) (.int .i64 2)).run Tryd.prog w = .ok (.int .u64 (a2 : Int)) w := fun w => run_index_arr 2 Tryd.underlying38 hiu hu1 (Tryd.isAgg_u64 w) (by decide) (by rw [← HA.out]; rfl) .i64
      go_wp2
      go_roundw
      case rel => exact ⟨3, _, by omega, by go_num, hR.set 2 _, hZ.other _ (by simp), hbl.setCell (Nat.le_refl _) _, fun h => (by cases h), fun h => (by cases h), fun h => (by cases h), fun _ => rfl, fun h => (by cases h)⟩
      case measure => first | (simp [intOf]; done) | (simp [intOf]; omega)
    · obtain rfl := e3 rfl
      clear e0 e1 e2 e3 e4
      have c := hR.cellIs 3 _ rfl
      have f := hR.frozen 3
      have hix : ∀ w, (Instr.index 38 (.agg A) (.int .i64 3)).run Tryd.prog w = .ok (.int .u64 (a3 : Int)) w := fun w => run_index_arr 3 Tryd.underlying38 hiu hu1 (Tryd.isAgg_u64 w) (by decide) (by rw [← HA.out]; rfl) .i64
      go_wp2
      go_roundw
      case rel => exact ⟨4, _, by omega, by go_num, hR.set 3 _, hZ.other _ (by simp), hbl.setCell (Nat.le_refl _) _, fun h => (by cases h), fun h => (by cases h), fun h => (by cases h), fun h => (by cases h), fun _ => rfl⟩
      case measure => first | (simp [intOf]; done) | (simp [intOf]; omega)
    · obtain rfl := e4 rfl
      clear e0 e1 e2 e3 e4
      have c0 := hR.cellIs 0 _ rfl
      have c1 := hR.cellIs 1 _ rfl
      have c2 := hR.cellIs 2 _ rfl
      have c3 := hR.cellIs 3 _ rfl
      have f0 := hZ.frozen 0
      have f1 := hZ.frozen 1
      have f2 := hZ.frozen 2
      have f3 := hZ.frozen 3
      have z0 := hZ.cellIs 0 _ rfl
      have z1 := hZ.cellIs 1 _ rfl
      have z2 := hZ.cellIs 2 _ rfl
      have z3 := hZ.cellIs 3 _ rfl
      go_wp2
      have hZ4 := hZ.four (.int .u64 (b0 : Int)) (.int .u64 (b1 : Int)) (.int .u64 (b2 : Int)) (.int .u64 (b3 : Int))
      have r0 := hZ4.cellIs 0 _ rfl
      have r1 := hZ4.cellIs 1 _ rfl
      have r2 := hZ4.cellIs 2 _ rfl
      have r3 := hZ4.cellIs 3 _ rfl
      refine bodyPost_ret (by simp [results, Tryd.results82, go_sem, r0, r1, r2, r3]; try rfl) rfl ?_
      exact ⟨rfl, (((hbl.setCell (by simp) _).setCell (by simp) _).setCell (by simp) _).setCell (by simp) _⟩

end Go.Proofs.YtkddighepgpccaaDoor
