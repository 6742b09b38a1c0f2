/-
  The walks of package class: spans, all bytes, counting, emptiness.
-/
import Derived.Test.YtkddighepgpccaaDoorSet4
import Derived.Deep.QuietTactic
import Derived.BigQuiet
import Derived.ChangeKeysEq
import Derived.Laws.StructEq
namespace Go.Proofs.YtkddighepgpccaaDoor
open Go Go.RowKit
set_option linter.unusedSimpArgs false
set_option linter.unusedVariables false

def S4.zero : S4 := ⟨0, 0, 0, 0⟩
theorem S4.zero_ok : S4.zero.ok := ⟨by decide, by decide, by decide, by decide⟩
theorem inv_lt (x : Nat) : inv x < 18446744073709551616 := by unfold inv; omega
theorem S4.not_ok (s : S4) : s.not.ok := ⟨inv_lt _, inv_lt _, inv_lt _, inv_lt _⟩
theorem S4.or_ok {s t : S4} (hs : s.ok) (ht : t.ok) : (s.or t).ok :=
  ⟨Nat.or_lt_two_pow (n := 64) hs.1 ht.1, Nat.or_lt_two_pow (n := 64) hs.2.1 ht.2.1, Nat.or_lt_two_pow (n := 64) hs.2.2.1 ht.2.2.1, Nat.or_lt_two_pow (n := 64) hs.2.2.2 ht.2.2.2⟩
theorem S4.and_ok {s t : S4} (ht : t.ok) : (s.and t).ok :=
  ⟨Nat.and_lt_two_pow (n := 64) _ ht.1, Nat.and_lt_two_pow (n := 64) _ ht.2.1, Nat.and_lt_two_pow (n := 64) _ ht.2.2.1, Nat.and_lt_two_pow (n := 64) _ ht.2.2.2⟩
theorem S4.with_ok {s : S4} (hs : s.ok) {b : Nat} : (s.with b).ok :=
  S4.put_ok hs _ (Nat.or_lt_two_pow (n := 64) (S4.at_ok hs _) (Nat.pow_lt_pow_right (n := 64) (by decide) (Nat.mod_lt _ (by decide))))
def S4.count (s : S4) : Nat := pop s.a0 + pop s.a1 + pop s.a2 + pop s.a3
theorem bitsUpto_le (x n : Nat) : bitsUpto x n ≤ n := by
  induction n with
  | zero => exact Nat.le_refl _
  | succ n ih => unfold bitsUpto; omega
theorem pop_le (x : Nat) : pop x ≤ 64 := bitsUpto_le x 64

theorem Tryd.plain_u64 : Tryd.prog.plainKey 36 = true := by kernel_rfl
theorem Tryd.cells_u64 : Tryd.prog.cellsOf 36 = 1 := by kernel_rfl
theorem eq_step (w : World) (xs ys : Array Value) (i : Nat) (is : List Nat) (x y : Nat) (hx : xs[i]? = some (.int .u64 (x : Int))) (hy : ys[i]? = some (.int .u64 (y : Int))) (b : Bool) (h : (Op.eqItems 9999 36 1 xs ys is).run Tryd.prog w = .ok b w) :
    (Op.eqItems 9999 36 1 xs ys (i :: is)).run Tryd.prog w = .ok (decide (x = y) && b) w := by
  have p1 : (part 36 xs i).run Tryd.prog w = .ok (.int .u64 (x : Int)) w := run_part_plain w Tryd.plain_u64 hx
  have p2 : (part 36 ys i).run Tryd.prog w = .ok (.int .u64 (y : Int)) w := run_part_plain w Tryd.plain_u64 hy
  have p3 : (Op.equalIn 9999 36 (.int .u64 (x : Int)) (.int .u64 (y : Int))).run Tryd.prog w = .ok ((x : Int) == (y : Int)) w := run_equalIn_int (P := Tryd.prog) w 9998 36 .u64 .u64 _ _ Tryd.underlying36
  by_cases e : x = y
  · subst e
    simp [Op.eqItems, Sem.run_bind, p1, p2, p3, h]
  · have e2 : ((x : Int) == (y : Int)) = false := by simp; omega
    rw [e2] at p3
    simp [Op.eqItems, Sem.run_bind, p1, p2, p3, e]
theorem eq_set (w : World) (s t : S4) : (Op.equalIn 10000 38 s.v t.v).run Tryd.prog w = .ok (decide (s = t)) w := by
  obtain ⟨iu, hiu, hu0, hu1, hu2⟩ := info_parts Tryd.info_u64
  obtain ⟨a0, a1, a2, a3⟩ := s
  obtain ⟨b0, b1, b2, b3⟩ := t
  unfold S4.v
  simp only
  have h := run_equalIn_array (P := Tryd.prog) w 9999 #[.int .u64 (a0 : Int), .int .u64 (a1 : Int), .int .u64 (a2 : Int), .int .u64 (a3 : Int)] #[.int .u64 (b0 : Int), .int .u64 (b1 : Int), .int .u64 (b2 : Int), .int .u64 (b3 : Int)] Tryd.underlying38 hiu
  have hr : List.range 4 = [0, 1, 2, 3] := rfl
  rw [Tryd.cells_u64, hr] at h
  refine h.trans ?_
  rw [eq_step w _ _ 0 [1, 2, 3] a0 b0 rfl rfl _ (eq_step w _ _ 1 [2, 3] a1 b1 rfl rfl _ (eq_step w _ _ 2 [3] a2 b2 rfl rfl _ (eq_step w _ _ 3 [] a3 b3 rfl rfl true (by simp [Op.eqItems]))))]
  have hd : (decide (a0 = b0) && (decide (a1 = b1) && (decide (a2 = b2) && (decide (a3 = b3) && true)))) = decide ((⟨a0, a1, a2, a3⟩ : S4) = ⟨b0, b1, b2, b3⟩) := by
    rw [Bool.eq_iff_iff]
    simp
  rw [hd]

set_option maxHeartbeats 1000000 in
theorem Count_any (w : World) (s : S4) (hs : s.ok) :
    Calls Tryd.prog 29 #[s.v] w fun e w' => e = .returned (.int .i64 (s.count : Int)) ∧ Below w.heap.size w w' := by
  obtain ⟨a0, a1, a2, a3⟩ := s
  obtain ⟨h0, h1, h2, h3⟩ := hs
  simp only at h0 h1 h2 h3
  unfold S4.v S4.count
  simp only
  have p0 := pop_le a0
  have p1 := pop_le a1
  have p2 := pop_le a2
  have p3 := pop_le a3
  have O0 := Lib.hid (fun w => ones_any w a0 h0)
  have O1 := Lib.hid (fun w => ones_any w a1 h1)
  have O2 := Lib.hid (fun w => ones_any w a2 h2)
  have O3 := Lib.hid (fun w => ones_any w a3 h3)
  generalize pop a0 = q0 at *
  generalize pop a1 = q1 at *
  generalize pop a2 = q2 at *
  generalize pop a3 = q3 at *
  obtain ⟨iu, hiu, hu0, hu1, hu2⟩ := info_parts Tryd.info_u64
  obtain ⟨A, hA⟩ : ∃ A, #[Value.int .u64 (a0 : Int), .int .u64 (a1 : Int), .int .u64 (a2 : Int), .int .u64 (a3 : Int)] = A := ⟨_, rfl⟩
  have HA := Lib.hid hA
  clear hA
  go_enter Tryd.func29, Tryd.ntmps29
  go_wp2
  have hA := HA.out
  simp only [hA]
  clear hA
  go_loopw [3, 7] (fun v i wr => ∃ (k n : Nat), k ≤ 4 ∧ i = .int .i64 k ∧ v = .int .i64 n ∧ n ≤ 64 * k ∧ Below w.heap.size w wr ∧ (k = 0 → n = 0) ∧ (k = 1 → n = q0) ∧ (k = 2 → n = q0 + q1) ∧ (k = 3 → n = q0 + q1 + q2) ∧ (k = 4 → n = q0 + q1 + q2 + q3)) (fun _ i _ => 4 - (intOf i).toNat)
  case atStart => exact ⟨0, 0, Nat.zero_le _, rfl, rfl, Nat.le_refl _, (Below.refl _ _).alloc (Nat.le_refl _) _, fun _ => rfl, fun h => (by cases h), fun h => (by cases h), fun h => (by cases h), fun h => (by cases h)⟩
  case round =>
    obtain ⟨k, n, hk, rfl, rfl, hn, hbl, e0, e1, e2, e3, e4⟩ := hrel
    have : k = 0 ∨ k = 1 ∨ k = 2 ∨ k = 3 ∨ k = 4 := by omega
    rcases this with rfl | rfl | rfl | rfl | rfl
    · obtain rfl := e0 rfl
      clear e0 e1 e2 e3 e4
      have hix : ∀ w, (Instr.index 38 (.agg A) (.int .i64 0)).run Tryd.prog w = .ok (.int .u64 (a0 : Int)) w := fun w => run_index_arr 0 Tryd.underlying38 hiu hu1 (Tryd.isAgg_u64 w) (by decide) (by rw [← HA.out]; rfl) .i64
      go_wp2_with (go_at_call 48; refine (O0.out _).mono ?_; rintro e w' ⟨rfl, rfl⟩)
      go_roundw
      case rel => exact ⟨1, q0, by omega, by go_num, by go_num, by omega, hbl, fun h => (by cases h), fun _ => rfl, fun h => (by cases h), fun h => (by cases h), fun h => (by cases h)⟩
      case measure => first | (simp [intOf]; done) | (simp [intOf]; omega)
    · obtain rfl := e1 rfl
      clear e0 e1 e2 e3 e4
      have hix : ∀ w, (Instr.index 38 (.agg A) (.int .i64 1)).run Tryd.prog w = .ok (.int .u64 (a1 : Int)) w := fun w => run_index_arr 1 Tryd.underlying38 hiu hu1 (Tryd.isAgg_u64 w) (by decide) (by rw [← HA.out]; rfl) .i64
      go_wp2_with (go_at_call 48; refine (O1.out _).mono ?_; rintro e w' ⟨rfl, rfl⟩)
      go_roundw
      case rel => exact ⟨2, n + q1, by omega, by go_num, by go_num, by omega, hbl, fun h => (by cases h), fun h => (by cases h), fun _ => rfl, fun h => (by cases h), fun h => (by cases h)⟩
      case measure => first | (simp [intOf]; done) | (simp [intOf]; omega)
    · have hn2 := e2 rfl
      clear e0 e1 e2 e3 e4
      have hix : ∀ w, (Instr.index 38 (.agg A) (.int .i64 2)).run Tryd.prog w = .ok (.int .u64 (a2 : Int)) w := fun w => run_index_arr 2 Tryd.underlying38 hiu hu1 (Tryd.isAgg_u64 w) (by decide) (by rw [← HA.out]; rfl) .i64
      go_wp2_with (go_at_call 48; refine (O2.out _).mono ?_; rintro e w' ⟨rfl, rfl⟩)
      go_roundw
      case rel => exact ⟨3, n + q2, by omega, by go_num, by go_num, by omega, hbl, fun h => (by cases h), fun h => (by cases h), fun h => (by cases h), fun _ => by rw [hn2], fun h => (by cases h)⟩
      case measure => first | (simp [intOf]; done) | (simp [intOf]; omega)
    · have hn3 := e3 rfl
      clear e0 e1 e2 e3 e4
      have hix : ∀ w, (Instr.index 38 (.agg A) (.int .i64 3)).run Tryd.prog w = .ok (.int .u64 (a3 : Int)) w := fun w => run_index_arr 3 Tryd.underlying38 hiu hu1 (Tryd.isAgg_u64 w) (by decide) (by rw [← HA.out]; rfl) .i64
      go_wp2_with (go_at_call 48; refine (O3.out _).mono ?_; rintro e w' ⟨rfl, rfl⟩)
      go_roundw
      case rel => exact ⟨4, n + q3, by omega, by go_num, by go_num, by omega, hbl, fun h => (by cases h), fun h => (by cases h), fun h => (by cases h), fun h => (by cases h), fun _ => by rw [hn3]⟩
      case measure => first | (simp [intOf]; done) | (simp [intOf]; omega)
    · have hn4 := e4 rfl
      clear e0 e1 e2 e3 e4
      subst hn4
      go_wp2
      go_returns
      exact ⟨rfl, hbl⟩

/-! ### spans -/
def spanN (low : Nat) : Nat → S4
  | 0 => S4.zero
  | n + 1 => (spanN low n).with (low + n)
theorem spanN_ok (low n : Nat) : (spanN low n).ok := by
  induction n with
  | zero => exact S4.zero_ok
  | succ n ih => exact S4.with_ok ih
set_option maxHeartbeats 1000000 in
theorem Span_any (w : World) (low high : Nat) (hl : low < 256) (hh : high < 256) :
    Calls Tryd.prog 86 #[.int .u8 (low : Int), .int .u8 (high : Int)] w fun e w' => e = .returned (spanN low (high + 1 - low)).v ∧ Below w.heap.size w w' := by
  have hZ0 := (RowAt.new w #[.int .u64 0, .int .u64 0, .int .u64 0, .int .u64 0] 38).old (.cells #[.int .u64 0, .int .u64 0, .int .u64 0, .int .u64 0] 38)
  have hR0 := RowAt.new (w.alloc (.cells #[.int .u64 0, .int .u64 0, .int .u64 0, .int .u64 0] 38)) #[.int .u64 0, .int .u64 0, .int .u64 0, .int .u64 0] 38
  simp only [World.size_alloc] at hR0
  go_enter Tryd.func86, Tryd.ntmps86
  go_wp2
  go_loopw [6] (fun i wr => ∃ k n : Nat, k = low + n ∧ n ≤ high + 1 - low ∧ i = .int .i64 (k : Int) ∧ RowAt wr w.heap.size #[.int .u64 0, .int .u64 0, .int .u64 0, .int .u64 0] 38 ∧ RowAt wr (w.heap.size + 1) (spanN low n).cells 38 ∧ Below w.heap.size w wr) (fun i _ => 256 - (intOf i).toNat)
  case atStart => exact ⟨low, 0, rfl, Nat.zero_le _, rfl, hZ0, hR0, ((Below.refl _ _).alloc (Nat.le_refl _) _).alloc (by simp) _⟩
  case round =>
    obtain ⟨k, n, hkk, hn, rfl, hZ, hR, hbl⟩ := hrel
    clear hZ0 hR0
    obtain ⟨t, ht⟩ : ∃ t, spanN low n = t := ⟨_, rfl⟩
    by_cases hlt : k ≤ high
    · have hk : k < 256 := by omega
      have hcall := fun w => with_any w t (by rw [← ht]; exact spanN_ok _ _) k hk
      obtain ⟨t', ht'⟩ : ∃ t', t.with k = t' := ⟨_, rfl⟩
      have hnext : spanN low (n + 1) = t' := by rw [← ht', ← ht, hkk]; rfl
      rw [ht'] at hcall
      rw [ht] at hR
      obtain ⟨d0, d1, d2, d3⟩ := t
      obtain ⟨c0, c1, c2, c3⟩ := t'
      unfold S4.v at hcall
      unfold S4.cells at hR
      simp only at hcall hR
      have HC := Lib.hid hcall
      clear hcall ht ht'
      have hw8 : IntKind.u8.wrap (k : Int) = (k : Int) := by rw [IntKind.wrap_u8']; omega
      have k0 := hR.cellIs 0 _ rfl
      have k1 := hR.cellIs 1 _ rfl
      have k2 := hR.cellIs 2 _ rfl
      have k3 := hR.cellIs 3 _ rfl
      have hle : (k : Int) ≤ (high : Int) := by omega
      have HK := Lib.hid hkk
      clear hkk
      go_wp2_with (go_at_call 73; refine (HC.out _).mono ?_; rintro e w2 ⟨rfl, hb2⟩; have hR2 := hR.later hb2 hR.lt; have f0 := hR2.frozen 0; have f1 := hR2.frozen 1; have f2 := hR2.frozen 2; have f3 := hR2.frozen 3; have z0 := hR2.cellIs 0 _ rfl; have z1 := hR2.cellIs 1 _ rfl; have z2 := hR2.cellIs 2 _ rfl; have z3 := hR2.cellIs 3 _ rfl)
      have hR4 := hR2.four (.int .u64 (c0 : Int)) (.int .u64 (c1 : Int)) (.int .u64 (c2 : Int)) (.int .u64 (c3 : Int))
      have hZ2 := hZ.later hb2 hZ.lt
      clear z0 z1 z2 z3 k0 k1 k2 k3 f0 f1 f2 f3 HC
      have hkk := HK.out
      clear HK
      go_roundw
      case rel => exact ⟨k + 1, n + 1, by omega, by omega, by go_num, (((hZ2.other _ (by simp)).other _ (by simp)).other _ (by simp)).other _ (by simp), by rw [hnext]; exact hR4, ((((hbl.trans (hb2.mono hbl.size)).setCell (by simp) _).setCell (by simp) _).setCell (by simp) _).setCell (by simp) _⟩
      case measure => first | (simp [intOf]; done) | (simp [intOf]; omega)
    · obtain rfl : n = high + 1 - low := by omega
      rw [ht] at hR
      obtain ⟨d0, d1, d2, d3⟩ := t
      unfold S4.cells at hR
      simp only at hR
      have HT := Lib.hid ht
      clear ht
      have k0 := hR.cellIs 0 _ rfl
      have k1 := hR.cellIs 1 _ rfl
      have k2 := hR.cellIs 2 _ rfl
      have k3 := hR.cellIs 3 _ rfl
      have f0 := hZ.frozen 0
      have f1 := hZ.frozen 1
      have f2 := hZ.frozen 2
      have f3 := hZ.frozen 3
      have z0 := hZ.cellIs 0 _ rfl
      have z1 := hZ.cellIs 1 _ rfl
      have z2 := hZ.cellIs 2 _ rfl
      have z3 := hZ.cellIs 3 _ rfl
      have hgt : (high : Int) < (k : Int) := by omega
      clear hkk
      go_wp2
      have hZ4 := hZ.four (.int .u64 (d0 : Int)) (.int .u64 (d1 : Int)) (.int .u64 (d2 : Int)) (.int .u64 (d3 : Int))
      have r0 := hZ4.cellIs 0 _ rfl
      have r1 := hZ4.cellIs 1 _ rfl
      have r2 := hZ4.cellIs 2 _ rfl
      have r3 := hZ4.cellIs 3 _ rfl
      refine bodyPost_ret (by simp [results, Tryd.results86, go_sem, r0, r1, r2, r3]; try rfl) rfl ?_
      exact ⟨by rw [HT.out]; rfl, (((hbl.setCell (Nat.le_refl _) _).setCell (Nat.le_refl _) _).setCell (Nat.le_refl _) _).setCell (Nat.le_refl _) _⟩

end Go.Proofs.YtkddighepgpccaaDoor
