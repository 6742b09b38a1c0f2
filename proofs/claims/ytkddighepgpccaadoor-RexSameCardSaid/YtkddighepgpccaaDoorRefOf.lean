/-
  The walk of the reference's Of (layer 6): the set of a row of 256.
-/
import Derived.Test.YtkddighepgpccaaDoorSet6
namespace Go.Proofs.YtkddighepgpccaaDoor
open Go Go.RowKit
set_option linter.unusedSimpArgs false
set_option linter.unusedVariables false

def boolRow (tk : List Bool) : Array Value := (tk.map Value.bool).toArray
theorem boolRow_at {tk : List Bool} {j : Nat} {b : Bool} (h : tk[j]? = some b) : (boolRow tk)[j]? = some (.bool b) := by
  unfold boolRow
  rw [List.getElem?_toArray, List.getElem?_map, h]; rfl
theorem boolRow_set (tk : List Bool) (j : Nat) (b : Bool) : (boolRow tk).setIfInBounds j (.bool b) = boolRow (tk.set j b) := by
  unfold boolRow
  rw [List.setIfInBounds_toArray, List.map_set]
def inB (tk : List Bool) (b : Nat) : Bool := tk.getD b false

/-- How many of a word's bits are still to come when the next byte is m - 1. -/
def low (m i : Nat) : Nat := min 64 (m - 64 * i)
/-- What stands in the words when the bytes from m on are in. -/
def OfInv (tk : List Bool) (m : Nat) (s : S4) : Prop := ∀ i, i < 4 → ∀ r, (s.at i).testBit r = (decide (low m i + r < 64) && inB tk (64 * i + low m i + r))
theorem OfInv.lt {tk : List Bool} {m : Nat} {s : S4} (h : OfInv tk m s) {i : Nat} (hi : i < 4) : s.at i < 2 ^ (64 - low m i) := by
  apply Nat.lt_pow_two_of_testBit
  intro r hr
  rw [h i hi r]
  have : ¬ (low m i + r < 64) := by omega
  simp [this]
theorem OfInv.zero (tk : List Bool) : OfInv tk 256 S4.zero := by
  intro i hi r
  have h1 : S4.zero.at i = 0 := by rcases four hi with rfl | rfl | rfl | rfl <;> rfl
  have h2 : low 256 i = 64 := by unfold low; omega
  rw [h1, h2, Nat.zero_testBit]
  have : ¬ (64 + r < 64) := by omega
  simp [this]
theorem testBit_double (x : Nat) (b : Bool) (r : Nat) : (2 * x + b.toNat).testBit r = if r = 0 then b else x.testBit (r - 1) := by
  cases r with
  | zero => rw [Nat.testBit_zero]; cases b <;> simp <;> omega
  | succ r =>
    rw [Nat.testBit_succ]
    have : (2 * x + b.toNat) / 2 = x := by cases b <;> simp <;> omega
    rw [this]; simp
theorem OfInv.step {tk : List Bool} {b : Nat} {s : S4} (hb : b < 256) (h : OfInv tk (b + 1) s) : OfInv tk b (s.put (b / 64) (2 * s.at (b / 64) + (inB tk b).toNat)) := by
  intro i hi r
  rw [S4.at_put s (by omega) hi]
  by_cases hq : b / 64 = i
  · rw [if_pos hq, testBit_double]
    have l1 : low (b + 1) i = low b i + 1 := by unfold low; omega
    have l2 : 64 * i + low b i = b := by unfold low; omega
    have l3 : low b i < 64 := by unfold low; omega
    rw [hq]
    cases r with
    | zero => rw [if_pos rfl, l2]; simp [l3]
    | succ r =>
      rw [if_neg (by omega), h i hi, l1]
      have e1 : low b i + 1 + (r + 1 - 1) = low b i + (r + 1) := by omega
      have e2 : 64 * i + (low b i + 1) + (r + 1 - 1) = 64 * i + low b i + (r + 1) := by omega
      rw [e1, e2]
  · rw [if_neg hq, h i hi]
    have l1 : low (b + 1) i = low b i := by unfold low; omega
    rw [l1]
theorem OfInv.done {tk : List Bool} {s : S4} (h : OfInv tk 0 s) {b : Nat} (hb : b < 256) : s.has b = inB tk b := by
  unfold S4.has
  rw [h (b / 64) (by omega)]
  have l1 : low 0 (b / 64) = 0 := by unfold low; omega
  rw [l1]
  have h1 : (0 + b % 64 < 64) := by omega
  have h2 : 64 * (b / 64) + 0 + b % 64 = b := by omega
  rw [h2, decide_eq_true h1]; rfl
theorem OfInv.ok {tk : List Bool} {m : Nat} {s : S4} (h : OfInv tk m s) : s.ok := by
  have g : ∀ i, i < 4 → s.at i < 18446744073709551616 := fun i hi => Nat.lt_of_lt_of_le (h.lt hi) (Nat.pow_le_pow_right (n := 2) (j := 64) (by decide) (by omega))
  exact ⟨g 0 (by decide), g 1 (by decide), g 2 (by decide), g 3 (by decide)⟩
/-- Two sets with the same bytes are the same. -/
theorem set_ext {s t : S4} (hs : s.ok) (ht : t.ok) (h : ∀ b, b < 256 → s.has b = t.has b) : s = t := by
  have g : ∀ i, i < 4 → s.at i = t.at i := by
    intro i hi
    apply Nat.eq_of_testBit_eq
    intro r
    by_cases hr : r < 64
    · have := h (64 * i + r) (by omega)
      unfold S4.has at this
      rw [show (64 * i + r) / 64 = i by omega, show (64 * i + r) % 64 = r by omega] at this
      exact this
    · have hp : 18446744073709551616 ≤ 2 ^ r := Nat.pow_le_pow_right (n := 2) (i := 64) (j := r) (by decide) (by omega)
      rw [Nat.testBit_lt_two_pow (Nat.lt_of_lt_of_le (S4.at_ok hs i) hp), Nat.testBit_lt_two_pow (Nat.lt_of_lt_of_le (S4.at_ok ht i) hp)]
  obtain ⟨a0, a1, a2, a3⟩ := s
  obtain ⟨b0, b1, b2, b3⟩ := t
  have e0 : a0 = b0 := g 0 (by decide)
  have e1 : a1 = b1 := g 1 (by decide)
  have e2 : a2 = b2 := g 2 (by decide)
  have e3 : a3 = b3 := g 3 (by decide)
  rw [e0, e1, e2, e3]

theorem S4.put_put (s : S4) {i : Nat} (hi : i < 4) (x y : Nat) : (s.put i x).put i y = s.put i y := by
  rcases four hi with rfl | rfl | rfl | rfl <;> rfl
set_option maxHeartbeats 4000000 in
set_option maxRecDepth 100000 in
theorem RefOf_any (w : World) (tk : List Bool) (ht : tk.length = 256) :
    Calls Tryd.prog 62 #[.agg (boolRow tk)] w fun e w' => ∃ s : OK, e = .returned s.v ∧ OfInv tk 0 s.1 ∧ Below w.heap.size w w' := by
  have q0 := ((RowAt.new w (boolRow tk) 96).old (.cells #[.int .u64 0, .int .u64 0, .int .u64 0, .int .u64 0] 37)).old (.cells #[.int .u64 0, .int .u64 0, .int .u64 0, .int .u64 0] 37)
  have q1 := (RowAt.new (w.alloc (.cells (boolRow tk) 96)) #[.int .u64 0, .int .u64 0, .int .u64 0, .int .u64 0] 37).old (.cells #[.int .u64 0, .int .u64 0, .int .u64 0, .int .u64 0] 37)
  have q2 := RowAt.new ((w.alloc (.cells (boolRow tk) 96)).alloc (.cells #[.int .u64 0, .int .u64 0, .int .u64 0, .int .u64 0] 37)) #[.int .u64 0, .int .u64 0, .int .u64 0, .int .u64 0] 37
  simp only [World.size_alloc] at q1 q2
  obtain ⟨R, hR⟩ : ∃ R, boolRow tk = R := ⟨_, rfl⟩
  have hat : ∀ j, j < 256 → R[j]? = some (.bool (inB tk j)) := by
    intro j hj
    rw [← hR]
    apply boolRow_at
    unfold inB
    rw [List.getD_eq_getElem?_getD, List.getElem?_eq_getElem (by omega)]; rfl
  rw [hR] at q0 q1 q2 ⊢
  have HAT := Lib.hid hat
  clear hat hR
  go_enter Tryd.func62, Tryd.ntmps62
  have hb0 : Below w.heap.size w _ := (((Below.refl w.heap.size w).alloc (Nat.le_refl _) (.cells R 96)).alloc (by simp) (.cells #[.int .u64 0, .int .u64 0, .int .u64 0, .int .u64 0] 37)).alloc (by simp; omega) (.cells #[.int .u64 0, .int .u64 0, .int .u64 0, .int .u64 0] 37)
  have HB0 := Lib.hid hb0
  clear hb0
  go_wp2
  go_loopw [4] (fun i wr => ∃ (m : Nat) (v : Int) (s : S4), m ≤ 256 ∧ v = (m : Int) - 1 ∧ i = .int .i64 v ∧ RowAt wr w.heap.size R 96 ∧ RowAt wr (w.heap.size + 1) #[.int .u64 0, .int .u64 0, .int .u64 0, .int .u64 0] 37 ∧ RowAt wr (w.heap.size + 1 + 1) s.cells 37 ∧ OfInv tk m s ∧ Below w.heap.size w wr) (fun i _ => (intOf i + 1).toNat)
  case atStart => exact ⟨256, 255, S4.zero, Nat.le_refl _, rfl, rfl, q0, q1, q2, OfInv.zero tk, HB0.out⟩
  case round =>
    obtain ⟨m, v, s, hm, hv, rfl, hI, hZ, hS, hinv, hbl⟩ := hrel
    clear q0 q1 q2
    have HV := Lib.hid hinv
    cases m with
    | succ b =>
      obtain rfl : v = (b : Int) := by omega
      have hb256 : b < 256 := by omega
      have hq4 : b / 64 < 4 := by omega
      have hx63 : s.at (b / 64) < 9223372036854775808 := by
        have h1 := hinv.lt hq4
        have h2 : 64 - low (b + 1) (b / 64) ≤ 63 := by unfold low; omega
        exact Nat.lt_of_lt_of_le h1 (Nat.pow_le_pow_right (n := 2) (j := 63) (by decide) h2)
      have hstep := Lib.hid (hinv.step hb256)
      obtain ⟨q, hq⟩ : ∃ q, b / 64 = q := ⟨_, rfl⟩
      rw [hq] at hq4 hx63 hstep
      have hq' : (b : Int) / 64 = (q : Int) := by omega
      have cx := hS.cellIs q _ (s.cells_at hq4)
      have fx := hS.frozen q
      obtain ⟨x, hx⟩ : ∃ x, s.at q = x := ⟨_, rfl⟩
      rw [hx] at cx hx63 hstep
      have hw2 : IntKind.u64.wrap ((x : Int) * 2) = ((2 * x : Nat) : Int) := by rw [IntKind.wrap_u64]; omega
      have hS2 := hS.set q (.int .u64 ((2 * x : Nat) : Int))
      rw [S4.cells_put _ hq4] at hS2
      have hI2 := hI.other (a := ⟨w.heap.size + 1 + 1, q, none⟩) (.int .u64 ((2 * x : Nat) : Int)) (by simp; omega)
      have hZ2 := hZ.other (a := ⟨w.heap.size + 1 + 1, q, none⟩) (.int .u64 ((2 * x : Nat) : Int)) (by simp)
      have cb := hI2.cellIs b _ (HAT.out b hb256)
      have cx2 := hS2.cellIs q _ (S4.cells_at _ hq4)
      rw [S4.at_put s hq4 hq4, if_pos rfl] at cx2
      have fx2 := hS2.frozen q
      obtain ⟨y, hy⟩ : ∃ y, inB tk b = y := ⟨_, rfl⟩
      rw [hy] at cb hstep
      have hb0 : (0 : Int) ≤ (b : Int) := by omega
      have hb1 : (b : Int) < 256 := by omega
      have hw3 : IntKind.u64.wrap (((2 * x : Nat) : Int) + 1) = ((2 * x + 1 : Nat) : Int) := by rw [IntKind.wrap_u64]; omega
      obtain ⟨x2, hx2⟩ : ∃ x2, 2 * x = x2 := ⟨_, rfl⟩
      obtain ⟨x3, hx3⟩ : ∃ x3, 2 * x + 1 = x3 := ⟨_, rfl⟩
      have hm2 : (2 : Int) * (x : Int) = (x2 : Int) := by omega
      have hm2' : (x : Int) * 2 = (x2 : Int) := by omega
      have hm3 : (x2 : Int) + 1 = (x3 : Int) := by omega
      rw [hx3] at hw3
      rw [hx2] at hw2 hS2 hI2 hZ2 cb cx2 fx2 hw3
      have cbw := hI.cellIs b _ (HAT.out b hb256)
      rw [hy] at cbw
      have fbw := hI.frozen b
      have HX2 := Lib.hid hx2
      have HX3 := Lib.hid hx3
      have HQ := Lib.hid hq
      clear hinv hv hx hy hq hx2 hx3
      cases y
      · go_wp2
        go_roundw
        case rel => exact ⟨b, (b : Int) - 1, s.put q x2, by omega, rfl, by go_num, hI2, hZ2, hS2, (by have := hstep.out; rw [show 2 * x + false.toNat = x2 from HX2.out] at this; exact this), hbl.setCell (by simp; omega) _⟩
        case measure => first | (simp [intOf]; done) | (simp [intOf]; omega)
      · go_wp2
        go_roundw
        case rel =>
          have hS3 := hS2.set q (.int .u64 (x3 : Int))
          rw [S4.cells_put _ hq4] at hS3
          refine ⟨b, (b : Int) - 1, (s.put q x2).put q x3, by omega, rfl, by go_num, hI2.other _ (by simp; omega), hZ2.other _ (by simp), hS3, ?_, (hbl.setCell (by simp; omega) _).setCell (by simp; omega) _⟩
          rw [S4.put_put _ hq4]
          have := hstep.out
          rw [show 2 * x + true.toNat = x3 from HX3.out] at this
          exact this
        case measure => first | (simp [intOf]; done) | (simp [intOf]; omega)
    | zero =>
      obtain rfl : v = -1 := by omega
      obtain ⟨t, ht⟩ : ∃ t : OK, t.1 = s := ⟨⟨s, HV.out.ok⟩, rfl⟩
      subst ht
      obtain ⟨⟨d0, d1, d2, d3⟩, hd⟩ := t
      unfold S4.cells at hS
      simp only at hS
      have k0 := hS.cellIs 0 _ rfl
      have k1 := hS.cellIs 1 _ rfl
      have k2 := hS.cellIs 2 _ rfl
      have k3 := hS.cellIs 3 _ rfl
      have f0 := hZ.frozen 0
      have f1 := hZ.frozen 1
      have f2 := hZ.frozen 2
      have f3 := hZ.frozen 3
      have z0 := hZ.cellIs 0 _ rfl
      have z1 := hZ.cellIs 1 _ rfl
      have z2 := hZ.cellIs 2 _ rfl
      have z3 := hZ.cellIs 3 _ rfl
      clear hv hinv
      go_wp2
      have hZ4 := hZ.four (.int .u64 (d0 : Int)) (.int .u64 (d1 : Int)) (.int .u64 (d2 : Int)) (.int .u64 (d3 : Int))
      have r0 := hZ4.cellIs 0 _ rfl
      have r1 := hZ4.cellIs 1 _ rfl
      have r2 := hZ4.cellIs 2 _ rfl
      have r3 := hZ4.cellIs 3 _ rfl
      refine bodyPost_ret (by simp [results, Tryd.results62, go_sem, r0, r1, r2, r3]; try rfl) rfl ?_
      exact ⟨⟨⟨d0, d1, d2, d3⟩, hd⟩, rfl, HV.out, (((hbl.setCell (by simp) _).setCell (by simp) _).setCell (by simp) _).setCell (by simp) _⟩

end Go.Proofs.YtkddighepgpccaaDoor
