/-
  Plain: sets of four words are a Boolean algebra.
-/
import Derived.Test.YtboebjmfchbgbaaSet6
namespace Go.Proofs.Ytboebjmfchbgbaa
open Go Go.RowKit
set_option linter.unusedSimpArgs false
set_option linter.unusedVariables false

theorem inv_bit {a : Nat} (h : a < 18446744073709551616) (i : Nat) : (inv a).testBit i = (decide (i < 64) && !a.testBit i) := by
  unfold inv
  rw [show 18446744073709551615 - a = 2 ^ 64 - (a + 1) by omega, Nat.testBit_two_pow_sub_succ (n := 64) h]
theorem high_bit {a : Nat} (h : a < 18446744073709551616) {i : Nat} (hi : ¬ i < 64) : a.testBit i = false :=
  Nat.testBit_lt_two_pow (Nat.lt_of_lt_of_le h (Nat.pow_le_pow_right (n := 2) (i := 64) (by decide) (by omega)))
theorem or_lt {a b : Nat} (ha : a < 18446744073709551616) (hb : b < 18446744073709551616) : a ||| b < 18446744073709551616 := Nat.or_lt_two_pow (n := 64) ha hb
theorem and_lt {a b : Nat} (hb : b < 18446744073709551616) : a &&& b < 18446744073709551616 := Nat.and_lt_two_pow (n := 64) _ hb
theorem word1 {a b : Nat} (ha : a < 18446744073709551616) (hb : b < 18446744073709551616) : inv (a ||| b) = inv a &&& inv b := by
  apply Nat.eq_of_testBit_eq
  intro i
  rw [inv_bit (or_lt ha hb), Nat.testBit_and, inv_bit ha, inv_bit hb, Nat.testBit_or]
  cases decide (i < 64) <;> cases a.testBit i <;> cases b.testBit i <;> rfl
theorem word2 {a b : Nat} (ha : a < 18446744073709551616) (hb : b < 18446744073709551616) : inv (a &&& b) = inv a ||| inv b := by
  apply Nat.eq_of_testBit_eq
  intro i
  rw [inv_bit (and_lt hb), Nat.testBit_or, inv_bit ha, inv_bit hb, Nat.testBit_and]
  cases decide (i < 64) <;> cases a.testBit i <;> cases b.testBit i <;> rfl
theorem word3 {a : Nat} (ha : a < 18446744073709551616) : inv (inv a) = a := by unfold inv; omega
theorem word6 (a b : Nat) : a ||| (a &&& b) = a := by
  apply Nat.eq_of_testBit_eq
  intro i
  rw [Nat.testBit_or, Nat.testBit_and]
  cases a.testBit i <;> cases b.testBit i <;> rfl
theorem word7 {a : Nat} (ha : a < 18446744073709551616) : a ||| inv a = inv 0 := by
  apply Nat.eq_of_testBit_eq
  intro i
  rw [Nat.testBit_or, inv_bit ha, inv_bit (by decide), Nat.zero_testBit]
  by_cases h : i < 64
  · simp only [h, decide_true]; cases a.testBit i <;> rfl
  · simp only [h, decide_false, high_bit ha h]; rfl
theorem word8' {a : Nat} (ha : a < 18446744073709551616) : a &&& inv a = 0 := by
  apply Nat.eq_of_testBit_eq
  intro i
  rw [Nat.testBit_and, inv_bit ha, Nat.zero_testBit]
  cases decide (i < 64) <;> cases a.testBit i <;> rfl
theorem word10 (a b : Nat) : a &&& (a ||| b) = a := by
  apply Nat.eq_of_testBit_eq
  intro i
  rw [Nat.testBit_and, Nat.testBit_or]
  cases a.testBit i <;> cases b.testBit i <;> rfl
theorem bits_both (a b n : Nat) : bitsUpto (a ||| b) n + bitsUpto (a &&& b) n = bitsUpto a n + bitsUpto b n := by
  induction n with
  | zero => rfl
  | succ n ih =>
    unfold bitsUpto
    have h1 := Nat.toNat_testBit (a ||| b) n
    have h2 := Nat.toNat_testBit (a &&& b) n
    have h3 := Nat.toNat_testBit a n
    have h4 := Nat.toNat_testBit b n
    rw [Nat.testBit_or] at h1
    rw [Nat.testBit_and] at h2
    rw [← h1, ← h2, ← h3, ← h4]
    cases a.testBit n <;> cases b.testBit n <;> simp <;> omega
theorem pop_both (a b : Nat) : pop (a ||| b) + pop (a &&& b) = pop a + pop b := bits_both a b 64

theorem S4.same {s t : S4} (h0 : s.a0 = t.a0) (h1 : s.a1 = t.a1) (h2 : s.a2 = t.a2) (h3 : s.a3 = t.a3) : s = t := by
  obtain ⟨a0, a1, a2, a3⟩ := s
  obtain ⟨b0, b1, b2, b3⟩ := t
  simp only at h0 h1 h2 h3
  rw [h0, h1, h2, h3]
theorem alg1 (x y : OK) : ((x.or y).not).1 = ((x.not).and (y.not)).1 := S4.same (word1 x.2.1 y.2.1) (word1 x.2.2.1 y.2.2.1) (word1 x.2.2.2.1 y.2.2.2.1) (word1 x.2.2.2.2 y.2.2.2.2)
theorem alg2 (x y : OK) : ((x.and y).not).1 = ((x.not).or (y.not)).1 := S4.same (word2 x.2.1 y.2.1) (word2 x.2.2.1 y.2.2.1) (word2 x.2.2.2.1 y.2.2.2.1) (word2 x.2.2.2.2 y.2.2.2.2)
theorem alg3 (x : OK) : ((x.not).not).1 = x.1 := S4.same (word3 x.2.1) (word3 x.2.2.1) (word3 x.2.2.2.1) (word3 x.2.2.2.2)
theorem alg4 (x y : OK) : (x.or y).1 = (y.or x).1 := S4.same (Nat.or_comm x.1.a0 y.1.a0) (Nat.or_comm x.1.a1 y.1.a1) (Nat.or_comm x.1.a2 y.1.a2) (Nat.or_comm x.1.a3 y.1.a3)
theorem alg5 (x y z : OK) : (x.and (y.or z)).1 = ((x.and y).or (x.and z)).1 := S4.same (Nat.and_or_distrib_left x.1.a0 y.1.a0 z.1.a0) (Nat.and_or_distrib_left x.1.a1 y.1.a1 z.1.a1) (Nat.and_or_distrib_left x.1.a2 y.1.a2 z.1.a2) (Nat.and_or_distrib_left x.1.a3 y.1.a3 z.1.a3)
theorem alg6 (x y : OK) : (x.or (x.and y)).1 = x.1 := S4.same (word6 x.1.a0 y.1.a0) (word6 x.1.a1 y.1.a1) (word6 x.1.a2 y.1.a2) (word6 x.1.a3 y.1.a3)
theorem alg7 (x : OK) : (x.or (x.not)).1 = (OK.zero.not).1 := S4.same (word7 x.2.1) (word7 x.2.2.1) (word7 x.2.2.2.1) (word7 x.2.2.2.2)
theorem alg8 (x : OK) : (x.and (x.not)).1 = S4.zero := S4.same (word8' x.2.1) (word8' x.2.2.1) (word8' x.2.2.2.1) (word8' x.2.2.2.2)
theorem alg9 (x y : OK) : (x.or y).1.count + (x.and y).1.count = x.1.count + y.1.count := by
  have h0 := pop_both x.1.a0 y.1.a0
  have h1 := pop_both x.1.a1 y.1.a1
  have h2 := pop_both x.1.a2 y.1.a2
  have h3 := pop_both x.1.a3 y.1.a3
  show pop (x.1.a0 ||| y.1.a0) + pop (x.1.a1 ||| y.1.a1) + pop (x.1.a2 ||| y.1.a2) + pop (x.1.a3 ||| y.1.a3) + (pop (x.1.a0 &&& y.1.a0) + pop (x.1.a1 &&& y.1.a1) + pop (x.1.a2 &&& y.1.a2) + pop (x.1.a3 &&& y.1.a3)) = pop x.1.a0 + pop x.1.a1 + pop x.1.a2 + pop x.1.a3 + (pop y.1.a0 + pop y.1.a1 + pop y.1.a2 + pop y.1.a3)
  omega
theorem alg10 (x y : OK) : (x.and (x.or y)).1 = x.1 := S4.same (word10 x.1.a0 y.1.a0) (word10 x.1.a1 y.1.a1) (word10 x.1.a2 y.1.a2) (word10 x.1.a3 y.1.a3)
theorem alg11 (x y : OK) : (x.and y).1 = (y.and x).1 := S4.same (Nat.and_comm x.1.a0 y.1.a0) (Nat.and_comm x.1.a1 y.1.a1) (Nat.and_comm x.1.a2 y.1.a2) (Nat.and_comm x.1.a3 y.1.a3)
theorem alg12 (x : OK) : (x.and x).1 = x.1 := S4.same (Nat.and_self x.1.a0) (Nat.and_self x.1.a1) (Nat.and_self x.1.a2) (Nat.and_self x.1.a3)
theorem count_le (x : OK) : x.1.count ≤ 256 := by
  have h0 := pop_le x.1.a0
  have h1 := pop_le x.1.a1
  have h2 := pop_le x.1.a2
  have h3 := pop_le x.1.a3
  show pop x.1.a0 + pop x.1.a1 + pop x.1.a2 + pop x.1.a3 ≤ 256
  omega
theorem alg13 (x y : OK) : (decide ((x.and y).1 = x.1) && decide ((y.and x).1 = y.1)) = decide (x.1 = y.1) := by
  rw [Bool.eq_iff_iff]
  simp only [Bool.and_eq_true, decide_eq_true_eq]
  constructor
  · rintro ⟨h1, h2⟩
    rw [← h1, alg11, h2]
  · intro h
    obtain rfl : x = y := Subtype.ext h
    exact ⟨alg12 x, alg12 x⟩

end Go.Proofs.Ytboebjmfchbgbaa
