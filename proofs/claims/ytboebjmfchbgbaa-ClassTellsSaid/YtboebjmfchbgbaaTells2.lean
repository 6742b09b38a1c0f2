/-
  Plain: what two sets make together, byte by byte.
-/
import Derived.Test.YtboebjmfchbgbaaTells
import Derived.Test.YtboebjmfchbgbaaAlgebra
namespace Go.Proofs.Ytboebjmfchbgbaa
open Go Go.RowKit
set_option linter.unusedSimpArgs false
set_option linter.unusedVariables false

theorem at_or (x y : S4) (i : Nat) : (x.or y).at i = x.at i ||| y.at i := by unfold S4.at S4.or; by_cases h0 : i = 0 <;> by_cases h1 : i = 1 <;> by_cases h2 : i = 2 <;> simp [h0, h1, h2]
theorem at_and (x y : S4) (i : Nat) : (x.and y).at i = x.at i &&& y.at i := by unfold S4.at S4.and; by_cases h0 : i = 0 <;> by_cases h1 : i = 1 <;> by_cases h2 : i = 2 <;> simp [h0, h1, h2]
theorem at_not (x : S4) (i : Nat) : x.not.at i = inv (x.at i) := by unfold S4.at S4.not; by_cases h0 : i = 0 <;> by_cases h1 : i = 1 <;> by_cases h2 : i = 2 <;> simp [h0, h1, h2]
theorem has_or (x y : OK) (b : Nat) : (x.or y).1.has b = (x.1.has b || y.1.has b) := by
  show ((x.1.or y.1).at (b / 64)).testBit (b % 64) = _
  rw [at_or, Nat.testBit_or]; rfl
theorem has_and (x y : OK) (b : Nat) : (x.and y).1.has b = (x.1.has b && y.1.has b) := by
  show ((x.1.and y.1).at (b / 64)).testBit (b % 64) = _
  rw [at_and, Nat.testBit_and]; rfl
theorem has_not (x : OK) (b : Nat) : x.not.1.has b = !x.1.has b := by
  show (x.1.not.at (b / 64)).testBit (b % 64) = _
  rw [at_not, inv_bit (S4.at_ok x.2 _)]
  have : b % 64 < 64 := by omega
  rw [decide_eq_true this]; rfl

theorem bytes_step (s : S4) (k : Nat) : (bytesN s (k + 1)).length = (bytesN s k).length + (s.has k).toNat := by
  show (bytesN s k ++ if s.has k = true then [k] else []).length = _
  rw [List.length_append]
  cases s.has k <;> rfl
theorem bytes_word (s : S4) (i : Nat) : ∀ r, r ≤ 64 → (bytesN s (64 * i + r)).length = (bytesN s (64 * i)).length + bitsUpto (s.at i) r
  | 0, _ => rfl
  | r + 1, h => by
    have ih := bytes_word s i r (by omega)
    rw [show 64 * i + (r + 1) = (64 * i + r) + 1 by omega, bytes_step, ih]
    show _ = _ + (bitsUpto (s.at i) r + s.at i / 2 ^ r % 2)
    unfold S4.has
    rw [show (64 * i + r) / 64 = i by omega, show (64 * i + r) % 64 = r by omega, Nat.toNat_testBit]
    omega
theorem bytes_count (s : S4) : (bytesN s 256).length = s.count := by
  have h0 := bytes_word s 0 64 (by omega)
  have h1 := bytes_word s 1 64 (by omega)
  have h2 := bytes_word s 2 64 (by omega)
  have h3 := bytes_word s 3 64 (by omega)
  have e0 : (bytesN s (64 * 0)).length = 0 := rfl
  rw [e0] at h0
  have w0 : bitsUpto (s.at 0) 64 = pop s.a0 := rfl
  have w1 : bitsUpto (s.at 1) 64 = pop s.a1 := rfl
  have w2 : bitsUpto (s.at 2) 64 = pop s.a2 := rfl
  have w3 : bitsUpto (s.at 3) 64 = pop s.a3 := rfl
  rw [w0] at h0
  rw [w1] at h1
  rw [w2] at h2
  rw [w3] at h3
  show (bytesN s (64 * 3 + 64)).length = pop s.a0 + pop s.a1 + pop s.a2 + pop s.a3
  rw [h3, show 64 * 3 = 64 * 2 + 64 from rfl, h2, show 64 * 2 = 64 * 1 + 64 from rfl, h1, show 64 * 1 = 64 * 0 + 64 from rfl, h0]
  omega
theorem bytes_at (s : S4) {k : Nat} (hk : s.has k = true) : ∀ n, k < n → (bytesN s n)[(bytesN s k).length]? = some k
  | 0, h => by omega
  | n + 1, h => by
    show (bytesN s n ++ if s.has n = true then [n] else [])[(bytesN s k).length]? = some k
    by_cases hkn : k = n
    · subst hkn
      rw [if_pos hk, List.getElem?_append_right (Nat.le_refl _), Nat.sub_self]; rfl
    · have ih := bytes_at s hk n (by omega)
      have hl := (List.getElem?_eq_some_iff.1 ih).1
      rw [List.getElem?_append_left hl]; exact ih
theorem bytes_none {s : OK} (h : (bytesN s.1 256).length = 0) : s.1 = S4.zero := by
  refine set_ext s.2 S4.zero_ok (fun b hb => ?_)
  rw [has_zero]
  cases hh : s.1.has b with
  | false => rfl
  | true =>
    have := (List.getElem?_eq_some_iff.1 (bytes_at s.1 hh 256 hb)).1
    omega
theorem zero_none : (bytesN S4.zero 256).length = 0 := by rw [bytes_count]; decide +kernel
/-- All bytes below k that are in x are in y. -/
def wB (x y : OK) : Nat → Bool
  | 0 => true
  | k + 1 => wB x y k && (!x.1.has k || y.1.has k)
theorem wB_all (x y : OK) (n : Nat) : wB x y n = true ↔ ∀ b, b < n → x.1.has b = true → y.1.has b = true := by
  induction n with
  | zero => simp [wB]
  | succ n ih =>
    unfold wB
    rw [Bool.and_eq_true, ih]
    constructor
    · rintro ⟨h1, h2⟩ b hb hx
      by_cases hbn : b = n
      · subst hbn; rw [hx] at h2; simpa using h2
      · exact h1 b (by omega) hx
    · intro h
      refine ⟨fun b hb hx => h b (by omega) hx, ?_⟩
      cases hx : x.1.has n with
      | false => rfl
      | true => simp [h n (by omega) hx]
theorem wB_within (x y : OK) : decide ((x.and y).1 = x.1) = wB x y 256 := by
  rw [Bool.eq_iff_iff, wB_all, decide_eq_true_eq]
  constructor
  · intro h b hb hx
    have := has_and x y b
    rw [h, hx] at this
    simpa using this.symm
  · intro h
    refine set_ext (x.and y).2 x.2 (fun b hb => ?_)
    rw [has_and]
    cases hx : x.1.has b with
    | false => rfl
    | true => rw [h b hb hx]; rfl
theorem byts_of {B : Nat} {l : List Nat} {v : Value} {w : World} (h : BRow B l v w) : ∃ A c, v = .slice A l.length c ∧ Byts w A l.length c (l.map fun n : Nat => (n : Int)) := by
  rcases h.2 with ⟨rfl, h0⟩ | ⟨g, cap, cur, rfl, h3, h4, h5, h6, h7⟩
  · exact ⟨none, 0, by rw [h0], ⟨by simp, by omega, (fun _ => ⟨h0, rfl⟩), (fun a ha => by cases ha)⟩⟩
  · refine ⟨some ⟨g, 0, none⟩, cap, rfl, ⟨by simp, (by simp only [maxLen] at h6; omega), (fun ha => by cases ha), fun a ha j x hj => ?_⟩⟩
    injection ha with ha
    subst ha
    rw [List.getElem?_map] at hj
    cases hy : l[j]? with
    | none => rw [hy] at hj; simp at hj
    | some y =>
      rw [hy] at hj
      simp at hj
      subst hj
      exact h.cells (g := g) rfl j (.int .u8 (y : Int)) (by rw [bvals, List.getElem?_map, hy]; rfl)

end Go.Proofs.Ytboebjmfchbgbaa
