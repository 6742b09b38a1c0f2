/-
  The reference's signs in memory: five cells each; parts of a row of signs.
-/
import Derived.Test.YtkddighepgpccaaDoorRexT
import Derived.Test.YtkddighepgpccaaDoorRexTok3
namespace Go.Proofs.YtkddighepgpccaaDoor
open Go Go.RowKit
set_option linter.unusedSimpArgs false
set_option linter.unusedVariables false

theorem addr_off (g o k : Nat) : (⟨g, o, none⟩ : Addr).add k = ⟨g, o + k, none⟩ := by unfold Addr.add; split <;> simp_all
def tokC : Tok → Array Value
  | .mark c => #[.int .u8 (c.toNat : Int), .int .u64 0, .int .u64 0, .int .u64 0, .int .u64 0]
  | .set S => #[.int .u8 0, .int .u64 (S.a0 : Int), .int .u64 (S.a1 : Int), .int .u64 (S.a2 : Int), .int .u64 (S.a3 : Int)]
def sCells : List Tok → List Value
  | [] => []
  | t :: l => (tokC t).toList ++ sCells l
theorem tokC_size (t : Tok) : (tokC t).size = 5 := by cases t <;> rfl
theorem tokC_one (t : Tok) : ∀ u ∈ (tokC t).toList, u.oneCell' = true := by cases t <;> (intro u hu; simp [tokC] at hu; rcases hu with rfl | rfl | rfl | rfl | rfl <;> rfl)
theorem sCells_append : ∀ (a b : List Tok), sCells (a ++ b) = sCells a ++ sCells b
  | [], b => rfl
  | t :: a, b => by simp only [List.cons_append, sCells, sCells_append a b, List.append_assoc]
theorem sCells_length : ∀ (l : List Tok), (sCells l).length = 5 * l.length
  | [] => rfl
  | t :: l => by
    simp only [sCells, List.length_append, sCells_length l, List.length_cons]
    have := tokC_size t
    simp only [← Array.size_eq_length_toList] at *
    rw [Array.length_toList] at *
    omega
theorem sCells_at : ∀ (l : List Tok) (i : Nat) (t : Tok) (k : Nat) (v : Value), l[i]? = some t → (tokC t).toList[k]? = some v → (sCells l)[5 * i + k]? = some v
  | [], i, t, k, v, h, hk => by cases h
  | x :: l, 0, t, k, v, h, hk => by
    simp at h
    subst h
    have hl : k < (tokC x).toList.length := (List.getElem?_eq_some_iff.1 hk).1
    simp only [sCells, Nat.mul_zero, Nat.zero_add]
    rw [List.getElem?_append_left hl]; exact hk
  | x :: l, i + 1, t, k, v, h, hk => by
    have hs : (tokC x).toList.length = 5 := by rw [Array.length_toList]; exact tokC_size x
    simp only [sCells]
    rw [List.getElem?_append_right (by omega), hs, show 5 * (i + 1) + k - 5 = 5 * i + k by omega]
    exact sCells_at l i t k v (by simpa using h) hk
/-- A slice that reads as the signs l. -/
structure Signs (w : World) (A : Option Addr) (n c : Nat) (l : List Tok) : Prop where
  len : l.length = n
  max : n ≤ 1000
  cap : n ≤ c
  at_ : ∃ g o, A = some ⟨g, o, none⟩ ∧ ∀ i t, l[i]? = some t → ∀ k v, (tokC t).toList[k]? = some v → w.cell? ⟨g, o + (5 * i + k), none⟩ = some v
theorem Signs.later {w w' : World} {A : Option Addr} {n c : Nat} {l : List Tok} (h : Signs w A n c l) (hb : Below w.heap.size w w') : Signs w' A n c l :=
  ⟨h.len, h.max, h.cap, by
    obtain ⟨g, o, e, hc⟩ := h.at_
    exact ⟨g, o, e, fun i t hi k v hk => cell_later hb (hc i t hi k v hk)⟩⟩
theorem Signs.of_own {w : World} {B : Nat} {e : TypeId} {g c n : Nat} {l : List Tok} (h : w.ownsRow B e 5 (.slice (some ⟨g, 0, none⟩) n c) n (sCells l)) (hl : l.length = n) (hn : n ≤ 1000) : Signs w (some ⟨g, 0, none⟩) n c l :=
  ⟨hl, hn, by
    rcases h.2 with ⟨h1, _⟩ | ⟨g', cap, cur, hv, h3, h4, h5, _⟩
    · cases h1
    · injection hv with _ _ hv
      omega, ⟨g, 0, rfl, fun i t hi k v hk => by
    have := h.cells (g := g) rfl (5 * i + k) v (sCells_at l i t k v hi hk)
    rw [addr_off] at this
    exact this⟩⟩
/-- A part of a row of signs: what a slice expression makes of it. -/
theorem Signs.part {w : World} {A : Option Addr} {n c : Nat} {l : List Tok} (h : Signs w A n c l) (a b : Nat) (hab : a ≤ b) (hb : b ≤ n) :
    Signs w (if c = a then A else A.map (·.add (a * 5))) (b - a) (c - a) ((l.take b).drop a) := by
  have hl := h.len
  have hm := h.max
  have hc := h.cap
  refine ⟨by simp [hl]; omega, by omega, by omega, ?_⟩
  obtain ⟨g, o, rfl, hx⟩ := h.at_
  by_cases e : c = a
  · rw [if_pos e]
    refine ⟨g, o, rfl, fun i t hi => ?_⟩
    have : (l.take b).drop a = [] := by apply List.drop_eq_nil_of_le; simp; omega
    rw [this] at hi
    simp at hi
  · rw [if_neg e]
    refine ⟨g, o + a * 5, by simp [addr_off], fun i t hi k v hk => ?_⟩
    rw [List.getElem?_drop, List.getElem?_take] at hi
    split at hi
    · have := hx (a + i) t hi k v hk
      rw [show o + a * 5 + (5 * i + k) = o + (5 * (a + i) + k) by omega]
      exact this
    · cases hi
theorem Signs.cast {w : World} {A A' : Option Addr} {n n' c c' : Nat} {l l' : List Tok} (h : Signs w A n c l) (h1 : A' = A) (h2 : n' = n) (h3 : c' = c) (h4 : l' = l) : Signs w A' n' c' l' := by
  subst h1 h2 h3 h4; exact h
theorem Signs.cell {w : World} {A : Option Addr} {n c : Nat} {l : List Tok} (h : Signs w A n c l) : ∃ g o, A = some ⟨g, o, none⟩ ∧ ∀ i t, l[i]? = some t → ∀ k v, (tokC t).toList[k]? = some v → w.cell? ⟨g, o + (5 * i + k), none⟩ = some v := h.at_

end Go.Proofs.YtkddighepgpccaaDoor
