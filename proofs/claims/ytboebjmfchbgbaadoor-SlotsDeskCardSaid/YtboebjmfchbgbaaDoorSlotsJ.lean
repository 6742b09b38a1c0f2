/-
  Plain: what holds of free slots and taken ones, in every order of takes and gives.
-/
import Derived.Test.YtboebjmfchbgbaaDoorSlots
namespace Go.Proofs.YtboebjmfchbgbaaDoor
set_option linter.unusedSimpArgs false
set_option linter.unusedVariables false

structure J (l : List Int) (tk : List Bool) (M : Nat) : Prop where
  len : tk.length = 8
  le : M ≤ 8
  nodup : l.Nodup
  mem : ∀ x ∈ l, ∃ j : Nat, x = (j : Int) ∧ j < M ∧ tk[j]? = some false
  out : ∀ j, M ≤ j → j < 8 → tk[j]? = some false
  sum : l.length + tk.count true = M

theorem J.start {M : Nat} (h1 : 1 ≤ M) (h8 : M ≤ 8) : J (upto M) noTk M := by
  have : M = 1 ∨ M = 2 ∨ M = 3 ∨ M = 4 ∨ M = 5 ∨ M = 6 ∨ M = 7 ∨ M = 8 := by omega
  refine ⟨rfl, h8, ?_, ?_, ?_, ?_⟩
  · rcases this with rfl | rfl | rfl | rfl | rfl | rfl | rfl | rfl <;> decide
  · have hu : ∀ n, n ≤ M → ∀ x ∈ upto n, ∃ j : Nat, x = (j : Int) ∧ j < M ∧ noTk[j]? = some false := by
      intro n
      induction n with
      | zero => intro _ x hx; simp [upto] at hx
      | succ n ih =>
        intro hn x hx
        rcases List.mem_append.1 hx with hx | hx
        · exact ih (by omega) x hx
        · simp at hx
          refine ⟨n, hx, by omega, ?_⟩
          have : n = 0 ∨ n = 1 ∨ n = 2 ∨ n = 3 ∨ n = 4 ∨ n = 5 ∨ n = 6 ∨ n = 7 := by omega
          rcases this with rfl | rfl | rfl | rfl | rfl | rfl | rfl | rfl <;> rfl
    exact hu M (Nat.le_refl _)
  · intro n _ hn
    have : n = 0 ∨ n = 1 ∨ n = 2 ∨ n = 3 ∨ n = 4 ∨ n = 5 ∨ n = 6 ∨ n = 7 := by omega
    rcases this with rfl | rfl | rfl | rfl | rfl | rfl | rfl | rfl <;> rfl
  · rw [upto_length, show noTk.count true = 0 by decide]; rfl

theorem count_set_true {tk : List Bool} {j : Nat} (h : tk[j]? = some false) : (tk.set j true).count true = tk.count true + 1 := by
  induction tk generalizing j with
  | nil => simp at h
  | cons b tk ih =>
    cases j with
    | zero => simp at h; subst h; simp
    | succ j => simp at h; simp [ih h, List.count_cons]; omega
theorem count_set_false {tk : List Bool} {j : Nat} (h : tk[j]? = some true) : (tk.set j false).count true + 1 = tk.count true := by
  induction tk generalizing j with
  | nil => simp at h
  | cons b tk ih =>
    cases j with
    | zero => simp at h; subst h; simp
    | succ j => simp at h; have := ih h; simp [List.count_cons]; omega
theorem J.take {x : Int} {l : List Int} {tk : List Bool} {M : Nat} (h : J (x :: l) tk M) : ∃ j : Nat, x = (j : Int) ∧ j < M ∧ tk[j]? = some false ∧ J l (tk.set j true) M := by
  obtain ⟨j, hx, hj, hf⟩ := h.mem x (List.mem_cons_self ..)
  have hnd := h.nodup
  rw [List.nodup_cons] at hnd
  refine ⟨j, hx, hj, hf, by rw [List.length_set]; exact h.len, h.le, hnd.2, fun y hy => ?_, fun i h1 h2 => ?_, ?_⟩
  · obtain ⟨i, hy', hi, hfi⟩ := h.mem y (List.mem_cons_of_mem _ hy)
    refine ⟨i, hy', hi, ?_⟩
    have : j ≠ i := by rintro rfl; rw [hx, ← hy'] at hnd; exact hnd.1 hy
    rw [List.getElem?_set_ne this]; exact hfi
  · rw [List.getElem?_set_ne (by omega)]; exact h.out i h1 h2
  · have := h.sum
    rw [count_set_true hf]
    simp at this; omega
theorem J.give {l : List Int} {tk : List Bool} {M j : Nat} (h : J l tk M) (hj : j < M) (ht : tk[j]? = some true) : l.length < M ∧ J (l ++ [(j : Int)]) (tk.set j false) M := by
  have hc := count_set_false ht
  have hs := h.sum
  have hjl := (List.getElem?_eq_some_iff.1 ht).1
  refine ⟨by omega, by rw [List.length_set]; exact h.len, h.le, ?_, fun y hy => ?_, fun i h1 h2 => ?_, ?_⟩
  · rw [List.nodup_append]
    refine ⟨h.nodup, by simp, ?_⟩
    rintro a ha b hb rfl
    simp at hb
    obtain ⟨i, hi, _, hf⟩ := h.mem a ha
    have : i = j := by omega
    subst this
    rw [ht] at hf; cases hf
  · rcases List.mem_append.1 hy with hy | hy
    · obtain ⟨i, hy', hi, hfi⟩ := h.mem y hy
      refine ⟨i, hy', hi, ?_⟩
      have : j ≠ i := by rintro rfl; rw [ht] at hfi; cases hfi
      rw [List.getElem?_set_ne this]; exact hfi
    · simp at hy
      exact ⟨j, hy, hj, by rw [List.getElem?_set_self hjl]⟩
  · rw [List.getElem?_set_ne (by omega)]; exact h.out i h1 h2
  · rw [List.length_append]; simp; omega

def freeN (tk : List Bool) (k : Nat) : Nat := (tk.take k).count false
theorem freeN_succ {tk : List Bool} {k : Nat} {b : Bool} (h : tk[k]? = some b) : freeN tk (k + 1) = if b = true then freeN tk k else freeN tk k + 1 := by
  unfold freeN
  rw [List.take_add_one, h, List.count_append]
  cases b <;> simp
theorem freeN_le (tk : List Bool) (k : Nat) : freeN tk k ≤ k := by
  unfold freeN
  exact Nat.le_trans List.count_le_length (by rw [List.length_take]; omega)
theorem count_both (l : List Bool) : l.count true + l.count false = l.length := by
  induction l with
  | nil => rfl
  | cons b l ih => cases b <;> simp <;> omega
theorem J.free {l : List Int} {tk : List Bool} {M : Nat} (h : J l tk M) : freeN tk M = l.length := by
  have h1 : (tk.drop M).count true = 0 := by
    rw [List.count_eq_zero]
    intro hm
    obtain ⟨i, hi⟩ := List.getElem?_of_mem hm
    rw [List.getElem?_drop] at hi
    have hlt := (List.getElem?_eq_some_iff.1 hi).1
    rw [h.len] at hlt
    rw [h.out (M + i) (by omega) hlt] at hi
    cases hi
  have h2 : tk.count true = (tk.take M).count true + (tk.drop M).count true := by
    rw [← List.count_append, List.take_append_drop]
  have h3 := count_both (tk.take M)
  rw [List.length_take, h.len] at h3
  have hs := h.sum
  have hl := h.le
  unfold freeN
  omega
theorem tkL_count {tk : List Bool} (h : tk.length = 8) : (tkL tk 8).length = tk.count true := by
  obtain ⟨b0, b1, b2, b3, b4, b5, b6, b7, rfl⟩ := eight tk h
  simp only [tkL, List.length_append, List.getD_cons_zero, List.getD_cons_succ, List.count_cons, List.count_nil, List.length_nil]
  cases b0 <;> cases b1 <;> cases b2 <;> cases b3 <;> cases b4 <;> cases b5 <;> cases b6 <;> cases b7 <;> rfl

end Go.Proofs.YtboebjmfchbgbaaDoor
