/-
  Plain: how great a parsed tree is at most.
-/
import Derived.Test.YtkddighepgpccaaDoorRexQ
import Derived.Test.YtkddighepgpccaaDoorRexTok3
namespace Go.Proofs.YtkddighepgpccaaDoor
set_option linter.unusedSimpArgs false
set_option linter.unusedVariables false

theorem sizeL_app : ∀ (a b : List T), sizeL (a ++ b) = sizeL a + sizeL b
  | [], b => by simp [sizeL]
  | t :: a, b => by simp only [List.cons_append, sizeL, sizeL_app a b]; omega
theorem sizeT_join (k : Nat) (l : List T) : sizeT (joinT k l) ≤ 1 + sizeL l := by
  match l with
  | [] => simp [joinT, sizeT, sizeL]
  | [t] => simp [joinT, sizeL]
  | a :: b :: l => simp [joinT, sizeT]
theorem sizeL_one (t : T) : sizeL [t] = sizeT t := by simp [sizeL]
theorem sizeT_mk (k i : Nat) (s : S4) (t : T) : sizeT (.mk k i s [t]) = 1 + sizeT t := by simp [sizeT, sizeL]
theorem sizeT_leaf (k : Nat) (s : S4) : sizeT (leaf k s) = 1 := by simp [leaf, sizeT, sizeL]
theorem G_size {l : List Tok} {g : Nat} {done cur : List T} {t : T} (h : G l g done cur t) : sizeT t ≤ sizeL done + sizeL cur + 2 + 4 * l.length := by
  induction h with
  | nil g done cur =>
    unfold finT
    have h1 := sizeT_join 3 (done ++ [joinT 2 cur])
    have h2 := sizeT_join 2 cur
    rw [sizeL_app, sizeL_one] at h1
    omega
  | @bar l g done cur t _ ih =>
    rw [sizeL_app, sizeL_one] at ih
    have h2 := sizeT_join 2 cur
    simp only [sizeL, List.length_cons] at ih ⊢
    omega
  | set _ ih =>
    rw [sizeL_app, sizeL_one, sizeT_leaf] at ih
    simp only [List.length_cons] at ih ⊢
    omega
  | begin _ ih =>
    rw [sizeL_app, sizeL_one, sizeT_leaf] at ih
    simp only [List.length_cons] at ih ⊢
    omega
  | stop _ ih =>
    rw [sizeL_app, sizeL_one, sizeT_leaf] at ih
    simp only [List.length_cons] at ih ⊢
    omega
  | op _ _ ih =>
    rw [sizeL_app, sizeL_one, sizeT_mk] at ih
    rw [sizeL_app, sizeL_one]
    simp only [List.length_cons] at ih ⊢
    omega
  | group _ _ ih1 ih2 =>
    rw [sizeL_app, sizeL_one, sizeT_mk] at ih2
    simp only [sizeL] at ih1
    simp only [List.length_cons, List.length_append] at ih1 ih2 ⊢
    omega
theorem Lx_length {r r' : List UInt8} {l : List Tok} (h : Lx r l r') : l.length + r'.length ≤ r.length := by
  induction h with
  | nil => simp
  | cons hl _ ih =>
    have := lex1_lt hl
    simp only [List.length_cons]
    omega
theorem prs_size (s : ByteArray) : sizeT (prs s).2 ≤ 300 := by
  unfold prs
  split
  · simp [zeroT, sizeT, sizeL]
  · rename_i h60
    split
    · rename_i t r g hr
      split
      · split
        · simp [zeroT, sizeT, sizeL]
        · rename_i hr0 hg
          obtain ⟨l, h1, h2, _⟩ := Run_success (rem s 0).length (rem s 0) 0 [] [] t r g (Nat.le_refl _) hr
          have h3 := G_size h2
          have h4 := Lx_length h1
          rw [rem_length] at h4
          simp only [sizeL] at h3
          show sizeT t ≤ 300
          omega
      · simp [zeroT, sizeT, sizeL]
    · simp [zeroT, sizeT, sizeL]
theorem prs_num (s : ByteArray) : (prs s).1 = 0 ∨ (prs s).1 = 2 ∨ (prs s).1 = 6 ∨ (prs s).1 = 10 := by
  unfold prs
  split
  · exact .inr (.inl rfl)
  · split
    · split
      · split
        · exact .inr (.inr (.inr rfl))
        · exact .inl rfl
      · exact .inr (.inr (.inl rfl))
    · exact .inr (.inr (.inl rfl))

end Go.Proofs.YtkddighepgpccaaDoor
