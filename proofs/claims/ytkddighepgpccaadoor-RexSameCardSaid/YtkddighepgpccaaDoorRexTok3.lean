/-
  Plain: a text's signs; Parse by the signs is Parse by the bytes.
-/
import Derived.Test.YtkddighepgpccaaDoorRexTok2
namespace Go.Proofs.YtkddighepgpccaaDoor
set_option linter.unusedSimpArgs false
set_option linter.unusedVariables false

/-- The signs l stand in r ahead of r'. -/
inductive Lx : List UInt8 → List Tok → List UInt8 → Prop where
  | nil (r : List UInt8) : Lx r [] r
  | cons {r r1 r2 : List UInt8} {t : Tok} {l : List Tok} : lex1 r = some (t, r1) → Lx r1 l r2 → Lx r (t :: l) r2
theorem Lx.append {r r1 r2 : List UInt8} {l1 l2 : List Tok} (h : Lx r l1 r1) (h2 : Lx r1 l2 r2) : Lx r (l1 ++ l2) r2 := by
  induction h with
  | nil => exact h2
  | cons hl _ ih => exact .cons hl (ih h2)
theorem Lx.split {r2 : List UInt8} {l1 l2 : List Tok} : ∀ {r : List UInt8}, Lx r (l1 ++ l2) r2 → ∃ r1, Lx r l1 r1 ∧ Lx r1 l2 r2 := by
  induction l1 with
  | nil => intro r h; exact ⟨r, .nil r, h⟩
  | cons t l1 ih =>
    intro r h
    cases h with
    | cons hl h =>
      obtain ⟨r1, h1, h2⟩ := ih h
      exact ⟨r1, .cons hl h1, h2⟩
theorem lex1_mark {r r' : List UInt8} {c : UInt8} (h : lex1 r = some (.mark c, r')) : r = c :: r' ∧ isMark c = true := by
  cases r with
  | nil => cases h
  | cons d r =>
    simp only [lex1] at h
    split at h
    · cases r with
      | nil => cases h
      | cons e r => simp at h
    · split at h
      · cases hp : pClass r with
        | none => rw [hp] at h; cases h
        | some x => rw [hp] at h; simp at h
      · split at h
        · simp at h
        · split at h
          · rename_i hm
            simp only [Option.some.injEq, Prod.mk.injEq, Tok.mark.injEq] at h
            obtain ⟨rfl, rfl⟩ := h
            exact ⟨rfl, hm⟩
          · simp at h
theorem Run_success : ∀ (n : Nat) (r : List UInt8) (g : Nat) (done cur : List T) (t : T) (r' : List UInt8) (g' : Nat), r.length ≤ n → Run r g done cur = some (t, r', g') →
    ∃ l, Lx r l r' ∧ G l g done cur t ∧ g' = g + opn l ∧ (r' = [] ∨ r'.head? = some 41) := by
  intro n
  induction n with
  | zero =>
    intro r g done cur t r' g' hn h
    obtain rfl : r = [] := List.eq_nil_of_length_eq_zero (by omega)
    rw [Run_nil] at h
    simp only [Option.some.injEq, Prod.mk.injEq] at h
    obtain ⟨rfl, rfl, rfl⟩ := h
    exact ⟨[], .nil _, G.nil _ _ _, rfl, .inl rfl⟩
  | succ n ih =>
    intro r g done cur t r' g' hn h
    by_cases h0 : r = []
    · subst h0
      rw [Run_nil] at h
      simp only [Option.some.injEq, Prod.mk.injEq] at h
      obtain ⟨rfl, rfl, rfl⟩ := h
      exact ⟨[], .nil _, G.nil _ _ _, rfl, .inl rfl⟩
    · cases hl : lex1 r with
      | none => rw [Run_none h0 hl] at h; cases h
      | some x =>
        obtain ⟨tk, r1⟩ := x
        have hlt := lex1_lt hl
        cases tk with
        | set S =>
          rw [Run_set hl] at h
          obtain ⟨l, h1, h2, h3, h4⟩ := ih r1 _ _ _ _ _ _ (by omega) h
          exact ⟨.set S :: l, .cons hl h1, G.set h2, by simpa [opn] using h3, h4⟩
        | mark c =>
          obtain ⟨hr, hm⟩ := lex1_mark hl
          by_cases c41 : c = 41
          · subst c41
            rw [Run_close hl] at h
            simp only [Option.some.injEq, Prod.mk.injEq] at h
            obtain ⟨rfl, rfl, rfl⟩ := h
            exact ⟨[], .nil _, G.nil _ _ _, rfl, .inr (by rw [hr]; rfl)⟩
          · by_cases c124 : c = 124
            · subst c124
              rw [Run_bar hl] at h
              obtain ⟨l, h1, h2, h3, h4⟩ := ih r1 _ _ _ _ _ _ (by omega) h
              exact ⟨.mark 124 :: l, .cons hl h1, G.bar h2, by simpa [opn] using h3, h4⟩
            · by_cases c94 : c = 94
              · subst c94
                rw [Run_begin hl] at h
                obtain ⟨l, h1, h2, h3, h4⟩ := ih r1 _ _ _ _ _ _ (by omega) h
                exact ⟨.mark 94 :: l, .cons hl h1, G.begin h2, by simpa [opn] using h3, h4⟩
              · by_cases c36 : c = 36
                · subst c36
                  rw [Run_end hl] at h
                  obtain ⟨l, h1, h2, h3, h4⟩ := ih r1 _ _ _ _ _ _ (by omega) h
                  exact ⟨.mark 36 :: l, .cons hl h1, G.stop h2, by simpa [opn] using h3, h4⟩
                · by_cases c40 : c = 40
                  · subst c40
                    cases h2 : Run r1 (g + 1) [] [] with
                    | none => rw [Run_open_none hl g h2] at h; cases h
                    | some y =>
                      obtain ⟨t1, r2, g2⟩ := y
                      by_cases hc : r2.head? = some 41
                      · cases r2 with
                        | nil => cases hc
                        | cons d r3 =>
                          simp at hc
                          subst hc
                          rw [Run_open hl g h2] at h
                          obtain ⟨l1, a1, a2, a3, a4⟩ := ih r1 _ _ _ _ _ _ (by omega) h2
                          have hr3 := run_rest _ _ _ _ _ _ _ _ h2
                          simp at hr3
                          obtain ⟨l2, b1, b2, b3, b4⟩ := ih r3 _ _ _ _ _ _ (by omega) h
                          have hl41 : lex1 (41 :: r3) = some (.mark 41, r3) := rfl
                          rw [a3] at b2
                          refine ⟨.mark 40 :: (l1 ++ .mark 41 :: l2), .cons hl (a1.append (.cons hl41 b1)), G.group a2 b2, ?_, b4⟩
                          simp only [opn, opn_append]
                          rw [if_pos trivial, if_neg (by decide)]
                          omega
                      · rw [Run_open_bad hl g h2 hc] at h; cases h
                  · have hop : isOp c = true := by simpa [isMark, c41, c124, c94, c36, c40] using hm
                    rcases List.eq_nil_or_concat cur with rfl | ⟨cur', x, rfl⟩
                    · rw [Run_op_none hop hl] at h; cases h
                    · rw [List.concat_eq_append] at h ⊢
                      rw [Run_op hop hl] at h
                      obtain ⟨l, h1, h2, h3, h4⟩ := ih r1 _ _ _ _ _ _ (by omega) h
                      exact ⟨.mark c :: l, .cons hl h1, G.op hop h2, by simpa [opn, c40] using h3, h4⟩
theorem Run_of_G {l : List Tok} {g : Nat} {done cur : List T} {t : T} (h : G l g done cur t) : ∀ (r r' : List UInt8), Lx r l r' → (r' = [] ∨ r'.head? = some 41) → Run r g done cur = some (t, r', g + opn l) := by
  induction h with
  | nil g done cur =>
    intro r r' hx hr
    cases hx
    rcases hr with rfl | hr
    · rw [Run_nil]; rfl
    · cases r with
      | nil => cases hr
      | cons d r =>
        simp at hr
        subst hr
        rw [Run_close (r' := r) (by rfl)]; rfl
  | bar _ ih =>
    intro r r' hx hr
    cases hx with
    | cons hl hx => rw [Run_bar hl, ih _ _ hx hr]; simp [opn]
  | set _ ih =>
    intro r r' hx hr
    cases hx with
    | cons hl hx => rw [Run_set hl, ih _ _ hx hr]; simp [opn]
  | begin _ ih =>
    intro r r' hx hr
    cases hx with
    | cons hl hx => rw [Run_begin hl, ih _ _ hx hr]; simp [opn]
  | stop _ ih =>
    intro r r' hx hr
    cases hx with
    | cons hl hx => rw [Run_end hl, ih _ _ hx hr]; simp [opn]
  | @op l g done cur t y c hc _ ih =>
    intro r r' hx hr
    have h40 : c ≠ 40 := by rintro rfl; exact absurd hc (by decide)
    cases hx with
    | cons hl hx => rw [Run_op hc hl, ih _ _ hx hr]; simp [opn, h40]
  | group _ _ ih1 ih2 =>
    intro r r' hx hr
    cases hx with
    | cons hl hx =>
      obtain ⟨r1, h1, h2⟩ := hx.split
      cases h2 with
      | cons hl2 h2 =>
        obtain ⟨e, _⟩ := lex1_mark hl2
        rw [e] at h1
        have h3 := ih1 _ _ h1 (.inr rfl)
        rw [Run_open hl _ h3, ih2 _ _ h2 hr]
        simp only [opn, opn_append]
        rw [if_pos trivial, if_neg (by decide)]
        congr 3
        omega
/-- All signs of a text. -/
def lexAll (r : List UInt8) : Option (List Tok) :=
  match h : lex1 r with
  | none => if r = [] then some [] else none
  | some (t, r') => (lexAll r').map (t :: ·)
termination_by r.length
decreasing_by exact lex1_lt h
theorem lexAll_Lx : ∀ (n : Nat) (r : List UInt8) (l : List Tok), r.length ≤ n → (lexAll r = some l ↔ Lx r l []) := by
  intro n
  induction n with
  | zero =>
    intro r l hn
    obtain rfl : r = [] := List.eq_nil_of_length_eq_zero (by omega)
    rw [lexAll]
    constructor
    · intro h
      have h : some [] = some l := by simpa [lex1] using h
      obtain rfl := Option.some.inj h
      exact .nil _
    · intro h
      cases h with
      | nil => simp [lex1]
      | cons hl _ => cases hl
  | succ n ih =>
    intro r l hn
    rw [lexAll]
    constructor
    · intro h
      split at h
      · split at h
        · rename_i h0
          subst h0
          obtain rfl := Option.some.inj h
          exact .nil _
        · cases h
      · rename_i t r1 hl
        have hlt := lex1_lt hl
        cases hr : lexAll r1 with
        | none => rw [hr] at h; cases h
        | some l1 =>
          rw [hr] at h
          obtain rfl := Option.some.inj h
          exact .cons hl ((ih r1 l1 (by omega)).1 hr)
    · intro h
      cases h with
      | nil =>
        split
        · simp
        · rename_i e; cases e
      | @cons _ r1 _ t l1 hl h =>
        have hlt := lex1_lt hl
        split
        · rename_i e; rw [hl] at e; cases e
        · rename_i t' r1' e
          rw [hl] at e
          simp only [Option.some.injEq, Prod.mk.injEq] at e
          obtain ⟨rfl, rfl⟩ := e
          rw [(ih r1 l1 (by omega)).2 h]
          rfl
/-- What the reference gives of a text of bytes. -/
def refP (r : List UInt8) : Option (T × Nat) :=
  match lexAll r with
  | none => none
  | some l => (RefE l 0).map fun t => (t, opn l)
theorem refP_run (r : List UInt8) : (match Run r 0 [] [] with | some (t, r', g) => if r' = [] then some (t, g) else none | none => none) = refP r := by
  unfold refP
  cases hl : lexAll r with
  | none =>
    cases hr : Run r 0 [] [] with
    | none => rfl
    | some x =>
      obtain ⟨t, r', g⟩ := x
      simp only
      by_cases h0 : r' = []
      · subst h0
        obtain ⟨l, h1, _⟩ := Run_success r.length r 0 [] [] t [] g (Nat.le_refl _) hr
        rw [(lexAll_Lx r.length r l (Nat.le_refl _)).2 h1] at hl
        cases hl
      · rw [if_neg h0]
  | some l =>
    have hx := (lexAll_Lx r.length r l (Nat.le_refl _)).1 hl
    simp only
    cases he : RefE l 0 with
    | some t =>
      have hg := RefE_sound l.length l 0 t (Nat.le_refl _) he
      rw [Run_of_G hg r [] hx (.inl rfl)]
      simp
    | none =>
      cases hr : Run r 0 [] [] with
      | none => rfl
      | some x =>
        obtain ⟨t, r', g⟩ := x
        simp only
        by_cases h0 : r' = []
        · subst h0
          obtain ⟨l2, h1, h2, _⟩ := Run_success r.length r 0 [] [] t [] g (Nat.le_refl _) hr
          have h3 := (lexAll_Lx r.length r l2 (Nat.le_refl _)).2 h1
          rw [hl] at h3
          obtain rfl := Option.some.inj h3
          rw [RefE_complete h2] at he
          cases he
        · rw [if_neg h0]; rfl

end Go.Proofs.YtkddighepgpccaaDoor
