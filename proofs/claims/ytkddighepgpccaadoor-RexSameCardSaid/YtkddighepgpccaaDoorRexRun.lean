/-
  Plain: expressions as trees, read off a text's bytes from left to right.
-/
import Derived.Test.YtkddighepgpccaaDoorSetOf
namespace Go.Proofs.YtkddighepgpccaaDoor
set_option linter.unusedSimpArgs false
set_option linter.unusedVariables false

/-- A node: its kind, its index, its set, its parts. -/
inductive T where
  | mk (kind index : Nat) (set : S4) (kids : List T)
instance : Inhabited T := ⟨.mk 0 0 S4.zero []⟩
/-- Nodes as one of a kind. -/
def joinT (kind : Nat) : List T → T
  | [] => .mk 0 0 S4.zero []
  | [t] => t
  | l => .mk kind 0 S4.zero l
def leaf (kind : Nat) (s : S4) : T := .mk kind 0 s []
def single (c : UInt8) : S4 := S4.zero.with c.toNat
def notLF : S4 := (S4.zero.with 10).not

/-- A byte of a class, with or without a backslash. -/
def memberL : List UInt8 → Option (UInt8 × List UInt8)
  | [] => none
  | c :: r => if c = 92 then (match r with | [] => none | d :: r' => some (d, r')) else some (c, r)
theorem memberL_lt {r r' : List UInt8} {c : UInt8} (h : memberL r = some (c, r')) : r'.length < r.length := by
  cases r with
  | nil => cases h
  | cons d r =>
    simp only [memberL] at h
    split at h
    · cases r with
      | nil => cases h
      | cons e r2 => simp only [Option.some.injEq, Prod.mk.injEq] at h; rw [← h.2]; simp only [List.length_cons]; omega
    · simp only [Option.some.injEq, Prod.mk.injEq] at h; rw [← h.2]; simp only [List.length_cons]; omega
/-- A span's sign, and behind it neither the end nor the closing bracket. -/
def spansL : List UInt8 → Bool
  | c :: d :: _ => c == 45 && d != 93
  | _ => false
theorem spansL_cons {r : List UInt8} (h : spansL r = true) : ∃ d r', r = 45 :: d :: r' ∧ d ≠ 93 := by
  match r, h with
  | c :: d :: r', h =>
    unfold spansL at h
    simp at h
    exact ⟨d, r', by rw [h.1], h.2⟩
/-- The span from low to high. -/
def spanS (low high : UInt8) : S4 := spanN low.toNat (high.toNat + 1 - low.toNat)
/-- The members of a class, to its closing bracket. -/
def pSet (first : Bool) (r : List UInt8) (S : S4) : Option (S4 × List UInt8) :=
  match hr : memberL r with
  | none => none
  | some (low, r1) =>
    if r.head? = some 93 then (if first then none else some (S, r.tail))
    else if spansL r1 then
      match hr2 : memberL r1.tail with
      | none => none
      | some (high, r2) => if high < low then none else pSet false r2 (S.or (spanS low high))
    else pSet false r1 (S.or (spanS low low))
termination_by r.length
decreasing_by
  · have h1 := memberL_lt hr
    have h2 := memberL_lt hr2
    have : r1.tail.length ≤ r1.length := by simp
    omega
  · exact memberL_lt hr
def pClass (r : List UInt8) : Option (S4 × List UInt8) :=
  if r.head? = some 94 then (pSet true r.tail S4.zero).map (fun x => (x.1.not, x.2)) else pSet true r S4.zero

inductive Tok where
  | mark (c : UInt8)
  | set (s : S4)
def isOp (c : UInt8) : Bool := c == 42 || c == 43 || c == 63
def isMark (c : UInt8) : Bool := c == 40 || c == 41 || c == 124 || isOp c || c == 94 || c == 36
/-- The sign at a text's head. -/
def lex1 : List UInt8 → Option (Tok × List UInt8)
  | [] => none
  | c :: r =>
    if c = 92 then (match r with | [] => none | d :: r' => some (.set (single d), r'))
    else if c = 91 then (pClass r).map (fun x => (.set x.1, x.2))
    else if c = 46 then some (.set notLF, r)
    else if isMark c then some (.mark c, r)
    else some (.set (single c), r)
def opKind (c : UInt8) : Nat := if c = 42 then 4 else if c = 43 then 5 else 6
def finT (done cur : List T) : T := joinT 3 (done ++ [joinT 2 cur])
/-- What is left of an expression: 'done' are its branches, 'cur' are the items of the branch at hand. -/
def run : Nat → List UInt8 → Nat → List T → List T → Option (T × List UInt8 × Nat)
  | 0, _, _, _, _ => none
  | f + 1, r, g, done, cur =>
    if r = [] then some (finT done cur, [], g)
    else match lex1 r with
      | none => none
      | some (.set S, r') => run f r' g done (cur ++ [leaf 1 S])
      | some (.mark c, r') =>
        if c = 41 then some (finT done cur, r, g)
        else if c = 124 then run f r' g (done ++ [joinT 2 cur]) []
        else if c = 94 then run f r' g done (cur ++ [leaf 8 S4.zero])
        else if c = 36 then run f r' g done (cur ++ [leaf 9 S4.zero])
        else if c = 40 then
          match run f r' (g + 1) [] [] with
          | some (t, r2, g2) => if r2.head? = some 41 then run f r2.tail g2 done (cur ++ [.mk 7 (g + 1) S4.zero [t]]) else none
          | none => none
        else match cur.getLast? with
          | none => none
          | some x => run f r' g done (cur.dropLast ++ [.mk (opKind c) 0 S4.zero [x]])

theorem pSet_lt : ∀ (n : Nat) (first : Bool) (r : List UInt8) (S : S4), r.length ≤ n → ∀ S' r', pSet first r S = some (S', r') → r'.length < r.length := by
  intro n
  induction n with
  | zero =>
    intro first r S hn S' r' h
    obtain rfl : r = [] := List.eq_nil_of_length_eq_zero (by omega)
    rw [pSet] at h
    simp [memberL] at h
  | succ n ih =>
    intro first r S hn S' r' h
    rw [pSet] at h
    split at h
    · cases h
    · rename_i low r1 hr
      have h1 := memberL_lt hr
      split at h
      · rename_i h93
        split at h
        · cases h
        · simp at h
          rw [← h.2]
          cases r with
          | nil => simp at h93
          | cons => simp
      · split at h
        · split at h
          · cases h
          · rename_i high r2 hr2
            have h2 := memberL_lt hr2
            have h3 : r1.tail.length ≤ r1.length := by simp
            split at h
            · cases h
            · have := ih _ r2 _ (by omega) S' r' h
              omega
        · have := ih _ r1 _ (by omega) S' r' h
          omega
theorem pClass_lt {r r' : List UInt8} {S : S4} (h : pClass r = some (S, r')) : r'.length < r.length := by
  unfold pClass at h
  split at h
  · cases hp : pSet true r.tail S4.zero with
    | none => rw [hp] at h; cases h
    | some x =>
      rw [hp] at h
      simp at h
      have := pSet_lt _ _ _ _ (Nat.le_refl _) x.1 x.2 hp
      have h3 : r.tail.length ≤ r.length := by simp
      rw [h.2] at this
      omega
  · exact pSet_lt _ _ _ _ (Nat.le_refl _) S r' h
theorem lex1_lt {r r' : List UInt8} {t : Tok} (h : lex1 r = some (t, r')) : r'.length < r.length := by
  cases r with
  | nil => cases h
  | cons c r =>
    simp only [lex1] at h
    split at h
    · cases r with
      | nil => cases h
      | cons e r2 => simp only [Option.some.injEq, Prod.mk.injEq] at h; rw [← h.2]; simp only [List.length_cons]; omega
    · split at h
      · cases hp : pClass r with
        | none => rw [hp] at h; cases h
        | some x =>
          rw [hp] at h
          simp only [Option.map_some, Option.some.injEq, Prod.mk.injEq] at h
          have := pClass_lt (S := x.1) (r' := x.2) hp
          rw [h.2] at this
          simp only [List.length_cons]; omega
      · split at h
        · simp only [Option.some.injEq, Prod.mk.injEq] at h; rw [← h.2]; simp only [List.length_cons]; omega
        · split at h
          · simp only [Option.some.injEq, Prod.mk.injEq] at h; rw [← h.2]; simp only [List.length_cons]; omega
          · simp only [Option.some.injEq, Prod.mk.injEq] at h; rw [← h.2]; simp only [List.length_cons]; omega
theorem run_rest : ∀ (f : Nat) (r : List UInt8) (g : Nat) (done cur : List T) (t : T) (r' : List UInt8) (g' : Nat), run f r g done cur = some (t, r', g') → r'.length ≤ r.length := by
  intro f
  induction f with
  | zero => intro r g done cur t r' g' h; cases h
  | succ f ih =>
    intro r g done cur t r' g' h
    unfold run at h
    split at h
    · simp only [Option.some.injEq, Prod.mk.injEq] at h; rw [← h.2.1]; simp only [List.length_nil]; omega
    · split at h
      · cases h
      · rename_i S r1 hl
        have := lex1_lt hl
        have := ih _ _ _ _ _ _ _ h
        omega
      · rename_i c r1 hl
        have := lex1_lt hl
        split at h
        · simp only [Option.some.injEq, Prod.mk.injEq] at h; rw [← h.2.1]; exact Nat.le_refl _
        · split at h
          · have := ih _ _ _ _ _ _ _ h; omega
          · split at h
            · have := ih _ _ _ _ _ _ _ h; omega
            · split at h
              · have := ih _ _ _ _ _ _ _ h; omega
              · split at h
                · split at h
                  · rename_i t2 r2 g2 h2
                    split at h
                    · have h3 := ih _ _ _ _ _ _ _ h2
                      have h4 := ih _ _ _ _ _ _ _ h
                      have h5 : r2.tail.length ≤ r2.length := by simp
                      omega
                    · cases h
                  · cases h
                · split at h
                  · cases h
                  · have := ih _ _ _ _ _ _ _ h; omega
/-- Enough fuel is enough. -/
theorem run_fuel : ∀ (n f f' : Nat) (r : List UInt8) (g : Nat) (done cur : List T), r.length ≤ n → r.length < f → r.length < f' → run f r g done cur = run f' r g done cur := by
  intro n
  induction n with
  | zero =>
    intro f f' r g done cur hn h h'
    obtain rfl : r = [] := List.eq_nil_of_length_eq_zero (by omega)
    cases f with
    | zero => omega
    | succ f =>
      cases f' with
      | zero => omega
      | succ f' => simp [run]
  | succ n ih =>
    intro f f' r g done cur hn h h'
    cases f with
    | zero => omega
    | succ f =>
      cases f' with
      | zero => omega
      | succ f' =>
        unfold run
        by_cases h0 : r = []
        · rw [if_pos h0, if_pos h0]
        · rw [if_neg h0, if_neg h0]
          cases hl : lex1 r with
          | none => rfl
          | some x =>
            obtain ⟨t, r1⟩ := x
            have hlt := lex1_lt hl
            have e : ∀ g done cur, run f r1 g done cur = run f' r1 g done cur := fun g done cur => ih _ _ _ _ _ _ (by omega) (by omega) (by omega)
            cases t with
            | set S => exact e _ _ _
            | mark c =>
              simp only
              split
              · rfl
              · split
                · exact e _ _ _
                · split
                  · exact e _ _ _
                  · split
                    · exact e _ _ _
                    · split
                      · rw [e]
                        cases h2 : run f' r1 (g + 1) [] [] with
                        | none => rfl
                        | some y =>
                          obtain ⟨t2, r2, g2⟩ := y
                          simp only
                          split
                          · have h3 := run_rest _ _ _ _ _ _ _ _ h2
                            have h5 : r2.tail.length ≤ r2.length := by simp
                            exact ih _ _ _ _ _ _ (by omega) (by omega) (by omega)
                          · rfl
                      · split
                        · rfl
                        · exact e _ _ _
def Run (r : List UInt8) (g : Nat) (done cur : List T) : Option (T × List UInt8 × Nat) := run (r.length + 1) r g done cur
theorem run_Run {f : Nat} {r : List UInt8} (h : r.length < f) (g : Nat) (done cur : List T) : run f r g done cur = Run r g done cur := run_fuel _ _ _ _ _ _ _ (Nat.le_refl _) h (Nat.lt_succ_self _)
theorem Run_nil (g : Nat) (done cur : List T) : Run [] g done cur = some (finT done cur, [], g) := by simp [Run, run]
theorem Run_none {r : List UInt8} (h0 : r ≠ []) (hl : lex1 r = none) (g : Nat) (done cur : List T) : Run r g done cur = none := by
  unfold Run run
  rw [if_neg h0, hl]
theorem ne_nil_of_lex {r r' : List UInt8} {t : Tok} (h : lex1 r = some (t, r')) : r ≠ [] := by rintro rfl; cases h
theorem Run_set {r r' : List UInt8} {S : S4} (hl : lex1 r = some (.set S, r')) (g : Nat) (done cur : List T) : Run r g done cur = Run r' g done (cur ++ [leaf 1 S]) := by
  have := lex1_lt hl
  show run _ _ _ _ _ = _
  unfold run
  rw [if_neg (ne_nil_of_lex hl), hl]
  exact run_Run (by omega) _ _ _
theorem Run_close {r r' : List UInt8} (hl : lex1 r = some (.mark 41, r')) (g : Nat) (done cur : List T) : Run r g done cur = some (finT done cur, r, g) := by
  show run _ _ _ _ _ = _
  unfold run
  rw [if_neg (ne_nil_of_lex hl), hl]
  rfl
theorem Run_bar {r r' : List UInt8} (hl : lex1 r = some (.mark 124, r')) (g : Nat) (done cur : List T) : Run r g done cur = Run r' g (done ++ [joinT 2 cur]) [] := by
  have := lex1_lt hl
  show run _ _ _ _ _ = _
  unfold run
  rw [if_neg (ne_nil_of_lex hl), hl]
  exact run_Run (by omega) _ _ _
theorem Run_begin {r r' : List UInt8} (hl : lex1 r = some (.mark 94, r')) (g : Nat) (done cur : List T) : Run r g done cur = Run r' g done (cur ++ [leaf 8 S4.zero]) := by
  have := lex1_lt hl
  show run _ _ _ _ _ = _
  unfold run
  rw [if_neg (ne_nil_of_lex hl), hl]
  exact run_Run (by omega) _ _ _
theorem Run_end {r r' : List UInt8} (hl : lex1 r = some (.mark 36, r')) (g : Nat) (done cur : List T) : Run r g done cur = Run r' g done (cur ++ [leaf 9 S4.zero]) := by
  have := lex1_lt hl
  show run _ _ _ _ _ = _
  unfold run
  rw [if_neg (ne_nil_of_lex hl), hl]
  exact run_Run (by omega) _ _ _
theorem Run_open_none {r r' : List UInt8} (hl : lex1 r = some (.mark 40, r')) (g : Nat) (h : Run r' (g + 1) [] [] = none) (done cur : List T) : Run r g done cur = none := by
  have := lex1_lt hl
  show run _ _ _ _ _ = _
  unfold run
  rw [if_neg (ne_nil_of_lex hl), hl]
  simp only
  rw [if_neg (by decide), if_neg (by decide), if_neg (by decide), if_neg (by decide), if_pos trivial, run_Run (by omega), h]
theorem Run_open_bad {r r' : List UInt8} (hl : lex1 r = some (.mark 40, r')) (g : Nat) {t : T} {r2 : List UInt8} {g2 : Nat} (h : Run r' (g + 1) [] [] = some (t, r2, g2)) (h2 : r2.head? ≠ some 41) (done cur : List T) : Run r g done cur = none := by
  have := lex1_lt hl
  show run _ _ _ _ _ = _
  unfold run
  rw [if_neg (ne_nil_of_lex hl), hl]
  simp only
  rw [if_neg (by decide), if_neg (by decide), if_neg (by decide), if_neg (by decide), if_pos trivial, run_Run (by omega), h]
  simp only
  rw [if_neg h2]
theorem Run_open {r r' : List UInt8} (hl : lex1 r = some (.mark 40, r')) (g : Nat) {t : T} {r2 : List UInt8} {g2 : Nat} (h : Run r' (g + 1) [] [] = some (t, 41 :: r2, g2)) (done cur : List T) : Run r g done cur = Run r2 g2 done (cur ++ [.mk 7 (g + 1) S4.zero [t]]) := by
  have h1 := lex1_lt hl
  have h3 := run_rest _ _ _ _ _ _ _ _ h
  simp at h3
  show run _ _ _ _ _ = _
  unfold run
  rw [if_neg (ne_nil_of_lex hl), hl]
  simp only
  rw [if_neg (by decide), if_neg (by decide), if_neg (by decide), if_neg (by decide), if_pos trivial, run_Run (by omega), h]
  simp only
  rw [if_pos (by rfl)]
  exact run_Run (by simp; omega) _ _ _
theorem Run_op {r r' : List UInt8} {c : UInt8} (hc : isOp c = true) (hl : lex1 r = some (.mark c, r')) (g : Nat) (done cur : List T) (x : T) : Run r g done (cur ++ [x]) = Run r' g done (cur ++ [.mk (opKind c) 0 S4.zero [x]]) := by
  have h1 := lex1_lt hl
  have hn : c ≠ 41 ∧ c ≠ 124 ∧ c ≠ 94 ∧ c ≠ 36 ∧ c ≠ 40 := by
    refine ⟨?_, ?_, ?_, ?_, ?_⟩ <;> (rintro rfl; revert hc; decide)
  show run _ _ _ _ _ = _
  unfold run
  rw [if_neg (ne_nil_of_lex hl), hl]
  simp only
  rw [if_neg hn.1, if_neg hn.2.1, if_neg hn.2.2.1, if_neg hn.2.2.2.1, if_neg hn.2.2.2.2]
  simp only [List.getLast?_append, List.getLast?_singleton, Option.some_or, List.dropLast_concat]
  exact run_Run (by omega) _ _ _
theorem Run_op_none {r r' : List UInt8} {c : UInt8} (hc : isOp c = true) (hl : lex1 r = some (.mark c, r')) (g : Nat) (done : List T) : Run r g done [] = none := by
  have hn : c ≠ 41 ∧ c ≠ 124 ∧ c ≠ 94 ∧ c ≠ 36 ∧ c ≠ 40 := by
    refine ⟨?_, ?_, ?_, ?_, ?_⟩ <;> (rintro rfl; revert hc; decide)
  show run _ _ _ _ _ = _
  unfold run
  rw [if_neg (ne_nil_of_lex hl), hl]
  simp only
  rw [if_neg hn.1, if_neg hn.2.1, if_neg hn.2.2.1, if_neg hn.2.2.2.1, if_neg hn.2.2.2.2]
  rfl

end Go.Proofs.YtkddighepgpccaaDoor
