/-
  Plain: the reference's reading of a row of signs, and that it is the reading from left to right.
-/
import Derived.Test.YtkddighepgpccaaDoorRexRun
namespace Go.Proofs.YtkddighepgpccaaDoor
set_option linter.unusedSimpArgs false
set_option linter.unusedVariables false

/-- How many opening brackets. -/
def opn : List Tok → Nat
  | [] => 0
  | .mark c :: l => (if c = 40 then 1 else 0) + opn l
  | .set _ :: l => opn l
theorem opn_append : ∀ (a b : List Tok), opn (a ++ b) = opn a + opn b
  | [], b => by simp [opn]
  | .mark c :: a, b => by simp only [List.cons_append, opn, opn_append a b]; omega
  | .set S :: a, b => by simp only [List.cons_append, opn, opn_append a b]
/-- What stands ahead of the bracket that closes (d are open), and what behind it. -/
def closeT : List Tok → Nat → Option (List Tok × List Tok)
  | [], _ => none
  | .set S :: l, d => (closeT l d).map fun x => (.set S :: x.1, x.2)
  | .mark c :: l, d =>
    if c = 40 then (closeT l (d + 1)).map fun x => (.mark c :: x.1, x.2)
    else if c = 41 then (if d ≤ 1 then some ([], l) else (closeT l (d - 1)).map fun x => (.mark c :: x.1, x.2))
    else (closeT l d).map fun x => (.mark c :: x.1, x.2)
theorem closeT_eq : ∀ (l : List Tok) (d : Nat) (i a : List Tok), closeT l d = some (i, a) → l = i ++ .mark 41 :: a
  | [], d, i, a, h => by cases h
  | .set S :: l, d, i, a, h => by
    simp only [closeT] at h
    cases hc : closeT l d with
    | none => rw [hc] at h; cases h
    | some x =>
      rw [hc] at h
      simp only [Option.map_some, Option.some.injEq, Prod.mk.injEq] at h
      obtain ⟨rfl, rfl⟩ := h
      rw [closeT_eq l d x.1 x.2 hc]; rfl
  | .mark c :: l, d, i, a, h => by
    simp only [closeT] at h
    split at h
    · cases hc : closeT l (d + 1) with
      | none => rw [hc] at h; cases h
      | some x =>
        rw [hc] at h
        simp only [Option.map_some, Option.some.injEq, Prod.mk.injEq] at h
        obtain ⟨rfl, rfl⟩ := h
        rw [closeT_eq l (d + 1) x.1 x.2 hc]; rfl
    · split at h
      · rename_i hc41
        split at h
        · simp only [Option.some.injEq, Prod.mk.injEq] at h
          obtain ⟨rfl, rfl⟩ := h
          rw [hc41]; rfl
        · cases hc : closeT l (d - 1) with
          | none => rw [hc] at h; cases h
          | some x =>
            rw [hc] at h
            simp only [Option.map_some, Option.some.injEq, Prod.mk.injEq] at h
            obtain ⟨rfl, rfl⟩ := h
            rw [closeT_eq l (d - 1) x.1 x.2 hc]; rfl
      · cases hc : closeT l d with
        | none => rw [hc] at h; cases h
        | some x =>
          rw [hc] at h
          simp only [Option.map_some, Option.some.injEq, Prod.mk.injEq] at h
          obtain ⟨rfl, rfl⟩ := h
          rw [closeT_eq l d x.1 x.2 hc]; rfl
theorem closeT_lt {l : List Tok} {d : Nat} {i a : List Tok} (h : closeT l d = some (i, a)) : i.length < l.length ∧ a.length < l.length := by
  have := closeT_eq l d i a h
  rw [this]
  simp
  omega

/-- The reference's branch: its items, one by one; E reads what stands in brackets. -/
def goB (E : List Tok → Nat → Option T) (l : List Tok) (q : Nat) (kids : List T) : Option T :=
  match l with
  | [] => some (joinT 2 kids)
  | .set S :: l => goB E l q (kids ++ [leaf 1 S])
  | .mark c :: l =>
    if c = 94 then goB E l q (kids ++ [leaf 8 S4.zero])
    else if c = 36 then goB E l q (kids ++ [leaf 9 S4.zero])
    else if isOp c then
      match kids.getLast? with
      | none => none
      | some x => goB E l q (kids.dropLast ++ [.mk (opKind c) 0 S4.zero [x]])
    else if c = 40 then
      match hc : closeT l 1 with
      | none => none
      | some (i, a) =>
        match E i (q + 1) with
        | none => none
        | some t => goB E a (q + 1 + opn i) (kids ++ [.mk 7 (q + 1) S4.zero [t]])
    else none
termination_by l.length
decreasing_by
  all_goals simp
  have := (closeT_lt hc).2
  omega
/-- The reference's expression: 'b' are the signs of the branch at hand, of which 'd' brackets are open; 'p' brackets opened ahead of it. -/
def goE (E : List Tok → Nat → Option T) : List Tok → List Tok → Nat → Nat → List T → Option T
  | [], b, p, d, kids => (goB E b p []).map fun n => joinT 3 (kids ++ [n])
  | .set S :: r, b, p, d, kids => goE E r (b ++ [.set S]) p d kids
  | .mark c :: r, b, p, d, kids =>
    if c = 40 then goE E r (b ++ [.mark c]) p (d + 1) kids
    else if c = 41 then (if d = 0 then none else goE E r (b ++ [.mark c]) p (d - 1) kids)
    else if c = 124 ∧ d = 0 then
      match goB E b p [] with
      | none => none
      | some n => goE E r [] (p + opn b) 0 (kids ++ [n])
    else goE E r (b ++ [.mark c]) p d kids
def refE : Nat → List Tok → Nat → Option T
  | 0, _, _ => none
  | f + 1, l, a => goE (refE f) l [] a 0 []

theorem goB_congr {E E' : List Tok → Nat → Option T} : ∀ (n : Nat) (l : List Tok) (q : Nat) (kids : List T), l.length ≤ n → (∀ i q, i.length < l.length → E i q = E' i q) → goB E l q kids = goB E' l q kids := by
  intro n
  induction n with
  | zero =>
    intro l q kids hn h
    obtain rfl : l = [] := List.eq_nil_of_length_eq_zero (by omega)
    rw [goB, goB]
  | succ n ih =>
    intro l q kids hn h
    match l, hn, h with
    | [], _, _ => rw [goB, goB]
    | .set S :: l, hn, h =>
      simp only [List.length_cons] at hn h
      rw [goB, goB]
      exact ih l _ _ (by omega) (fun i q hi => h i q (by omega))
    | .mark c :: l, hn, h =>
      simp only [List.length_cons] at hn h
      rw [goB, goB]
      split
      · exact ih l _ _ (by omega) (fun i q hi => h i q (by omega))
      · split
        · exact ih l _ _ (by omega) (fun i q hi => h i q (by omega))
        · split
          · split
            · rfl
            · exact ih l _ _ (by omega) (fun i q hi => h i q (by omega))
          · split
            · split
              · rfl
              · rename_i i a hc
                have hlt := closeT_lt hc
                rw [h i _ (by omega)]
                split
                · rfl
                · exact ih a _ _ (by omega) (fun i q hi => h i q (by omega))
            · rfl
theorem goE_congr {E E' : List Tok → Nat → Option T} : ∀ (r b : List Tok) (p d : Nat) (kids : List T), (∀ i q, i.length < b.length + r.length → E i q = E' i q) → goE E r b p d kids = goE E' r b p d kids
  | [], b, p, d, kids, h => by
    simp only [goE]
    rw [goB_congr b.length b p [] (Nat.le_refl _) (fun i q hi => h i q (by simpa using hi))]
  | .set S :: r, b, p, d, kids, h => by
    simp only [goE]
    exact goE_congr r _ _ _ _ (fun i q hi => h i q (by simp at hi ⊢; omega))
  | .mark c :: r, b, p, d, kids, h => by
    simp only [goE]
    have h1 : ∀ p d kids, goE E r (b ++ [.mark c]) p d kids = goE E' r (b ++ [.mark c]) p d kids := fun p d kids => goE_congr r _ _ _ _ (fun i q hi => h i q (by simp at hi ⊢; omega))
    rw [h1, h1, h1]
    split
    · rfl
    · split
      · rfl
      · split
        · rw [goB_congr b.length b p [] (Nat.le_refl _) (fun i q hi => h i q (by simp; omega))]
          split
          · rfl
          · exact goE_congr r _ _ _ _ (fun i q hi => h i q (by simp at hi ⊢; omega))
        · rfl
theorem refE_fuel : ∀ (n f f' : Nat) (l : List Tok) (a : Nat), l.length ≤ n → l.length < f → l.length < f' → refE f l a = refE f' l a := by
  intro n
  induction n with
  | zero =>
    intro f f' l a hn h h'
    obtain rfl : l = [] := List.eq_nil_of_length_eq_zero (by omega)
    cases f with
    | zero => omega
    | succ f =>
      cases f' with
      | zero => omega
      | succ f' =>
        simp only [refE]
        exact goE_congr _ _ _ _ _ (fun i q hi => by simp at hi)
  | succ n ih =>
    intro f f' l a hn h h'
    cases f with
    | zero => omega
    | succ f =>
      cases f' with
      | zero => omega
      | succ f' =>
        simp only [refE]
        exact goE_congr _ _ _ _ _ (fun i q hi => by
          simp at hi
          exact ih f f' i q (by omega) (by omega) (by omega))
/-- What the reference reads of a row of signs. -/
def RefE (l : List Tok) (a : Nat) : Option T := refE (l.length + 1) l a
theorem RefE_eq (l : List Tok) (a : Nat) : RefE l a = goE RefE l [] a 0 [] := by
  unfold RefE
  simp only [refE]
  exact goE_congr _ _ _ _ _ (fun i q hi => by
    simp at hi
    exact refE_fuel i.length _ _ _ _ (Nat.le_refl _) hi (Nat.lt_succ_self _))

/-! ### the reading from left to right, as rules -/
inductive G : List Tok → Nat → List T → List T → T → Prop where
  | nil (g : Nat) (done cur : List T) : G [] g done cur (finT done cur)
  | bar {l : List Tok} {g : Nat} {done cur : List T} {t : T} : G l g (done ++ [joinT 2 cur]) [] t → G (.mark 124 :: l) g done cur t
  | set {l : List Tok} {g : Nat} {done cur : List T} {t : T} {S : S4} : G l g done (cur ++ [leaf 1 S]) t → G (.set S :: l) g done cur t
  | begin {l : List Tok} {g : Nat} {done cur : List T} {t : T} : G l g done (cur ++ [leaf 8 S4.zero]) t → G (.mark 94 :: l) g done cur t
  | stop {l : List Tok} {g : Nat} {done cur : List T} {t : T} : G l g done (cur ++ [leaf 9 S4.zero]) t → G (.mark 36 :: l) g done cur t
  | op {l : List Tok} {g : Nat} {done cur : List T} {t x : T} {c : UInt8} (hc : isOp c = true) : G l g done (cur ++ [.mk (opKind c) 0 S4.zero [x]]) t → G (.mark c :: l) g done (cur ++ [x]) t
  | group {l1 l2 : List Tok} {g : Nat} {done cur : List T} {t1 t : T} : G l1 (g + 1) [] [] t1 → G l2 (g + 1 + opn l1) done (cur ++ [.mk 7 (g + 1) S4.zero [t1]]) t → G (.mark 40 :: (l1 ++ .mark 41 :: l2)) g done cur t

end Go.Proofs.YtkddighepgpccaaDoor
