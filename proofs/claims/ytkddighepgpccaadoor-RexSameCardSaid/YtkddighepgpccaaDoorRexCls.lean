/-
  Plain: the reference's class is the parser's class.
-/
import Derived.Test.YtkddighepgpccaaDoorRexTok3
namespace Go.Proofs.YtkddighepgpccaaDoor
set_option linter.unusedSimpArgs false
set_option linter.unusedVariables false

/-- The bytes of a class, each with whether it stood bare; what stands behind the closing bracket. -/
def collL : List UInt8 → Option (List (UInt8 × Bool) × List UInt8)
  | [] => none
  | c :: r =>
    if c = 93 then some ([], r)
    else if c = 92 then
      match r with
      | [] => none
      | d :: r' => (collL r').map fun x => ((d, false) :: x.1, x.2)
    else (collL r).map fun x => ((c, true) :: x.1, x.2)
theorem collL_cons (c : UInt8) (r : List UInt8) : collL (c :: r) = if c = 93 then some ([], r) else if c = 92 then (match r with | [] => none | d :: r' => (collL r').map fun x => ((d, false) :: x.1, x.2)) else (collL r).map fun x => ((c, true) :: x.1, x.2) := by
  cases r <;> simp [collL]
/-- The spans of a class's bytes. -/
def spL : List (UInt8 × Bool) → S4 → Option S4
  | [], S => some S
  | [a], S => some (S.or (spanS a.1 a.1))
  | [a, b], S => some ((S.or (spanS a.1 a.1)).or (spanS b.1 b.1))
  | a :: b :: c :: l, S =>
    if b.1 = 45 ∧ b.2 = true then (if c.1 < a.1 then none else spL l (S.or (spanS a.1 c.1)))
    else spL (b :: c :: l) (S.or (spanS a.1 a.1))
theorem spL_two (a b : UInt8 × Bool) (S : S4) : spL [a, b] S = spL [b] (S.or (spanS a.1 a.1)) := rfl
theorem spL_one (a : UInt8 × Bool) (l : List (UInt8 × Bool)) (S : S4) (h : ∀ b c l', l = b :: c :: l' → ¬ (b.1 = 45 ∧ b.2 = true)) : spL (a :: l) S = spL l (S.or (spanS a.1 a.1)) := by
  match l, h with
  | [], _ => rfl
  | [b], _ => rfl
  | b :: c :: l', h =>
    simp only [spL]
    rw [if_neg (h b c l' rfl)]
theorem collL_member {r r1 : List UInt8} {low : UInt8} (h : memberL r = some (low, r1)) (h93 : r.head? ≠ some 93) : ∃ b, collL r = (collL r1).map fun x => ((low, b) :: x.1, x.2) := by
  cases r with
  | nil => cases h
  | cons c r =>
    simp only [memberL] at h
    have hc : c ≠ 93 := by rintro rfl; exact h93 rfl
    split at h
    · rename_i h92
      cases r with
      | nil => cases h
      | cons d r =>
        simp only [Option.some.injEq, Prod.mk.injEq] at h
        obtain ⟨rfl, rfl⟩ := h
        exact ⟨false, by rw [collL_cons, if_neg hc, if_pos h92]⟩
    · rename_i h92
      simp only [Option.some.injEq, Prod.mk.injEq] at h
      obtain ⟨rfl, rfl⟩ := h
      exact ⟨true, by rw [collL_cons, if_neg hc, if_neg h92]⟩
theorem collL_none {r : List UInt8} (h : memberL r = none) : collL r = none := by
  cases r with
  | nil => rfl
  | cons c r =>
    simp only [memberL] at h
    split at h
    · rename_i h92
      subst h92
      cases r with
      | nil => rfl
      | cons d r => cases h
    · cases h
theorem pSet_coll : ∀ (n : Nat) (first : Bool) (r : List UInt8) (S : S4), r.length ≤ n →
    pSet first r S = (match collL r with | none => none | some (L, r') => if first = true ∧ L = [] then none else (spL L S).map fun x => (x, r')) := by
  intro n
  induction n with
  | zero =>
    intro first r S hn
    obtain rfl : r = [] := List.eq_nil_of_length_eq_zero (by omega)
    rw [pSet]
    rfl
  | succ n ih =>
    intro first r S hn
    rw [pSet]
    split
    · rename_i hm
      rw [collL_none hm]
    · rename_i low r1 hm
      have hlt := memberL_lt hm
      split
      · rename_i h93
        cases r with
        | nil => cases h93
        | cons c r =>
          simp at h93
          subst h93
          rw [collL_cons, if_pos rfl]
          cases first <;> simp [spL]
      · rename_i h93
        obtain ⟨b, hb⟩ := collL_member hm h93
        rw [hb]
        split
        · rename_i hsp
          obtain ⟨d, r2, hr1, hd⟩ := spansL_cons hsp
          have htl : r1.tail = d :: r2 := by rw [hr1]; rfl
          have hcol : collL r1 = (collL (d :: r2)).map fun x => ((45, true) :: x.1, x.2) := by
            rw [hr1]
            rw [collL_cons, if_neg (by decide), if_neg (by decide)]
          split
          · rename_i hm2
            rw [htl] at hm2
            rw [hcol, collL_none hm2]
            rfl
          · rename_i high r3 hm2
            rw [htl] at hm2
            have hlt2 := memberL_lt hm2
            obtain ⟨b2, hb2⟩ := collL_member hm2 (by simpa using hd)
            have hl3 : r3.length ≤ n := by
              rw [hr1] at hlt
              simp at hlt hlt2
              omega
            rw [hcol, hb2, ih false r3 _ hl3]
            cases hc : collL r3 with
            | none => simp
            | some x =>
              obtain ⟨L, r'⟩ := x
              simp only [Option.map_some, spL]
              by_cases hh : high < low
              · simp [hh]
              · simp [hh]
        · rename_i hsp
          rw [ih false r1 _ (by omega)]
          cases hc : collL r1 with
          | none => rfl
          | some x =>
            obtain ⟨L, r'⟩ := x
            simp only [Option.map_some]
            rw [spL_one (low, b) L S (fun y z l' hL hy => ?_)]
            · simp
            · subst hL
              cases r1 with
              | nil => cases hc
              | cons e r1 =>
                rw [collL_cons] at hc
                split at hc
                · simp at hc
                · rename_i he93
                  split at hc
                  · rename_i he
                    cases r1 with
                    | nil => cases hc
                    | cons f r1 =>
                      have hc : (collL r1).map (fun x => ((f, false) :: x.1, x.2)) = some (y :: z :: l', r') := hc
                      cases hc2 : collL r1 with
                      | none => rw [hc2] at hc; cases hc
                      | some x2 =>
                        rw [hc2] at hc
                        simp only [Option.map_some, Option.some.injEq, Prod.mk.injEq, List.cons.injEq] at hc
                        obtain ⟨⟨h1, _⟩, _⟩ := hc
                        rw [← h1] at hy
                        exact absurd hy.2 (by simp)
                  · cases hc2 : collL r1 with
                    | none => rw [hc2] at hc; cases hc
                    | some x2 =>
                      rw [hc2] at hc
                      simp only [Option.map_some, Option.some.injEq, Prod.mk.injEq, List.cons.injEq] at hc
                      obtain ⟨⟨h1, h2⟩, _⟩ := hc
                      rw [← h1] at hy
                      obtain rfl : e = 45 := hy.1
                      cases r1 with
                      | nil => cases hc2
                      | cons f r1 =>
                        have hf : f ≠ 93 := by
                          rintro rfl
                          rw [collL_cons, if_pos rfl] at hc2
                          simp only [Option.some.injEq] at hc2
                          rw [← hc2] at h2
                          cases h2
                        exact hsp (by simp [spansL, hf])
/-- The reference's class, from behind its opening bracket on. -/
def refSet (r : List UInt8) : Option (S4 × List UInt8) :=
  match collL (if r.head? = some 94 then r.tail else r) with
  | none => none
  | some (L, r') => if L = [] then none else (spL L S4.zero).map fun x => (if r.head? = some 94 then x.not else x, r')
theorem pClass_ref (r : List UInt8) : pClass r = refSet r := by
  unfold pClass refSet
  by_cases h : r.head? = some 94
  · rw [if_pos h, if_pos h, pSet_coll _ _ _ _ (Nat.le_refl _)]
    cases collL r.tail with
    | none => rfl
    | some x =>
      obtain ⟨L, r'⟩ := x
      simp only [true_and]
      split
      · rfl
      · cases spL L S4.zero <;> simp [h]
  · rw [if_neg h, if_neg h, pSet_coll _ _ _ _ (Nat.le_refl _)]
    cases collL r with
    | none => rfl
    | some x =>
      obtain ⟨L, r'⟩ := x
      simp only [true_and]
      split
      · rfl
      · cases spL L S4.zero <;> simp [h]

end Go.Proofs.YtkddighepgpccaaDoor
