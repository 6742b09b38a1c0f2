/-
  Plain: the reference's reading is the reading from left to right.
-/
import Derived.Test.YtkddighepgpccaaDoorRexTok
namespace Go.Proofs.YtkddighepgpccaaDoor
set_option linter.unusedSimpArgs false
set_option linter.unusedVariables false

theorem goB_sound (N : Nat) (hE : ∀ i q t, i.length < N → RefE i q = some t → G i q [] [] t) : ∀ (n : Nat) (b : List Tok) (q : Nat) (cur : List T) (r : T), b.length ≤ n → b.length ≤ N → goB RefE b q cur = some r →
    ∃ cur', r = joinT 2 cur' ∧ ∀ rest done t, G rest (q + opn b) done cur' t → G (b ++ rest) q done cur t := by
  intro n
  induction n with
  | zero =>
    intro b q cur r hn hN h
    obtain rfl : b = [] := List.eq_nil_of_length_eq_zero (by omega)
    rw [goB] at h
    exact ⟨cur, (Option.some.inj h).symm, fun rest done t hg => by simpa [opn] using hg⟩
  | succ n ih =>
    intro b q cur r hn hN h
    match b, hn, hN, h with
    | [], _, _, h =>
      rw [goB] at h
      exact ⟨cur, (Option.some.inj h).symm, fun rest done t hg => by simpa [opn] using hg⟩
    | .set S :: b, hn, hN, h =>
      simp only [List.length_cons] at hn hN
      rw [goB] at h
      obtain ⟨cur', e, hg⟩ := ih b _ _ _ (by omega) (by omega) h
      exact ⟨cur', e, fun rest done t h2 => G.set (hg rest done t (by simpa [opn] using h2))⟩
    | .mark c :: b, hn, hN, h =>
      simp only [List.length_cons] at hn hN
      rw [goB] at h
      split at h
      · rename_i hc
        subst hc
        obtain ⟨cur', e, hg⟩ := ih b _ _ _ (by omega) (by omega) h
        exact ⟨cur', e, fun rest done t h2 => G.begin (hg rest done t (by simpa [opn] using h2))⟩
      · split at h
        · rename_i hc
          subst hc
          obtain ⟨cur', e, hg⟩ := ih b _ _ _ (by omega) (by omega) h
          exact ⟨cur', e, fun rest done t h2 => G.stop (hg rest done t (by simpa [opn] using h2))⟩
        · split at h
          · rename_i hop
            split at h
            · cases h
            · rename_i x hx
              obtain ⟨cur', e, hg⟩ := ih b _ _ _ (by omega) (by omega) h
              have hcur : cur = cur.dropLast ++ [x] := by
                have hne : cur ≠ [] := by rintro rfl; cases hx
                rw [List.getLast?_eq_some_getLast hne] at hx
                have := List.dropLast_concat_getLast hne
                rw [Option.some.inj hx] at this
                exact this.symm
              refine ⟨cur', e, fun rest done t h2 => ?_⟩
              have h40 : c ≠ 40 := by rintro rfl; exact absurd hop (by decide)
              have h3 := hg rest done t (by simpa [opn, h40] using h2)
              rw [hcur]
              exact G.op hop h3
          · split at h
            · rename_i hc
              subst hc
              split at h
              · cases h
              · rename_i i a hcl
                split at h
                · cases h
                · rename_i t1 ht1
                  have hlt := closeT_lt hcl
                  have heq := closeT_eq _ _ _ _ hcl
                  obtain ⟨cur', e, hg⟩ := ih a _ _ _ (by omega) (by omega) h
                  refine ⟨cur', e, fun rest done t h2 => ?_⟩
                  have h1 := hE i (q + 1) t1 (by omega) ht1
                  have h3 : G (a ++ rest) (q + 1 + opn i) done (cur ++ [.mk 7 (q + 1) S4.zero [t1]]) t := hg rest done t (by
                    rw [heq] at h2
                    simp only [opn, if_true, opn_append] at h2
                    rw [show q + 1 + opn i + opn a = q + (1 + (opn i + ((if (41 : UInt8) = 40 then 1 else 0) + opn a))) by rw [if_neg (by decide)]; omega]
                    exact h2)
                  have := G.group h1 h3
                  rw [heq]
                  simpa using this
            · cases h
theorem goE_sound (N : Nat) (hE : ∀ i q t, i.length < N → RefE i q = some t → G i q [] [] t) : ∀ (r b : List Tok) (p d : Nat) (kids : List T) (t : T), b.length + r.length ≤ N → goE RefE r b p d kids = some t → G (b ++ r) p kids [] t
  | [], b, p, d, kids, t, hN, h => by
    simp only [goE] at h
    cases hb : goB RefE b p [] with
    | none => rw [hb] at h; cases h
    | some n =>
      rw [hb] at h
      obtain ⟨cur', e, hg⟩ := goB_sound N hE b.length b p [] n (Nat.le_refl _) (by simpa using hN) hb
      have ht : t = finT kids cur' := by
        simp only [Option.map_some, Option.some.injEq] at h
        rw [← h, e]; rfl
      rw [ht]
      exact hg [] kids _ (G.nil _ _ _)
  | .set S :: r, b, p, d, kids, t, hN, h => by
    simp only [goE] at h
    have := goE_sound N hE r _ _ _ _ _ (by simp at hN ⊢; omega) h
    simpa using this
  | .mark c :: r, b, p, d, kids, t, hN, h => by
    simp only [goE] at h
    have key : ∀ d, goE RefE r (b ++ [.mark c]) p d kids = some t → G (b ++ .mark c :: r) p kids [] t := fun d h => by
      have := goE_sound N hE r _ _ _ _ _ (by simp at hN ⊢; omega) h
      simpa using this
    split at h
    · exact key _ h
    · split at h
      · split at h
        · cases h
        · exact key _ h
      · split at h
        · rename_i hc
          obtain ⟨hc, hd⟩ := hc
          subst hc
          cases hb : goB RefE b p [] with
          | none => rw [hb] at h; cases h
          | some n =>
            rw [hb] at h
            obtain ⟨cur', e, hg⟩ := goB_sound N hE b.length b p [] n (Nat.le_refl _) (by simp at hN; omega) hb
            have h2 := goE_sound N hE r [] _ _ _ _ (by simp at hN ⊢; omega) h
            rw [e] at h2
            exact hg _ kids _ (G.bar h2)
        · exact key _ h
theorem RefE_sound : ∀ (n : Nat) (l : List Tok) (a : Nat) (t : T), l.length ≤ n → RefE l a = some t → G l a [] [] t := by
  intro n
  induction n with
  | zero =>
    intro l a t hn h
    rw [RefE_eq] at h
    have := goE_sound l.length (fun i q t hi _ => absurd hi (by omega)) l [] a 0 [] t (by simp) h
    simpa using this
  | succ n ih =>
    intro l a t hn h
    rw [RefE_eq] at h
    have := goE_sound l.length (fun i q t hi hh => ih i q t (by omega) hh) l [] a 0 [] t (by simp) h
    simpa using this

/-! ### and back -/
theorem closeT_pass {l : List Tok} {g : Nat} {done cur : List T} {t : T} (h : G l g done cur t) : ∀ (d : Nat) (y : List Tok), 1 ≤ d → closeT (l ++ y) d = (closeT y d).map fun x => (l ++ x.1, x.2) := by
  induction h with
  | nil => intro d y hd; cases hc : closeT y d <;> simp [hc]
  | bar _ ih =>
    intro d y hd
    simp only [List.cons_append, closeT]
    rw [if_neg (by decide), if_neg (by decide), ih d y hd]
    cases closeT y d <;> rfl
  | set _ ih =>
    intro d y hd
    simp only [List.cons_append, closeT]
    rw [ih d y hd]
    cases closeT y d <;> rfl
  | begin _ ih =>
    intro d y hd
    simp only [List.cons_append, closeT]
    rw [if_neg (by decide), if_neg (by decide), ih d y hd]
    cases closeT y d <;> rfl
  | stop _ ih =>
    intro d y hd
    simp only [List.cons_append, closeT]
    rw [if_neg (by decide), if_neg (by decide), ih d y hd]
    cases closeT y d <;> rfl
  | op hc _ ih =>
    intro d y hd
    simp only [List.cons_append, closeT]
    rw [if_neg (by rintro rfl; exact absurd hc (by decide)), if_neg (by rintro rfl; exact absurd hc (by decide)), ih d y hd]
    cases closeT y d <;> rfl
  | group _ _ ih1 ih2 =>
    intro d y hd
    simp only [List.cons_append, List.append_assoc, closeT]
    rw [if_pos trivial, ih1 (d + 1) _ (by omega)]
    simp only [List.cons_append, closeT]
    rw [if_neg (by decide), if_pos trivial, if_neg (by omega), Nat.add_sub_cancel, ih2 d y hd]
    cases closeT y d <;> simp
theorem goE_pass {E : List Tok → Nat → Option T} {l : List Tok} {g : Nat} {done cur : List T} {t : T} (h : G l g done cur t) : ∀ (b : List Tok) (p d : Nat) (kids : List T) (y : List Tok), 1 ≤ d → goE E (l ++ y) b p d kids = goE E y (b ++ l) p d kids := by
  induction h with
  | nil => intro b p d kids y hd; simp
  | bar _ ih =>
    intro b p d kids y hd
    simp only [List.cons_append, goE]
    rw [if_neg (by decide), if_neg (by decide), if_neg (by omega), ih _ _ _ _ _ hd]
    simp
  | set _ ih =>
    intro b p d kids y hd
    simp only [List.cons_append, goE]
    rw [ih _ _ _ _ _ hd]
    simp
  | begin _ ih =>
    intro b p d kids y hd
    simp only [List.cons_append, goE]
    rw [if_neg (by decide), if_neg (by decide), if_neg (by omega), ih _ _ _ _ _ hd]
    simp
  | stop _ ih =>
    intro b p d kids y hd
    simp only [List.cons_append, goE]
    rw [if_neg (by decide), if_neg (by decide), if_neg (by omega), ih _ _ _ _ _ hd]
    simp
  | op hc _ ih =>
    intro b p d kids y hd
    simp only [List.cons_append, goE]
    rw [if_neg (by rintro rfl; exact absurd hc (by decide)), if_neg (by rintro rfl; exact absurd hc (by decide)), if_neg (by omega), ih _ _ _ _ _ hd]
    simp
  | group _ _ ih1 ih2 =>
    intro b p d kids y hd
    simp only [List.cons_append, List.append_assoc, goE]
    rw [if_pos trivial, ih1 _ _ _ _ _ (by omega)]
    simp only [List.cons_append, goE]
    rw [if_neg (by decide), if_pos trivial, if_neg (by omega), Nat.add_sub_cancel, ih2 _ _ _ _ _ hd]
    simp
theorem goB_group {E : List Tok → Nat → Option T} {l i a : List Tok} {q : Nat} {kids : List T} {t : T} (hc : closeT l 1 = some (i, a)) (ht : E i (q + 1) = some t) : goB E (.mark 40 :: l) q kids = goB E a (q + 1 + opn i) (kids ++ [.mk 7 (q + 1) S4.zero [t]]) := by
  rw [goB]
  rw [if_neg (by decide), if_neg (by decide), if_neg (by decide), if_pos rfl]
  split
  · rename_i e; rw [hc] at e; cases e
  · rename_i i' a' e
    rw [hc] at e
    simp only [Option.some.injEq, Prod.mk.injEq] at e
    obtain ⟨rfl, rfl⟩ := e
    rw [ht]
theorem goE_complete {l : List Tok} {g : Nat} {done cur : List T} {t : T} (h : G l g done cur t) : ∀ (b : List Tok) (p : Nat), (∀ x, goB RefE (b ++ x) p [] = goB RefE x g cur) → p + opn b = g → goE RefE l b p 0 done = some t := by
  induction h with
  | nil g done cur =>
    intro b p hb hp
    have := hb []
    rw [List.append_nil] at this
    simp only [goE]
    rw [this, goB]
    rfl
  | @bar l g done cur t _ ih =>
    intro b p hb hp
    have h1 := hb []
    rw [List.append_nil] at h1
    rw [goB] at h1
    simp only [goE]
    rw [if_neg (by decide), if_neg (by decide), if_pos ⟨trivial, trivial⟩, h1]
    simp only
    rw [hp]
    exact ih [] g (fun x => rfl) (by simp [opn])
  | @set l g done cur t S _ ih =>
    intro b p hb hp
    simp only [goE]
    refine ih _ _ (fun x => ?_) (by rw [opn_append]; simp [opn]; omega)
    have := hb (.set S :: x)
    rw [goB.eq_def RefE (.set S :: x)] at this
    simpa using this
  | @begin l g done cur t _ ih =>
    intro b p hb hp
    simp only [goE]
    rw [if_neg (by decide), if_neg (by decide), if_neg (fun h => absurd h.1 (by decide))]
    refine ih _ _ (fun x => ?_) (by rw [opn_append]; simp [opn]; omega)
    have := hb (.mark 94 :: x)
    rw [goB.eq_def RefE (.mark 94 :: x)] at this
    simpa using this
  | @stop l g done cur t _ ih =>
    intro b p hb hp
    simp only [goE]
    rw [if_neg (by decide), if_neg (by decide), if_neg (fun h => absurd h.1 (by decide))]
    refine ih _ _ (fun x => ?_) (by rw [opn_append]; simp [opn]; omega)
    have := hb (.mark 36 :: x)
    rw [goB.eq_def RefE (.mark 36 :: x)] at this
    simpa using this
  | @op l g done cur t y c hc _ ih =>
    intro b p hb hp
    have hn : c ≠ 41 ∧ c ≠ 124 ∧ c ≠ 94 ∧ c ≠ 36 ∧ c ≠ 40 := by
      refine ⟨?_, ?_, ?_, ?_, ?_⟩ <;> (rintro rfl; revert hc; decide)
    simp only [goE]
    rw [if_neg hn.2.2.2.2, if_neg hn.1, if_neg (fun h => hn.2.1 h.1)]
    refine ih _ _ (fun x => ?_) (by rw [opn_append]; simp [opn, hn.2.2.2.2]; omega)
    have := hb (.mark c :: x)
    rw [goB.eq_def RefE (.mark c :: x)] at this
    simpa [hn.2.2.1, hn.2.2.2.1, hc] using this
  | @group l1 l2 g done cur t1 t h1 h2 ih1 ih2 =>
    intro b p hb hp
    have hr : RefE l1 (g + 1) = some t1 := by
      rw [RefE_eq]
      exact ih1 [] (g + 1) (fun x => rfl) (by simp [opn])
    simp only [goE]
    rw [if_pos trivial, goE_pass h1 _ _ _ _ _ (Nat.le_refl _)]
    simp only [goE]
    rw [if_neg (by decide), if_pos trivial, if_neg (by decide)]
    refine ih2 _ _ (fun x => ?_) (by simp only [opn_append, opn]; rw [if_pos trivial, if_neg (by decide)]; omega)
    have hcl : closeT (l1 ++ .mark 41 :: x) 1 = some (l1, x) := by
      rw [closeT_pass h1 1 _ (Nat.le_refl _)]
      simp [closeT]
    have := (hb (.mark 40 :: (l1 ++ .mark 41 :: x))).trans (goB_group hcl hr)
    rw [← this]
    simp
theorem RefE_complete {l : List Tok} {a : Nat} {t : T} (h : G l a [] [] t) : RefE l a = some t := by
  rw [RefE_eq]
  exact goE_complete h [] a (fun x => rfl) (by simp [opn])

end Go.Proofs.YtkddighepgpccaaDoor
