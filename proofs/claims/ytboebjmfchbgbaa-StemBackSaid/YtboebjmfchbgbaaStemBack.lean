/-
  The walk of the statement StemBack: a filled pattern fits, with that stem. No condition.
-/
import Derived.Test.YtboebjmfchbgbaaCat
import Derived.Test.YtboebjmfchbgbaaAliveStem
namespace Go.Proofs.Ytboebjmfchbgbaa
open Go.RowKit
set_option linter.unusedSimpArgs false
set_option linter.unusedVariables false

set_option maxHeartbeats 8000000 in
theorem stemBack_walk (a0 a1 a2 : ByteArray) (w : World) (w0 : a0.size ≤ maxLen) (w1 : a1.size ≤ maxLen) (w2 : a2.size ≤ maxLen) :
    Calls Try.prog 6 #[.string a0, .string a1, .string a2] w fun e w' => e = .returned (.bool true) ∧ Below w.heap.size w w' := by
  unfold maxLen at w0 w1 w2
  rcases (show 60 < a0.size ∨ (a0.size ≤ 60 ∧ 60 < a1.size) ∨ (a0.size ≤ 60 ∧ a1.size ≤ 60 ∧ 60 < a2.size) ∨ (a0.size ≤ 60 ∧ a1.size ≤ 60 ∧ a2.size ≤ 60 ∧ 0 ≤ wI a0) ∨ (a0.size ≤ 60 ∧ a1.size ≤ 60 ∧ a2.size ≤ 60 ∧ wI a0 < 0 ∧ 0 ≤ wI a1) ∨ (a0.size ≤ 60 ∧ a1.size ≤ 60 ∧ a2.size ≤ 60 ∧ wI a0 < 0 ∧ wI a1 < 0) from by omega) with h | ⟨h, h'⟩ | ⟨h, h', h''⟩ | ⟨h, h', h'', h3⟩ | ⟨h, h', h'', h3, h4⟩ | ⟨h0, h1, h2, h3, h4⟩
  · go_enter Try.func6, Try.ntmps6
    go_wp2_with (go_at_call 20; refine (alive15_any _).mono ?_; rintro e w1 ⟨rfl, hb⟩)
    go_ret
    exact ⟨rfl, hb⟩
  · go_enter Try.func6, Try.ntmps6
    go_wp2_with (go_at_call 20; refine (alive15_any _).mono ?_; rintro e w1 ⟨rfl, hb⟩)
    go_ret
    exact ⟨rfl, hb⟩
  · go_enter Try.func6, Try.ntmps6
    go_wp2_with (go_at_call 20; refine (alive15_any _).mono ?_; rintro e w1 ⟨rfl, hb⟩)
    go_ret
    exact ⟨rfl, hb⟩
  · go_enter Try.func6, Try.ntmps6
    go_wp2_with (first | (go_at_call 20; refine (alive15_any _).mono ?_; rintro e w1 ⟨rfl, hb⟩) | (go_at_call 23; refine (Wild_any _ _ (by unfold maxLen; omega)).mono ?_; rintro e w' ⟨rfl, rfl⟩))
    go_ret
    exact ⟨rfl, hb⟩
  · go_enter Try.func6, Try.ntmps6
    go_wp2_with (first | (go_at_call 20; refine (alive15_any _).mono ?_; rintro e w1 ⟨rfl, hb⟩) | (go_at_call 23; refine (Wild_any _ _ (by unfold maxLen; omega)).mono ?_; rintro e w' ⟨rfl, rfl⟩))
    go_ret
    exact ⟨rfl, hb⟩
  · have n0 := noWild h3
    have n1 := noWild h4
    obtain ⟨P, hP⟩ : ∃ P, a0 ++ ⟨#[37]⟩ ++ a1 = P := ⟨_, rfl⟩
    obtain ⟨Q, hQ⟩ : ∃ P, a0 ++ ⟨#[38]⟩ ++ a1 = P := ⟨_, rfl⟩
    obtain ⟨T, hT⟩ : ∃ P, a0 ++ a2 ++ a1 = P := ⟨_, rfl⟩
    have c37 : wildB 37 = true := by decide
    have c38 : wildB 38 = true := by decide
    have k37 : ((37 : UInt8) == 38) = false := by decide
    have k38 : ((38 : UInt8) == 38) = true := by decide
    have zP : P.size ≤ 1000 := by rw [← hP]; show (cat3 a0 37 a1).size ≤ _; rw [cat3_size]; omega
    have zQ : Q.size ≤ 1000 := by rw [← hQ]; show (cat3 a0 38 a1).size ≤ _; rw [cat3_size]; omega
    have zT : T.size ≤ 1000 := by rw [← hT, ba_size, ba_append, ba_append, List.length_append, List.length_append, ← ba_size, ← ba_size, ← ba_size]; omega
    have f1 : wI P = a0.size := by rw [← hP]; exact cat3_wI n0 c37
    have f2 : fillS P a2 = T := by rw [← hP, ← hT]; exact cat3_fill n0 n1 c37
    have f3 : fillS Q a2 = T := by rw [← hQ, ← hT]; exact cat3_fill n0 n1 c38
    have m1 : matchM P T = some a2 := by
      rw [← hP, ← hT]
      have := match_back (b := a1) (s := a2) n0 c37
      rw [k37] at this
      exact this
    have m2 : matchM Q T = if narrowS a2 = true then some a2 else none := by
      rw [← hQ, ← hT]
      have := match_back (b := a1) (s := a2) n0 c38
      rw [k38] at this
      refine this.trans ?_
      cases narrowS a2 <;> rfl
    have f4 : stemM P T = a2 := by unfold stemM; rw [m1]; rfl
    have f5 : isM P T = true := by unfold isM; rw [m1]; rfl
    have m3 : ∀ x, matchM P a2 = some x → a0 ++ x ++ a1 = a2 := fun x hx => by rw [← hP] at hx; exact match_there n0 c37 hx
    obtain ⟨X, hX⟩ : ∃ X, stemM P a2 = X := ⟨_, rfl⟩
    obtain ⟨b, hb1⟩ : ∃ b, isM P a2 = b := ⟨_, rfl⟩
    obtain ⟨t, ht⟩ : ∃ t, narrowS a2 = t := ⟨_, rfl⟩
    have f6 : isM Q T = t := by unfold isM; rw [m2, ht]; cases t <;> rfl
    have f7 : t = true → stemM Q T = a2 := fun h => by unfold stemM; rw [m2, ht, h]; rfl
    have f8 : b = true → a0 ++ X ++ a1 = a2 := fun h => by
      rw [h] at hb1
      unfold isM at hb1
      obtain ⟨x, hx⟩ := Option.isSome_iff_exists.1 hb1
      have : X = x := by rw [← hX]; unfold stemM; rw [hx]; rfl
      rw [this]; exact m3 x hx
    have zX : b = true → X.size ≤ 1000 := fun h => by
      have := congrArg ByteArray.size (f8 h)
      rw [ba_size, ba_append, ba_append, List.length_append, List.length_append, ← ba_size, ← ba_size, ← ba_size] at this
      omega
    have hzX : b = true → a0.size + X.size ≤ 2000 ∧ X.size ≤ 1000 := fun h => ⟨by have := zX h; omega, zX h⟩
    clear m1 m2 m3 n0 n1 c37 c38 k37 k38
    cases t
    all_goals
      cases b
      all_goals
        first | (have g7 := f7 rfl; clear f7) | clear f7
        first | (have g8 := f8 rfl; have g9 := (hzX rfl).2; have g10 := (hzX rfl).1; clear f8 hzX zX) | clear f8 hzX zX
        go_enter Try.func6, Try.ntmps6
        go_wp2_with (first | (go_at_call 20; refine (alive15_any _).mono ?_; rintro e w1 ⟨rfl, hb⟩) | (go_at_call 23; refine (Wild_any _ _ (by unfold maxLen; omega)).mono ?_; rintro e w' ⟨rfl, rfl⟩) | (go_at_call 25; refine (Fill_any _ _ _ (by omega) (by omega)).mono ?_; rintro e w2 ⟨rfl, hb2⟩; have hb := below_next hb hb2; clear hb2) | (go_at_call 21; refine (Match_any _ _ _ (by unfold maxLen; omega) (by unfold maxLen; omega)).mono ?_; rintro e w' ⟨rfl, rfl⟩) | (go_at_call 26; refine (narrow_any _ _).mono ?_; rintro e w' ⟨rfl, rfl⟩))
        go_ret
        exact ⟨rfl, hb⟩

end Go.Proofs.Ytboebjmfchbgbaa
