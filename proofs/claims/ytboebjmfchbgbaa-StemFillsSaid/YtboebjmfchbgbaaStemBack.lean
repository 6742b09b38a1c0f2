/-
  The statement StemBack: a filled pattern fits, with that stem. No condition.
-/
import Derived.Test.YtboebjmfchbgbaaFill
namespace Go.Proofs.Ytboebjmfchbgbaa
open Go.RowKit
set_option linter.unusedSimpArgs false
set_option linter.unusedVariables false

theorem ba_append (a b : ByteArray) : (a ++ b).data.toList = a.data.toList ++ b.data.toList := by simp [ByteArray.data_append]
theorem noWild {a : ByteArray} (h : wI a < 0) : ∀ c ∈ a.data.toList, wildB c = false := by
  unfold wI at h
  by_cases h1 : wn a < a.size
  · rw [if_pos h1] at h; omega
  · have : List.findIdx wildB a.data.toList = a.data.toList.length := by
      have := wn_le a
      rw [← ba_size]; show wn a = _; omega
    simpa using List.findIdx_eq_length.1 this
def cat3 (a : ByteArray) (c : UInt8) (b : ByteArray) : ByteArray := a ++ ⟨#[c]⟩ ++ b
theorem cat3_data (a b : ByteArray) (c : UInt8) : (cat3 a c b).data.toList = a.data.toList ++ [c] ++ b.data.toList := by
  unfold cat3; rw [ba_append, ba_append]
theorem cat3_size (a b : ByteArray) (c : UInt8) : (cat3 a c b).size = a.size + 1 + b.size := by
  rw [ba_size, cat3_data]; simp only [List.length_append, List.length_cons, List.length_nil, ← ba_size]
theorem cat3_wn {a b : ByteArray} {c : UInt8} (h : ∀ x ∈ a.data.toList, wildB x = false) (hc : wildB c = true) : wn (cat3 a c b) = a.size := by
  unfold wn
  rw [cat3_data, List.append_assoc, List.findIdx_append]
  have e : List.findIdx wildB a.data.toList = a.data.toList.length := List.findIdx_eq_length.2 (by simpa using h)
  rw [if_neg (by omega), List.singleton_append, List.findIdx_cons, hc, ← ba_size]
  simp
theorem cat3_wI {a b : ByteArray} {c : UInt8} (h : ∀ x ∈ a.data.toList, wildB x = false) (hc : wildB c = true) : wI (cat3 a c b) = a.size := by
  unfold wI; rw [cat3_wn h hc, cat3_size, if_pos (by omega)]
theorem fillL_none {l s : List UInt8} (h : ∀ c ∈ l, wildB c = false) : fillL l s = l := by
  induction l with
  | nil => rfl
  | cons c l ih =>
    have : fillL (c :: l) s = (if wildB c then s else [c]) ++ fillL l s := by simp [fillL]
    rw [this, h c List.mem_cons_self, ih fun x hx => h x (List.mem_cons_of_mem _ hx)]; rfl
theorem cat3_fill {a b s : ByteArray} {c : UInt8} (h : ∀ x ∈ a.data.toList, wildB x = false) (h' : ∀ x ∈ b.data.toList, wildB x = false) (hc : wildB c = true) : fillS (cat3 a c b) s = a ++ s ++ b := by
  apply ba_ext
  unfold fillS
  rw [str_data, cat3_data, ba_append, ba_append]
  have : ∀ x y z : List UInt8, fillL (x ++ y) z = fillL x z ++ fillL y z := by intro x y z; simp [fillL]
  rw [this, this, fillL_none h, fillL_none h']
  have : fillL [c] s.data.toList = s.data.toList := by simp [fillL, hc]
  rw [this]
theorem cat3_pre {a b : ByteArray} {c : UInt8} (h : ∀ x ∈ a.data.toList, wildB x = false) (hc : wildB c = true) : pre (cat3 a c b) = a := by
  apply ba_ext
  unfold pre
  rw [cat3_wn h hc, Lib.extract_data, cat3_data, ba_size]
  simp
theorem cat3_suf {a b : ByteArray} {c : UInt8} (h : ∀ x ∈ a.data.toList, wildB x = false) (hc : wildB c = true) : suf (cat3 a c b) = b := by
  apply ba_ext
  unfold suf
  rw [cat3_wn h hc, Lib.extract_data, cat3_data, cat3_size, ba_size a, ba_size b]
  rw [show a.data.toList.length + 1 = (a.data.toList ++ [c]).length by simp, List.drop_left]
  rw [List.take_of_length_le (by omega)]
theorem cat3_byte {a b : ByteArray} {c : UInt8} (h : ∀ x ∈ a.data.toList, wildB x = false) (hc : wildB c = true) : byteAt (cat3 a c b) (wn (cat3 a c b)) = c := by
  unfold byteAt
  rw [cat3_wn h hc, cat3_data, ba_size, List.append_assoc, List.getD_eq_getElem?_getD, List.getElem?_append_right (Nat.le_refl _)]
  simp
theorem match_cat {a b T : ByteArray} {c : UInt8} (h : ∀ x ∈ a.data.toList, wildB x = false) (hc : wildB c = true) :
    matchM (cat3 a c b) T = if (hasP T a && hasS (trimP T a) b && !(c == 38 && !narrowS (trimS (trimP T a) b))) = true then some (trimS (trimP T a) b) else none := by
  unfold matchM
  rw [if_pos (by rw [cat3_wn h hc, cat3_size]; omega)]
  unfold mid
  rw [cat3_pre h hc, cat3_suf h hc, cat3_byte h hc]
theorem hasP_cat (a b : ByteArray) : hasP (a ++ b) a = true := by
  unfold hasP Lib.hasPrefix; rw [ba_append]; exact List.isPrefixOf_iff_prefix.2 ⟨_, rfl⟩
theorem trimP_cat (a b : ByteArray) : trimP (a ++ b) a = b := by
  apply ba_ext
  unfold trimP Lib.trimPrefix
  have := hasP_cat a b
  unfold hasP at this
  rw [str_data, if_pos this, ba_append, List.drop_left]
theorem hasS_cat (a b : ByteArray) : hasS (a ++ b) b = true := by
  unfold hasS Lib.hasSuffix; rw [ba_append]; exact List.isSuffixOf_iff_suffix.2 ⟨_, rfl⟩
theorem trimS_cat (a b : ByteArray) : trimS (a ++ b) b = a := by
  apply ba_ext
  unfold trimS Lib.trimSuffix
  have := hasS_cat a b
  unfold hasS at this
  rw [str_data, if_pos this, ba_append, List.length_append, Nat.add_sub_cancel, List.take_left]
theorem ba_assoc (a b c : ByteArray) : a ++ b ++ c = a ++ (b ++ c) := by apply ba_ext; simp only [ba_append, List.append_assoc]
theorem match_back {a b s : ByteArray} {c : UInt8} (h : ∀ x ∈ a.data.toList, wildB x = false) (hc : wildB c = true) :
    matchM (cat3 a c b) (a ++ s ++ b) = if (c == 38 && !narrowS s) = true then none else some s := by
  rw [match_cat h hc, ba_assoc, hasP_cat, trimP_cat, hasS_cat, trimS_cat]
  cases (c == 38 && !narrowS s) <;> simp
theorem hasP_split {T a : ByteArray} (h : hasP T a = true) : a ++ trimP T a = T := by
  apply ba_ext
  unfold hasP at h
  rw [ba_append]
  unfold trimP Lib.trimPrefix
  rw [str_data, if_pos h]
  obtain ⟨t, ht⟩ := List.isPrefixOf_iff_prefix.1 h
  rw [← ht, List.drop_left]
theorem hasS_split {T b : ByteArray} (h : hasS T b = true) : trimS T b ++ b = T := by
  apply ba_ext
  unfold hasS at h
  rw [ba_append]
  unfold trimS Lib.trimSuffix
  rw [str_data, if_pos h]
  obtain ⟨t, ht⟩ := List.isSuffixOf_iff_suffix.1 h
  rw [← ht, List.length_append, Nat.add_sub_cancel, List.take_left]
theorem match_there {a b s x : ByteArray} {c : UInt8} (h : ∀ y ∈ a.data.toList, wildB y = false) (hc : wildB c = true) (hm : matchM (cat3 a c b) s = some x) : a ++ x ++ b = s := by
  rw [match_cat h hc] at hm
  split at hm
  · rename_i hh
    simp only [Bool.and_eq_true] at hh
    obtain ⟨⟨h1, h2⟩, _⟩ := hh
    injection hm with hm
    rw [← hm, ba_assoc, hasS_split h2, hasP_split h1]
  · cases hm

set_option maxHeartbeats 8000000 in
theorem stemBack_walk (a0 a1 a2 : ByteArray) (w : World) (w0 : a0.size ≤ maxLen) (w1 : a1.size ≤ maxLen) (w2 : a2.size ≤ maxLen) :
    Calls Try.prog 6 #[.string a0, .string a1, .string a2] w fun e w' => e = .returned (.bool true) ∧ Below w.heap.size w w' := by
  unfold maxLen at w0 w1 w2
  rcases (show 60 < a0.size ∨ (a0.size ≤ 60 ∧ 60 < a1.size) ∨ (a0.size ≤ 60 ∧ a1.size ≤ 60 ∧ 60 < a2.size) ∨ (a0.size ≤ 60 ∧ a1.size ≤ 60 ∧ a2.size ≤ 60 ∧ 0 ≤ wI a0) ∨ (a0.size ≤ 60 ∧ a1.size ≤ 60 ∧ a2.size ≤ 60 ∧ wI a0 < 0 ∧ 0 ≤ wI a1) ∨ (a0.size ≤ 60 ∧ a1.size ≤ 60 ∧ a2.size ≤ 60 ∧ wI a0 < 0 ∧ wI a1 < 0) from by omega) with h | ⟨h, h'⟩ | ⟨h, h', h''⟩ | ⟨h, h', h'', h3⟩ | ⟨h, h', h'', h3, h4⟩ | ⟨h0, h1, h2, h3, h4⟩
  · go_enter Try.func6, Try.ntmps6
    go_wp2_with (go_at_call 20; refine (alive15_any _).mono ?_; rintro e w1 ⟨rfl, hb⟩)
    go_ret
    exact ⟨rfl, hb⟩
  · go_enter Try.func6, Try.ntmps6
    go_wp2_with (go_at_call 20; refine (alive15_any _).mono ?_; rintro e w1 ⟨rfl, hb⟩)
    go_ret
    exact ⟨rfl, hb⟩
  · go_enter Try.func6, Try.ntmps6
    go_wp2_with (go_at_call 20; refine (alive15_any _).mono ?_; rintro e w1 ⟨rfl, hb⟩)
    go_ret
    exact ⟨rfl, hb⟩
  · go_enter Try.func6, Try.ntmps6
    go_wp2_with (first | (go_at_call 20; refine (alive15_any _).mono ?_; rintro e w1 ⟨rfl, hb⟩) | (go_at_call 23; refine (Wild_any _ _ (by unfold maxLen; omega)).mono ?_; rintro e w' ⟨rfl, rfl⟩))
    go_ret
    exact ⟨rfl, hb⟩
  · go_enter Try.func6, Try.ntmps6
    go_wp2_with (first | (go_at_call 20; refine (alive15_any _).mono ?_; rintro e w1 ⟨rfl, hb⟩) | (go_at_call 23; refine (Wild_any _ _ (by unfold maxLen; omega)).mono ?_; rintro e w' ⟨rfl, rfl⟩))
    go_ret
    exact ⟨rfl, hb⟩
  · have n0 := noWild h3
    have n1 := noWild h4
    obtain ⟨P, hP⟩ : ∃ P, a0 ++ ⟨#[37]⟩ ++ a1 = P := ⟨_, rfl⟩
    obtain ⟨Q, hQ⟩ : ∃ P, a0 ++ ⟨#[38]⟩ ++ a1 = P := ⟨_, rfl⟩
    obtain ⟨T, hT⟩ : ∃ P, a0 ++ a2 ++ a1 = P := ⟨_, rfl⟩
    have c37 : wildB 37 = true := by decide
    have c38 : wildB 38 = true := by decide
    have k37 : ((37 : UInt8) == 38) = false := by decide
    have k38 : ((38 : UInt8) == 38) = true := by decide
    have zP : P.size ≤ 1000 := by rw [← hP]; show (cat3 a0 37 a1).size ≤ _; rw [cat3_size]; omega
    have zQ : Q.size ≤ 1000 := by rw [← hQ]; show (cat3 a0 38 a1).size ≤ _; rw [cat3_size]; omega
    have zT : T.size ≤ 1000 := by rw [← hT, ba_size, ba_append, ba_append, List.length_append, List.length_append, ← ba_size, ← ba_size, ← ba_size]; omega
    have f1 : wI P = a0.size := by rw [← hP]; exact cat3_wI n0 c37
    have f2 : fillS P a2 = T := by rw [← hP, ← hT]; exact cat3_fill n0 n1 c37
    have f3 : fillS Q a2 = T := by rw [← hQ, ← hT]; exact cat3_fill n0 n1 c38
    have m1 : matchM P T = some a2 := by
      rw [← hP, ← hT]
      have := match_back (b := a1) (s := a2) n0 c37
      rw [k37] at this
      exact this
    have m2 : matchM Q T = if narrowS a2 = true then some a2 else none := by
      rw [← hQ, ← hT]
      have := match_back (b := a1) (s := a2) n0 c38
      rw [k38] at this
      refine this.trans ?_
      cases narrowS a2 <;> rfl
    have f4 : stemM P T = a2 := by unfold stemM; rw [m1]; rfl
    have f5 : isM P T = true := by unfold isM; rw [m1]; rfl
    have m3 : ∀ x, matchM P a2 = some x → a0 ++ x ++ a1 = a2 := fun x hx => by rw [← hP] at hx; exact match_there n0 c37 hx
    obtain ⟨X, hX⟩ : ∃ X, stemM P a2 = X := ⟨_, rfl⟩
    obtain ⟨b, hb1⟩ : ∃ b, isM P a2 = b := ⟨_, rfl⟩
    obtain ⟨t, ht⟩ : ∃ t, narrowS a2 = t := ⟨_, rfl⟩
    have f6 : isM Q T = t := by unfold isM; rw [m2, ht]; cases t <;> rfl
    have f7 : t = true → stemM Q T = a2 := fun h => by unfold stemM; rw [m2, ht, h]; rfl
    have f8 : b = true → a0 ++ X ++ a1 = a2 := fun h => by
      rw [h] at hb1
      unfold isM at hb1
      obtain ⟨x, hx⟩ := Option.isSome_iff_exists.1 hb1
      have : X = x := by rw [← hX]; unfold stemM; rw [hx]; rfl
      rw [this]; exact m3 x hx
    have zX : b = true → X.size ≤ 1000 := fun h => by
      have := congrArg ByteArray.size (f8 h)
      rw [ba_size, ba_append, ba_append, List.length_append, List.length_append, ← ba_size, ← ba_size, ← ba_size] at this
      omega
    have hzX : b = true → a0.size + X.size ≤ 2000 ∧ X.size ≤ 1000 := fun h => ⟨by have := zX h; omega, zX h⟩
    clear m1 m2 m3 n0 n1 c37 c38 k37 k38
    cases t
    all_goals
      cases b
      all_goals
        first | (have g7 := f7 rfl; clear f7) | clear f7
        first | (have g8 := f8 rfl; have g9 := (hzX rfl).2; have g10 := (hzX rfl).1; clear f8 hzX zX) | clear f8 hzX zX
        go_enter Try.func6, Try.ntmps6
        go_wp2_with (first | (go_at_call 20; refine (alive15_any _).mono ?_; rintro e w1 ⟨rfl, hb⟩) | (go_at_call 23; refine (Wild_any _ _ (by unfold maxLen; omega)).mono ?_; rintro e w' ⟨rfl, rfl⟩) | (go_at_call 25; refine (Fill_any _ _ _ (by omega) (by omega)).mono ?_; rintro e w2 ⟨rfl, hb2⟩; have hb := below_next hb hb2; clear hb2) | (go_at_call 21; refine (Match_any _ _ _ (by unfold maxLen; omega) (by unfold maxLen; omega)).mono ?_; rintro e w' ⟨rfl, rfl⟩) | (go_at_call 26; refine (narrow_any _ _).mono ?_; rintro e w' ⟨rfl, rfl⟩))
        go_ret
        exact ⟨rfl, hb⟩

end Go.Proofs.Ytboebjmfchbgbaa
