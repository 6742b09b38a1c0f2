/-
  Walks of package stem (layer 15): what Wild, wild, Narrow and Match compute, and the reference's Wild and Match.
-/
import Derived.Test.YtkddighepgpccaaDoorShelf
import Derived.Test.YtkddighepgpccaaDoorKit
import Derived.Deep.QuietTactic
import Derived.BigQuiet
namespace Go.Proofs.YtkddighepgpccaaDoor
open Go.RowKit
set_option linter.unusedSimpArgs false
set_option linter.unusedVariables false

def wildB (c : UInt8) : Bool := c == 37 || c == 38
/-- The place of the first wild sign; the length, if there is none. -/
def wn (s : ByteArray) : Nat := s.data.toList.findIdx wildB
def wI (s : ByteArray) : Int := if wn s < s.size then (wn s : Int) else -1

theorem wild_eq (c : UInt8) : decide (0 ≤ Lib.indexByte [37, 38] c) = wildB c := by
  by_cases h : c = 37
  · subst h; decide
  · by_cases h' : c = 38
    · subst h'; decide
    · have h1 : ((37 : UInt8) == c) = false := by simpa using fun e => h e.symm
      have h2 : ((38 : UInt8) == c) = false := by simpa using fun e => h' e.symm
      simp [Lib.indexByte, wildB, h1, h2, h, h']
theorem wn_le (s : ByteArray) : wn s ≤ s.size := by rw [ba_size]; exact List.findIdx_le_length
theorem wn_step_no {s : ByteArray} {k : Nat} (hk : k ≤ wn s) (h : k < s.size) (hb : wildB s[k] = false) : k + 1 ≤ wn s := by
  rcases Nat.lt_or_ge k (wn s) with h1 | h1
  · omega
  · have e : wn s = k := by omega
    have hl : k < s.data.toList.length := by rw [← ba_size]; exact h
    have := List.findIdx_getElem (p := wildB) (xs := s.data.toList) (w := by show wn s < _; rw [e]; exact hl)
    have e2 : s.data.toList[List.findIdx wildB s.data.toList]? = some s[k] := by
      show s.data.toList[wn s]? = _
      rw [e]; exact ba_at s k h
    rw [List.getElem?_eq_getElem (by show wn s < _; rw [e]; exact hl)] at e2
    injection e2 with e2
    rw [e2, hb] at this
    exact absurd this (by simp)
theorem wn_step_yes {s : ByteArray} {k : Nat} (hk : k ≤ wn s) (h : k < s.size) (hb : wildB s[k] = true) : wn s = k := by
  rcases Nat.lt_or_ge k (wn s) with h1 | h1
  · have := List.not_of_lt_findIdx (p := wildB) (xs := s.data.toList) (i := k) h1
    have e2 := ba_at s k h
    rw [List.getElem?_eq_getElem (by rw [← ba_size]; exact h)] at e2
    injection e2 with e2
    rw [e2, hb] at this
    exact absurd this (by simp)
  · omega
theorem wI_yes {s : ByteArray} {k : Nat} (h : k < s.size) (e : wn s = k) : wI s = k := by unfold wI; rw [if_pos (by omega), e]
theorem wI_no {s : ByteArray} (h : s.size ≤ wn s) : wI s = -1 := by unfold wI; rw [if_neg (by omega)]

set_option maxHeartbeats 400000 in
theorem wild_any (c : UInt8) (w : World) :
    Calls Tryd.prog 54 #[.int .u8 (c.toNat : Int)] w fun e w' => e = .returned (.bool (wildB c)) ∧ w = w' := by
  go_enter Tryd.func54, Tryd.ntmps54
  go_wp2_with (go_at_call 68; refine (Tryd.strings_IndexByte _ _ _).mono ?_; rintro e w' ⟨rfl, rfl⟩)
  go_ret
  exact ⟨ret_bool (wild_eq c), rfl⟩

set_option maxHeartbeats 400000 in
theorem Wild_any (s : ByteArray) (w : World) (hs : s.size ≤ maxLen) :
    Calls Tryd.prog 50 #[.string s] w fun e w' => e = .returned (.int .i64 (wI s)) ∧ w = w' := by
  unfold maxLen at hs
  go_enter Tryd.func50, Tryd.ntmps50
  go_wp2_with fail
  go_loop [6] (fun i => ∃ k : Nat, k ≤ s.size ∧ Hid (k ≤ wn s) ∧ i = .int .i64 k) (fun i => s.size - (intOf i).toNat)
  case atStart => exact ⟨0, Nat.zero_le _, Nat.zero_le _, rfl⟩
  case round =>
    obtain ⟨k, hk, hw, rfl⟩ := hrel
    by_cases hlt : k < s.size
    · obtain ⟨b, hb⟩ : ∃ b, wildB s[k] = b := ⟨_, rfl⟩
      cases b with
      | false =>
        have H := wn_step_no hw.out hlt hb
        have H2 : Hid (k + 1 ≤ wn s) := H
        clear H
        go_wp2_with (go_at_call 54; refine (wild_any _ _).mono ?_; rintro e w' ⟨rfl, rfl⟩)
        go_round
        case rel => exact ⟨k + 1, by omega, H2, by go_num⟩
        case measure => simp [intOf]; omega
      | true =>
        have H : Hid (wI s = k) := wI_yes hlt (wn_step_yes hw.out hlt hb)
        go_wp2_with (go_at_call 54; refine (wild_any _ _).mono ?_; rintro e w' ⟨rfl, rfl⟩)
        go_ret
        exact ⟨ret_int H.out.symm, rfl⟩
    · have hkk : k = s.size := by omega
      have H : Hid (wI s = -1) := wI_no (by have := hw.out; omega)
      clear hw hkk
      go_wp2_with fail
      go_ret
      exact ⟨ret_int H.out.symm, rfl⟩

def narrowB (l : List UInt8) : Bool := l.all fun c => c != 46 && c != 47
theorem indexByte_neg_iff (l : List UInt8) (c : UInt8) : decide (Lib.indexByte l c < 0) = l.all fun x => x != c := by
  induction l with
  | nil => rfl
  | cons b l ih =>
    have := Lib.indexByte_ge l c
    unfold Lib.indexByte
    by_cases h : b = c
    · simp [h]
    · have h1 : (b == c) = false := by simpa using h
      rw [List.all_cons, ← ih, h1]
      by_cases h2 : Lib.indexByte l c = -1
      · simp [h2, h]
      · have h3 : (Lib.indexByte l c == -1) = false := by simpa using h2
        rw [h3]
        have h4 : ¬ Lib.indexByte l c < 0 := by omega
        have h5 : ¬ Lib.indexByte l c + 1 < 0 := by omega
        simp [h4, h5, h]
theorem narrow_eq (l : List UInt8) : (decide (Lib.indexByte l 46 < 0) && decide (Lib.indexByte l 47 < 0)) = narrowB l := by
  rw [indexByte_neg_iff, indexByte_neg_iff]
  unfold narrowB
  induction l with
  | nil => rfl
  | cons b l ih => simp only [List.all_cons]; rw [← ih]; cases (b != 46) <;> cases (b != 47) <;> simp

set_option maxHeartbeats 400000 in
theorem Narrow_any (s : ByteArray) (w : World) :
    Calls Tryd.prog 53 #[.string s] w fun e w' => e = .returned (.bool (narrowB s.data.toList)) ∧ w = w' := by
  rw [← narrow_eq]
  obtain ⟨b, hb⟩ : ∃ b, decide (Lib.indexByte s.data.toList 46 < 0) = b := ⟨_, rfl⟩
  rw [hb]
  cases b with
  | false =>
    go_enter Tryd.func53, Tryd.ntmps53
    go_wp2_with (go_at_call 68; refine (Tryd.strings_IndexByte _ _ _).mono ?_; rintro e w' ⟨rfl, rfl⟩)
    go_ret
    exact ⟨rfl, rfl⟩
  | true =>
    go_enter Tryd.func53, Tryd.ntmps53
    go_wp2_with (go_at_call 68; refine (Tryd.strings_IndexByte _ _ _).mono ?_; rintro e w' ⟨rfl, rfl⟩)
    go_ret
    exact ⟨rfl, rfl⟩


/-! ### Match -/
def hasP (s p : ByteArray) : Bool := Lib.hasPrefix s.data.toList p.data.toList
def hasS (s p : ByteArray) : Bool := Lib.hasSuffix s.data.toList p.data.toList
def trimP (s p : ByteArray) : ByteArray := str (Lib.trimPrefix s.data.toList p.data.toList)
def trimS (s p : ByteArray) : ByteArray := str (Lib.trimSuffix s.data.toList p.data.toList)
theorem trimP_size (s p : ByteArray) : (trimP s p).size ≤ s.size := by rw [ba_size, ba_size]; exact Lib.trimPrefix_le _ _
theorem trimS_size (s p : ByteArray) : (trimS s p).size ≤ s.size := by rw [ba_size, ba_size]; exact Lib.trimSuffix_le _ _
def narrowS (s : ByteArray) : Bool := narrowB s.data.toList
def byteAt (s : ByteArray) (k : Nat) : UInt8 := s.data.toList.getD k 0
theorem byteAt_eq (s : ByteArray) (k : Nat) (h : k < s.size) : s[k] = byteAt s k := by
  unfold byteAt; rw [List.getD_eq_getElem?_getD, ba_at s k h]; rfl
def pre (p : ByteArray) : ByteArray := p.extract 0 (wn p)
def suf (p : ByteArray) : ByteArray := p.extract (wn p + 1) p.size
def mid (p s : ByteArray) : ByteArray := trimS (trimP s (pre p)) (suf p)
/-- The stem of a text that fits a pattern; none: it does not fit. -/
def matchM (p s : ByteArray) : Option ByteArray :=
  if wn p < p.size then
    if (hasP s (pre p) && hasS (trimP s (pre p)) (suf p) && !(byteAt p (wn p) == 38 && !narrowS (mid p s))) = true then some (mid p s) else none
  else if (p.toList == s.toList) = true then some ByteArray.empty else none
def stemM (p s : ByteArray) : ByteArray := (matchM p s).getD ByteArray.empty
def isM (p s : ByteArray) : Bool := (matchM p s).isSome

theorem cutP (s p : ByteArray) (w : World) : Calls Tryd.prog 51 #[.string s, .string p] w fun e w' => e = .returned (.tuple #[.string (trimP s p), .bool (hasP s p)]) ∧ w = w' :=
  (Tryd.strings_CutPrefix s p w).mono fun _ _ h => ⟨h.1, h.2.symm⟩
theorem cutS (s p : ByteArray) (w : World) (hs : s.size ≤ 9223372036854775807) : Calls Tryd.prog 52 #[.string s, .string p] w fun e w' => e = .returned (.tuple #[.string (trimS s p), .bool (hasS s p)]) ∧ w = w' :=
  (Tryd.strings_CutSuffix s p w hs).mono fun _ _ h => ⟨h.1, h.2.symm⟩
theorem narrow_any (s : ByteArray) (w : World) :
    Calls Tryd.prog 53 #[.string s] w fun e w' => e = .returned (.bool (narrowS s)) ∧ w = w' := Narrow_any s w
theorem ret_sb {a b : ByteArray} {c d : Bool} (h : a = b) (h' : c = d) : Ending.returned (.tuple #[.string a, .bool c]) = .returned (.tuple #[.string b, .bool d]) := by rw [h, h']

set_option maxHeartbeats 4000000 in
theorem Match_any (p s : ByteArray) (w : World) (hp : p.size ≤ maxLen) (hs : s.size ≤ maxLen) :
    Calls Tryd.prog 32 #[.string p, .string s] w fun e w' => e = .returned (.tuple #[.string (stemM p s), .bool (isM p s)]) ∧ w = w' := by
  unfold maxLen at hp hs
  obtain ⟨k, hk⟩ : ∃ k, wn p = k := ⟨_, rfl⟩
  by_cases hlt : k < p.size
  · have HI : Hid (wI p = k) := wI_yes hlt hk
    have hts := trimP_size s (p.extract 0 k)
    obtain ⟨b1, h1⟩ : ∃ b, hasP s (p.extract 0 k) = b := ⟨_, rfl⟩
    obtain ⟨b2, h2⟩ : ∃ b, hasS (trimP s (p.extract 0 k)) (p.extract (k + 1) p.size) = b := ⟨_, rfl⟩
    obtain ⟨b3, h3⟩ : ∃ b, (((byteAt p k).toNat : Int) == 38) = b := ⟨_, rfl⟩
    obtain ⟨b4, h4⟩ : ∃ b, narrowS (trimS (trimP s (p.extract 0 k)) (p.extract (k + 1) p.size)) = b := ⟨_, rfl⟩
    have hm : matchM p s = if (b1 && b2 && !(b3 && !b4)) = true then some (trimS (trimP s (p.extract 0 k)) (p.extract (k + 1) p.size)) else none := by
      subst hk
      unfold matchM
      rw [if_pos hlt]
      have e3 : (byteAt p (wn p) == 38) = b3 := by rw [← h3]; exact (byte_int _ 38).symm
      rw [e3]
      unfold mid pre suf
      rw [h1, h2, h4]
    have HM := Lib.hid hm
    have hb := byteAt_eq p k hlt
    clear hm hk
    rcases (show b1 = false ∨ (b1 = true ∧ b2 = false) ∨ (b1 = true ∧ b2 = true ∧ b3 = false) ∨ (b1 = true ∧ b2 = true ∧ b3 = true ∧ b4 = false) ∨ (b1 = true ∧ b2 = true ∧ b3 = true ∧ b4 = true) from by cases b1 <;> cases b2 <;> cases b3 <;> cases b4 <;> simp) with rfl | ⟨rfl, rfl⟩ | ⟨rfl, rfl, rfl⟩ | ⟨rfl, rfl, rfl, rfl⟩ | ⟨rfl, rfl, rfl, rfl⟩
    all_goals
      go_enter Tryd.func32, Tryd.ntmps32
      go_wp2_with (first | (go_at_call 50; refine (Wild_any _ _ (by unfold maxLen; omega)).mono ?_; rintro e w' ⟨rfl, rfl⟩; rw [HI.out]) | (go_at_call 51; refine (cutP _ _ _).mono ?_; rintro e w' ⟨rfl, rfl⟩) | (go_at_call 52; refine (cutS _ _ _ (by omega)).mono ?_; rintro e w' ⟨rfl, rfl⟩) | (go_at_call 53; refine (narrow_any _ _).mono ?_; rintro e w' ⟨rfl, rfl⟩))
      go_ret2
      have hm := HM.out
      exact ⟨ret_sb (by unfold stemM; rw [hm]; first | rfl | simp) (by unfold isM; rw [hm]; first | rfl | simp), rfl⟩
  · have HI : Hid (wI p = -1) := wI_no (by omega)
    have HM : Hid (matchM p s = if (p.toList == s.toList) = true then some ByteArray.empty else none) := by unfold matchM; exact if_neg (by omega)
    obtain ⟨b, hb⟩ : ∃ b, (p.toList == s.toList) = b := ⟨_, rfl⟩
    clear hk hlt
    go_enter Tryd.func32, Tryd.ntmps32
    go_wp2_with (go_at_call 50; refine (Wild_any _ _ (by unfold maxLen; omega)).mono ?_; rintro e w' ⟨rfl, rfl⟩; rw [HI.out])
    go_ret2
    have hm := HM.out
    rw [hb] at hm
    cases b
    · exact ⟨ret_sb (by unfold stemM; rw [hm]; rfl) (by unfold isM; rw [hm]; rfl), rfl⟩
    · exact ⟨ret_sb (by unfold stemM; rw [hm]; rfl) (by unfold isM; rw [hm]; rfl), rfl⟩

end Go.Proofs.YtkddighepgpccaaDoor
