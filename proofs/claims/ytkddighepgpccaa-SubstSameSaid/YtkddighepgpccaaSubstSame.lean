/-
  The walk of the statement SubstSame: which patterns leave all as it is. No condition.
-/
import Derived.Test.YtkddighepgpccaaSubst
namespace Go.Proofs.Ytkddighepgpccaa
open Go.RowKit
set_option linter.unusedSimpArgs false
set_option linter.unusedVariables false

def wcount (s : ByteArray) : Nat := s.data.toList.countP wildB
theorem wcount_le (s : ByteArray) : wcount s ≤ s.size := by rw [ba_size]; exact List.countP_le_length
theorem wcount_none {s : ByteArray} (h : wI s < 0) : wcount s = 0 := by
  unfold wcount
  rw [List.countP_eq_zero]
  intro c hc
  simp [noWild h c hc]
theorem wcount_some {s : ByteArray} {k : Nat} (hk : k < s.size) (h : wn s = k) : wcount s = 1 + wcount (s.extract (k + 1) s.size) := by
  have hl : k < s.data.toList.length := by rw [← ba_size]; exact hk
  have hsp : s.data.toList = s.data.toList.take k ++ (s.data.toList[k] :: s.data.toList.drop (k + 1)) := by
    rw [← List.drop_eq_getElem_cons hl, List.take_append_drop]
  have hw : wildB s.data.toList[k] = true := by
    have := List.findIdx_getElem (p := wildB) (xs := s.data.toList) (w := by show wn s < _; rw [h]; exact hl)
    have e : List.findIdx wildB s.data.toList = k := h
    simpa only [e] using this
  have hn : (s.data.toList.take k).countP wildB = 0 := by
    rw [List.countP_eq_zero]
    intro c hc
    obtain ⟨i, hi, rfl⟩ := List.mem_iff_getElem.1 hc
    rw [List.length_take] at hi
    rw [List.getElem_take]
    have := List.not_of_lt_findIdx (p := wildB) (xs := s.data.toList) (i := i) (by show i < wn s; omega)
    exact Bool.eq_false_iff.1 (by simpa using this)
  unfold wcount
  rw [extract_end]
  conv => lhs; rw [hsp]
  rw [List.countP_append, hn, List.countP_cons_of_pos hw]
  omega
theorem wI_pos_count {s : ByteArray} (h : 0 ≤ wI s) : 1 ≤ wcount s := by
  unfold wI at h
  by_cases h1 : wn s < s.size
  · have := wcount_some h1 rfl; omega
  · rw [if_neg h1] at h; omega
theorem countP_take_step {s : ByteArray} {j : Nat} (h : j < s.size) {b : Bool} (hb : wildB s[j] = b) : (s.data.toList.take (j + 1)).countP wildB = (s.data.toList.take j).countP wildB + (if b = true then 1 else 0) := by
  rw [take_snoc s j h, List.countP_append, List.countP_singleton, hb]

set_option maxHeartbeats 1000000 in
theorem RefWilds_any (s : ByteArray) (w : World) (hs : s.size ≤ maxLen) :
    Calls Try.prog 6 #[.string s] w fun e w' => e = .returned (.int .i64 (wcount s)) ∧ w = w' := by
  unfold maxLen at hs
  go_enter Try.func6, Try.ntmps6
  go_wp2
  go_loop [3, 4] (fun a i => ∃ j m : Nat, j ≤ s.size ∧ m ≤ j ∧ i = .int .i64 j ∧ a = .int .i64 m ∧ Hid (m = (s.data.toList.take j).countP wildB)) (fun _ i => s.size - (intOf i).toNat)
  case atStart => exact ⟨0, 0, Nat.zero_le _, Nat.le_refl _, rfl, rfl, rfl⟩
  case round =>
    obtain ⟨j, m, hj, hmj, rfl, rfl, hm⟩ := hrel
    by_cases hjl : j < s.size
    · obtain ⟨b1, e1⟩ : ∃ b, (((s[j].toNat : Nat) : Int) == 37) = b := ⟨_, rfl⟩
      obtain ⟨b2, e2⟩ : ∃ b, (((s[j].toNat : Nat) : Int) == 38) = b := ⟨_, rfl⟩
      have HW : wildB s[j] = (b1 || b2) := by
        rw [← e1, ← e2]; unfold wildB
        rw [← byte_int s[j] 37, ← byte_int s[j] 38]; rfl
      have HS := Lib.hid (countP_take_step hjl HW)
      clear HW
      cases b1 <;> cases b2
      all_goals
        go_wp2
        go_round
        case rel =>
          first
            | exact ⟨j + 1, m, by omega, by omega, by go_num, rfl, by show _ = _; rw [HS.out, ← hm.out]; rfl⟩
            | exact ⟨j + 1, m + 1, by omega, by omega, by go_num, by go_num, by show _ = _; rw [HS.out, ← hm.out]; rfl⟩
        case measure => first | (simp [intOf]; done) | (simp [intOf]; omega)
    · have hM : Hid (m = wcount s) := by
        show _ = _
        rw [hm.out, show j = s.data.toList.length by rw [← ba_size]; omega, List.take_length]; rfl
      clear hm
      go_wp2
      go_ret
      exact ⟨ret_int (congrArg _ hM.out), rfl⟩

def sameB (f t : ByteArray) : Bool := (f.toList == t.toList) && decide (wcount f ≤ 1)
set_option maxHeartbeats 1000000 in
theorem Same_any (f t : ByteArray) (w : World) (hf : f.size ≤ 1000) (ht : t.size ≤ 1000) :
    Calls Try.prog 7 #[.string f, .string t] w fun e w' => e = .returned (.bool (sameB f t)) ∧ w = w' := by
  obtain ⟨b, hb⟩ : ∃ b, (f.toList == t.toList) = b := ⟨_, rfl⟩
  have HB : Hid (sameB f t = (b && decide (wcount f ≤ 1))) := by show _ = _; unfold sameB; rw [hb]
  cases b
  · go_enter Try.func7, Try.ntmps7
    go_wp2_with (go_at_call 13; refine (Wild_any _ _ (by unfold maxLen; omega)).mono ?_; rintro e w' ⟨rfl, rfl⟩)
    go_ret
    exact ⟨ret_bool HB.out.symm, rfl⟩
  · obtain ⟨k, hk⟩ : ∃ k, wn f = k := ⟨_, rfl⟩
    by_cases hlt : k < f.size
    · have HI : Hid (wI f = k) := wI_yes hlt hk
      have HC := Lib.hid (wcount_some hlt hk)
      obtain ⟨R, hR⟩ : ∃ R, f.extract (k + 1) f.size = R := ⟨_, rfl⟩
      have zR : R.size ≤ 1000 := by rw [← hR, ByteArray.size_extract]; omega
      clear hk
      by_cases hw : wI R < 0
      · have HF : Hid (sameB f t = true) := by
          show _ = _
          rw [HB.out, HC.out, hR, wcount_none hw]; rfl
        go_enter Try.func7, Try.ntmps7
        go_wp2_with (go_at_call 13; refine (Wild_any _ _ (by unfold maxLen; omega)).mono ?_; rintro e w' ⟨rfl, rfl⟩; try rw [HI.out])
        go_ret
        exact ⟨ret_bool HF.out.symm, rfl⟩
      · have HF : Hid (sameB f t = false) := by
          show _ = _
          have := wI_pos_count (s := R) (by omega)
          rw [HB.out, HC.out, hR, decide_eq_false (by omega)]; rfl
        go_enter Try.func7, Try.ntmps7
        go_wp2_with (go_at_call 13; refine (Wild_any _ _ (by unfold maxLen; omega)).mono ?_; rintro e w' ⟨rfl, rfl⟩; try rw [HI.out])
        go_ret
        refine ⟨ret_bool ?_, rfl⟩
        rw [HF.out, decide_eq_false (by omega), decide_eq_false (by omega)]; rfl
    · have h0 : wI f < 0 := by unfold wI; rw [if_neg (by omega)]; decide
      have HF : Hid (sameB f t = true) := by
        show _ = _
        rw [HB.out, wcount_none h0]; rfl
      go_enter Try.func7, Try.ntmps7
      go_wp2_with (go_at_call 13; refine (Wild_any _ _ (by unfold maxLen; omega)).mono ?_; rintro e w' ⟨rfl, rfl⟩)
      go_ret
      exact ⟨ret_bool HF.out.symm, rfl⟩

/-- A pattern with one wild sign at most, put for itself, leaves every word as it is. -/
theorem word_same {f x : ByteArray} (h : wcount f ≤ 1) : wordS x f f = x := by
  unfold wordS
  cases hm : matchM f x with
  | none => rw [if_neg (by unfold isM; rw [hm]; simp)]
  | some y =>
    rw [if_pos (by unfold isM; rw [hm]; rfl)]
    have hst : stemM f x = y := by unfold stemM; rw [hm]; rfl
    rw [hst]
    obtain ⟨k, hk⟩ : ∃ k, wn f = k := ⟨_, rfl⟩
    by_cases hlt : k < f.size
    · have hc := wcount_some hlt hk
      have hr : wcount (f.extract (k + 1) f.size) = 0 := by omega
      have hl : k < f.data.toList.length := by rw [← ba_size]; exact hlt
      have hw : wildB f.data.toList[k] = true := by
        have := List.findIdx_getElem (p := wildB) (xs := f.data.toList) (w := by show wn f < _; rw [hk]; exact hl)
        have e : List.findIdx wildB f.data.toList = k := hk
        simpa only [e] using this
      have hcat : f = cat3 (f.extract 0 k) f.data.toList[k] (f.extract (k + 1) f.size) := by
        apply ba_ext
        rw [cat3_data, extract_end, Lib.extract_data, List.append_assoc, List.singleton_append, ← List.drop_eq_getElem_cons hl]
        simp
      have hn1 : ∀ c ∈ (f.extract 0 k).data.toList, wildB c = false := by
        intro c hcc
        rw [Lib.extract_data, Nat.sub_zero, List.drop_zero] at hcc
        obtain ⟨i, hi, rfl⟩ := List.mem_iff_getElem.1 hcc
        rw [List.length_take] at hi
        rw [List.getElem_take]
        have := List.not_of_lt_findIdx (p := wildB) (xs := f.data.toList) (i := i) (by show i < wn f; omega)
        simpa using this
      have hn2 : ∀ c ∈ (f.extract (k + 1) f.size).data.toList, wildB c = false := by
        intro c hcc
        unfold wcount at hr
        rw [List.countP_eq_zero] at hr
        exact Bool.eq_false_iff.2 (hr c hcc)
      rw [hcat] at hm ⊢
      rw [cat3_fill hn1 hn2 hw]
      exact match_there hn1 hw hm
    · have h0 : wI f < 0 := by unfold wI; rw [if_neg (by omega)]; decide
      rw [fillS_none h0]
      unfold matchM at hm
      rw [if_neg (by omega)] at hm
      split at hm
      · rename_i he
        exact ba_ext (by rw [Lib.toList_data, Lib.toList_data] at he; simpa using he)
      · cases hm

set_option maxHeartbeats 4000000 in
theorem substSame_walk (a0 a1 a2 : ByteArray) (w : World) (w0 : a0.size ≤ maxLen) (w1 : a1.size ≤ maxLen) (w2 : a2.size ≤ maxLen) :
    Calls Try.prog 3 #[.string a0, .string a1, .string a2] w fun e w' => e = .returned (.bool true) ∧ Below w.heap.size w w' := by
  unfold maxLen at w0 w1 w2
  rcases (show 60 < a0.size ∨ (a0.size ≤ 60 ∧ 60 < a1.size) ∨ (a0.size ≤ 60 ∧ a1.size ≤ 60 ∧ 100 < a2.size) ∨ (a0.size ≤ 60 ∧ a1.size ≤ 60 ∧ a2.size ≤ 100) from by omega) with h | ⟨h, h'⟩ | ⟨h, h', h''⟩ | ⟨h, h', h''⟩
  · go_enter Try.func3, Try.ntmps3
    go_wp2_with (go_at_call 5; refine (alive16_any _).mono ?_; rintro e w1 ⟨rfl, hb⟩)
    go_ret
    exact ⟨rfl, hb⟩
  · go_enter Try.func3, Try.ntmps3
    go_wp2_with (go_at_call 5; refine (alive16_any _).mono ?_; rintro e w1 ⟨rfl, hb⟩)
    go_ret
    exact ⟨rfl, hb⟩
  · go_enter Try.func3, Try.ntmps3
    go_wp2_with (go_at_call 5; refine (alive16_any _).mono ?_; rintro e w1 ⟨rfl, hb⟩)
    go_ret
    exact ⟨rfl, hb⟩
  · obtain ⟨b, hb⟩ : ∃ b, (a0.toList == a1.toList) = b := ⟨_, rfl⟩
    obtain ⟨t, hsm⟩ : ∃ t, sameB a0 a1 = t := ⟨_, rfl⟩
    have hc := wcount_le a0
    rcases (show b = false ∨ (b = true ∧ 1 < wcount a0) ∨ (b = true ∧ wcount a0 ≤ 1) from by cases b <;> simp; omega) with rfl | ⟨rfl, h1⟩ | ⟨rfl, h1⟩
    · obtain rfl : t = false := by rw [← hsm]; unfold sameB; rw [hb]; rfl
      go_enter Try.func3, Try.ntmps3
      go_wp2_with (first | (go_at_call 5; refine (alive16_any _).mono ?_; rintro e w1 ⟨rfl, hb⟩) | (go_at_call 7; refine (Same_any _ _ _ (by omega) (by omega)).mono ?_; rintro e w' ⟨rfl, rfl⟩; rw [hsm]))
      go_ret
      exact ⟨rfl, ‹Below w.heap.size w _›⟩
    · obtain rfl : t = false := by rw [← hsm]; unfold sameB; rw [decide_eq_false (by omega), Bool.and_false]
      have hd : decide ((wcount a0 : Int) ≤ 1) = false := decide_eq_false (by omega)
      go_enter Try.func3, Try.ntmps3
      go_wp2_with (first | (go_at_call 5; refine (alive16_any _).mono ?_; rintro e w1 ⟨rfl, hb⟩) | (go_at_call 6; refine (RefWilds_any _ _ (by unfold maxLen; omega)).mono ?_; rintro e w' ⟨rfl, rfl⟩) | (go_at_call 7; refine (Same_any _ _ _ (by omega) (by omega)).mono ?_; rintro e w' ⟨rfl, rfl⟩; rw [hsm]))
      go_ret
      exact ⟨rfl, ‹Below w.heap.size w _›⟩
    · obtain rfl : t = true := by rw [← hsm]; unfold sameB; rw [hb, decide_eq_true h1]; rfl
      obtain rfl : a0 = a1 := ba_ext (by rw [Lib.toList_data, Lib.toList_data] at hb; simpa using hb)
      have hw := word_same (x := a2) h1
      have hd : decide ((wcount a0 : Int) ≤ 1) = true := decide_eq_true (by omega)
      go_enter Try.func3, Try.ntmps3
      go_wp2_with (first | (go_at_call 5; refine (alive16_any _).mono ?_; rintro e w1 ⟨rfl, hb1⟩) | (go_at_call 6; refine (RefWilds_any _ _ (by unfold maxLen; omega)).mono ?_; rintro e w' ⟨rfl, rfl⟩) | (go_at_call 7; refine (Same_any _ _ _ (by omega) (by omega)).mono ?_; rintro e w' ⟨rfl, rfl⟩; rw [hsm]) | (go_at_call 8; refine (Word_any _ _ _ _ (by omega) (by omega) (by omega)).mono ?_; rintro e w2 ⟨rfl, hb2⟩; rw [hw]))
      go_ret
      exact ⟨rfl, below_next hb1 hb2⟩

end Go.Proofs.Ytkddighepgpccaa
