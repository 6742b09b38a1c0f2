/-
  Walks of the reference of layer 15: Wild and Match.
-/
import Derived.Test.YtkddighepgpccaaDoorStem
import Derived.Deep.QuietTactic
import Derived.BigQuiet
namespace Go.Proofs.YtkddighepgpccaaDoor
open Go.RowKit
set_option linter.unusedSimpArgs false
set_option linter.unusedVariables false

/-- The first wild sign from a place on. -/
def wFrom (s : ByteArray) (j : Nat) : Int := if (s.data.toList.drop j).findIdx wildB < s.size - j then (j + (s.data.toList.drop j).findIdx wildB : Nat) else -1
theorem wFrom_zero (s : ByteArray) : wFrom s 0 = wI s := by unfold wFrom wI wn; simp
theorem wFrom_end (s : ByteArray) : wFrom s s.size = -1 := by unfold wFrom; simp
theorem wFrom_yes {s : ByteArray} {j : Nat} (h : j < s.size) (hb : wildB s[j] = true) : wFrom s j = j := by
  unfold wFrom
  have hl : j < s.data.toList.length := by rw [← ba_size]; exact h
  rw [List.drop_eq_getElem_cons hl]
  have : s.data.toList[j] = s[j] := rfl
  rw [this, List.findIdx_cons, hb]
  simp; omega
theorem wFrom_no {s : ByteArray} {j : Nat} (h : j < s.size) (hb : wildB s[j] = false) : wFrom s j = wFrom s (j + 1) := by
  unfold wFrom
  have hl : j < s.data.toList.length := by rw [← ba_size]; exact h
  rw [List.drop_eq_getElem_cons hl]
  have : s.data.toList[j] = s[j] := rfl
  rw [this, List.findIdx_cons, hb]
  simp only [cond_false]
  by_cases h2 : List.findIdx wildB (List.drop (j + 1) s.data.toList) < s.size - (j + 1)
  · rw [if_pos (by omega), if_pos h2]; omega
  · rw [if_neg (by omega), if_neg h2]
theorem byte_eq_dec (c : UInt8) (n : UInt8) : ((c.toNat : Int) == (n.toNat : Int)) = decide (c = n) := by rw [byte_int]; rfl

set_option maxHeartbeats 4000000 in
theorem RefWild_any (s : ByteArray) (w : World) (hs : s.size ≤ maxLen) :
    Calls Tryd.prog 55 #[.string s] w fun e w' => e = .returned (.int .i64 (wI s)) ∧ w = w' := by
  unfold maxLen at hs
  go_enter Tryd.func55, Tryd.ntmps55
  go_wp2
  go_loop [3, 4] (fun a i => ∃ (m n : Int), a = .int .i64 m ∧ i = .int .i64 n ∧ -1 ≤ n ∧ n < s.size ∧ Hid (m = wFrom s (n + 1).toNat)) (fun _ i => (intOf i + 1).toNat)
  case atStart => exact ⟨-1, (s.size : Int) - 1, rfl, rfl, by omega, by omega, by show _ = _; rw [show ((s.size : Int) - 1 + 1).toNat = s.size by omega, wFrom_end]⟩
  case round =>
    obtain ⟨m, n, rfl, rfl, h1, h2, hm⟩ := hrel
    by_cases h0 : 0 ≤ n
    · obtain ⟨j, rfl⟩ := Int.eq_ofNat_of_zero_le h0
      have hj : j < s.size := by omega
      obtain ⟨b1, e1⟩ : ∃ b, (((s[j].toNat : Nat) : Int) == 37) = b := ⟨_, rfl⟩
      obtain ⟨b2, e2⟩ : ∃ b, (((s[j].toNat : Nat) : Int) == 38) = b := ⟨_, rfl⟩
      have HW : Hid (wildB s[j] = (b1 || b2)) := by
        show _ = _
        rw [← e1, ← e2]; unfold wildB
        rw [← byte_int s[j] 37, ← byte_int s[j] 38]; rfl
      cases b1 <;> cases b2
      all_goals
        go_wp2
        go_round
        case rel =>
          have hw := HW.out
          first
            | exact ⟨_, _, rfl, rfl, by omega, by omega, by show _ = _; rw [show ((j : Int) - 1 + 1).toNat = j by omega, wFrom_yes hj hw]⟩
            | exact ⟨_, _, rfl, rfl, by omega, by omega, by show _ = _; rw [show ((j : Int) - 1 + 1).toNat = j by omega, wFrom_no hj hw, hm.out, show ((j : Int) + 1).toNat = j + 1 by omega]⟩
        case measure => first | (simp [intOf]; done) | (simp [intOf]; omega)
    · have hn : n = -1 := by omega
      subst hn
      go_wp2
      go_ret
      have := hm.out
      exact ⟨ret_int (by rw [this, ← wFrom_zero]; rfl), rfl⟩

theorem narrowB_snoc (l : List UInt8) (c : UInt8) : narrowB (l ++ [c]) = (narrowB l && (c != 46 && c != 47)) := by simp [narrowB]
theorem narrow_step {m : ByteArray} {j : Nat} (h : j < m.size) (hn : narrowB (m.data.toList.take j) = true) (h1 : (((m[j].toNat : Nat) : Int) == 46) = false) (h2 : (((m[j].toNat : Nat) : Int) == 47) = false) :
    narrowB (m.data.toList.take (j + 1)) = true := by
  rw [take_snoc m j h, narrowB_snoc, hn]
  have e1 := byte_int m[j] 46
  have e2 := byte_int m[j] 47
  have f1 : (m[j] == 46) = false := e1.symm.trans h1
  have f2 : (m[j] == 47) = false := e2.symm.trans h2
  simp only [bne, f1, f2]; rfl
theorem narrow_bad {m : ByteArray} {j : Nat} (h : j < m.size) {b1 b2 : Bool} (h1 : (((m[j].toNat : Nat) : Int) == 46) = b1) (h2 : (((m[j].toNat : Nat) : Int) == 47) = b2) (hb : (b1 || b2) = true) :
    narrowS m = false := by
  have e1 := byte_int m[j] 46
  have e2 := byte_int m[j] 47
  have f1 : (m[j] == 46) = b1 := e1.symm.trans h1
  have f2 : (m[j] == 47) = b2 := e2.symm.trans h2
  rw [Bool.eq_false_iff]
  intro hn
  unfold narrowS narrowB at hn
  rw [List.all_eq_true] at hn
  have := hn m[j] (by exact Array.getElem_mem_toList h)
  simp only [bne, f1, f2] at this
  cases b1 <;> cases b2 <;> simp_all
theorem narrow_all {m : ByteArray} (h : narrowB (m.data.toList.take m.size) = true) : narrowS m = true := by
  unfold narrowS; rw [ba_size, List.take_length] at h; exact h

theorem beq_data (a b : ByteArray) : (a.toList == b.toList) = (a.data.toList == b.data.toList) := by rw [Lib.toList_data, Lib.toList_data]
/-- What the reference compares is what the program asks: the text begins and ends so. -/
theorem match_short {p s : ByteArray} (h : wn p < p.size) (hc : s.size < wn p + (p.size - (wn p + 1))) : matchM p s = none := by
  unfold matchM
  rw [if_pos h, if_neg]
  intro hh
  simp only [Bool.and_eq_true] at hh
  obtain ⟨⟨h1, h2⟩, _⟩ := hh
  unfold hasP Lib.hasPrefix at h1
  have hp := List.isPrefixOf_iff_prefix.1 h1
  unfold hasS Lib.hasSuffix at h2
  have hs := (List.isSuffixOf_iff_suffix.1 h2).length_le
  have hpl := hp.length_le
  unfold trimP at hs
  rw [str_data] at hs
  unfold Lib.trimPrefix Lib.hasPrefix at hs
  rw [if_pos h1] at hs
  unfold suf pre at hs
  unfold pre at hpl
  simp only [List.length_drop, ← ba_size, ByteArray.size_extract] at hs hpl
  omega
theorem match_long {p s : ByteArray} (h : wn p < p.size) {c : Nat} (hc : c = s.size - (p.size - (wn p + 1))) (hs : wn p + (p.size - (wn p + 1)) ≤ s.size) :
    matchM p s = if (((s.extract 0 (wn p)).toList == (p.extract 0 (wn p)).toList) && ((s.extract c s.size).toList == (p.extract (wn p + 1) p.size).toList) && !(byteAt p (wn p) == 38 && !narrowS (s.extract (wn p) c))) = true then some (s.extract (wn p) c) else none := by
  unfold matchM
  rw [if_pos h]
  have e1 : hasP s (pre p) = ((s.extract 0 (wn p)).toList == (p.extract 0 (wn p)).toList) := by
    have := Lib.hasPrefix_raw s (pre p)
    unfold hasP
    rw [← this]
    have hz : (pre p).size = wn p := by unfold pre; rw [ByteArray.size_extract]; omega
    rw [hz, decide_eq_true (by omega), Bool.true_and]; rfl
  rw [e1]
  by_cases hb : ((s.extract 0 (wn p)).toList == (p.extract 0 (wn p)).toList) = true
  · rw [hb, Bool.true_and, Bool.true_and]
    rw [hb] at e1
    have ht : trimP s (pre p) = s.extract (wn p) s.size := by
      apply ba_ext
      unfold trimP Lib.trimPrefix
      unfold hasP at e1
      rw [str_data, if_pos e1, extract_end]
      unfold pre
      rw [← ba_size, ByteArray.size_extract]
      congr 1; omega
    have hz : (suf p).size = p.size - (wn p + 1) := by unfold suf; rw [ByteArray.size_extract]; omega
    have hz2 : (s.extract (wn p) s.size).size = s.size - wn p := by rw [ByteArray.size_extract]; omega
    have e2 : hasS (trimP s (pre p)) (suf p) = ((s.extract c s.size).toList == (p.extract (wn p + 1) p.size).toList) := by
      rw [ht]
      have := Lib.hasSuffix_raw (s.extract (wn p) s.size) (suf p)
      unfold hasS
      rw [← this, hz, hz2, decide_eq_true (by omega), Bool.true_and, beq_data, beq_data]
      have : ((s.extract (wn p) s.size).extract (s.size - wn p - (p.size - (wn p + 1))) (s.size - wn p)).data.toList = (s.extract c s.size).data.toList := by
        simp only [Lib.extract_data, List.drop_take, List.drop_drop, List.take_take]
        congr 1
        · omega
        · congr 1; omega
      rw [this]; rfl
    rw [e2]
    by_cases hb2 : ((s.extract c s.size).toList == (p.extract (wn p + 1) p.size).toList) = true
    · rw [hb2, Bool.true_and, Bool.true_and]
      rw [hb2] at e2
      have hm : mid p s = s.extract (wn p) c := by
        apply ba_ext
        unfold mid trimS Lib.trimSuffix
        unfold hasS at e2
        rw [str_data, if_pos e2, ht, ← ba_size, ← ba_size, hz, hz2, extract_end, Lib.extract_data]
        congr 1; omega
      rw [hm]
    · have hb2' := Bool.eq_false_iff.2 hb2
      rw [hb2']; simp only [Bool.false_and, Bool.true_and, Bool.false_eq_true, if_false]
  · have hb' := Bool.eq_false_iff.2 hb
    rw [hb']; simp only [Bool.false_and, Bool.false_eq_true, if_false]

set_option maxHeartbeats 8000000 in
theorem RefMatch_any (p s : ByteArray) (w : World) (hp : p.size ≤ 1000000) (hs : s.size ≤ 1000000) :
    Calls Tryd.prog 34 #[.string p, .string s] w fun e w' => e = .returned (.tuple #[.string (stemM p s), .bool (isM p s)]) ∧ ∃ n, w' = w.drewN n := by
  obtain ⟨k, hk⟩ : ∃ k, wn p = k := ⟨_, rfl⟩
  by_cases hlt : k < p.size
  · have HI : Hid (wI p = k) := wI_yes hlt hk
    obtain ⟨b, hb⟩ : ∃ b : Nat, b = p.size - (k + 1) := ⟨_, rfl⟩
    have hq : ((p.size : Int) - k - 1) = (b : Int) := by omega
    have hbl : b ≤ 1000000 := by omega
    have hkl : k ≤ 1000000 := by omega
    have w1 : IntKind.i64.wrap ((k : Int) + b) = (k : Int) + b := IntWalk.i64_in _ (by omega)
    by_cases hc : s.size < k + b
    · have HM : Hid (matchM p s = none) := match_short (by omega) (by rw [hk]; omega)
      have d1 : decide ((s.size : Int) < (k : Int) + b) = true := decide_eq_true (by omega)
      clear hk hb hc
      go_enter Tryd.func34, Tryd.ntmps34
      go_wp2_with (go_at_call 55; refine (RefWild_any _ _ (by unfold maxLen; omega)).mono ?_; rintro e w' ⟨rfl, rfl⟩; rw [HI.out])
      go_quiet (fail)
      go_wp2
      go_ret2
      have hm := HM.out
      exact ⟨ret_sb (by unfold stemM; rw [hm]; rfl) (by unfold isM; rw [hm]; rfl), _, rfl⟩
    · obtain ⟨c, hcc⟩ : ∃ c : Nat, c = s.size - b := ⟨_, rfl⟩
      have hq2 : ((s.size : Int) - b) = (c : Int) := by omega
      have hkc : k ≤ c := by omega
      have hcs : c ≤ s.size := by omega
      obtain ⟨t1, ht1⟩ : ∃ t, ((s.extract 0 k).toList == (p.extract 0 k).toList) = t := ⟨_, rfl⟩
      obtain ⟨t2, ht2⟩ : ∃ t, ((s.extract c s.size).toList == (p.extract (k + 1) p.size).toList) = t := ⟨_, rfl⟩
      obtain ⟨t3, ht3⟩ : ∃ t, (((byteAt p k).toNat : Int) == 38) = t := ⟨_, rfl⟩
      obtain ⟨m, hm⟩ : ∃ m, s.extract k c = m := ⟨_, rfl⟩
      have HM : Hid (matchM p s = if (t1 && t2 && !(t3 && !narrowS m)) = true then some m else none) := by
        show _ = _
        have := match_long (p := p) (s := s) (by omega) (c := c) (by rw [hk]; omega) (by rw [hk]; omega)
        rw [this, hk, ht1, ht2, hm]
        have e3 : (byteAt p k == 38) = t3 := by rw [← ht3]; exact (byte_int _ 38).symm
        rw [e3]
      have hmz : m.size ≤ 1000000 := by rw [← hm, ByteArray.size_extract]; omega
      have hbb := byteAt_eq p k hlt
      have ht1n : ((s.extract 0 k).toList != (p.extract 0 k).toList) = !t1 := by rw [← ht1]; rfl
      have ht2n : ((s.extract c s.size).toList != (p.extract (k + 1) p.size).toList) = !t2 := by rw [← ht2]; rfl
      have w2 : IntKind.i64.wrap ((s.size : Int) - b) = (c : Int) := by rw [hq2]; exact IntWalk.i64_in _ (by omega)
      have w3 : IntKind.i64.wrap ((k : Int) + 1) = (k : Int) + 1 := IntWalk.i64_in _ (by omega)
      have d1 : decide ((s.size : Int) < (k : Int) + b) = false := decide_eq_false (by omega)
      have l1 : (k : Int) ≤ s.size := by omega
      have l2 : (k : Int) ≤ p.size := by omega
      have l3 : (k : Int) + 1 ≤ p.size := by omega
      have l4 : (0 : Int) ≤ (k : Int) + 1 := by omega
      have l5 : ((k : Int) + 1).toNat = k + 1 := by omega
      clear hcc hk hb
      rcases (show t1 = false ∨ (t1 = true ∧ t2 = false) ∨ (t1 = true ∧ t2 = true ∧ t3 = false) ∨ (t1 = true ∧ t2 = true ∧ t3 = true) from by cases t1 <;> cases t2 <;> cases t3 <;> simp) with rfl | ⟨rfl, rfl⟩ | ⟨rfl, rfl, rfl⟩ | ⟨rfl, rfl, rfl⟩
      all_goals
        go_enter Tryd.func34, Tryd.ntmps34
        go_wp2_with (go_at_call 55; refine (RefWild_any _ _ (by unfold maxLen; omega)).mono ?_; rintro e w' ⟨rfl, rfl⟩; rw [HI.out])
        go_quiet (fail)
        go_wp2
      · go_ret2
        have hm := HM.out
        exact ⟨ret_sb (by unfold stemM; rw [hm]; rfl) (by unfold isM; rw [hm]; rfl), _, rfl⟩
      · go_ret2
        have hm := HM.out
        exact ⟨ret_sb (by unfold stemM; rw [hm]; rfl) (by unfold isM; rw [hm]; rfl), _, rfl⟩
      · clear w1 w2 w3 l4 l5
        go_loop [9] (fun i => ∃ j : Nat, j ≤ m.size ∧ i = .int .i64 j) (fun i => m.size - (intOf i).toNat)
        case atStart => exact ⟨0, Nat.zero_le _, rfl⟩
        case round =>
          obtain ⟨j, hj, rfl⟩ := hrel
          by_cases hjl : j < m.size
          · go_wp2
            go_round
            case rel => exact ⟨j + 1, by omega, by go_num⟩
            case measure => first | (simp [intOf]; done) | (simp [intOf]; omega)
          · go_wp2
            go_ret2
            have hm := HM.out
            exact ⟨ret_sb (by unfold stemM; rw [hm]; rfl) (by unfold isM; rw [hm]; rfl), _, rfl⟩
      · clear w1 w2 w3 l4 l5
        go_loop [9] (fun i => ∃ j : Nat, j ≤ m.size ∧ i = .int .i64 j ∧ Hid (narrowB (m.data.toList.take j) = true)) (fun i => m.size - (intOf i).toNat)
        case atStart => exact ⟨0, Nat.zero_le _, rfl, rfl⟩
        case round =>
          obtain ⟨j, hj, rfl, HN⟩ := hrel
          by_cases hjl : j < m.size
          · obtain ⟨b1, e1⟩ : ∃ b, (((m[j].toNat : Nat) : Int) == 46) = b := ⟨_, rfl⟩
            obtain ⟨b2, e2⟩ : ∃ b, (((m[j].toNat : Nat) : Int) == 47) = b := ⟨_, rfl⟩
            by_cases hbb : (b1 || b2) = true
            · have HF : Hid (narrowS m = false) := narrow_bad hjl e1 e2 hbb
              clear HN
              rcases (show b1 = true ∨ (b1 = false ∧ b2 = true) from by cases b1 <;> cases b2 <;> simp_all) with rfl | ⟨rfl, rfl⟩
              all_goals
                clear hbb
                go_wp2
                go_ret2
                have hm := HM.out
                rw [HF.out] at hm
                exact ⟨ret_sb (by unfold stemM; rw [hm]; rfl) (by unfold isM; rw [hm]; rfl), _, rfl⟩
            · obtain ⟨rfl, rfl⟩ : b1 = false ∧ b2 = false := by cases b1 <;> cases b2 <;> simp_all
              have HN' : Hid (narrowB (m.data.toList.take (j + 1)) = true) := narrow_step hjl HN.out e1 e2
              clear hbb HN
              go_wp2
              go_round
              case rel => exact ⟨j + 1, by omega, by go_num, HN'⟩
              case measure => first | (simp [intOf]; done) | (simp [intOf]; omega)
          · have HF : Hid (narrowS m = true) := narrow_all (by have := HN.out; rwa [show j = m.size by omega] at this)
            clear HN
            go_wp2
            go_ret2
            have hm := HM.out
            rw [HF.out] at hm
            exact ⟨ret_sb (by unfold stemM; rw [hm]; rfl) (by unfold isM; rw [hm]; rfl), _, rfl⟩
  · have HI : Hid (wI p = -1) := wI_no (by omega)
    have HM : Hid (matchM p s = if (p.toList == s.toList) = true then some ByteArray.empty else none) := by unfold matchM; exact if_neg (by omega)
    obtain ⟨b, hb⟩ : ∃ b, (p.toList == s.toList) = b := ⟨_, rfl⟩
    clear hk hlt
    go_enter Tryd.func34, Tryd.ntmps34
    go_wp2_with (go_at_call 55; refine (RefWild_any _ _ (by unfold maxLen; omega)).mono ?_; rintro e w' ⟨rfl, rfl⟩; rw [HI.out])
    go_ret2
    have hm := HM.out
    rw [hb] at hm
    cases b
    · exact ⟨ret_sb (by unfold stemM; rw [hm]; rfl) (by unfold isM; rw [hm]; rfl), 0, rfl⟩
    · exact ⟨ret_sb (by unfold stemM; rw [hm]; rfl) (by unfold isM; rw [hm]; rfl), 0, rfl⟩

end Go.Proofs.YtkddighepgpccaaDoor
