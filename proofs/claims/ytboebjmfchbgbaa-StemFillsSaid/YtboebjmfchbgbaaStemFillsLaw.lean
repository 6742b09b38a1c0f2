/-
  The walk of the statement StemFills: every pattern with every stem. No condition.
-/
import Derived.Test.YtboebjmfchbgbaaStemFills
namespace Go.Proofs.Ytboebjmfchbgbaa
open Go.RowKit
set_option linter.unusedSimpArgs false
set_option linter.unusedVariables false

theorem FillAll_txt (A : Option Addr) (n c : Nat) (xs : List ByteArray) (s : ByteArray) (w : World) (hx : Txt w A n c xs) (hn : n ≤ 1000000) (hz : ∀ x ∈ xs, x.size ≤ 1000) (hs : s.size ≤ 1000) :
    Calls Try.prog 31 #[.slice A n c, .string s] w fun e w' => ∃ B d, e = .returned (.slice B n d) ∧ Txt w' B n d (xs.map fun p => fillS p s) ∧ Below w.heap.size w w' :=
  (FillAll_any A n c xs s w hx hn hz hs).mono fun _ _ ⟨v, he, ho, hb⟩ => by
    obtain ⟨B, d, rfl, ht⟩ := Txt.of_own ho
    exact ⟨B, d, he, ht, hb⟩
theorem byte_ne {c : UInt8} {n : UInt8} {b : Bool} (h : (((c.toNat : Nat) : Int) == (n.toNat : Int)) = b) : (((c.toNat : Nat) : Int) != (n.toNat : Int)) = !b := by rw [← h]; rfl
theorem narrowB_step {m : ByteArray} {j : Nat} (h : j < m.size) {b1 b2 : Bool} (h1 : (((m[j].toNat : Nat) : Int) == 46) = b1) (h2 : (((m[j].toNat : Nat) : Int) == 47) = b2) :
    narrowB (m.data.toList.take (j + 1)) = (narrowB (m.data.toList.take j) && (!b1 && !b2)) := by
  rw [take_snoc m j h, narrowB_snoc]
  have e1 : (m[j] == 46) = b1 := (byte_int m[j] 46).symm.trans h1
  have e2 : (m[j] == 47) = b2 := (byte_int m[j] 47).symm.trans h2
  simp only [bne, e1, e2]

set_option maxHeartbeats 8000000 in
theorem stemFills_walk (A : Option Addr) (n c : Nat) (xs : List ByteArray) (s : ByteArray) (w : World) (hx : Txt w A n c xs) (hz : ∀ x ∈ xs, x.size ≤ maxLen) (ws : s.size ≤ maxLen) :
    Calls Try.prog 7 #[.slice A n c, .string s] w fun e w' => e = .returned (.bool true) ∧ Below w.heap.size w w' := by
  obtain ⟨i0, hi, hz0, hz1, hz2⟩ := info_parts Try.info_str
  unfold maxLen at ws
  have HX := Lib.hid hx
  have HZ := Lib.hid hz
  clear hx hz
  obtain ⟨lb, hlb⟩ : ∃ b, longB xs 20 60 = b := ⟨_, rfl⟩
  rcases (show lb = true ∨ (lb = false ∧ 60 < s.size) ∨ (lb = false ∧ s.size ≤ 60) from by cases lb <;> simp; omega) with rfl | ⟨rfl, h2⟩ | ⟨rfl, h2⟩
  · go_enter Try.func7, Try.ntmps7
    go_wp2_with (first | (go_at_call 20; refine (alive15_any _).mono ?_; rintro e w1 ⟨rfl, hb⟩) | (go_at_call 27; refine (Long_any _ _ _ xs 20 60 _ (HX.out.below hb) (by omega) (by omega) HZ.out).mono ?_; rintro e w' ⟨rfl, rfl⟩; rw [hlb]))
    go_ret
    exact ⟨rfl, hb⟩
  · go_enter Try.func7, Try.ntmps7
    go_wp2_with (first | (go_at_call 20; refine (alive15_any _).mono ?_; rintro e w1 ⟨rfl, hb⟩) | (go_at_call 27; refine (Long_any _ _ _ xs 20 60 _ (HX.out.below hb) (by omega) (by omega) HZ.out).mono ?_; rintro e w' ⟨rfl, rfl⟩; rw [hlb]))
    go_ret
    exact ⟨rfl, hb⟩
  · obtain ⟨hn, hzz⟩ := longB_no hlb
    rw [HX.out.len] at hn
    have HZZ := Lib.hid hzz
    clear hzz
    go_enter Try.func7, Try.ntmps7
    go_wp2_with (first | (go_at_call 20; refine (alive15_any _).mono ?_; rintro e w1 ⟨rfl, hb⟩) | (go_at_call 27; refine (Long_any _ _ _ xs 20 60 _ (HX.out.below hb) (by omega) (by omega) HZ.out).mono ?_; rintro e w' ⟨rfl, rfl⟩; rw [hlb]) | (go_at_call 28; refine (Texts_any _ _ _ xs _ (HX.out.below hb) (by omega)).mono ?_; rintro e w2 ⟨g, rfl, ht, hb2⟩; have hb0 := below_next hb hb2; have HT := Lib.hid ht; clear ht hb hb2))
    have hs0 := hb0.size
    go_loopw [6, 26] (fun v i wr => ∃ k : Nat, k ≤ n ∧ i = .int .i64 k ∧ AllRow w2.heap.size xs s k v wr ∧ Below w2.heap.size w2 wr) (fun _ i _ => n - (intOf i).toNat)
    case atStart => exact ⟨0, Nat.zero_le _, rfl, World.ownsRow_lit _ _ _ (Nat.le_refl _) (by unfold maxLen; omega) rfl, (Below.refl _ _).alloc (Nat.le_refl _) _⟩
    case round =>
      obtain ⟨k, hk, rfl, HR, hbl⟩ := hrel
      have hsz := hbl.size
      have hbw := below_next hb0 hbl
      by_cases hlt : k < n
      · obtain ⟨a, x, rfl, hxk, hc⟩ := (HX.out.below hbw).at_ hlt
        have hxs := HZZ.out x (List.mem_of_getElem? hxk)
        have HS := Lib.hid (map_take_snoc (f := fun p => fillS p s) hxk)
        have HK := Lib.hid hxk
        clear hxk
        go_wp2_with (first | (go_at_call 29; refine (RefFill_any _ _ _ _ (Nat.le_refl _) (by omega) (by omega)).mono ?_; rintro e w' ⟨rfl, q, rfl⟩) | (go_at_call 25; refine (Fill_any _ _ _ (by omega) (by omega)).mono ?_; rintro e w3 ⟨rfl, hb3⟩; have hb1 := below_next (drewN_below _ _) hb3; have hs1 := hb1.size; have HR1 := own_below HR hb1; have hbl1 := below_then hbl hsz hb1; clear hb3) | (at_builtin; refine wpList_append_own _ rfl _ _ 44 rfl w2.heap.size 9 i0 (.string ByteArray.empty) 1 16 Try.underlying44 hi hz0 hz1 hz2 rfl (by decide) _ _ _ rfl (HR1.alloc _) ⟨w3.heap.size, 0, none⟩ 1 1 [.string (fillS x s)] rfl rfl (cell_one_new _ _ _) (by intro u hu; simp at hu; subst hu; rfl) (by unfold maxLen; omega) (by omega) (by simp; omega) ?_; intro v' w4 hown' hgrow _))
        have hbl' : Below w2.heap.size w2 w4 := (hbl1.alloc (by omega) _).grown hgrow (by simp; omega) (own_base HR1)
        have HR' : AllRow w2.heap.size xs s (k + 1) v' w4 := by
          unfold AllRow
          rw [HS.out, ← txts_append]
          exact hown'
        clear hown' hgrow
        go_roundw
        case rel => exact ⟨k + 1, by omega, by go_num, HR', hbl'⟩
        case measure => first | (simp [intOf]; done) | (simp [intOf]; omega)
      · have hkn : k = n := by omega
        have HR2 : wr.ownsRow w2.heap.size 9 1 u6 n (txts (xs.map fun p => fillS p s)) := by
          have := HR
          unfold AllRow at this
          rw [hkn, ← HX.out.len, List.take_length, HX.out.len] at this
          exact this
        obtain ⟨B, d, rfl, htw⟩ := Txt.of_own HR2
        have HW := Lib.hid htw
        clear htw HR HR2 hkn
        go_wp2
        go_loop [10, 11] (fun b i => ∃ j : Nat, j ≤ s.size ∧ i = .int .i64 j ∧ b = .bool (narrowB (s.data.toList.take j))) (fun _ i => s.size - (intOf i).toNat)
        case atStart => exact ⟨0, Nat.zero_le _, rfl, rfl⟩
        case round =>
          obtain ⟨j, hj, rfl, rfl⟩ := hrel
          by_cases hjl : j < s.size
          · obtain ⟨b1, e1⟩ : ∃ b, (((s[j].toNat : Nat) : Int) == 46) = b := ⟨_, rfl⟩
            obtain ⟨b2, e2⟩ : ∃ b, (((s[j].toNat : Nat) : Int) == 47) = b := ⟨_, rfl⟩
            obtain ⟨b0, e0⟩ : ∃ b, narrowB (s.data.toList.take j) = b := ⟨_, rfl⟩
            have hst := narrowB_step hjl e1 e2
            rw [e0] at hst
            have HST := Lib.hid hst
            clear hst
            have f1 : (((s[j].toNat : Nat) : Int) != 46) = !b1 := byte_ne (n := 46) e1
            have f2 : (((s[j].toNat : Nat) : Int) != 47) = !b2 := byte_ne (n := 47) e2
            cases b0 <;> cases b1 <;> cases b2
            all_goals
              go_wp2
              go_round
              case rel => exact ⟨j + 1, by omega, by go_num, by rw [HST.out]; rfl⟩
              case measure => first | (simp [intOf]; done) | (simp [intOf]; omega)
          · have HN : Hid (narrowS s = narrowB (s.data.toList.take j)) := by
              show _ = _
              rw [show j = s.data.toList.length by rw [← ba_size]; omega, List.take_length]; rfl
            obtain ⟨b0, e0⟩ : ∃ b, narrowB (s.data.toList.take j) = b := ⟨_, rfl⟩
            rw [e0] at HN
            have hN := HN.out
            clear HN
            have HIN : Hid (Txt wr (some ⟨g, 0, none⟩) n (n + 3) xs) := by
              show Txt _ _ _ _ _
              have := HT.out.below hbl
              refine ⟨HX.out.len, HX.out.max, (fun ha => by cases ha), fun a ha j x hj => this.cell a ha j x (by rw [List.getElem?_append_left (List.getElem?_eq_some_iff.1 hj).1]; exact hj)⟩
            have HLX : Hid (∀ x ∈ xs, x.size ≤ 1000) := fun x hx => Nat.le_trans (HZZ.out x hx) (by decide)
            go_wp2_with (first | (go_at_call 31; refine (FillAll_txt _ _ _ xs _ _ HIN.out (by omega) HLX.out (by omega)).mono ?_; rintro e w5 ⟨C, f, rfl, hc5, hb5⟩; have hw5 := HW.out.below hb5) | (go_at_call 30; refine (SameTexts_yes _ _ _ _ _ _ _ hc5 hw5).mono ?_; rintro e w' ⟨rfl, q, rfl⟩) | (go_at_call 26; refine (narrow_any _ _).mono ?_; rintro e w' ⟨rfl, rfl⟩; rw [hN]) | (go_at_call 32; refine (KeptTexts_yes _ _ _ _ xs _ ((((HT.out.below hbl).below hb5)).drewN _) (((HX.out.below hbw).below hb5).drewN _)).mono ?_; rintro e w' ⟨rfl, q2, rfl⟩))
            go_ret
            exact ⟨rfl, below_drewN (below_next hbw hb5) _⟩

end Go.Proofs.Ytboebjmfchbgbaa
