/-
  The walk of the statement SubstLists.
-/
import Derived.Test.YtkddighepgpccaaDoorSubstList2
namespace Go.Proofs.YtkddighepgpccaaDoor
open Go.RowKit
set_option linter.unusedSimpArgs false
set_option linter.unusedVariables false

theorem txt_nil (w : World) : Txt w none 0 0 [] := ⟨rfl, by decide, fun _ => ⟨rfl, rfl⟩, fun a ha => by cases ha⟩
theorem Num_long (es : List Addr) (a : Addr) (h : es[1]? = some a) (w : World) (hE : Errs w es) :
    Calls Tryd.prog 14 #[.iface 123 (.pointer (some a))] w fun e w' => e = .returned (.int .i64 2) ∧ Below w.heap.size w w' := Num_err es 1 a h w hE

set_option maxHeartbeats 8000000 in
set_option maxRecDepth 100000 in
theorem SubstLists_walk (A : Option Addr) (n c : Nat) (xs : List ByteArray) (s t : ByteArray) (w : World) (hx : Txt w A n c xs) (hz : ∀ x ∈ xs, x.size ≤ maxLen) (ws : s.size ≤ maxLen) (wt : t.size ≤ maxLen) (hE : ∃ es, Errs w es) :
    Calls Tryd.prog 3 #[.slice A n c, .string s, .string t] w fun e w' => e = .returned (.bool true) ∧ Below w.heap.size w w' := by
  unfold maxLen at ws wt
  obtain ⟨es, hE⟩ := hE
  obtain ⟨aL, haL⟩ : ∃ a, es[1]? = some a := ⟨_, List.getElem?_eq_getElem (by rw [hE.len]; decide)⟩
  have cL : w.cell? ⟨0, 0, none⟩ = some (.iface 123 (.pointer (some aL))) := hE.cell 1 _ _ rfl haL
  have HX := Lib.hid hx
  have HZ := Lib.hid hz
  clear hx hz
  obtain ⟨lb, hlb⟩ : ∃ b, longB xs 30 130 = b := ⟨_, rfl⟩
  rcases (show lb = true ∨ (lb = false ∧ 40 < s.size) ∨ (lb = false ∧ s.size ≤ 40 ∧ 40 < t.size) ∨ (lb = false ∧ s.size ≤ 40 ∧ t.size ≤ 40) from by cases lb <;> simp; omega) with rfl | ⟨rfl, h2⟩ | ⟨rfl, h2, h3⟩ | ⟨rfl, h2, h3⟩
  · go_enter Tryd.func3, Tryd.ntmps3
    go_wp2_with (first | (go_at_call 7; refine (alive16_any _).mono ?_; rintro e w1 ⟨rfl, hb⟩) | (go_at_call 8; refine (Long_any _ _ _ xs 30 130 _ (HX.out.below hb) (by omega) (by omega) HZ.out).mono ?_; rintro e w' ⟨rfl, rfl⟩; rw [hlb]))
    go_returns
    exact ⟨rfl, hb⟩
  · go_enter Tryd.func3, Tryd.ntmps3
    go_wp2_with (first | (go_at_call 7; refine (alive16_any _).mono ?_; rintro e w1 ⟨rfl, hb⟩) | (go_at_call 8; refine (Long_any _ _ _ xs 30 130 _ (HX.out.below hb) (by omega) (by omega) HZ.out).mono ?_; rintro e w' ⟨rfl, rfl⟩; rw [hlb]))
    go_returns
    exact ⟨rfl, hb⟩
  · go_enter Tryd.func3, Tryd.ntmps3
    go_wp2_with (first | (go_at_call 7; refine (alive16_any _).mono ?_; rintro e w1 ⟨rfl, hb⟩) | (go_at_call 8; refine (Long_any _ _ _ xs 30 130 _ (HX.out.below hb) (by omega) (by omega) HZ.out).mono ?_; rintro e w' ⟨rfl, rfl⟩; rw [hlb]))
    go_returns
    exact ⟨rfl, hb⟩
  · obtain ⟨hn, hzz⟩ := longB_no hlb
    rw [HX.out.len] at hn
    have HZZ : Hid (∀ x ∈ xs, x.size ≤ 1000) := fun x hx => Nat.le_trans (hzz x hx) (by decide)
    clear hzz
    by_cases hlong : ∃ y ∈ wordsS xs s t, 120 < y.size
    · have HW := Lib.hid hlong
      clear hlong
      go_enter Tryd.func3, Tryd.ntmps3
      go_wp2_with (first | (go_at_call 7; refine (alive16_any _).mono ?_; rintro e w1 ⟨rfl, hb⟩) | (go_at_call 8; refine (Long_any _ _ _ xs 30 130 _ (HX.out.below hb) (by omega) (by omega) HZ.out).mono ?_; rintro e w' ⟨rfl, rfl⟩; rw [hlb]) | (go_at_call 9; refine (Texts_any _ _ _ xs _ (HX.out.below hb) (by omega)).mono ?_; rintro e w2 ⟨g, rfl, hT, hb2⟩; have hb12 := below_next hb hb2) | (go_at_call 10; refine (List_yes _ _ _ xs s t _ (hT.front HX.out.len (by omega)) (by omega) HZZ.out (by omega) (by omega) HW.out aL (cell_later hb12 cL)).mono ?_; rintro e w3 ⟨rfl, hb3⟩; have hb13 := below_next hb12 hb3) | (go_at_call 11; refine (RefList_yes _ _ _ xs s t _ (HX.out.below hb13) (by omega) HZZ.out (by omega) (by omega) HW.out).mono ?_; rintro e w4 ⟨rfl, hb4⟩; have hb14 := below_next hb13 hb4))
      have hT2 := (hT.below hb3).below hb4
      have hXm := HX.out.max
      go_loopw [46] (fun i wr => ∃ k : Nat, k ≤ n ∧ i = .int .i64 k ∧ Below w4.heap.size w4 wr) (fun i _ => n - (intOf i).toNat)
      case atStart => exact ⟨0, Nat.zero_le _, rfl, Below.refl _ _⟩
      case round =>
        obtain ⟨k, hk, rfl, hbl⟩ := hrel
        by_cases hlt : k < n
        · obtain ⟨a, x, rfl, hxk, hc⟩ := (HX.out.below (below_next hb14 hbl)).at_ hlt
          have hxs := HZZ.out x (List.mem_of_getElem? hxk)
          clear hxk
          go_wp2_with (first | (go_at_call 12; refine (Word_any _ _ _ _ (by omega) (by omega) (by omega)).mono ?_; rintro e w5 ⟨rfl, hb5⟩) | (go_at_call 13; refine (RefWord_any _ _ _ _ (by omega) (by omega) (by omega)).mono ?_; rintro e w6 ⟨rfl, q6, rfl⟩))
          go_roundw
          case rel => exact ⟨k + 1, by omega, by go_num, below_drewN (below_next hbl hb5) _⟩
          case measure => first | (simp [intOf]; done) | (simp [intOf]; omega)
        · go_wp2_with (first | (go_at_call 14; refine (Num_long es aL haL _ (hE.later (below_next hb14 hbl))).mono ?_; rintro e w5 ⟨rfl, hb5⟩) | (go_at_call 15; refine (SameTexts_yes none none 0 0 0 [] _ (txt_nil _) (txt_nil _)).mono ?_; rintro e w6 ⟨rfl, q6, rfl⟩) | (go_at_call 16; refine (KeptTexts_yes g n c _ xs _ (((hT2.below hbl).below hb5).drewN _) ((((HX.out.below hb14).below hbl).below hb5).drewN _)).mono ?_; rintro e w7 ⟨rfl, q7, rfl⟩))
          go_returns
          exact ⟨rfl, below_drewN (below_next (below_next hb14 hbl) hb5) _⟩
    · have HW : Hid (∀ y ∈ wordsS xs s t, y.size ≤ 120) := fun y hy => by
        rcases Nat.lt_or_ge 120 y.size with h | h
        · exact absurd ⟨y, hy, h⟩ hlong
        · exact h
      clear hlong
      go_enter Tryd.func3, Tryd.ntmps3
      go_wp2_with (first | (go_at_call 7; refine (alive16_any _).mono ?_; rintro e w1 ⟨rfl, hb⟩) | (go_at_call 8; refine (Long_any _ _ _ xs 30 130 _ (HX.out.below hb) (by omega) (by omega) HZ.out).mono ?_; rintro e w' ⟨rfl, rfl⟩; rw [hlb]) | (go_at_call 9; refine (Texts_any _ _ _ xs _ (HX.out.below hb) (by omega)).mono ?_; rintro e w2 ⟨g, rfl, hT, hb2⟩; have hb12 := below_next hb hb2) | (go_at_call 10; refine (List_no _ _ _ xs s t _ (hT.front HX.out.len (by omega)) (by omega) HZZ.out (by omega) (by omega) HW.out).mono ?_; rintro e w3 ⟨v3, rfl, hrow3, hb3⟩; have hb13 := below_next hb12 hb3; obtain ⟨B3, d3, rfl, hT3⟩ := hrow3.txt) | (go_at_call 11; refine (RefList_no _ _ _ xs s t _ (HX.out.below hb13) (by omega) HZZ.out (by omega) (by omega) HW.out).mono ?_; rintro e w4 ⟨v4, rfl, hrow4, hb4⟩; have hb14 := below_next hb13 hb4; obtain ⟨B4, d4, rfl, hT4⟩ := hrow4.txt; have hT34 := hT3.below hb4))
      have hT2 := (hT.below hb3).below hb4
      have hXm := HX.out.max
      go_loopw [46] (fun i wr => ∃ k : Nat, k ≤ n ∧ i = .int .i64 k ∧ Below w4.heap.size w4 wr) (fun i _ => n - (intOf i).toNat)
      case atStart => exact ⟨0, Nat.zero_le _, rfl, Below.refl _ _⟩
      case round =>
        obtain ⟨k, hk, rfl, hbl⟩ := hrel
        by_cases hlt : k < n
        · obtain ⟨a, x, rfl, hxk, hc⟩ := (HX.out.below (below_next hb14 hbl)).at_ hlt
          have hxs := HZZ.out x (List.mem_of_getElem? hxk)
          clear hxk
          go_wp2_with (first | (go_at_call 12; refine (Word_any _ _ _ _ (by omega) (by omega) (by omega)).mono ?_; rintro e w5 ⟨rfl, hb5⟩) | (go_at_call 13; refine (RefWord_any _ _ _ _ (by omega) (by omega) (by omega)).mono ?_; rintro e w6 ⟨rfl, q6, rfl⟩))
          go_roundw
          case rel => exact ⟨k + 1, by omega, by go_num, below_drewN (below_next hbl hb5) _⟩
          case measure => first | (simp [intOf]; done) | (simp [intOf]; omega)
        · go_wp2_with (first | (go_at_call 14; refine (Num_nil _).mono ?_; rintro e w5 ⟨rfl, rfl⟩; have hb5 := Below.refl wr.heap.size wr) | (go_at_call 15; refine (SameTexts_yes _ _ _ _ _ (wordsS xs s t) _ ((hT34.below hbl).below hb5) ((hT4.below hbl).below hb5)).mono ?_; rintro e w6 ⟨rfl, q6, rfl⟩) | (go_at_call 16; refine (KeptTexts_yes g n c _ xs _ (((hT2.below hbl).below hb5).drewN _) ((((HX.out.below hb14).below hbl).below hb5).drewN _)).mono ?_; rintro e w7 ⟨rfl, q7, rfl⟩))
          go_returns
          exact ⟨rfl, below_drewN (below_next (below_next hb14 hbl) hb5) _⟩

end Go.Proofs.YtkddighepgpccaaDoor
