/-
  The walks of the reference of layer 30 (slots): Give and Taken; and of millwrightnum.SameInts.
-/
import Derived.Test.YtboebjmfchbgbaaDoorRefSlots
import Derived.Deep.QuietTactic
import Derived.BigQuiet
namespace Go.Proofs.YtboebjmfchbgbaaDoor
open Go Go.RowKit Go.Conc
set_option linter.unusedSimpArgs false
set_option linter.unusedVariables false

theorem RefGive_range (w : World) (base R : Nat) (x : Int) (l : List Int) (many : Nat) (h : RSlot w base R l many) (hx : x < 0 ∨ (many : Int) ≤ x) :
    Calls Tryd.prog 26 #[.pointer (some ⟨R, 0, none⟩), .int .i64 x] w fun e w' => e = .returned (.int .i64 1) ∧ w = w' := by
  obtain ⟨A, c, hR, _, _⟩ := h.open
  have c0 := hR.cellIs 0 _ rfl
  by_cases h0 : x < 0
  · clear hx
    go_enter Tryd.func26, Tryd.ntmps26
    go_wp2
    go_returns
    exact ⟨rfl, rfl⟩
  · have hx2 : (many : Int) ≤ x := by omega
    clear hx
    go_enter Tryd.func26, Tryd.ntmps26
    go_wp2
    go_returns
    exact ⟨rfl, rfl⟩
theorem RefGive_state (w : World) (base R : Nat) (k : Nat) (l : List Int) (many : Nat) (hm : many ≤ 8) (hlen : l.length ≤ 8) (h : RSlot w base R l many) (hk : k < many) (hf : memB (k : Int) l = true) :
    Calls Tryd.prog 26 #[.pointer (some ⟨R, 0, none⟩), .int .i64 (k : Int)] w fun e w' => e = .returned (.int .i64 14) ∧ w = w' := by
  obtain ⟨A, c, hR, _, _⟩ := h.open
  have c0 := hR.cellIs 0 _ rfl
  go_enter Tryd.func26, Tryd.ntmps26
  go_wp2_with (go_at_call 41; refine (RefFree_any _ _ _ _ _ _ hlen h).mono ?_; rw [hf]; rintro e w' ⟨rfl, rfl⟩)
  go_returns
  exact ⟨rfl, rfl⟩

set_option maxHeartbeats 2000000 in
set_option maxRecDepth 100000 in
theorem RefGive_ok (w : World) (base R : Nat) (k : Nat) (l : List Int) (many : Nat) (hm : many ≤ 8) (hlen : l.length ≤ 8) (hbR : base ≤ R) (h : RSlot w base R l many) (hk : k < many) (hf : memB (k : Int) l = false) :
    Calls Tryd.prog 26 #[.pointer (some ⟨R, 0, none⟩), .int .i64 (k : Int)] w fun e w' => e = .returned (.int .i64 0) ∧ Touch w w' (fun k => k = R) ∧ RSlot w' base R (l ++ [(k : Int)]) many := by
  obtain ⟨A, c, hR, hnil, hsome⟩ := h.open
  have c0 := hR.cellIs 0 _ rfl
  have c1 := hR.cellIs 1 _ rfl
  have f1 := hR.frozen 1
  have hRl := hR.lt
  obtain ⟨i0, hi, hz0, hz1, hz2⟩ := info_parts Tryd.info_i64
  have HL := Lib.hid (World.ownsRow_lit (base := w.heap.size) (e := 3) (size := 1) w #[] 0 (Nat.le_refl _) (by decide) rfl)
  have HS := Lib.hid hsome
  have HNl := Lib.hid hnil
  clear hsome hnil
  cases A with
  | none =>
    exact absurd rfl HNl.out
  | some a =>
    obtain ⟨g, rfl, hg1, hg2, hg3, hc⟩ := HS.out a rfl
    have hnews : ∀ j u, (icells l)[j]? = some u → (w.alloc (.cells #[] 3)).cell? ((⟨g, 0, none⟩ : Addr).add j) = some u := by
      intro j u hu
      rw [icells, List.getElem?_map] at hu
      cases hy : l[j]? with
      | none => rw [hy] at hu; simp at hu
      | some y =>
        rw [hy] at hu
        simp at hu
        subst hu
        rw [addr_plain]
        exact cell_alloc (hc j y hy) _
    have HN := Lib.hid hnews
    have hll := icells_length l
    clear hnews hc HS
    go_enter Tryd.func26, Tryd.ntmps26
    go_wp2_with (first | (go_at_call 41; refine (RefFree_any _ _ _ _ _ _ hlen h).mono ?_; rw [hf]; rintro e w' ⟨rfl, rfl⟩) | (at_builtin; refine wpList_append_own _ rfl (.tmp 19) (.tmp 23) 37 rfl w.heap.size 3 i0 (.int .i64 0) 1 8 Tryd.underlying37 hi hz0 hz1 hz2 rfl (by decide) _ _ _ rfl HL.out ⟨g, 0, none⟩ l.length _ (icells l) rfl (by rw [hll]; omega) HN.out (by intro u hu; simp [icells] at hu; obtain ⟨x, _, rfl⟩ := hu; rfl) (by unfold maxLen; omega) (by omega) (by simp) ?_; intro v' w2 hown' hgrow _; have hb2 : Below w.heap.size w w2 := ((Below.refl _ _).alloc (Nat.le_refl _) _).grown hgrow (by simp) (own_base HL.out); have hs2 := hb2.size; have hrow : w2.ownsRow w.heap.size 3 1 v' l.length (icells l) := (by simpa using hown'); clear hown' hgrow; obtain ⟨A', c', rfl⟩ := own_slice hrow; have HO2 := Lib.hid hrow; clear hrow; have hR2 := hR.later hb2 hRl; have d1 := hR2.cellIs 1 _ rfl; have f2 := hR2.frozen 1; have hR2l := hR2.lt) | (at_builtin; refine wpList_append_own _ rfl (.tmp 24) (.tmp 26) 37 rfl w.heap.size 3 i0 (.int .i64 0) 1 8 Tryd.underlying37 hi hz0 hz1 hz2 rfl (by decide) _ _ _ rfl (World.ownsRow.alloc HO2.out _) ⟨w2.heap.size, 0, none⟩ 1 1 [.int .i64 (k : Int)] rfl rfl (cell_one_new _ _ _) (by intro u hu; simp at hu; subst hu; rfl) (by unfold maxLen; omega) (by omega) (by simp; omega) ?_; intro v'' w4 hown'' hgrow2 hnn; have hnn := Lib.hid (show v'' ≠ .slice none 0 0 from fun h => by have := (hnn.1 h).2; cases this); have hb4 : Below w.heap.size w w4 := (hb2.alloc hs2 _).grown hgrow2 (by simp; omega) (own_base HO2.out); have hrow4 : w4.ownsRow w.heap.size 3 1 v'' (l.length + 1) (icells (l ++ [(k : Int)])) := (by rw [← icells_append]; exact hown''); clear hown'' hgrow2; obtain ⟨A4, c4, rfl⟩ := own_slice hrow4; have HO4 := Lib.hid hrow4; clear hrow4; have hR4 := hR.later hb4 hRl; have e1 := hR4.cellIs 1 _ rfl; have f4 := hR4.frozen 1))
    go_returns
    have hrow : IntRow w.heap.size (l ++ [(k : Int)]) (.slice A4 (l.length + 1) c4) w4 := by
      unfold IntRow
      rw [List.length_append]
      exact HO4.out
    have hrow2 := hrow.setCell ⟨R, 1, none⟩ (.slice A4 (l.length + 1) c4) hRl
    exact ⟨rfl, Touch.setCell (S := fun k => k = R) (a := ⟨R, 1, none⟩) (Touch.ofBelow _ hb4) _ rfl, _, hR4.set 1 _, (Ints.of_own hrow2).weaken (by omega), by simp⟩

/-! ### SameInts, of two rows that are the same -/
set_option maxHeartbeats 1000000 in
theorem SameInts_yes (A B : Option Addr) (n c d : Nat) (xs : List Int) (w : World) (hx : Ints w A n c xs) (hy : Ints w B n d xs) :
    Calls Tryd.prog 27 #[.slice A n c, .slice B n d] w fun e w' => e = .returned (.bool true) ∧ ∃ q, w' = w.drewN q := by
  have hmx := hx.max
  have HX := Lib.hid hx
  have HY := Lib.hid hy
  clear hx hy
  go_enter Tryd.func27, Tryd.ntmps27
  go_wp2
  go_loopw [13] (fun i wr => ∃ k : Nat, k ≤ n ∧ i = .int .i64 k ∧ ∃ q, wr = w.drewN q) (fun i _ => n - (intOf i).toNat)
  case atStart => exact ⟨0, Nat.zero_le _, rfl, 0, rfl⟩
  case round =>
    obtain ⟨k, hk, rfl, q, rfl⟩ := hrel
    by_cases hlt : k < n
    · obtain ⟨a, x, rfl, hxk, hc⟩ := HX.out.at_ hlt
      obtain ⟨b, y, rfl, hyk, hd⟩ := HY.out.at_ hlt
      rw [hxk] at hyk
      injection hyk with hyk
      subst hyk
      clear hxk
      have k0 : (0 : Int) ≤ k := by omega
      have k1 : (k : Int) < n := by omega
      go_wp2
      go_quiet (fail)
      go_wp2
      go_roundw
      case rel => exact ⟨k + 1, by omega, by go_num, _, rfl⟩
      case measure => first | (simp [intOf]; done) | (simp [intOf]; omega)
    · go_wp2
      go_ret
      exact ⟨rfl, _, rfl⟩

theorem New_bad (x : Int) (hx : x < 1 ∨ 8 < x) (a : Addr) (w : World) (cR : w.cell? ⟨2, 0, none⟩ = some (.iface 98 (.pointer (some a)))) :
    Calls Tryd.prog 17 #[.int .i64 x] w fun e w' => e = .returned (.tuple #[.pointer none, .iface 98 (.pointer (some a))]) ∧ Below w.heap.size w w' := by
  by_cases h0 : x < 1
  · clear hx
    go_enter Tryd.func17, Tryd.ntmps17
    go_wp2
    (try go_region)
    all_goals (try go_wp2)
    all_goals go_returns
    all_goals exact ⟨rfl, (Below.refl _ _).drew⟩
  · have h8 : 8 < x := by omega
    clear hx
    go_enter Tryd.func17, Tryd.ntmps17
    go_wp2
    (try go_region)
    all_goals (try go_wp2)
    all_goals go_returns
    all_goals exact ⟨rfl, (Below.refl _ _).drew⟩
theorem RefNew_bad (x : Int) (hx : x < 1 ∨ 8 < x) (w : World) :
    Calls Tryd.prog 24 #[.int .i64 x] w fun e w' => e = .returned (.tuple #[.pointer none, .int .i64 1]) ∧ w = w' := by
  by_cases h0 : x < 1
  · clear hx
    go_enter Tryd.func24, Tryd.ntmps24
    go_wp2
    go_returns
    exact ⟨rfl, rfl⟩
  · have h8 : 8 < x := by omega
    clear hx
    go_enter Tryd.func24, Tryd.ntmps24
    go_wp2
    go_returns
    exact ⟨rfl, rfl⟩

end Go.Proofs.YtboebjmfchbgbaaDoor
