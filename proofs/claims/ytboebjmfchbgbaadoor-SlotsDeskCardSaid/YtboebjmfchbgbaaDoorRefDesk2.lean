/-
  The walks of the reference's desk: Next.
-/
import Derived.Test.YtboebjmfchbgbaaDoorRefDesk
namespace Go.Proofs.YtboebjmfchbgbaaDoor
open Go Go.RowKit Go.Conc
set_option linter.unusedSimpArgs false
set_option linter.unusedVariables false

set_option maxRecDepth 100000 in
theorem RefNext_none (w : World) (R : Nat) (A0 A1 : Option Addr) (d0 d1 : Nat) (hR : RowAt w R #[.slice A0 0 d0, .slice A1 0 d1] 66) :
    Calls Tryd.prog 31 #[.pointer (some ⟨R, 0, none⟩)] w fun e w' => e = .returned (.tuple #[.int .i64 0, .bool false, .bool false]) ∧ w = w' := by
  have c0 := hR.cellIs 0 _ rfl
  have c1 := hR.cellIs 1 _ rfl
  go_enter Tryd.func31, Tryd.ntmps31
  go_wp2_with fail
  go_loopw [5] (fun i w0 => ∃ k : Nat, k ≤ 2 ∧ i = .int .i64 k ∧ w0 = w) (fun i _ => 2 - (intOf i).toNat)
  case atStart => exact ⟨0, Nat.zero_le _, rfl, rfl⟩
  case round =>
    obtain ⟨k, hk, rfl, rfl⟩ := hrel
    have : k = 0 ∨ k = 1 ∨ k = 2 := by omega
    rcases this with rfl | rfl | rfl
    · go_wp2_with fail
      go_roundw
      case rel => exact ⟨1, by omega, by go_num, trivial⟩
      case measure => first | (simp [intOf]; done) | (simp [intOf]; omega)
    · go_wp2_with fail
      go_roundw
      case rel => exact ⟨2, by omega, by go_num, trivial⟩
      case measure => first | (simp [intOf]; done) | (simp [intOf]; omega)
    · go_wp2_with fail
      go_returns
      exact ⟨rfl, rfl⟩

set_option maxHeartbeats 4000000 in
set_option maxRecDepth 100000 in
theorem RefNext_some (w : World) (base R r : Nat) (x : Int) (l : List Int) (v : Value) (cs : Array Value) (hr : r < 2) (hlen : l.length < 16) (hR : RowAt w R cs 66) (hv : cs[r]? = some v) (hI : RowI w base v (x :: l)) (h0 : ∀ k, k < r → ∃ A0 d0, cs[k]? = some (.slice A0 0 d0)) :
    Calls Tryd.prog 31 #[.pointer (some ⟨R, 0, none⟩)] w fun e w' => e = .returned (.tuple #[.int .i64 x, .bool ((r : Int) == 0), .bool true]) ∧ Touch w w' (fun k => k = R) ∧ ∃ v', RowAt w' R (cs.setIfInBounds r v') 66 ∧ RowI w' w.heap.size v' l := by
  obtain ⟨A, c, rfl, h1, h2⟩ := hI.is
  have cr := hR.cellIs r _ hv
  have fr := hR.frozen r
  have hA : ∃ g, A = some ⟨g, 0, none⟩ := by
    cases A with
    | none => have := (h1.nil rfl).1; simp at this
    | some a => exact ⟨a.block, by rw [← (h2 a rfl).2.2.1]⟩
  obtain ⟨g, rfl⟩ := hA
  have hcell : ∀ j y, (x :: l)[j]? = some y → w.cell? ⟨g, j, none⟩ = some (.int .i64 y) := by
    intro j y hj
    have := h1.cell _ rfl j y hj
    rwa [addr_plain] at this
  have c2 := hcell 0 x rfl
  obtain ⟨hg1, hg2, _, hg3⟩ := h2 _ rfl
  simp only at hg1 hg2
  have hRl := hR.lt
  have HCL := Lib.hid hcell
  have H0 := Lib.hid h0
  have hcr := hv
  have hr0 : (0 : Int) ≤ (r : Int) := by omega
  have hr1 : (r : Int) < 2 := by omega
  clear h1 h2 hcell hI h0 hv
  obtain ⟨i0, hi, hz0, hz1, hz2⟩ := info_parts Tryd.info_i64
  have HA := Lib.hid (World.ownsRow_lit (base := w.heap.size) (e := 3) (size := 1) w #[] 0 (Nat.le_refl _) (by decide) rfl)
  have BA := Lib.hid ((Below.refl w.heap.size w).alloc (Nat.le_refl _) (.cells #[] 3))
  simp only [List.length_cons] at hg3 cr hcr
  have hll := icells_length l
  have hl1 : (1 : Int) ≤ (l.length : Int) + 1 := by omega
  go_enter Tryd.func31, Tryd.ntmps31
  go_wp2_with fail
  go_loopw [5] (fun i w0 => ∃ k : Nat, k ≤ r ∧ i = .int .i64 k ∧ w0 = w) (fun i _ => 2 - (intOf i).toNat)
  case atStart => exact ⟨0, Nat.zero_le _, rfl, rfl⟩
  case round =>
    obtain ⟨k, hk, rfl, rfl⟩ := hrel
    by_cases hlt : k < r
    · obtain ⟨A0, d0, hk0⟩ := H0.out k hlt
      have ck := hR.cellIs k _ hk0
      have hk0' : (0 : Int) ≤ (k : Int) := by omega
      have hk1 : (k : Int) < 2 := by omega
      go_wp2_with fail
      go_roundw
      case rel => exact ⟨k + 1, by omega, by go_num, trivial⟩
      case measure => first | (simp [intOf]; done) | (simp [intOf]; omega)
    · obtain rfl : k = r := by omega
      by_cases hc1 : c = 1
      · obtain rfl : l = [] := List.eq_nil_of_length_eq_zero (by omega)
        subst hc1
        go_wp2_with (at_builtin; fail)
        go_region_law (first | (refine step_append_own rfl (.tmp 29) (.tmp 36) 37 rfl wr.heap.size 3 i0 (.int .i64 0) 1 8 Tryd.underlying37 hi hz0 hz1 hz2 rfl (by decide) _ 0 [] rfl HA.out ⟨_, _, none⟩ 0 _ [] rfl (by simp [icells]) (by intro j u hu; simp at hu) (by intro u hu; simp [icells] at hu; try (obtain ⟨x, _, rfl⟩ := hu; rfl)) (by unfold maxLen; omega) (by omega) BA.out.size ?_; intro v' w2 hown' hgrow hnn; have hb2 : Below wr.heap.size wr w2 := (by refine Below.grown ?_ hgrow ?_ ?_; exact below_like BA.out rfl rfl rfl rfl; exact BA.out.size; exact own_base HA.out); obtain ⟨A', c', rfl⟩ := own_slice hown'; have HO2 := Lib.hid hown'; clear hown' hgrow; have hR2 := hR.later hb2 hRl; have d1 := hR2.cellIs k _ hcr; have f2 := hR2.frozen k))
        all_goals go_wp2
        all_goals go_returns
        all_goals exact ⟨rfl, Touch.setCell (S := fun k => k = R) (a := ⟨R, k, none⟩) (Touch.ofBelow _ hb2) _ rfl, _, hR2.set k _, (Ints.of_own (IntRow.setCell (base := wr.heap.size) (l := []) HO2.out ⟨R, k, none⟩ _ hRl))⟩
      · have NA : Hid (∀ j u, (icells l)[j]? = some u → (wr.alloc (.cells #[] 3)).cell? ((⟨g, 1, none⟩ : Addr).add j) = some u) := by
          intro j u hu
          rw [icells, List.getElem?_map] at hu
          cases hy : l[j]? with
          | none => rw [hy] at hu; simp at hu
          | some y =>
            rw [hy] at hu
            simp at hu
            subst hu
            have e : (⟨g, 1, none⟩ : Addr).add j = ⟨g, 1 + j, none⟩ := by unfold Addr.add; split <;> simp_all
            rw [e]
            exact cell_alloc (HCL.out (1 + j) y (by rw [Nat.add_comm, List.getElem?_cons_succ]; exact hy)) _
        go_wp2_with (at_builtin; fail)
        go_region_law (first | (refine step_append_own rfl (.tmp 29) (.tmp 36) 37 rfl wr.heap.size 3 i0 (.int .i64 0) 1 8 Tryd.underlying37 hi hz0 hz1 hz2 rfl (by decide) _ 0 [] rfl HA.out ⟨g, 1, none⟩ l.length _ (icells l) rfl (by simp [icells]) NA.out (by intro u hu; simp [icells] at hu; try (obtain ⟨x, _, rfl⟩ := hu; rfl)) (by unfold maxLen; omega) (by omega) BA.out.size ?_; intro v' w2 hown' hgrow hnn; have hb2 : Below wr.heap.size wr w2 := (by refine Below.grown ?_ hgrow ?_ ?_; exact below_like BA.out rfl rfl rfl rfl; exact BA.out.size; exact own_base HA.out); obtain ⟨A', c', rfl⟩ := own_slice hown'; have HO2 := Lib.hid hown'; clear hown' hgrow; have hR2 := hR.later hb2 hRl; have d1 := hR2.cellIs k _ hcr; have f2 := hR2.frozen k))
        all_goals go_wp2
        all_goals go_returns
        all_goals exact ⟨rfl, Touch.setCell (S := fun k => k = R) (a := ⟨R, k, none⟩) (Touch.ofBelow _ hb2) _ rfl, _, hR2.set k _, (Ints.of_own (IntRow.setCell (base := wr.heap.size) (l := l) (by unfold IntRow; simpa using HO2.out) ⟨R, k, none⟩ _ hRl))⟩

end Go.Proofs.YtboebjmfchbgbaaDoor
