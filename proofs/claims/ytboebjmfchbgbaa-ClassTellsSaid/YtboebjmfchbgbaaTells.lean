/-
  The walks of the reference's Has (layer 6), and of Set.Bytes.
-/
import Derived.Test.YtboebjmfchbgbaaSetOf
import Derived.Laws.AppendOwn
namespace Go.Proofs.Ytboebjmfchbgbaa
open Go Go.RowKit
set_option linter.unusedSimpArgs false
set_option linter.unusedVariables false

set_option maxHeartbeats 1000000 in
theorem RefHasK (s : OK) (b : Nat) (hb : b < 256) (w : World) :
    Calls Try.prog 34 #[s.v, .int .i64 (b : Int)] w fun e w' => e = .returned (.bool (s.1.has b)) ∧ Below w.heap.size w w' := by
  have hR := RowAt.new w s.1.cells 26
  have hx := S4.at_ok s.2 (b / 64)
  obtain ⟨q, hq⟩ : ∃ q, b / 64 = q := ⟨_, rfl⟩
  obtain ⟨r, hr⟩ : ∃ r, b % 64 = r := ⟨_, rfl⟩
  have hc := hR.cellIs _ _ (s.1.cells_at (i := q) (by omega))
  show Calls _ _ #[.agg s.1.cells, _] _ fun e w' => e = .returned (.bool ((s.1.at (b / 64)).testBit (b % 64))) ∧ _
  rw [hq] at hx ⊢
  rw [hr]
  generalize s.1.cells = cs at *
  generalize s.1.at q = x at *
  have hq' : (b : Int) / 64 = (q : Int) := by omega
  have hr' : (b : Int) % 64 = (r : Int) := by omega
  have hq4 : (q : Int) < 4 := by omega
  have hr64 : (r : Int) < 64 := by omega
  have hfin : ((((x / 2 ^ r % 2 : Nat)) : Int) == 1) = x.testBit r := by
    rw [Nat.testBit_eq_decide_div_mod_eq]
    generalize x / 2 ^ r % 2 = t
    rw [Bool.eq_iff_iff]
    simp
    omega
  have HF := Lib.hid hfin
  clear hfin hq hr
  go_enter Try.func34, Try.ntmps34
  go_wp2
  go_loopw [5, 6] (fun v i wr => ∃ k y : Nat, k ≤ r ∧ i = .int .i64 (k : Int) ∧ v = .int .u64 (y : Int) ∧ Hid (y = x / 2 ^ k) ∧ y < 18446744073709551616 ∧ Below w.heap.size w wr) (fun _ i _ => r - (intOf i).toNat)
  case atStart => exact ⟨0, x, Nat.zero_le _, rfl, rfl, (by show x = x / 2 ^ 0; simp), hx, (Below.refl _ _).alloc (Nat.le_refl _) _⟩
  case round =>
    obtain ⟨k, y, hk, rfl, rfl, HY, hy, hbl⟩ := hrel
    by_cases hlt : k < r
    · obtain ⟨z, hz⟩ : ∃ z, y / 2 = z := ⟨_, rfl⟩
      have hz' : (y : Int) / 2 = (z : Int) := by omega
      have HZ : Hid (z = x / 2 ^ (k + 1)) := by
        show _ = _
        rw [← hz, HY.out, Nat.pow_succ, Nat.div_div_eq_div_mul]
      have hz64 : z < 18446744073709551616 := by omega
      clear hz HY
      go_wp2
      go_roundw
      case rel => exact ⟨k + 1, z, by omega, by go_num, rfl, HZ, hz64, hbl⟩
      case measure => first | (simp [intOf]; done) | (simp [intOf]; omega)
    · obtain rfl : k = r := by omega
      obtain ⟨z, hz⟩ : ∃ z, y % 2 = z := ⟨_, rfl⟩
      have hz' : (y : Int) % 2 = (z : Int) := by omega
      have HB : Hid (((z : Int) == 1) = x.testBit k) := by
        show _ = _
        rw [← HF.out, ← hz, HY.out]
      clear hz HY HF
      have hB := HB.out
      go_wp2
      go_returns
      exact ⟨rfl, hbl⟩

/-! ### the bytes of a set -/
def bytesN (s : S4) : Nat → List Nat
  | 0 => []
  | k + 1 => bytesN s k ++ if s.has k = true then [k] else []
theorem bytesN_le (s : S4) : ∀ k, (bytesN s k).length ≤ k
  | 0 => Nat.le_refl _
  | k + 1 => by
    have := bytesN_le s k
    unfold bytesN
    split <;> simp <;> omega
def bvals (l : List Nat) : List Value := l.map fun b : Nat => Value.int .u8 (b : Int)
theorem bvals_append (a b : List Nat) : bvals a ++ bvals b = bvals (a ++ b) := by simp [bvals]
def BRow (B : Nat) (l : List Nat) (v : Value) (w : World) : Prop := w.ownsRow B 5 1 v l.length (bvals l)
theorem Try.info_u8 : (Try.prog.info? 5).map (fun i => (i.zero, i.size, i.bytes)) = some (some (.int .u8 0), 1, 1) := by kernel_rfl

set_option maxHeartbeats 4000000 in
set_option maxRecDepth 100000 in
theorem BytesK (s : OK) (w : World) :
    Calls Try.prog 33 #[s.v] w fun e w' => ∃ v, e = .returned v ∧ BRow (w.heap.size + 1) (bytesN s.1 256) v w' ∧ Below w.heap.size w w' := by
  obtain ⟨i0, hi, hz0, hz1, hz2⟩ := info_parts Try.info_u8
  have g0 := set_cells (RowAt.new w s.1.cells 27)
  have hraw := s.raw
  have HAS := Lib.hid (HasK s)
  obtain ⟨TK, hTK⟩ : ∃ TK, bytesN s.1 = TK := ⟨_, rfl⟩
  have HLE := Lib.hid (show ∀ k, (TK k).length ≤ k by rw [← hTK]; exact bytesN_le s.1)
  have HT0 := Lib.hid (show TK 0 = [] by rw [← hTK]; rfl)
  have HTS := Lib.hid (show ∀ k, TK (k + 1) = TK k ++ if s.1.has k = true then [k] else [] by rw [← hTK]; intro k; rfl)
  rw [hTK]
  clear hTK
  show Calls _ _ #[.agg s.1.cells] _ _
  have hb0 : Below w.heap.size w _ := (Below.refl w.heap.size w).alloc (Nat.le_refl _) (.cells s.1.cells 27)
  obtain ⟨V, hV⟩ : ∃ V, w.alloc (.cells s.1.cells 27) = V := ⟨_, rfl⟩
  have hVs : w.heap.size + 1 = V.heap.size := by rw [← hV, World.size_alloc]
  rw [hV] at g0 hb0
  rw [hVs]
  clear hVs
  go_enter Try.func33, Try.ntmps33
  go_wp2
  go_loopw [3, 5] (fun v i wr => ∃ k : Nat, k ≤ 256 ∧ i = .int .i64 (k : Int) ∧ BRow V.heap.size (TK k) v wr ∧ Below V.heap.size V wr) (fun _ i _ => 256 - (intOf i).toNat)
  case atStart => exact ⟨0, Nat.zero_le _, rfl, by rw [HT0.out]; exact World.ownsRow_nil _ _ _ _, Below.refl _ _⟩
  case round =>
    obtain ⟨k, hk, rfl, HR, hbl⟩ := hrel
    have hsz := hbl.size
    by_cases hlt : k < 256
    · have hw8 : IntKind.u8.wrap (k : Int) = (k : Int) := by rw [IntKind.wrap_u8']; omega
      have hlek := HLE.out k
      obtain ⟨c0, c1, c2, c3⟩ := g0 wr hbl
      have HS := Lib.hid (HTS.out k)
      obtain ⟨b, hb⟩ : ∃ b, s.1.has k = b := ⟨_, rfl⟩
      unfold BRow at HR
      cases b
      · have HS2 : Hid (TK (k + 1) = TK k) := by show _ = _; rw [HS.out, hb]; simp
        clear HS HTS g0
        go_wp2_with (go_at_call 35; refine (HAS.out k hlt _).mono ?_; rw [hb]; rintro e w1 ⟨rfl, hb1⟩; have HR1 := own_below HR hb1)
        go_roundw
        case rel => exact ⟨k + 1, by omega, by go_num, by rw [HS2.out]; exact HR1, hbl.trans (hb1.mono hbl.size)⟩
        case measure => first | (simp [intOf]; done) | (simp [intOf]; omega)
      · have HS2 : Hid (TK (k + 1) = TK k ++ [k]) := by show _ = _; rw [HS.out, hb]; simp
        clear HS HTS g0
        go_wp2_with (first | (go_at_call 35; refine (HAS.out k hlt _).mono ?_; rw [hb]; rintro e w1 ⟨rfl, hb1⟩; have HR1 := own_below HR hb1; have hs1 := hb1.size) | (at_builtin; refine wpList_append_own _ rfl (.tmp 12) (.tmp 15) 22 rfl V.heap.size 5 i0 (.int .u8 0) 1 1 Try.underlying22 hi hz0 hz1 hz2 rfl (by decide) _ _ _ rfl (World.ownsRow.alloc HR1 _) ⟨w1.heap.size, 0, none⟩ 1 1 [.int .u8 (k : Int)] rfl rfl (cell_one_new _ _ _) (by intro u hu; simp at hu; subst hu; rfl) (by unfold maxLen; omega) (by omega) (by simp; omega) ?_; intro v' w2 hown' hgrow _))
        have hbl1 := hbl.trans (hb1.mono hbl.size)
        have hbl' : Below V.heap.size V w2 := (hbl1.alloc (by omega) _).grown hgrow (by simp; omega) (own_base HR1)
        have HR' : Hid (BRow V.heap.size (TK (k + 1)) v' w2) := by
          show BRow _ _ _ _
          unfold BRow
          rw [HS2.out, ← bvals_append, List.length_append]
          exact hown'
        clear hown' hgrow HR HR1
        go_wp2
        go_roundw
        case rel => exact ⟨k + 1, by omega, by go_num, HR'.out, hbl'⟩
        case measure => first | (simp [intOf]; done) | (simp [intOf]; omega)
    · obtain rfl : k = 256 := by omega
      clear HTS g0
      go_wp2
      go_returns
      exact ⟨_, rfl, HR, hb0.trans (hbl.mono hb0.size)⟩

end Go.Proofs.Ytboebjmfchbgbaa
