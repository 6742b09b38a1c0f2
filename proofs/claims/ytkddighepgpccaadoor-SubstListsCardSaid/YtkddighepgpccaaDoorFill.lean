/-
  Walk of stem.Fill: the pattern with the stem in the place of each wild sign; and the chapter's example.
-/
import Derived.Test.YtkddighepgpccaaDoorStem
namespace Go.Proofs.YtkddighepgpccaaDoor
open Go.RowKit
set_option linter.unusedSimpArgs false
set_option linter.unusedVariables false

def fillL (p s : List UInt8) : List UInt8 := p.flatMap fun c => if wildB c then s else [c]
def fillS (p s : ByteArray) : ByteArray := str (fillL p.data.toList s.data.toList)
theorem fillL_snoc (p s : List UInt8) (c : UInt8) : fillL (p ++ [c]) s = fillL p s ++ if wildB c then s else [c] := by simp [fillL]
theorem fillL_le (p s : List UInt8) : (fillL p s).length ≤ p.length * (s.length + 1) := by
  induction p with
  | nil => simp [fillL]
  | cons c p ih =>
    have : fillL (c :: p) s = (if wildB c then s else [c]) ++ fillL p s := by simp [fillL]
    rw [this, List.length_append, List.length_cons, Nat.succ_mul]
    have : (if wildB c then s else [c]).length ≤ s.length + 1 := by split <;> simp
    omega
theorem fill_bound {p s : ByteArray} (hp : p.size ≤ 100000) (hs : s.size ≤ 100000) (k : Nat) : (fillL (p.data.toList.take k) s.data.toList).length ≤ 10000100000 := by
  refine Nat.le_trans (fillL_le _ _) ?_
  have h1 : (p.data.toList.take k).length ≤ 100000 := by rw [List.length_take, ← ba_size]; omega
  have h2 : s.data.toList.length + 1 ≤ 100001 := by rw [← ba_size]; omega
  exact Nat.le_trans (Nat.mul_le_mul h1 h2) (by decide)
theorem Tryd.info_u8 : (Tryd.prog.info? 5).map (fun i => (i.zero, i.size, i.bytes)) = some (some (.int .u8 0), 1, 1) := by kernel_rfl

theorem fill_step_wild {p s : ByteArray} {k : Nat} (h : k < p.size) (hb : wildB p[k] = true) : fillL (p.data.toList.take (k + 1)) s.data.toList = fillL (p.data.toList.take k) s.data.toList ++ s.data.toList := by
  rw [take_snoc p k h, fillL_snoc, hb]; rfl
theorem fill_step_plain {p s : ByteArray} {k : Nat} (h : k < p.size) (hb : wildB p[k] = false) : fillL (p.data.toList.take (k + 1)) s.data.toList = fillL (p.data.toList.take k) s.data.toList ++ [p[k]] := by
  rw [take_snoc p k h, fillL_snoc, hb]; rfl
/-- The row that Fill has gathered behind k bytes. -/
def FillRow (B : Nat) (p s : ByteArray) (k : Nat) (v : Value) (w : World) : Prop :=
  w.ownsRow B 5 1 v (fillL (p.data.toList.take k) s.data.toList).length (bcells (fillL (p.data.toList.take k) s.data.toList))

set_option maxHeartbeats 4000000 in
theorem Fill_any (p s : ByteArray) (w : World) (hp : p.size ≤ 100000) (hs : s.size ≤ 100000) :
    Calls Tryd.prog 33 #[.string p, .string s] w fun e w' => e = .returned (.string (fillS p s)) ∧ Below w.heap.size w w' := by
  obtain ⟨i0, hi, hz0, hz1, hz2⟩ := info_parts Tryd.info_u8
  go_enter Tryd.func33, Tryd.ntmps33
  go_wp2
  go_loopw [5, 9] (fun v i wr => ∃ k : Nat, k ≤ p.size ∧ i = .int .i64 k ∧ FillRow w.heap.size p s k v wr ∧ Below w.heap.size w wr) (fun _ i _ => p.size - (intOf i).toNat)
  case atStart => exact ⟨0, Nat.zero_le _, rfl, World.ownsRow_nil _ _ _ _, Below.refl _ _⟩
  case round =>
    obtain ⟨k, hk, rfl, HR, hbl⟩ := hrel
    have hfb := fill_bound hp hs k
    have hsz := hbl.size
    by_cases hlt : k < p.size
    · obtain ⟨b, hb⟩ : ∃ b, wildB p[k] = b := ⟨_, rfl⟩
      cases b with
      | true =>
        have HS := Lib.hid (fill_step_wild (s := s) hlt hb)
        go_wp2_with (first | (go_at_call 54; refine (wild_any _ _).mono ?_; rintro e w' ⟨rfl, rfl⟩) | (at_builtin; refine Lib.wpList_append_own_string _ rfl _ _ 81 9 rfl w.heap.size 5 i0 Tryd.underlying81 Tryd.underlying9 hi hz0 hz1 hz2 _ _ _ rfl HR s rfl (by unfold maxLen; omega) (by omega) (by omega) ?_; intro v' w1 hown' hgrow _))
        have hbl' : Below w.heap.size w w1 := hbl.grown hgrow (by omega) (own_base HR)
        have HR' : FillRow w.heap.size p s (k + 1) v' w1 := by
          unfold FillRow
          rw [HS.out, List.length_append, ← bcells_append, ← strCells_eq, ← ba_size]
          exact hown'
        clear hown' hgrow
        go_wp2
        go_roundw
        case rel => exact ⟨k + 1, by omega, by go_num, HR', hbl'⟩
        case measure => first | (simp [intOf]; done) | (simp [intOf]; omega)
      | false =>
        have HS := Lib.hid (fill_step_plain (s := s) hlt hb)
        go_wp2_with (first | (go_at_call 54; refine (wild_any _ _).mono ?_; rintro e w' ⟨rfl, rfl⟩) | (at_builtin; refine wpList_append_own _ rfl _ _ 81 rfl w.heap.size 5 i0 (.int .u8 0) 1 1 Tryd.underlying81 hi hz0 hz1 hz2 rfl (by decide) _ _ _ rfl (World.ownsRow.alloc HR _) ⟨wr.heap.size, 0, none⟩ 1 1 [.int .u8 (p[k].toNat : Int)] rfl rfl (cell_one_new _ _ _) (by intro u hu; simp at hu; subst hu; rfl) (by unfold maxLen; omega) (by omega) (by simp; omega) ?_; intro v' w1 hown' hgrow _))
        have hbl' : Below w.heap.size w w1 := (hbl.alloc (by omega) _).grown hgrow (by simp; omega) (own_base HR)
        have HR' : FillRow w.heap.size p s (k + 1) v' w1 := by
          unfold FillRow
          rw [HS.out, List.length_append, ← bcells_append]
          exact hown'
        clear hown' hgrow
        go_wp2
        go_roundw
        case rel => exact ⟨k + 1, by omega, by go_num, HR', hbl'⟩
        case measure => first | (simp [intOf]; done) | (simp [intOf]; omega)
    · have HS : Hid (fillS p s = str (fillL (p.data.toList.take k) s.data.toList)) := by
        show _ = _
        unfold fillS
        rw [show k = p.size by omega, ba_size p, List.take_length]
      have hcv := conv_own (P := Tryd.prog) (dst := 9) Tryd.underlying81 Tryd.underlying5 Tryd.underlying9 HR
      go_wp2
      go_ret
      exact ⟨ret_str HS.out.symm, hbl⟩

theorem str_id (s : ByteArray) : str s.data.toList = s := ba_ext rfl

end Go.Proofs.YtkddighepgpccaaDoor
