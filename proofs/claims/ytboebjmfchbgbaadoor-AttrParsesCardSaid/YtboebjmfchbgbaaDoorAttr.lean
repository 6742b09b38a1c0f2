/-
  Walks of package attr (layer 18).
-/
import Derived.Test.YtboebjmfchbgbaaDoorShelf
import Derived.Test.YtboebjmfchbgbaaDoorKit
import Derived.Deep.QuietTactic
import Derived.BigQuiet
import Derived.RegionTactic
import Derived.Deep.RegionHeld3
import Derived.Laws.ResultCell
import Derived.Handy
namespace Go.Proofs.YtboebjmfchbgbaaDoor
open Go.RowKit
set_option linter.unusedSimpArgs false
set_option linter.unusedVariables false

/-! ### int's and, or: on 64 bits -/
theorem wrap_bv (v : BitVec 64) : IntKind.i64.wrap (v.toNat : Int) = v.toInt := by
  rw [IntKind.wrap_i64, BitVec.toInt_eq_toNat_cond]
  have := v.isLt
  split <;> omega
theorem and_bv (x y : BitVec 64) : bits .and .i64 x.toInt y.toInt = (x &&& y).toInt := by
  unfold bits
  show IntKind.i64.wrap (((BitVec.ofInt 64 x.toInt &&& BitVec.ofInt 64 y.toInt).toNat : Nat) : Int) = _
  rw [BitVec.ofInt_toInt, BitVec.ofInt_toInt, wrap_bv]
theorem or_bv (x y : BitVec 64) : bits .or .i64 x.toInt y.toInt = (x ||| y).toInt := by
  unfold bits
  show IntKind.i64.wrap (((BitVec.ofInt 64 x.toInt ||| BitVec.ofInt 64 y.toInt).toNat : Nat) : Int) = _
  rw [BitVec.ofInt_toInt, BitVec.ofInt_toInt, wrap_bv]
theorem int_bv {n : Int} (h : (Lit.int .i64 n).wf = true) : ∃ x : BitVec 64, n = x.toInt := by
  refine ⟨BitVec.ofInt 64 n, ?_⟩
  have h1 : -9223372036854775808 ≤ n ∧ n ≤ 9223372036854775807 := by
    simpa [Lit.wf, IntKind.min, IntKind.max, IntKind.signed, IntKind.bits] using h
  rw [BitVec.toInt_ofInt, Int.bmod_eq_of_le] <;> omega

def hasB (f g : Int) : Bool := bits .and .i64 f g == g
set_option maxHeartbeats 400000 in
theorem Has_any (f g : Int) (p : ByteArray) (w : World) :
    Calls Tryd.prog 11 #[.agg #[.int .i64 f, .string p], .int .i64 g] w fun e w' => e = .returned (.bool (hasB f g)) ∧ Below w.heap.size w w' := by
  go_enter Tryd.func11, Tryd.ntmps11
  go_wp2
  go_ret
  exact ⟨rfl, (Below.refl _ _).alloc (Nat.le_refl _) _⟩
def firstS (p q : ByteArray) : ByteArray := if p.toList = [] then q else p
set_option maxHeartbeats 400000 in
theorem Merge_any (f g : Int) (p q : ByteArray) (w : World) :
    Calls Tryd.prog 10 #[.agg #[.int .i64 f, .string p], .agg #[.int .i64 g, .string q]] w fun e w' => e = .returned (.agg #[.int .i64 (bits .or .i64 f g), .string (firstS p q)]) ∧ Below w.heap.size w w' := by
  by_cases h : p.toList = []
  · have HF : Hid (firstS p q = q) := if_pos h
    go_enter Tryd.func10, Tryd.ntmps10
    go_wp2
    go_returns
    exact ⟨by rw [HF.out], ((((Below.refl _ _).alloc (Nat.le_refl _) _).alloc (by simp) _).alloc (by simp; omega) _)⟩
  · have HF : Hid (firstS p q = p) := if_neg h
    have h' : p.toList.isEmpty = false := by simpa using h
    go_enter Tryd.func10, Tryd.ntmps10
    go_wp2
    go_returns
    exact ⟨by rw [HF.out], ((((Below.refl _ _).alloc (Nat.le_refl _) _).alloc (by simp) _).alloc (by simp; omega) _)⟩

end Go.Proofs.YtboebjmfchbgbaaDoor
