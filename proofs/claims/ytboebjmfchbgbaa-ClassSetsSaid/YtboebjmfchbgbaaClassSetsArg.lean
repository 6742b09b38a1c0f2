/-
  The walk of the statement ClassSets, at its arguments as they come in.
-/
import Derived.Test.YtboebjmfchbgbaaClassSets
namespace Go.Proofs.Ytboebjmfchbgbaa
open Go Go.RowKit

theorem byte_wf {x : Int} (h : (Lit.int .u8 x).wf = true) : 0 ≤ x ∧ x < 256 := by
  simp [Lit.wf, IntKind.min, IntKind.max, IntKind.signed, IntKind.bits] at h
  omega
theorem ClassSets_args (A : Option Addr) (n c : Nat) (xs : List Int) (a b : Int) (W : World) (hx : Byts W A n c xs) (zx : ∀ x ∈ xs, (Lit.int .u8 x).wf = true) (ha : (Lit.int .u8 a).wf = true) (hb : (Lit.int .u8 b).wf = true) :
    Calls Try.prog 3 #[.slice A n c, .int .u8 a, .int .u8 b] W fun e w' => e = .returned (.bool true) ∧ Below W.heap.size W w' := by
  obtain ⟨a0, a1⟩ := byte_wf ha
  obtain ⟨b0, b1⟩ := byte_wf hb
  obtain ⟨lo, rfl⟩ := Int.eq_ofNat_of_zero_le a0
  obtain ⟨hi, rfl⟩ := Int.eq_ofNat_of_zero_le b0
  exact ClassSets_walk A n c xs lo hi W hx (fun x h => byte_wf (zx x h)) (by omega) (by omega)

end Go.Proofs.Ytboebjmfchbgbaa
