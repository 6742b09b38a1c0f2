/-
  An array by value, indexed within its bounds; a cell set in an array by value.
-/
import Derived.Test.YtkddighepgpccaaDoorKit
import Derived.Handy
namespace Go.Proofs.YtkddighepgpccaaDoor
open Go Go.RowKit

theorem run_index_arr {P : Program} {w : World} {t e : TypeId} {n : Nat} {ie : TypeInfo} {cs : Array Value} {v : Value} (k : Nat) (h : P.underlying t = some (.array n e)) (hie : P.info? e = some ie) (hs : ie.size = 1) (ha : (isAgg e).run P w = .ok false w) (hk : k < n) (hv : cs[k]? = some v) (ik : IntKind) :
    (Instr.index t (.agg cs) (.int ik (k : Int))).run P w = .ok v w := by
  have h1 : (0 : Int) ≤ (k : Int) ∧ (k : Int) < (n : Int) := by omega
  simp [Instr.index, run_underlying h, asIntOf, h1, sizeOf, typeInfo, hie, hs, part, ha, hv]
  intro hc; omega
theorem Tryd.isAgg_bool (w : World) : (isAgg 4).run Tryd.prog w = .ok false w := by kernel_rfl
theorem Tryd.info_bool : (Tryd.prog.info? 4).map (fun i => (i.zero, i.size, i.bytes)) = some (some (.bool false), 1, 1) := by kernel_rfl

end Go.Proofs.YtkddighepgpccaaDoor
