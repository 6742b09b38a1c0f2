/-
  The walks of package class: one byte and a set.
-/
import Derived.Test.YtkddighepgpccaaDoorSet3
import Derived.Laws.ShiftsVar
namespace Go.Proofs.YtkddighepgpccaaDoor
open Go Go.RowKit
set_option linter.unusedSimpArgs false
set_option linter.unusedVariables false

def S4.cells (s : S4) : Array Value := #[.int .u64 (s.a0 : Int), .int .u64 (s.a1 : Int), .int .u64 (s.a2 : Int), .int .u64 (s.a3 : Int)]
def S4.at (s : S4) (i : Nat) : Nat := if i = 0 then s.a0 else if i = 1 then s.a1 else if i = 2 then s.a2 else s.a3
def S4.put (s : S4) (i x : Nat) : S4 := if i = 0 then { s with a0 := x } else if i = 1 then { s with a1 := x } else if i = 2 then { s with a2 := x } else { s with a3 := x }
theorem four {i : Nat} (h : i < 4) : i = 0 ∨ i = 1 ∨ i = 2 ∨ i = 3 := by omega
theorem S4.cells_at (s : S4) {i : Nat} (h : i < 4) : s.cells[i]? = some (.int .u64 (s.at i : Int)) := by
  rcases four h with rfl | rfl | rfl | rfl <;> rfl
theorem S4.cells_put (s : S4) {i : Nat} (h : i < 4) (x : Nat) : s.cells.setIfInBounds i (.int .u64 (x : Int)) = (s.put i x).cells := by
  rcases four h with rfl | rfl | rfl | rfl <;> rfl
theorem S4.at_ok {s : S4} (h : s.ok) (i : Nat) : s.at i < 18446744073709551616 := by
  obtain ⟨h0, h1, h2, h3⟩ := h
  unfold S4.at
  repeat' split
  all_goals assumption
theorem S4.put_ok {s : S4} (h : s.ok) (i : Nat) {x : Nat} (hx : x < 18446744073709551616) : (s.put i x).ok := by
  obtain ⟨h0, h1, h2, h3⟩ := h
  unfold S4.put S4.ok
  repeat' split
  all_goals exact ⟨by assumption, by assumption, by assumption, by assumption⟩
theorem S4.at_put (s : S4) {i j : Nat} (hi : i < 4) (hj : j < 4) (x : Nat) : (s.put i x).at j = if i = j then x else s.at j := by
  rcases four hi with rfl | rfl | rfl | rfl <;> rcases four hj with rfl | rfl | rfl | rfl <;> rfl
def S4.has (s : S4) (b : Nat) : Bool := (s.at (b / 64)).testBit (b % 64)
def S4.with (s : S4) (b : Nat) : S4 := s.put (b / 64) (s.at (b / 64) ||| 2 ^ (b % 64))

theorem bit_one (x k : Nat) (hx : x < 18446744073709551616) : (bits .and .u64 ((x : Int) / 2 ^ k) 1 == 1) = x.testBit k := by
  have h1 : ((x : Int) / 2 ^ k) = ((x / 2 ^ k : Nat) : Int) := by
    rw [Int.natCast_ediv, Int.natCast_pow]; rfl
  rw [h1, show (1 : Int) = ((1 : Nat) : Int) from rfl, u64_and_nat _ _ (Nat.lt_of_le_of_lt (Nat.div_le_self _ _) hx) (by decide), Nat.and_one_is_mod, Nat.testBit_eq_decide_div_mod_eq]
  rw [Bool.eq_iff_iff]
  simp
  omega
theorem Has_any (w : World) (s : S4) (hs : s.ok) (b : Nat) (hb : b < 256) :
    Calls Tryd.prog 28 #[s.v, .int .u8 (b : Int)] w fun e w' => e = .returned (.bool (s.has b)) ∧ Below w.heap.size w w' := by
  have hR := RowAt.new w s.cells 38
  have hc := hR.cellIs _ _ (s.cells_at (i := b / 64) (by omega))
  have hx := S4.at_ok hs (b / 64)
  show Calls _ _ #[.agg s.cells, _] _ _
  generalize s.cells = cs at *
  unfold S4.has
  generalize s.at (b / 64) = x at *
  have hbit := bit_one x (b % 64) hx
  go_enter Tryd.func28, Tryd.ntmps28
  go_wp2
  go_returns
  exact ⟨rfl, (Below.refl _ _).alloc (Nat.le_refl _) _⟩

theorem with_any (w : World) (s : S4) (hs : s.ok) (b : Nat) (hb : b < 256) :
    Calls Tryd.prog 73 #[s.v, .int .u8 (b : Int)] w fun e w' => e = .returned (s.with b).v ∧ Below w.heap.size w w' := by
  have hR := (RowAt.new w s.cells 38).old (.cells #[.int .u64 0, .int .u64 0, .int .u64 0, .int .u64 0] 38)
  have hc := hR.cellIs _ _ (s.cells_at (i := b / 64) (by omega))
  have hf := hR.frozen (b / 64)
  have hx := S4.at_ok hs (b / 64)
  have h2 : 2 ^ (b % 64) < 18446744073709551616 := Nat.pow_lt_pow_right (m := b % 64) (n := 64) (by decide) (by omega)
  have hwr : IntKind.u64.wrap (2 ^ (b % 64)) = ((2 ^ (b % 64) : Nat) : Int) := wrap_nat h2 (by rw [Int.natCast_pow]; rfl)
  have hor := u64_or_nat _ _ hx h2
  have hset := s.cells_put (i := b / 64) (by omega) (s.at (b / 64) ||| 2 ^ (b % 64))
  show Calls _ _ #[.agg s.cells, _] _ fun e w' => e = .returned (s.put (b / 64) (s.at (b / 64) ||| 2 ^ (b % 64))).v ∧ _
  generalize 2 ^ (b % 64) = z at *
  generalize s.at (b / 64) = y at *
  generalize y ||| z = x at *
  generalize s.put (b / 64) x = t at *
  generalize s.cells = cs at *
  obtain ⟨c0, c1, c2, c3⟩ := t
  unfold S4.cells at hset
  unfold S4.v
  simp only at hset ⊢
  have hT := (RowAt.new w #[.int .u64 (c0 : Int), .int .u64 (c1 : Int), .int .u64 (c2 : Int), .int .u64 (c3 : Int)] 38).old (.cells #[.int .u64 0, .int .u64 0, .int .u64 0, .int .u64 0] 38)
  have k0 := hT.cellIs 0 _ rfl
  have k1 := hT.cellIs 1 _ rfl
  have k2 := hT.cellIs 2 _ rfl
  have k3 := hT.cellIs 3 _ rfl
  go_enter Tryd.func73, Tryd.ntmps73
  have hZ := RowAt.new (w.alloc (.cells #[.int .u64 (c0 : Int), .int .u64 (c1 : Int), .int .u64 (c2 : Int), .int .u64 (c3 : Int)] 38)) #[.int .u64 (c0 : Int), .int .u64 (c1 : Int), .int .u64 (c2 : Int), .int .u64 (c3 : Int)] 38
  simp only [World.size_alloc] at hZ
  go_wp2
  have r0 := hZ.cellIs 0 _ rfl
  have r1 := hZ.cellIs 1 _ rfl
  have r2 := hZ.cellIs 2 _ rfl
  have r3 := hZ.cellIs 3 _ rfl
  refine bodyPost_ret (by simp [results, Tryd.results73, go_sem, r0, r1, r2, r3]; try rfl) rfl ?_
  exact ⟨rfl, ((Below.refl _ _).alloc (Nat.le_refl _) _).alloc (by simp) _⟩

end Go.Proofs.YtkddighepgpccaaDoor
