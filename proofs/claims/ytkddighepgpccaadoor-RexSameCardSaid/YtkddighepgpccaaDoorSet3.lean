/-
  The walks of package class: counting.
-/
import Derived.Test.YtkddighepgpccaaDoorSet2
import Derived.Laws.Bits128
namespace Go.Proofs.YtkddighepgpccaaDoor
open Go Go.RowKit
set_option linter.unusedSimpArgs false
set_option linter.unusedVariables false

theorem word8_lt {b0 b1 b2 b3 b4 b5 b6 b7 : Nat} (h0 : b0 < 256) (h1 : b1 < 256) (h2 : b2 < 256) (h3 : b3 < 256) (h4 : b4 < 256) (h5 : b5 < 256) (h6 : b6 < 256) (h7 : b7 < 256) : word8 b0 b1 b2 b3 b4 b5 b6 b7 < 18446744073709551616 := by
  unfold word8; omega
set_option maxHeartbeats 1000000 in
theorem ones_bounds (x : Nat) (hx : x < 18446744073709551616) :
    ∃ A B C y z u : Nat, A = (x / 2 &&& m85) + (x &&& m85) ∧ A < 18446744073709551616 ∧ B = (A / 4 &&& m51) + (A &&& m51) ∧ B < 18446744073709551616 ∧ B / 16 + B < 18446744073709551616 ∧ C = ((B / 16 + B) &&& m15) ∧ C < 1000000000000000000 ∧ y = C + C / 256 ∧ y < 1100000000000000000 ∧ z = y + y / 65536 ∧ z < 1200000000000000000 ∧ u = z + z / 4294967296 ∧ u < 1300000000000000000 ∧ u % 128 = pop x := by
  have hp := ones_pop x hx
  obtain ⟨b0, b1, b2, b3, b4, b5, b6, b7, h0, h1, h2, h3, h4, h5, h6, h7, rfl⟩ := word8_of x hx
  have e1 := step1 h0 h1 h2 h3 h4 h5 h6 h7
  have g : ∀ b, b < 256 → f1 b < 256 := fun b hb => by have := f1_le b hb; omega
  have g2 : ∀ b, b < 256 → f2 (f1 b) < 256 := fun b hb => by have := (f2_low b hb).1; omega
  have e2 := step2 (g _ h0) (g _ h1) (g _ h2) (g _ h3) (g _ h4) (g _ h5) (g _ h6) (g _ h7)
  have e3 := step3 (f2_low _ h0) (f2_low _ h1) (f2_low _ h2) (f2_low _ h3) (f2_low _ h4) (f2_low _ h5) (f2_low _ h6) (f2_low _ h7)
  rw [f3_pop _ h0, f3_pop _ h1, f3_pop _ h2, f3_pop _ h3, f3_pop _ h4, f3_pop _ h5, f3_pop _ h6, f3_pop _ h7] at e3
  obtain ⟨e4, e5, e6, e7, e8⟩ := sum8 (popB_le _ h0) (popB_le _ h1) (popB_le _ h2) (popB_le _ h3) (popB_le _ h4) (popB_le _ h5) (popB_le _ h6) (popB_le _ h7)
  refine ⟨_, _, _, _, _, _, e1.symm, word8_lt (g _ h0) (g _ h1) (g _ h2) (g _ h3) (g _ h4) (g _ h5) (g _ h6) (g _ h7), e2.symm, word8_lt (g2 _ h0) (g2 _ h1) (g2 _ h2) (g2 _ h3) (g2 _ h4) (g2 _ h5) (g2 _ h6) (g2 _ h7), ?_, e3.symm, e5, rfl, e6, rfl, e7, rfl, e8, ?_⟩
  · have := (f2_low _ h0).1
    have := (f2_low _ h1).1
    have := (f2_low _ h2).1
    have := (f2_low _ h3).1
    have := (f2_low _ h4).1
    have := (f2_low _ h5).1
    have := (f2_low _ h6).1
    have := (f2_low _ h7).1
    unfold word8; omega
  · unfold ones at hp
    simp only at hp
    rw [e1, e2, e3] at hp
    exact hp

theorem and_nat {a m : Nat} (ha : a < 18446744073709551616) (hm : m < 18446744073709551616) {v : Int} (hv : v = (a : Int)) : bits .and .u64 v (m : Int) = ((a &&& m : Nat) : Int) := by
  subst hv
  exact u64_and_nat a m ha hm
theorem wrap_nat {a : Nat} (ha : a < 18446744073709551616) {v : Int} (hv : v = (a : Int)) : IntKind.u64.wrap v = (a : Int) := by
  subst hv
  rw [IntKind.wrap_u64]; omega

set_option maxHeartbeats 1000000 in
theorem ones_any (w : World) (x : Nat) (hx : x < 18446744073709551616) :
    Calls Tryd.prog 48 #[.int .u64 (x : Int)] w fun e w' => e = .returned (.int .i64 (pop x : Int)) ∧ w = w' := by
  obtain ⟨A, B, C, y, z, u, hA, lA, hB, lB, lB2, hC, lC, hy, ly, hz, lz, hu, lu, hp⟩ := ones_bounds x hx
  have s1 : bits .and .u64 ((x : Int) / 2) 6148914691236517205 = ((x / 2 &&& m85 : Nat) : Int) := and_nat (by omega) (by decide) (by omega)
  have s2 : bits .and .u64 (x : Int) 6148914691236517205 = ((x &&& m85 : Nat) : Int) := and_nat hx (by decide) rfl
  have s3 : IntKind.u64.wrap (((x / 2 &&& m85 : Nat) : Int) + ((x &&& m85 : Nat) : Int)) = (A : Int) := wrap_nat lA (by omega)
  generalize (x / 2 &&& m85) = p1 at *
  generalize (x &&& m85) = p2 at *
  have s4 : bits .and .u64 ((A : Int) / 4) 3689348814741910323 = ((A / 4 &&& m51 : Nat) : Int) := and_nat (by omega) (by decide) (by omega)
  have s5 : bits .and .u64 (A : Int) 3689348814741910323 = ((A &&& m51 : Nat) : Int) := and_nat lA (by decide) rfl
  have s6 : IntKind.u64.wrap (((A / 4 &&& m51 : Nat) : Int) + ((A &&& m51 : Nat) : Int)) = (B : Int) := wrap_nat lB (by omega)
  generalize (A / 4 &&& m51) = p3 at *
  generalize (A &&& m51) = p4 at *
  have s7 : IntKind.u64.wrap ((B : Int) / 16 + (B : Int)) = ((B / 16 + B : Nat) : Int) := wrap_nat lB2 (by omega)
  have s8 : bits .and .u64 ((B / 16 + B : Nat) : Int) 1085102592571150095 = (C : Int) := by rw [hC]; exact and_nat lB2 (by decide) rfl
  generalize B / 16 + B = p5 at *
  have s9 : IntKind.u64.wrap ((C : Int) + (C : Int) / 256) = (y : Int) := wrap_nat (by omega) (by omega)
  have s10 : IntKind.u64.wrap ((y : Int) + (y : Int) / 65536) = (z : Int) := wrap_nat (by omega) (by omega)
  have s11 : IntKind.u64.wrap ((z : Int) + (z : Int) / 4294967296) = (u : Int) := wrap_nat (by omega) (by omega)
  have s12 : bits .and .i64 (u : Int) 127 = ((pop x : Nat) : Int) := by rw [i64_and127, ← hp]; omega
  clear hA hB hC hy hz hu lB2 hp
  go_enter Tryd.func48, Tryd.ntmps48
  go_wp2
  go_returns
  exact ⟨rfl, rfl⟩

end Go.Proofs.YtkddighepgpccaaDoor
