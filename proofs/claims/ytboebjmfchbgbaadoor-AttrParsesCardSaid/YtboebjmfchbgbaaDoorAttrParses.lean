/-
  The walk of the statement AttrParses.
-/
import Derived.Test.YtboebjmfchbgbaaDoorRefParse
import Derived.Test.YtboebjmfchbgbaaDoorNum
namespace Go.Proofs.YtboebjmfchbgbaaDoor
open Go Go.RowKit
set_option linter.unusedSimpArgs false
set_option linter.unusedVariables false

set_option maxHeartbeats 4000000 in
theorem AttrParses_walk (s : ByteArray) (W : World) (ws : s.size ≤ maxLen) (hL : ∃ es, Errs W es) :
    Calls Tryd.prog 6 #[.string s] W fun e w' => e = .returned (.bool true) ∧ Below W.heap.size W w' := by
  obtain ⟨es, hE⟩ := hL
  have ws2 := ws
  unfold maxLen at ws2
  by_cases hbig : 300 < s.size
  · go_enter Tryd.func6, Tryd.ntmps6
    go_wp2_with (go_at_call 9; refine (alive18_any _).mono ?_; rintro e w1 ⟨rfl, hb⟩)
    go_ret
    exact ⟨rfl, hb⟩
  · obtain ⟨r, hr⟩ : ∃ r, parseL s.data.toList 0 = r := ⟨_, rfl⟩
    have hlen := hE.len
    obtain ⟨aA, hA⟩ : ∃ a, es[6]? = some a := ⟨_, List.getElem?_eq_getElem (by omega)⟩
    obtain ⟨aL, hLo⟩ : ∃ a, es[1]? = some a := ⟨_, List.getElem?_eq_getElem (by omega)⟩
    have HA := Lib.hid hA
    have HLo := Lib.hid hLo
    clear hA hLo hlen
    have HR := Lib.hid hr
    clear hr
    cases r with
    | ok f p =>
      go_enter Tryd.func6, Tryd.ntmps6
      go_wp2_with (first | (go_at_call 9; refine (alive18_any _).mono ?_; rintro e w1 ⟨rfl, hb⟩; have hE1 := hE.later hb) | (go_at_call 14; refine (Parse_ok _ _ _ _ ws HR.out).mono ?_; (try dsimp only [PRes.err]); rintro e w2 ⟨rfl, hb2⟩; have hE2 := (hE1.later hb2).later ((Below.refl _ _).alloc (Nat.le_refl _) (.cells #[.int .i64 f, .string (str p)] 23))) | (go_at_call 22; refine (RefParse_any _ _ ws).mono ?_; rw [HR.out]; dsimp only [PRes.ref]; rintro e w3 ⟨rfl, hb3⟩; have hE3 := hE2.later hb3; have hR3 := (RowAt.new w2 #[.int .i64 f, .string (str p)] 23).later hb3 (by simp); have c0 := hR3.cellIs 0 _ rfl; have c1 := hR3.cellIs 1 _ rfl; have hlt3 := hR3.lt) | (go_at_call 23; refine (Num_nil _).mono ?_; rintro e w4 ⟨rfl, rfl⟩))
      go_ret
      have z1 := hb.size
      have z2 := hb2.size
      have z3 := hb3.size
      simp only [World.size_alloc] at z3
      have b3 := ((hb.trans (hb2.mono z1)).alloc (by omega) _).trans (hb3.mono (by simp; omega))
      exact ⟨rfl, b3.alloc (by omega) _⟩
    | bad =>
      go_enter Tryd.func6, Tryd.ntmps6
      go_wp2_with (first | (go_at_call 9; refine (alive18_any _).mono ?_; rintro e w1 ⟨rfl, hb⟩; have hE1 := hE.later hb) | (go_at_call 14; refine (Parse_err _ _ aA aL _ (.inl rfl) ws HR.out (hE1.cell 6 _ aA rfl HA.out) (hE1.cell 1 _ aL rfl HLo.out)).mono ?_; (try dsimp only [PRes.err]); rintro e w2 ⟨rfl, hb2⟩; have hE2 := (hE1.later hb2).later ((Below.refl _ _).alloc (Nat.le_refl _) (.cells #[.int .i64 0, .string ByteArray.empty] 23))) | (go_at_call 22; refine (RefParse_any _ _ ws).mono ?_; rw [HR.out]; dsimp only [PRes.ref]; rintro e w3 ⟨rfl, hb3⟩; have hE3 := hE2.later hb3; have hR3 := (RowAt.new w2 #[.int .i64 0, .string ByteArray.empty] 23).later hb3 (by simp); have c0 := hR3.cellIs 0 _ rfl; have c1 := hR3.cellIs 1 _ rfl; have hlt3 := hR3.lt) | (go_at_call 23; refine (Num_err es 6 _ HA.out _ (hE3.later ((Below.refl _ _).alloc (Nat.le_refl _) _))).mono ?_; (try simp only [Int.cast_ofNat_Int, Nat.cast_ofNat]); rintro e w4 ⟨rfl, hb4⟩; have hR4 := (hR3.old _).later hb4 (by simp; omega); have d0 := hR4.cellIs 0 _ rfl; have d1 := hR4.cellIs 1 _ rfl; have hS4 := (RowAt.new w3 #[.int .i64 0, .string ByteArray.empty] 35).later hb4 (by simp); have s0 := hS4.cellIs 0 _ rfl; have s1 := hS4.cellIs 1 _ rfl))
      go_ret
      have z1 := hb.size
      have z2 := hb2.size
      have z3 := hb3.size
      simp only [World.size_alloc] at z3
      have b3 := ((hb.trans (hb2.mono z1)).alloc (by omega) _).trans (hb3.mono (by simp; omega))
      exact ⟨rfl, (b3.alloc (by omega) _).trans (hb4.mono (by simp; omega))⟩
    | long =>
      go_enter Tryd.func6, Tryd.ntmps6
      go_wp2_with (first | (go_at_call 9; refine (alive18_any _).mono ?_; rintro e w1 ⟨rfl, hb⟩; have hE1 := hE.later hb) | (go_at_call 14; refine (Parse_err _ _ aA aL _ (.inr rfl) ws HR.out (hE1.cell 6 _ aA rfl HA.out) (hE1.cell 1 _ aL rfl HLo.out)).mono ?_; (try dsimp only [PRes.err]); rintro e w2 ⟨rfl, hb2⟩; have hE2 := (hE1.later hb2).later ((Below.refl _ _).alloc (Nat.le_refl _) (.cells #[.int .i64 0, .string ByteArray.empty] 23))) | (go_at_call 22; refine (RefParse_any _ _ ws).mono ?_; rw [HR.out]; dsimp only [PRes.ref]; rintro e w3 ⟨rfl, hb3⟩; have hE3 := hE2.later hb3; have hR3 := (RowAt.new w2 #[.int .i64 0, .string ByteArray.empty] 23).later hb3 (by simp); have c0 := hR3.cellIs 0 _ rfl; have c1 := hR3.cellIs 1 _ rfl; have hlt3 := hR3.lt) | (go_at_call 23; refine (Num_err es 1 _ HLo.out _ (hE3.later ((Below.refl _ _).alloc (Nat.le_refl _) _))).mono ?_; (try simp only [Int.cast_ofNat_Int, Nat.cast_ofNat]); rintro e w4 ⟨rfl, hb4⟩; have hR4 := (hR3.old _).later hb4 (by simp; omega); have d0 := hR4.cellIs 0 _ rfl; have d1 := hR4.cellIs 1 _ rfl; have hS4 := (RowAt.new w3 #[.int .i64 0, .string ByteArray.empty] 35).later hb4 (by simp); have s0 := hS4.cellIs 0 _ rfl; have s1 := hS4.cellIs 1 _ rfl))
      go_ret
      have z1 := hb.size
      have z2 := hb2.size
      have z3 := hb3.size
      simp only [World.size_alloc] at z3
      have b3 := ((hb.trans (hb2.mono z1)).alloc (by omega) _).trans (hb3.mono (by simp; omega))
      exact ⟨rfl, (b3.alloc (by omega) _).trans (hb4.mono (by simp; omega))⟩

end Go.Proofs.YtboebjmfchbgbaaDoor
