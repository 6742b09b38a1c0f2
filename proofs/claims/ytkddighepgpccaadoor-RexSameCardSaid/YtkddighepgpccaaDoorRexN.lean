/-
  The walks of joined and single.
-/
import Derived.Test.YtkddighepgpccaaDoorRexC
namespace Go.Proofs.YtkddighepgpccaaDoor
open Go Go.RowKit
set_option linter.unusedSimpArgs false
set_option linter.unusedVariables false

/-- A call that gives a tree, whose parts lie from block B on, and turns no block that was there. -/
def TreePost (B : Nat) (t : T) (w : World) (e : Ending) (w' : World) : Prop := ∃ cs, e = .returned (.agg cs) ∧ TreeAt (fun b => B ≤ b) w' t cs ∧ Below w.heap.size w w'
theorem node_cells {w : World} {g o k i : Nat} {s : S4} {sl : Value} (h : ∀ j x, (nodeC k i s sl)[j]? = some x → w.cell? ⟨g, o + j, none⟩ = some x) :
    w.cell? ⟨g, o + 0, none⟩ = some (.int .i64 (k : Int)) ∧ w.cell? ⟨g, o + 1, none⟩ = some (.int .i64 (i : Int)) ∧ w.cell? ⟨g, o + 2, none⟩ = some (.int .u64 (s.a0 : Int)) ∧ w.cell? ⟨g, o + 3, none⟩ = some (.int .u64 (s.a1 : Int)) ∧
      w.cell? ⟨g, o + 4, none⟩ = some (.int .u64 (s.a2 : Int)) ∧ w.cell? ⟨g, o + 5, none⟩ = some (.int .u64 (s.a3 : Int)) ∧ w.cell? ⟨g, o + 6, none⟩ = some sl :=
  ⟨h 0 _ rfl, h 1 _ rfl, h 2 _ rfl, h 3 _ rfl, h 4 _ rfl, h 5 _ rfl, h 6 _ rfl⟩
/-- A whole node stored. -/
def putN (w : World) (U k i : Nat) (s : S4) (sl : Value) : World := ((((((w.setCell ⟨U, 0, none⟩ (.int .i64 (k : Int))).setCell ⟨U, 1, none⟩ (.int .i64 (i : Int))).setCell ⟨U, 2, none⟩ (.int .u64 (s.a0 : Int))).setCell ⟨U, 3, none⟩ (.int .u64 (s.a1 : Int))).setCell ⟨U, 4, none⟩ (.int .u64 (s.a2 : Int))).setCell ⟨U, 5, none⟩ (.int .u64 (s.a3 : Int))).setCell ⟨U, 6, none⟩ sl
theorem RowAt.seven {w : World} {b : Nat} {z0 z1 z2 z3 z4 z5 z6 : Value} {t : TypeId} (h : RowAt w b #[z0, z1, z2, z3, z4, z5, z6] t) (v0 v1 v2 v3 v4 v5 v6 : Value) :
    RowAt (((((((w.setCell ⟨b, 0, none⟩ v0).setCell ⟨b, 1, none⟩ v1).setCell ⟨b, 2, none⟩ v2).setCell ⟨b, 3, none⟩ v3).setCell ⟨b, 4, none⟩ v4).setCell ⟨b, 5, none⟩ v5).setCell ⟨b, 6, none⟩ v6) b #[v0, v1, v2, v3, v4, v5, v6] t := by
  have h1 : RowAt _ b #[v0, z1, z2, z3, z4, z5, z6] t := h.set 0 v0
  have h2 : RowAt _ b #[v0, v1, z2, z3, z4, z5, z6] t := h1.set 1 v1
  have h3 : RowAt _ b #[v0, v1, v2, z3, z4, z5, z6] t := h2.set 2 v2
  have h4 : RowAt _ b #[v0, v1, v2, v3, z4, z5, z6] t := h3.set 3 v3
  have h5 : RowAt _ b #[v0, v1, v2, v3, v4, z5, z6] t := h4.set 4 v4
  have h6 : RowAt _ b #[v0, v1, v2, v3, v4, v5, z6] t := h5.set 5 v5
  exact h6.set 6 v6
theorem row7 {w : World} {b : Nat} {z0 z1 z2 z3 z4 z5 z6 : Value} {t : TypeId} (h : RowAt w b #[z0, z1, z2, z3, z4, z5, z6] t) :
    w.cell? ⟨b, 0, none⟩ = some z0 ∧ w.cell? ⟨b, 1, none⟩ = some z1 ∧ w.cell? ⟨b, 2, none⟩ = some z2 ∧ w.cell? ⟨b, 3, none⟩ = some z3 ∧ w.cell? ⟨b, 4, none⟩ = some z4 ∧ w.cell? ⟨b, 5, none⟩ = some z5 ∧ w.cell? ⟨b, 6, none⟩ = some z6 :=
  ⟨h.cellIs 0 _ rfl, h.cellIs 1 _ rfl, h.cellIs 2 _ rfl, h.cellIs 3 _ rfl, h.cellIs 4 _ rfl, h.cellIs 5 _ rfl, h.cellIs 6 _ rfl⟩
theorem RowAt.putN {w : World} {U k0 i0 : Nat} {s0 : S4} {sl0 : Value} {t : TypeId} (h : RowAt w U (nodeC k0 i0 s0 sl0) t) (k i : Nat) (s : S4) (sl : Value) : RowAt (putN w U k i s sl) U (nodeC k i s sl) t :=
  RowAt.seven h _ _ _ _ _ _ _
theorem RowAt.putN_other {w : World} {U b : Nat} {c : Array Value} {t : TypeId} (h : RowAt w b c t) (k i : Nat) (s : S4) (sl : Value) (hne : U ≠ b) : RowAt (Go.Proofs.YtkddighepgpccaaDoor.putN w U k i s sl) b c t :=
  ((((((h.other _ hne).other _ hne).other _ hne).other _ hne).other _ hne).other _ hne).other _ hne
theorem touch_putN {w w' : World} {S : Nat → Prop} (h : Touch w w' S) {U : Nat} (hU : S U ∨ w.heap.size ≤ U) (k i : Nat) (s : S4) (sl : Value) : Touch w (putN w' U k i s sl) S :=
  ((((((h.put _ hU).put _ hU).put _ hU).put _ hU).put _ hU).put _ hU).put _ hU
theorem below_putN {B : Nat} {w w' : World} (h : Below B w w') {U : Nat} (hU : B ≤ U) (k i : Nat) (s : S4) (sl : Value) : Below B w (putN w' U k i s sl) :=
  ((((((h.setCell hU _).setCell hU _).setCell hU _).setCell hU _).setCell hU _).setCell hU _).setCell hU _
theorem node_facts {w : World} {b k i : Nat} {s : S4} {sl : Value} {t : TypeId} (h : RowAt w b (nodeC k i s sl) t) :
    (w.cell? ⟨b, 0, none⟩ = some (.int .i64 (k : Int)) ∧ w.cell? ⟨b, 1, none⟩ = some (.int .i64 (i : Int)) ∧ w.cell? ⟨b, 2, none⟩ = some (.int .u64 (s.a0 : Int)) ∧ w.cell? ⟨b, 3, none⟩ = some (.int .u64 (s.a1 : Int)) ∧ w.cell? ⟨b, 4, none⟩ = some (.int .u64 (s.a2 : Int)) ∧ w.cell? ⟨b, 5, none⟩ = some (.int .u64 (s.a3 : Int)) ∧ w.cell? ⟨b, 6, none⟩ = some sl) ∧
    (w.frozen? ⟨b, 0, none⟩ = false ∧ w.frozen? ⟨b, 1, none⟩ = false ∧ w.frozen? ⟨b, 2, none⟩ = false ∧ w.frozen? ⟨b, 3, none⟩ = false ∧ w.frozen? ⟨b, 4, none⟩ = false ∧ w.frozen? ⟨b, 5, none⟩ = false ∧ w.frozen? ⟨b, 6, none⟩ = false) :=
  ⟨⟨h.cellIs 0 _ rfl, h.cellIs 1 _ rfl, h.cellIs 2 _ rfl, h.cellIs 3 _ rfl, h.cellIs 4 _ rfl, h.cellIs 5 _ rfl, h.cellIs 6 _ rfl⟩, h.frozen 0, h.frozen 1, h.frozen 2, h.frozen 3, h.frozen 4, h.frozen 5, h.frozen 6⟩
theorem RowAt.new' (w : World) (c : Array Value) (t : TypeId) {n : Nat} (hn : w.heap.size = n) : RowAt (w.alloc (.cells c t)) n c t := by rw [← hn]; exact RowAt.new w c t

set_option maxHeartbeats 1000000 in
set_option maxRecDepth 100000 in
theorem joined_any (kind : Nat) (hk : kind < 10) (v : Value) (ts : List T) (B : Nat) (w : World) (hB : B ≤ w.heap.size) (h : NRow 41 B w v ts) :
    Calls Tryd.prog 47 #[.int .i64 (kind : Int), v] w (TreePost B (joinT kind ts) w) := by
  obtain ⟨A, c, rfl, h1, h2⟩ := h.slice
  have hmax := h.max
  unfold maxLen at hmax
  rcases ts with _ | ⟨t, _ | ⟨t2, ts⟩⟩
  · clear h1 h2 h
    go_enter Tryd.func47, Tryd.ntmps47
    go_wp2
    refine bodyPost_ret (v := .agg (nodeC 0 0 S4.zero (.slice none 0 0))) (by simp [results, Tryd.results47, go_sem, nodeC, S4.zero]) rfl ?_
    exact ⟨_, rfl, TreeAt.leaf _ _ 0 0 S4.zero_ok, (Below.refl _ _).alloc (Nat.le_refl _) _⟩
  · cases A with
    | none => exact absurd (h1 rfl).1 (by simp)
    | some a =>
      obtain ⟨e1, e2, e3, e4⟩ := h2 a rfl
      obtain ⟨cs, ht, hc⟩ := KidsAt.at_ [t] 0 e4 0 t rfl
      obtain ⟨k, i, s, ks, A', c', rfl, rfl, hs⟩ := ht.form
      obtain ⟨g, hg⟩ : ∃ g, a.block = g := ⟨_, rfl⟩
      rw [hg] at e1 e2 e3 hc
      subst e1
      obtain ⟨k0, k1, k2, k3, k4, k5, k6⟩ := node_cells hc
      simp only [Nat.zero_add, Nat.add_zero, Nat.zero_mul] at k0 k1 k2 k3 k4 k5 k6
      have HT := Lib.hid ht
      clear h1 h2 h hc e4 hg ht
      go_enter Tryd.func47, Tryd.ntmps47
      go_wp2
      refine bodyPost_ret (v := .agg (nodeC k i s (.slice A' ks.length c'))) (by simp [results, Tryd.results47, go_sem, nodeC]) rfl ?_
      exact ⟨_, rfl, HT.out.touch (Touch.ofBelow (fun _ => False) ((Below.refl _ _).alloc (Nat.le_refl _) _)) (fun _ h => h) (fun _ _ h => h), (Below.refl _ _).alloc (Nat.le_refl _) _⟩
  · have HH := Lib.hid h
    obtain ⟨n, hn⟩ : ∃ n, (t :: t2 :: ts).length = n := ⟨_, rfl⟩
    have hl0 : ((n : Int) == 0) = false := by rw [← hn]; simp; omega
    have hl1 : ((n : Int) == 1) = false := by rw [← hn]; simp; omega
    have HN := Lib.hid hn
    clear h1 h2 h
    rw [hn] at hmax
    rw [hn]
    clear hn
    go_enter Tryd.func47, Tryd.ntmps47
    go_wp2
    refine bodyPost_ret (v := .agg (nodeC kind 0 S4.zero (.slice A n c))) (by simp [results, Tryd.results47, go_sem, nodeC, S4.zero]) rfl ?_
    refine ⟨_, rfl, ?_, (Below.refl _ _).alloc (Nat.le_refl _) _⟩
    rw [← HN.out]
    exact (HH.out.tree kind 0 S4.zero_ok).touch (Touch.ofBelow (fun _ => False) ((Below.refl _ _).alloc (Nat.le_refl _) _)) (fun _ h => h) (fun _ _ h => h)
theorem ofFold_one (c : UInt8) (S : OK) (h : ∀ b, b < 256 → S.1.has b = decide ((b : Int) ∈ [(c.toNat : Int)])) : S.1 = single c := by
  have hc := c.toNat_lt
  refine set_ext S.2 (S4.with_ok S4.zero_ok) (fun b hb => ?_)
  unfold single
  rw [h b hb, has_with _ hb (by omega), has_zero]
  rw [Bool.eq_iff_iff]
  simp
  omega
theorem Byts.one {w : World} {g : Nat} {x : Int} {e : TypeId} (h : RowAt w g #[.int .u8 x] e) : Byts w (some ⟨g, 0, none⟩) 1 1 [x] := by
  refine ⟨rfl, by decide, (fun h => by cases h), fun a ha j y hj => ?_⟩
  injection ha with ha
  subst ha
  cases j with
  | zero =>
    simp at hj
    subst hj
    rw [show (⟨g, 0, none⟩ : Addr).add 0 = ⟨g, 0, none⟩ by unfold Addr.add; split <;> simp_all]
    exact h.cellIs 0 _ rfl
  | succ j => simp at hj
theorem OfOneX (c : UInt8) (w : World) (g : Nat) (h : RowAt w g #[.int .u8 (c.toNat : Int)] 5) : Calls Tryd.prog 65 #[.slice (some ⟨g, 0, none⟩) 1 1] w fun e w' =>
    e = .returned (.agg #[.int .u64 ((single c).a0 : Int), .int .u64 ((single c).a1 : Int), .int .u64 ((single c).a2 : Int), .int .u64 ((single c).a3 : Int)]) ∧ Below w.heap.size w w' := by
  have hc := c.toNat_lt
  refine (Of_any _ 1 1 [(c.toNat : Int)] w (Byts.one h) (by intro x hx; simp at hx; subst hx; omega)).mono ?_
  rintro e w' ⟨S, rfl, hS, hb⟩
  refine ⟨?_, hb⟩
  rw [← ofFold_one c S hS]
  rfl
theorem single_ok (c : UInt8) : (single c).ok := S4.with_ok S4.zero_ok

set_option maxHeartbeats 1000000 in
set_option maxRecDepth 100000 in
theorem single_any (c : UInt8) (B : Nat) (w : World) :
    Calls Tryd.prog 46 #[.int .u8 (c.toNat : Int)] w (TreePost B (leaf 1 (single c)) w) := by
  have hR := RowAt.new (w.alloc (.cells #[.int .i64 0, .int .i64 0, .int .u64 0, .int .u64 0, .int .u64 0, .int .u64 0, .slice none 0 0] 41)) #[.int .u8 (c.toNat : Int)] 5
  have hN := (RowAt.new w #[.int .i64 0, .int .i64 0, .int .u64 0, .int .u64 0, .int .u64 0, .int .u64 0, .slice none 0 0] 41).old (.cells #[.int .u8 (c.toNat : Int)] 5)
  have hBl : Below w.heap.size w ((w.alloc (.cells #[.int .i64 0, .int .i64 0, .int .u64 0, .int .u64 0, .int .u64 0, .int .u64 0, .slice none 0 0] 41)).alloc (.cells #[.int .u8 (c.toNat : Int)] 5)) := ((Below.refl _ _).alloc (Nat.le_refl _) _).alloc (by simp) _
  simp only [World.size_alloc] at hR
  obtain ⟨V, hV⟩ : ∃ V, ((w.alloc (.cells #[.int .i64 0, .int .i64 0, .int .u64 0, .int .u64 0, .int .u64 0, .int .u64 0, .slice none 0 0] 41)).alloc (.cells #[.int .u8 (c.toNat : Int)] 5)) = V := ⟨_, rfl⟩
  rw [hV] at hR hN hBl
  have HO := Lib.hid (OfOneX c V _ hR)
  go_enter Tryd.func46, Tryd.ntmps46
  go_wp2_with fail
  refine HO.out.mono ?_
  rintro e w1 ⟨rfl, hb1⟩
  try dsimp only
  have hN1 := hN.later hb1 hN.lt
  have hB1 := hBl.trans (hb1.mono hBl.size)
  clear hR hN hV
  have hN2 : RowAt w1 w.heap.size (nodeC 0 0 S4.zero (.slice none 0 0)) 41 := hN1
  obtain ⟨⟨n0, n1, n2, n3, n4, n5, n6⟩, m0, m1, m2, m3, m4, m5, m6⟩ := node_facts hN2
  clear hN1
  go_wp2_with fail
  obtain ⟨x0, x1, x2, x3, x4, x5, x6⟩ := row7 (RowAt.seven hN2 (.int .i64 1) (.int .i64 0) (.int .u64 ((single c).a0 : Int)) (.int .u64 ((single c).a1 : Int)) (.int .u64 ((single c).a2 : Int)) (.int .u64 ((single c).a3 : Int)) (.slice none 0 0))
  refine bodyPost_ret (v := .agg (nodeC 1 0 (single c) (.slice none 0 0))) (by simp [results, Tryd.results46, go_sem, nodeC, x0, x1, x2, x3, x4, x5, x6]) rfl ?_
  exact ⟨_, rfl, TreeAt.leaf _ _ 1 0 (single_ok c), below_putN hB1 (Nat.le_refl _) 1 0 (single c) (.slice none 0 0)⟩

end Go.Proofs.YtkddighepgpccaaDoor
