/-
  The walk of the reference's one; rows of nodes whose last node is put anew; what branch and expression are asked.
-/
import Derived.Test.YtkddighepgpccaaDoorRefO
import Derived.Test.YtkddighepgpccaaDoorRexW
namespace Go.Proofs.YtkddighepgpccaaDoor
open Go Go.RowKit
set_option linter.unusedSimpArgs false
set_option linter.unusedVariables false

set_option maxHeartbeats 1000000 in
set_option maxRecDepth 100000 in
theorem One_any (kind : Nat) (hk : kind < 10) (v : Value) (ts : List T) (B : Nat) (w : World) (hB : B ≤ w.heap.size) (h : NRow 46 B w v ts) :
    Calls Tryd.prog 64 #[.int .i64 (kind : Int), v] w (TreePost B (joinT kind ts) w) := by
  obtain ⟨A, c, rfl, h1, h2⟩ := h.slice
  have hmax := h.max
  unfold maxLen at hmax
  rcases ts with _ | ⟨t, _ | ⟨t2, ts⟩⟩
  · clear h1 h2 h
    go_enter Tryd.func64, Tryd.ntmps64
    go_wp2
    refine bodyPost_ret (v := .agg (nodeC 0 0 S4.zero (.slice none 0 0))) (by simp [results, Tryd.results64, go_sem, nodeC, S4.zero]) rfl ?_
    exact ⟨_, rfl, TreeAt.leaf _ _ 0 0 S4.zero_ok, (Below.refl _ _).alloc (Nat.le_refl _) _⟩
  · cases A with
    | none => exact absurd (h1 rfl).1 (by simp)
    | some a =>
      obtain ⟨e1, e2, e3, e4⟩ := h2 a rfl
      obtain ⟨cs, ht, hc⟩ := KidsAt.at_ [t] 0 e4 0 t rfl
      obtain ⟨k, i, s, ks, A', c', rfl, rfl, hs⟩ := ht.form
      obtain ⟨g, hg⟩ : ∃ g, a.block = g := ⟨_, rfl⟩
      rw [hg] at e1 e2 e3 hc
      subst e1
      obtain ⟨k0, k1, k2, k3, k4, k5, k6⟩ := node_cells hc
      simp only [Nat.zero_add, Nat.add_zero, Nat.zero_mul] at k0 k1 k2 k3 k4 k5 k6
      have HT := Lib.hid ht
      clear h1 h2 h hc e4 hg ht
      go_enter Tryd.func64, Tryd.ntmps64
      go_wp2
      refine bodyPost_ret (v := .agg (nodeC k i s (.slice A' ks.length c'))) (by simp [results, Tryd.results64, go_sem, nodeC]) rfl ?_
      exact ⟨_, rfl, HT.out.touch (Touch.ofBelow (fun _ => False) ((Below.refl _ _).alloc (Nat.le_refl _) _)) (fun _ h => h) (fun _ _ h => h), (Below.refl _ _).alloc (Nat.le_refl _) _⟩
  · have HH := Lib.hid h
    obtain ⟨n, hn⟩ : ∃ n, (t :: t2 :: ts).length = n := ⟨_, rfl⟩
    have hl0 : ((n : Int) == 0) = false := by rw [← hn]; simp; omega
    have hl1 : ((n : Int) == 1) = false := by rw [← hn]; simp; omega
    have HN := Lib.hid hn
    clear h1 h2 h
    rw [hn] at hmax
    rw [hn]
    clear hn
    go_enter Tryd.func64, Tryd.ntmps64
    go_wp2
    refine bodyPost_ret (v := .agg (nodeC kind 0 S4.zero (.slice A n c))) (by simp [results, Tryd.results64, go_sem, nodeC, S4.zero]) rfl ?_
    refine ⟨_, rfl, ?_, (Below.refl _ _).alloc (Nat.le_refl _) _⟩
    rw [← HN.out]
    exact (HH.out.tree kind 0 S4.zero_ok).touch (Touch.ofBelow (fun _ => False) ((Below.refl _ _).alloc (Nat.le_refl _) _)) (fun _ h => h) (fun _ _ h => h)

theorem own_set {w : World} {B : Nat} {e : TypeId} {size g n c : Nat} {xs : List Value} (h : w.ownsRow B e size (.slice (some ⟨g, 0, none⟩) n c) n xs) (j : Nat) (v : Value) : (w.setCell ⟨g, j, none⟩ v).ownsRow B e size (.slice (some ⟨g, 0, none⟩) n c) n (xs.set j v) := by
  obtain ⟨h0, h1⟩ := h
  refine ⟨by rw [List.length_set]; exact h0, ?_⟩
  rcases h1 with ⟨h1, _⟩ | ⟨g', cap, cur, hv, h3, h4, h5, h6, h7, h8⟩
  · cases h1
  · injection hv with hv h9 h10
    injection hv with hv
    injection hv with hv
    subst hv h10
    refine .inr ⟨g, c, cur.setIfInBounds j v, rfl, h3, ?_, h5, h6, by simpa using h7, ?_⟩
    · exact RowAt.set (t := e) h4 j v
    · rw [← h8, Array.toList_setIfInBounds, List.take_set]
theorem NodesAt.split {ok : Nat → Prop} {w : World} {x : T} : ∀ (ts : List T) (xs : List Value), NodesAt ok w (ts ++ [x]) xs → ∃ ys, ∃ cs : Array Value, xs = ys ++ cs.toList ∧ NodesAt ok w ts ys ∧ TreeAt ok w x cs
  | [], xs, h => by
    obtain ⟨cs, hc, ys, rfl, hy⟩ := h
    unfold NodesAt at hy
    subst hy
    exact ⟨[], cs, by simp, rfl, hc⟩
  | t :: ts, xs, h => by
    rw [List.cons_append] at h
    unfold NodesAt at h
    obtain ⟨c0, hc, ys, rfl, hy⟩ := h
    obtain ⟨zs, cs, rfl, h2, h3⟩ := NodesAt.split ts ys hy
    exact ⟨c0.toList ++ zs, cs, by simp, ⟨c0, hc, zs, rfl, h2⟩, h3⟩
/-- The last node of a row: its cells. -/
theorem NRow.last {e : TypeId} {B : Nat} {w : World} {v : Value} {ts : List T} {x : T} (h : NRow e B w v (ts ++ [x])) : ∃ g c, ∃ cs : Array Value, v = .slice (some ⟨g, 0, none⟩) (ts.length + 1) c ∧ B ≤ g ∧ g < w.heap.size ∧ TreeAt (fun b => B ≤ b ∧ b ≠ g) w x cs ∧
    (∀ j u, cs[j]? = some u → w.cell? ⟨g, ts.length * 7 + j, none⟩ = some u) ∧ (∀ j, w.frozen? ⟨g, j, none⟩ = false) := by
  obtain ⟨xs, h1, h2⟩ := h
  obtain ⟨ys, cs, rfl, h3, h4⟩ := NodesAt.split ts xs h2
  have e1 : (ts ++ [x]).length = ts.length + 1 := by simp
  rw [e1] at h1
  obtain ⟨h0, h5⟩ := h1
  rcases h5 with ⟨_, h5⟩ | ⟨g, cap, cur, rfl, e2, e3, e4, e5, e6, e7⟩
  · omega
  · have hl := NodesAt.length ts ys h3
    have e3' : RowAt w g cur e := e3
    refine ⟨g, cap, cs, rfl, e2, e3'.lt, h4.mono (fun b hb => ⟨hb.1, fun hc => hb.2 (by simp [Value.ownBlock, hc])⟩), fun j u hj => ?_, e3'.frozen⟩
    have hjl := (Array.getElem?_eq_some_iff.1 hj).1
    have h6 := h4.size
    have hown : w.ownsRow B e 7 (.slice (some ⟨g, 0, none⟩) (ts.length + 1) cap) (ts.length + 1) (ys ++ cs.toList) := ⟨h0, .inr ⟨g, cap, cur, rfl, e2, e3, e4, e5, e6, e7⟩⟩
    have := hown.cells (g := g) rfl (ts.length * 7 + j) u (by rw [List.getElem?_append_right (by omega), hl, Nat.add_sub_cancel_left]; simpa using hj)
    rw [addr_off, Nat.zero_add] at this
    exact this
/-- A whole node stored at a place of a row. -/
def putAt (w : World) (g o k i : Nat) (s : S4) (sl : Value) : World := ((((((w.setCell ⟨g, o, none⟩ (.int .i64 (k : Int))).setCell ⟨g, o + 1, none⟩ (.int .i64 (i : Int))).setCell ⟨g, o + 2, none⟩ (.int .u64 (s.a0 : Int))).setCell ⟨g, o + 3, none⟩ (.int .u64 (s.a1 : Int))).setCell ⟨g, o + 4, none⟩ (.int .u64 (s.a2 : Int))).setCell ⟨g, o + 5, none⟩ (.int .u64 (s.a3 : Int))).setCell ⟨g, o + 6, none⟩ sl
theorem touch_putAt {w w' : World} {S : Nat → Prop} (h : Touch w w' S) {g : Nat} (hg : S g ∨ w.heap.size ≤ g) (o k i : Nat) (s : S4) (sl : Value) : Touch w (putAt w' g o k i s sl) S :=
  ((((((h.put _ hg).put _ hg).put _ hg).put _ hg).put _ hg).put _ hg).put _ hg
theorem RowAt.putAt_other {w : World} {g b : Nat} {c : Array Value} {t : TypeId} (h : RowAt w b c t) (o k i : Nat) (s : S4) (sl : Value) (hne : g ≠ b) : RowAt (putAt w g o k i s sl) b c t :=
  ((((((h.other _ hne).other _ hne).other _ hne).other _ hne).other _ hne).other _ hne).other _ hne
theorem below_putAt {B : Nat} {w w' : World} (h : Below B w w') {g : Nat} (hg : B ≤ g) (o k i : Nat) (s : S4) (sl : Value) : Below B w (putAt w' g o k i s sl) :=
  ((((((h.setCell hg _).setCell hg _).setCell hg _).setCell hg _).setCell hg _).setCell hg _).setCell hg _
theorem set7 (ys : List Value) (z0 z1 z2 z3 z4 z5 z6 v0 v1 v2 v3 v4 v5 v6 : Value) {o : Nat} (ho : ys.length = o) :
    (((((((ys ++ [z0, z1, z2, z3, z4, z5, z6]).set o v0).set (o + 1) v1).set (o + 2) v2).set (o + 3) v3).set (o + 4) v4).set (o + 5) v5).set (o + 6) v6 = ys ++ [v0, v1, v2, v3, v4, v5, v6] := by
  subst ho
  simp [List.set_append]
theorem NRow.setLast {e : TypeId} {B : Nat} {w : World} {g c : Nat} {ts : List T} {x : T} (h : NRow e B w (.slice (some ⟨g, 0, none⟩) (ts.length + 1) c) (ts ++ [x])) (k i : Nat) (s : S4) (sl : Value) {t : T} (ht : TreeAt (fun b => B ≤ b ∧ b ≠ g) w t (nodeC k i s sl)) :
    NRow e B (putAt w g (ts.length * 7) k i s sl) (.slice (some ⟨g, 0, none⟩) (ts.length + 1) c) (ts ++ [t]) := by
  obtain ⟨xs, h1, h2⟩ := h
  obtain ⟨ys, cs, rfl, h3, h4⟩ := NodesAt.split ts xs h2
  obtain ⟨k0, i0, s0, ks0, A0, c0, rfl, rfl, hs0⟩ := h4.form
  have e1 : ∀ y : T, (ts ++ [y]).length = ts.length + 1 := fun y => by simp
  have hl := NodesAt.length ts ys h3
  rw [e1] at h1
  refine ⟨ys ++ (nodeC k i s sl).toList, ?_, ?_⟩
  · rw [e1]
    have := own_set (own_set (own_set (own_set (own_set (own_set (own_set h1 (ts.length * 7) (.int .i64 (k : Int))) (ts.length * 7 + 1) (.int .i64 (i : Int))) (ts.length * 7 + 2) (.int .u64 (s.a0 : Int))) (ts.length * 7 + 3) (.int .u64 (s.a1 : Int))) (ts.length * 7 + 4) (.int .u64 (s.a2 : Int))) (ts.length * 7 + 5) (.int .u64 (s.a3 : Int))) (ts.length * 7 + 6) sl
    have e2 := set7 ys (.int .i64 (k0 : Int)) (.int .i64 (i0 : Int)) (.int .u64 (s0.a0 : Int)) (.int .u64 (s0.a1 : Int)) (.int .u64 (s0.a2 : Int)) (.int .u64 (s0.a3 : Int)) (.slice A0 ks0.length c0) (.int .i64 (k : Int)) (.int .i64 (i : Int)) (.int .u64 (s.a0 : Int)) (.int .u64 (s.a1 : Int)) (.int .u64 (s.a2 : Int)) (.int .u64 (s.a3 : Int)) sl hl
    rw [show ys ++ (nodeC k0 i0 s0 (.slice A0 ks0.length c0)).toList = ys ++ [.int .i64 (k0 : Int), .int .i64 (i0 : Int), .int .u64 (s0.a0 : Int), .int .u64 (s0.a1 : Int), .int .u64 (s0.a2 : Int), .int .u64 (s0.a3 : Int), .slice A0 ks0.length c0] from rfl, e2] at this
    exact this
  · have ht2 : Touch w (putAt w g (ts.length * 7) k i s sl) (· = g) := touch_putAt (S := (· = g)) (Touch.refl w _) (.inl rfl) _ k i s sl
    have hk : ∀ b, (B ≤ b ∧ some b ≠ (Value.slice (some ⟨g, 0, none⟩) (ts.length + 1) c).ownBlock) → b ≠ g := fun b hb hc => hb.2 (by simp [Value.ownBlock, hc])
    refine NodesAt.snoc (ht.touch ht2 (fun b hb => ⟨hb.1, fun hc => hb.2 (by simpa [Value.ownBlock] using hc)⟩) (fun b hb => hb.2)) ts ys ?_
    exact NodesAt.turn ht2.size (fun b hb hlt => ⟨hb, ht2.block b hlt (hk b hb)⟩) ts ys h3

/-! ### what is asked of branch and expression -/
def noneT : T := .mk 0 0 S4.zero []
def RefPost (R : Option T) (w : World) (e : Ending) (w' : World) : Prop := ∃ cs, e = .returned (.tuple #[.agg cs, .bool R.isSome]) ∧ TreeAt (fun b => w.heap.size ≤ b) w' (R.getD noneT) cs ∧ Below w.heap.size w w'
def tokOk : Tok → Prop
  | .mark c => c ≠ 0
  | .set S => S.ok
def ExpC (n : Nat) : Prop := ∀ (w : World) (A : Option Addr) (m c : Nat) (l : List Tok) (a : Nat), Signs w A m c l → (∀ t ∈ l, tokOk t) → l.length < n → a + l.length ≤ 2000 →
  Calls Tryd.prog 40 #[.slice A m c, .int .i64 (a : Int)] w (RefPost (RefE l a) w)
def BraC (n : Nat) : Prop := ∀ (w : World) (A : Option Addr) (m c : Nat) (l : List Tok) (a : Nat), Signs w A m c l → (∀ t ∈ l, tokOk t) → l.length < n → a + l.length ≤ 2000 →
  Calls Tryd.prog 63 #[.slice A m c, .int .i64 (a : Int)] w (RefPost (goB RefE l a []) w)

end Go.Proofs.YtkddighepgpccaaDoor
