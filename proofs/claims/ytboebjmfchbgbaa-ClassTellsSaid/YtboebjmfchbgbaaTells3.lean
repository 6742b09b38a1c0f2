/-
  A region that draws its order, walked by a relation on what has come up; and the relation of the region of ClassTells that makes three sets.
-/
import Derived.Test.YtboebjmfchbgbaaTells2
import Derived.RegionTactic
namespace Go.Proofs.Ytboebjmfchbgbaa
open Go Go.RowKit
set_option linter.unusedSimpArgs false
set_option linter.unusedVariables false

theorem wpAny_inv {P : Program} {md : Region.Mode} {ops : Array Oper} {Q : Exit → Act → World → Prop} (J : Nat → Array Bool → Act → World → Prop)
    (h0 : ∀ l a w, J 0 l a w → Region.ready md ops l = []) (hf : ∀ n l a w, J n l a w → Region.ready md ops l = [] → Q .normal a w)
    (hs : ∀ n l a w, J (n + 1) l a w → ∀ i ∈ Region.ready md ops l, wpOp P ops Q i (fun a' w' => J n (l.setIfInBounds i true) a' w') a w) :
    ∀ n l a w, J n l a w → wpAny P md ops Q n l a w
  | 0, l, a, w, h => ⟨h0 l a w h, hf 0 l a w h (h0 l a w h)⟩
  | n + 1, l, a, w, h => ⟨hf _ l a w h, fun i hi => wpOp_mono (fun a' w' h' => wpAny_inv J h0 hf hs n _ a' w' h') (hs n l a w h i hi)⟩

theorem not_ready {md : Region.Mode} {ops : Array Oper} {l : Array Bool} (hr : Region.ready md ops l = []) (j : Nat) (o : Oper) (ho : ops[j]? = some o) (h0 : l.getD j true = false) (h : ∀ e ∈ o.after, Region.binds md e = true → l.getD e.on false = true) : False := by
  have hm := mem_ready.2 ⟨h0, o, ho, h⟩
  rw [hr] at hm
  cases hm
def ptr (b : Nat) : Value := .pointer (some ⟨b, 0, none⟩)
/-- One of the three new variables: not there yet, or empty, or filled. -/
def VarAt (B : Nat) (made full : Bool) (v : Value) (s : OK) (w : World) : Prop := made = true → ∃ U, v = ptr U ∧ B ≤ U ∧ RowAt w U (if full = true then s.1.cells else S4.zero.cells) 27
structure R4 (wc : World) (x y : OK) (b0 b1 b2 b3 b4 b5 b6 b7 b8 b9 b10 b11 b12 b13 : Bool) (v7 v8 v9 v20 v21 v22 v23 v24 v25 v26 v27 : Value) (w : World) : Prop where
  bel : Below wc.heap.size wc w
  c0 : b0 = true → v20 = x.v
  c1 : b1 = true → v21 = y.v
  c2 : b2 = true → v22 = (x.or y).v
  c3 : b3 = true → v23 = x.v
  c4 : b4 = true → v24 = y.v
  c5 : b5 = true → v25 = (x.and y).v
  c6 : b6 = true → v26 = x.v
  c7 : b7 = true → v27 = x.not.v
  a7 : VarAt wc.heap.size b8 b11 v7 (x.or y) w
  a8 : VarAt wc.heap.size b9 b12 v8 (x.and y) w
  a9 : VarAt wc.heap.size b10 b13 v9 x.not w
  n78 : b8 = true → b9 = true → v7 ≠ v8
  n79 : b8 = true → b10 = true → v7 ≠ v9
  n89 : b9 = true → b10 = true → v8 ≠ v9
  l8 : b8 = false → b11 = false
  l9 : b9 = false → b12 = false
  l10 : b10 = false → b13 = false

theorem VarAt.not_yet {B : Nat} {f : Bool} {v : Value} {s : OK} {w : World} : VarAt B false f v s w := fun h => by cases h
theorem VarAt.below {B : Nat} {m f : Bool} {v : Value} {s : OK} {w w' : World} (h : VarAt B m f v s w) (hb : Below w.heap.size w w') : VarAt B m f v s w' := fun hm => by
  obtain ⟨U, h1, h2, h3⟩ := h hm
  exact ⟨U, h1, h2, h3.later hb h3.lt⟩
theorem VarAt.made {B : Nat} {w : World} {s : OK} (hB : B ≤ w.heap.size) : VarAt B true false (ptr w.heap.size) s (w.alloc (.cells S4.zero.cells 27)) := fun _ =>
  ⟨_, rfl, hB, RowAt.new _ _ _⟩
theorem VarAt.ne_new {B : Nat} {f : Bool} {v : Value} {s : OK} {w : World} {m : Bool} (h : VarAt B m f v s w) : m = true → v ≠ ptr w.heap.size := fun hm e => by
  obtain ⟨U, h1, h2, h3⟩ := h hm
  rw [h1] at e
  injection e with e; injection e with e; injection e with e
  have := h3.lt
  omega

/-- A whole set stored. -/
def put4 (w : World) (U : Nat) (s : OK) : World := (((w.setCell ⟨U, 0, none⟩ (.int .u64 (s.1.a0 : Int))).setCell ⟨U, 1, none⟩ (.int .u64 (s.1.a1 : Int))).setCell ⟨U, 2, none⟩ (.int .u64 (s.1.a2 : Int))).setCell ⟨U, 3, none⟩ (.int .u64 (s.1.a3 : Int))
theorem RowAt.put4 {w : World} {U : Nat} {c : S4} {t : TypeId} (h : RowAt w U c.cells t) (s : OK) : RowAt (put4 w U s) U s.1.cells t :=
  RowAt.four h _ _ _ _
theorem RowAt.put4_other {w : World} {U b : Nat} {c : Array Value} {t : TypeId} (h : RowAt w b c t) (s : OK) (hne : U ≠ b) : RowAt (Go.Proofs.Ytboebjmfchbgbaa.put4 w U s) b c t :=
  (((h.other _ hne).other _ hne).other _ hne).other _ hne
theorem below_put4 {B : Nat} {w w' : World} (h : Below B w w') {U : Nat} (hU : B ≤ U) (s : OK) : Below B w (put4 w' U s) :=
  (((h.setCell hU _).setCell hU _).setCell hU _).setCell hU _
theorem VarAt.filled {B : Nat} {f : Bool} {U : Nat} {s : OK} {w : World} (h : VarAt B true f (ptr U) s w) : VarAt B true true (ptr U) s (put4 w U s) := fun _ => by
  obtain ⟨U', h1, h2, h3⟩ := h rfl
  injection h1 with e; injection e with e; injection e with e
  subst e
  refine ⟨U, rfl, h2, ?_⟩
  cases f
  · exact RowAt.put4 h3 s
  · exact RowAt.put4 h3 s
theorem VarAt.other {B : Nat} {m f : Bool} {v : Value} {s : OK} {w : World} (h : VarAt B m f v s w) (U : Nat) (t : OK) (hne : m = true → v ≠ ptr U) : VarAt B m f v s (put4 w U t) := fun hm => by
  obtain ⟨U', h1, h2, h3⟩ := h hm
  refine ⟨U', h1, h2, h3.put4_other t ?_⟩
  rintro rfl
  exact hne hm h1
theorem VarAt.cells {B : Nat} {f : Bool} {v : Value} {s : OK} {w : World} (h : VarAt B true f v s w) : ∃ U, v = ptr U ∧ B ≤ U ∧
    (∃ a b c d, w.cell? ⟨U, 0, none⟩ = some a ∧ w.cell? ⟨U, 1, none⟩ = some b ∧ w.cell? ⟨U, 2, none⟩ = some c ∧ w.cell? ⟨U, 3, none⟩ = some d) ∧
    w.frozen? ⟨U, 0, none⟩ = false ∧ w.frozen? ⟨U, 1, none⟩ = false ∧ w.frozen? ⟨U, 2, none⟩ = false ∧ w.frozen? ⟨U, 3, none⟩ = false := by
  obtain ⟨U, h1, h2, h3⟩ := h rfl
  refine ⟨U, h1, h2, ?_, h3.frozen 0, h3.frozen 1, h3.frozen 2, h3.frozen 3⟩
  cases f
  · exact ⟨_, _, _, _, h3.cellIs 0 _ rfl, h3.cellIs 1 _ rfl, h3.cellIs 2 _ rfl, h3.cellIs 3 _ rfl⟩
  · exact ⟨_, _, _, _, h3.cellIs 0 _ rfl, h3.cellIs 1 _ rfl, h3.cellIs 2 _ rfl, h3.cellIs 3 _ rfl⟩

end Go.Proofs.Ytboebjmfchbgbaa
