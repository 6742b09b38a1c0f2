/-
  How a tree of nodes lies in memory: a node is seven cells, its parts a row of nodes.
-/
import Derived.Test.YtkddighepgpccaaDoorRexRun
import Derived.Test.YtkddighepgpccaaDoorTouch
import Derived.Laws.AppendOwn
import Derived.Deep.AppendLies
namespace Go.Proofs.YtkddighepgpccaaDoor
open Go Go.RowKit
set_option linter.unusedSimpArgs false
set_option linter.unusedVariables false

def nodeC (k i : Nat) (s : S4) (sl : Value) : Array Value := #[.int .i64 (k : Int), .int .i64 (i : Int), .int .u64 (s.a0 : Int), .int .u64 (s.a1 : Int), .int .u64 (s.a2 : Int), .int .u64 (s.a3 : Int), sl]
mutual
def TreeAt (ok : Nat → Prop) (w : World) : T → Array Value → Prop
  | .mk k i s ks, v => s.ok ∧ ∃ A c, v = nodeC k i s (.slice A ks.length c) ∧ (A = none → ks = [] ∧ c = 0) ∧ ks.length ≤ maxLen ∧
      ∀ a, A = some a → a = ⟨a.block, 0, none⟩ ∧ ok a.block ∧ a.block < w.heap.size ∧ KidsAt ok w ks a.block 0
def KidsAt (ok : Nat → Prop) (w : World) : List T → Nat → Nat → Prop
  | [], _, _ => True
  | t :: ts, g, o => (∃ v, TreeAt ok w t v ∧ ∀ j x, v[j]? = some x → w.cell? ⟨g, o * 7 + j, none⟩ = some x) ∧ KidsAt ok w ts g (o + 1)
end
theorem nodeC_size (k i : Nat) (s : S4) (sl : Value) : (nodeC k i s sl).size = 7 := rfl
theorem TreeAt.form {ok : Nat → Prop} {w : World} {t : T} {v : Array Value} (h : TreeAt ok w t v) : ∃ k i s ks A c, t = .mk k i s ks ∧ v = nodeC k i s (.slice A ks.length c) ∧ s.ok := by
  obtain ⟨k, i, s, ks⟩ := t
  unfold TreeAt at h
  obtain ⟨hs, A, c, hv, _⟩ := h
  exact ⟨k, i, s, ks, A, c, rfl, hv, hs⟩
theorem TreeAt.size {ok : Nat → Prop} {w : World} {t : T} {v : Array Value} (h : TreeAt ok w t v) : v.size = 7 := by
  obtain ⟨k, i, s, ks, A, c, rfl, rfl, _⟩ := h.form
  rfl
theorem TreeAt.oneCell {ok : Nat → Prop} {w : World} {t : T} {v : Array Value} (h : TreeAt ok w t v) : ∀ u ∈ v.toList, u.oneCell' = true := by
  obtain ⟨k, i, s, ks, A, c, rfl, rfl, _⟩ := h.form
  intro u hu
  simp [nodeC] at hu
  rcases hu with rfl | rfl | rfl | rfl | rfl | rfl | rfl <;> rfl
theorem cell_of_heap {w w' : World} {g o : Nat} {x : Value} (hb : w'.heap[g]? = w.heap[g]?) (h : w.cell? ⟨g, o, none⟩ = some x) : w'.cell? ⟨g, o, none⟩ = some x := by
  rw [← h]
  simp [World.cell?, hb]
mutual
theorem TreeAt.turn {ok ok' : Nat → Prop} {w w' : World} (hs : w.heap.size ≤ w'.heap.size) (h : ∀ b, ok b → b < w.heap.size → ok' b ∧ w'.heap[b]? = w.heap[b]?) : ∀ (t : T) (v : Array Value), TreeAt ok w t v → TreeAt ok' w' t v
  | .mk k i s ks, v, ht => by
    unfold TreeAt at ht ⊢
    obtain ⟨h0, A, c, h1, h2, h3, h4⟩ := ht
    refine ⟨h0, A, c, h1, h2, h3, fun a ha => ?_⟩
    obtain ⟨e1, e2, e3, e4⟩ := h4 a ha
    obtain ⟨n1, n2⟩ := h _ e2 e3
    exact ⟨e1, n1, Nat.lt_of_lt_of_le e3 hs, KidsAt.turn hs h n2 ks 0 e4⟩
theorem KidsAt.turn {ok ok' : Nat → Prop} {w w' : World} (hs : w.heap.size ≤ w'.heap.size) (h : ∀ b, ok b → b < w.heap.size → ok' b ∧ w'.heap[b]? = w.heap[b]?) {g : Nat} (hg : w'.heap[g]? = w.heap[g]?) : ∀ (ts : List T) (o : Nat), KidsAt ok w ts g o → KidsAt ok' w' ts g o
  | [], _, _ => by unfold KidsAt; trivial
  | t :: ts, o, hk => by
    unfold KidsAt at hk ⊢
    obtain ⟨⟨v, hv, hc⟩, hr⟩ := hk
    exact ⟨⟨v, TreeAt.turn hs h t v hv, fun j x hj => cell_of_heap hg (hc j x hj)⟩, KidsAt.turn hs h hg ts (o + 1) hr⟩
end
theorem TreeAt.touch {ok ok' : Nat → Prop} {w w' : World} {S : Nat → Prop} {t : T} {v : Array Value} (h : TreeAt ok w t v) (ht : Touch w w' S) (ho : ∀ b, ok b → ok' b) (hS : ∀ b, ok b → ¬ S b) : TreeAt ok' w' t v :=
  TreeAt.turn ht.size (fun b hb hlt => ⟨ho b hb, ht.block b hlt (hS b hb)⟩) t v h
theorem TreeAt.below {ok : Nat → Prop} {w w' : World} {t : T} {v : Array Value} (h : TreeAt ok w t v) (ht : Below w.heap.size w w') : TreeAt ok w' t v :=
  TreeAt.turn ht.size (fun b hb hlt => ⟨hb, ht.block b hlt⟩) t v h
theorem TreeAt.mono {ok ok' : Nat → Prop} {w : World} {t : T} {v : Array Value} (h : TreeAt ok w t v) (ho : ∀ b, ok b → ok' b) : TreeAt ok' w t v :=
  TreeAt.turn (Nat.le_refl _) (fun b hb _ => ⟨ho b hb, rfl⟩) t v h
theorem KidsAt.at_ {ok : Nat → Prop} {w : World} {g : Nat} : ∀ (ts : List T) (o : Nat), KidsAt ok w ts g o → ∀ (j : Nat) (t : T), ts[j]? = some t → ∃ v, TreeAt ok w t v ∧ ∀ i x, v[i]? = some x → w.cell? ⟨g, (o + j) * 7 + i, none⟩ = some x
  | [], _, _, j, t, hj => by simp at hj
  | t0 :: ts, o, hk, j, t, hj => by
    unfold KidsAt at hk
    obtain ⟨h0, hr⟩ := hk
    cases j with
    | zero =>
      simp at hj
      subst hj
      exact h0
    | succ j =>
      simp at hj
      obtain ⟨v, h1, h2⟩ := KidsAt.at_ ts (o + 1) hr j t hj
      refine ⟨v, h1, fun i x hi => ?_⟩
      have := h2 i x hi
      rw [show o + (j + 1) = o + 1 + j by omega]
      exact this

/-! ### rows of nodes of the call's own -/
def NodesAt (ok : Nat → Prop) (w : World) : List T → List Value → Prop
  | [], xs => xs = []
  | t :: ts, xs => ∃ cs : Array Value, TreeAt ok w t cs ∧ ∃ ys, xs = cs.toList ++ ys ∧ NodesAt ok w ts ys
theorem NodesAt.length {ok : Nat → Prop} {w : World} : ∀ (ts : List T) (xs : List Value), NodesAt ok w ts xs → xs.length = ts.length * 7
  | [], xs, h => by
    unfold NodesAt at h
    simp [h]
  | t :: ts, xs, h => by
    unfold NodesAt at h
    obtain ⟨cs, hc, ys, rfl, hy⟩ := h
    have h1 := hc.size
    have h2 := NodesAt.length ts ys hy
    simp [h1, h2]
    omega
theorem NodesAt.snoc {ok : Nat → Prop} {w : World} {t : T} {cs : Array Value} (ht : TreeAt ok w t cs) : ∀ (ts : List T) (xs : List Value), NodesAt ok w ts xs → NodesAt ok w (ts ++ [t]) (xs ++ cs.toList)
  | [], xs, h => by
    unfold NodesAt at h
    subst h
    exact ⟨cs, ht, [], by simp, rfl⟩
  | t0 :: ts, xs, h => by
    unfold NodesAt at h
    obtain ⟨c0, hc, ys, rfl, hy⟩ := h
    exact ⟨c0, hc, ys ++ cs.toList, by simp, NodesAt.snoc ht ts ys hy⟩
theorem NodesAt.turn {ok ok' : Nat → Prop} {w w' : World} (hs : w.heap.size ≤ w'.heap.size) (h : ∀ b, ok b → b < w.heap.size → ok' b ∧ w'.heap[b]? = w.heap[b]?) : ∀ (ts : List T) (xs : List Value), NodesAt ok w ts xs → NodesAt ok' w' ts xs
  | [], xs, hx => hx
  | t :: ts, xs, hx => by
    unfold NodesAt at hx ⊢
    obtain ⟨cs, hc, ys, e, hy⟩ := hx
    exact ⟨cs, TreeAt.turn hs h t cs hc, ys, e, NodesAt.turn hs h ts ys hy⟩
theorem NodesAt.kids {ok : Nat → Prop} {w : World} {g : Nat} : ∀ (ts : List T) (xs : List Value) (o : Nat), NodesAt ok w ts xs → (∀ j u, xs[j]? = some u → w.cell? ⟨g, o * 7 + j, none⟩ = some u) → KidsAt ok w ts g o
  | [], xs, o, _, _ => by unfold KidsAt; trivial
  | t :: ts, xs, o, h, hc => by
    unfold NodesAt at h
    obtain ⟨cs, ht, ys, rfl, hy⟩ := h
    have hsz := ht.size
    unfold KidsAt
    refine ⟨⟨cs, ht, fun j x hj => ?_⟩, NodesAt.kids ts ys (o + 1) hy fun j u hj => ?_⟩
    · have hlt := (Array.getElem?_eq_some_iff.1 hj).1
      refine hc j x ?_
      rw [List.getElem?_append_left (by simpa using hlt)]
      simpa using hj
    · have := hc (7 + j) u (by rw [List.getElem?_append_right (by simp [hsz])]; simp [hsz, hj])
      rw [show (o + 1) * 7 + j = o * 7 + (7 + j) by omega]
      exact this
/-- A row of nodes of the call's own, which lies apart from its nodes' parts. -/
def NRow (e : TypeId) (B : Nat) (w : World) (v : Value) (ts : List T) : Prop :=
  ∃ xs, w.ownsRow B e 7 v ts.length xs ∧ NodesAt (fun b => B ≤ b ∧ some b ≠ v.ownBlock) w ts xs
theorem NRow.nil (e : TypeId) (B : Nat) (w : World) : NRow e B w (.slice none 0 0) [] := ⟨[], World.ownsRow_nil _ _ _ _, rfl⟩
theorem NRow.touch {e : TypeId} {B : Nat} {w w' : World} {v : Value} {ts : List T} {S : Nat → Prop} (h : NRow e B w v ts) (ht : Touch w w' S) (hS : ∀ b, B ≤ b → ¬ S b) : NRow e B w' v ts := by
  obtain ⟨xs, h1, h2⟩ := h
  refine ⟨xs, ?_, NodesAt.turn ht.size (fun b hb hlt => ⟨hb, ht.block b hlt (hS b hb.1)⟩) ts xs h2⟩
  obtain ⟨h3, h4⟩ := h1
  refine ⟨h3, ?_⟩
  rcases h4 with h4 | ⟨g, cap, cur, e1, e2, e3, e4⟩
  · exact .inl h4
  · have hlt := (Array.getElem?_eq_some_iff.1 e3).1
    exact .inr ⟨g, cap, cur, e1, e2, by rw [ht.block g hlt (hS g e2)]; exact e3, e4⟩
theorem NRow.below {e : TypeId} {B : Nat} {w w' : World} {v : Value} {ts : List T} (h : NRow e B w v ts) (ht : Below w.heap.size w w') : NRow e B w' v ts :=
  h.touch (Touch.ofBelow (fun _ => False) ht) (fun _ _ h => h)
theorem NRow.max {e : TypeId} {B : Nat} {w : World} {v : Value} {ts : List T} (h : NRow e B w v ts) : ts.length ≤ maxLen := by
  obtain ⟨xs, h1, h2⟩ := h
  rcases h1.2 with ⟨_, h0⟩ | ⟨g, cap, cur, e1, e2, e3, e4, e5, e6⟩
  · omega
  · omega
/-- The shape of such a row. -/
theorem NRow.slice {e : TypeId} {B : Nat} {w : World} {v : Value} {ts : List T} (h : NRow e B w v ts) : ∃ A c, v = .slice A ts.length c ∧ (A = none → ts = [] ∧ c = 0) ∧ ∀ a, A = some a → a = ⟨a.block, 0, none⟩ ∧ B ≤ a.block ∧ a.block < w.heap.size ∧ KidsAt (fun b => B ≤ b) w ts a.block 0 := by
  obtain ⟨xs, h1, h2⟩ := h
  rcases h1.2 with ⟨rfl, h0⟩ | ⟨g, cap, cur, rfl, e2, e3, e4, e5, e6⟩
  · exact ⟨none, 0, by rw [h0], fun _ => ⟨List.eq_nil_of_length_eq_zero h0, rfl⟩, fun a ha => by cases ha⟩
  · refine ⟨some ⟨g, 0, none⟩, cap, rfl, (fun ha => by cases ha), fun a ha => ?_⟩
    injection ha with ha
    subst ha
    have hlt := (Array.getElem?_eq_some_iff.1 e3).1
    refine ⟨rfl, e2, hlt, NodesAt.kids ts xs 0 (NodesAt.turn (Nat.le_refl _) (fun b hb _ => ⟨hb.1, rfl⟩) ts xs h2) fun j u hj => ?_⟩
    have := h1.cells (g := g) rfl j u hj
    rw [show (⟨g, 0, none⟩ : Addr).add j = ⟨g, j, none⟩ by unfold Addr.add; split <;> simp_all] at this
    simpa using this
/-- A node over such a row. -/
theorem NRow.tree {e : TypeId} {B : Nat} {w : World} {v : Value} {ts : List T} (h : NRow e B w v ts) (k i : Nat) {s : S4} (hs : s.ok) : TreeAt (fun b => B ≤ b) w (.mk k i s ts) (nodeC k i s v) := by
  obtain ⟨A, c, rfl, h1, h2⟩ := h.slice
  unfold TreeAt
  exact ⟨hs, A, c, rfl, h1, h.max, h2⟩
theorem TreeAt.leaf (ok : Nat → Prop) (w : World) (k i : Nat) {s : S4} (hs : s.ok) : TreeAt ok w (.mk k i s []) (nodeC k i s (.slice none 0 0)) := by
  unfold TreeAt
  exact ⟨hs, none, 0, rfl, (fun _ => ⟨rfl, rfl⟩), by simp, fun a ha => by cases ha⟩
/-- A node with one part that lies in a block of its own. -/
theorem TreeAt.one {ok : Nat → Prop} {w : World} {t : T} {cs : Array Value} (ht : TreeAt ok w t cs) {g : Nat} {e : TypeId} (hg : RowAt w g cs e) (hok : ok g) (c k i : Nat) {s : S4} (hs : s.ok) : TreeAt ok w (.mk k i s [t]) (nodeC k i s (.slice (some ⟨g, 0, none⟩) 1 c)) := by
  unfold TreeAt
  refine ⟨hs, some ⟨g, 0, none⟩, c, rfl, (fun h => by cases h), (by simp [maxLen]), fun a ha => ?_⟩
  injection ha with ha
  subst ha
  refine ⟨rfl, hok, hg.lt, ?_⟩
  unfold KidsAt
  exact ⟨⟨cs, ht, fun j x hj => by rw [Nat.zero_mul, Nat.zero_add]; exact hg.cellIs j x hj⟩, by unfold KidsAt; trivial⟩
/-- A row of one node that was just made. -/
theorem NRow.one {e : TypeId} {B : Nat} {w : World} {t : T} {cs : Array Value} {g : Nat} (ht : TreeAt (fun b => B ≤ b ∧ b ≠ g) w t cs) (hg : RowAt w g cs e) (hB : B ≤ g) : NRow e B w (.slice (some ⟨g, 0, none⟩) 1 1) [t] := by
  have hsz := ht.size
  refine ⟨cs.toList, ⟨by simp [hsz], .inr ⟨g, 1, cs, rfl, hB, hg, Nat.le_refl _, by decide, by simp [hsz], ?_⟩⟩, ?_⟩
  · rw [List.take_of_length_le (by simp [hsz])]
  · exact ⟨cs, ht.mono fun b hb => ⟨hb.1, fun h => hb.2 (by simpa [Value.ownBlock] using h)⟩, [], by simp, rfl⟩
/-- What an append leaves. -/
theorem NRow.push {e : TypeId} {B : Nat} {w w' : World} {v : Value} {ts : List T} {t : T} {cs : Array Value} {xs : List Value} {g cap H : Nat} (hB : B ≤ H) (hx : NodesAt (fun b => B ≤ b ∧ some b ≠ v.ownBlock) w ts xs) (ht : TreeAt (fun b => B ≤ b ∧ some b ≠ v.ownBlock) w t cs)
    (hown : w'.ownsRow B e 7 (.slice (some ⟨g, 0, none⟩) (ts.length + 1) cap) (ts.length + 1) (xs ++ cs.toList)) (hgrow : w.grownBy w' v.ownBlock) (hat : v.ownBlock = some g ∨ g = H) (hH : w.heap.size = H) :
    NRow e B w' (.slice (some ⟨g, 0, none⟩) (ts ++ [t]).length cap) (ts ++ [t]) := by
  have e1 : (ts ++ [t]).length = ts.length + 1 := by simp
  rw [e1]
  refine ⟨xs ++ cs.toList, by rw [e1]; exact hown, ?_⟩
  have hh : ∀ b, (B ≤ b ∧ some b ≠ v.ownBlock) → b < w.heap.size → (B ≤ b ∧ some b ≠ (Value.slice (some ⟨g, 0, none⟩) (ts.length + 1) cap).ownBlock) ∧ w'.heap[b]? = w.heap[b]? := by
    intro b hb hlt
    refine ⟨⟨hb.1, ?_⟩, hgrow.block b hlt hb.2⟩
    intro hc
    have hc : b = g := by simpa [Value.ownBlock] using hc
    subst hc
    rcases hat with h | h
    · exact hb.2 h.symm
    · omega
  exact NodesAt.snoc (TreeAt.turn hgrow.size hh t cs ht) ts xs (NodesAt.turn hgrow.size hh ts xs hx)

end Go.Proofs.YtkddighepgpccaaDoor
