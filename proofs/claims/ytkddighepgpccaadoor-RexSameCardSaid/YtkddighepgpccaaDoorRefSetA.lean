/-
  Tools for the reference's class: one element appended to a row of the call's own; two rows beside one another; the sets of a row of bools.
-/
import Derived.Test.YtkddighepgpccaaDoorBoolArr
import Derived.Test.YtkddighepgpccaaDoorRexW
import Derived.Deep.AppendLies
namespace Go.Proofs.YtkddighepgpccaaDoor
open Go Go.RowKit
set_option linter.unusedSimpArgs false
set_option linter.unusedVariables false

theorem wpList_append_row {P : Program} {ops : Array Oper} {rest : List Oper} {o : Oper} {a : Act} {Q : Exit → Act → World → Prop} {w : World} (hgd : o.guard = none) (s x : Operand) (st : TypeId)
    (ho : o.op = .call { callee := .builtin .append, args := #[s, x], argTypes := #[st, st] }) (e : TypeId) (hst : P.underlying st = some (.slice e)) (z : Value) (size bytes : Nat) (hi : (P.info? e).map (fun i => (i.zero, i.size, i.bytes)) = some (some z, size, bytes))
    (hzs : z.cells.size = size) (hsz : 0 < size) (hby : bytes ≤ 1000)
    (B : Nat) (v : Value) (n : Nat) (xs : List Value) (hs : a.eval s = v) (hown : w.ownsRow B e size v n xs) (cs : Array Value) (X : Nat) (hx : a.eval x = .slice (some ⟨X, 0, none⟩) 1 1) (hX : RowAt w X cs e) (hcs : cs.size = size)
    (h1 : ∀ u ∈ cs.toList, u.oneCell' = true) (hn : n ≤ 100000) (hB : B ≤ w.heap.size)
    (h : ∀ g cap w', w'.ownsRow B e size (.slice (some ⟨g, 0, none⟩) (n + 1) cap) (n + 1) (xs ++ cs.toList) → w.grownBy w' v.ownBlock → (v.ownBlock = some g ∨ g = w.heap.size) → g < w'.heap.size → wpList P ops Q rest (a.put o.dst (.slice (some ⟨g, 0, none⟩) (n + 1) cap)) w') : wpList P ops Q (o :: rest) a w := by
  obtain ⟨i0, hi1, hz0, hz1, hz2⟩ := info_parts hi
  refine wpList_append_lies (P := P) w hgd s x st ho B e i0 z size bytes hst hi1 hz0 hz1 hz2 hzs hsz v n xs hs hown ⟨X, 0, none⟩ 1 1 cs.toList hx (by simp [hcs]) (World.news_of_block hX) h1 (by decide) (by unfold maxLen; omega) ?_ hB w.heap.size rfl ?_
  · have : (n + 1) * bytes ≤ 100001 * 1000 := Nat.mul_le_mul (by omega) hby
    omega
  · intro g cap w' hown' hgrow hat hlt
    exact h g cap w' hown' hgrow hat hlt
theorem Tryd.info_uS : (Tryd.prog.info? 5).map (fun i => (i.zero, i.size, i.bytes)) = some (some (.int .u8 0), 1, 1) := by kernel_rfl
theorem Tryd.info_bS : (Tryd.prog.info? 4).map (fun i => (i.zero, i.size, i.bytes)) = some (some (.bool false), 1, 1) := by kernel_rfl
def ucells (L : List (UInt8 × Bool)) : List Value := L.map fun x => .int .u8 (x.1.toNat : Int)
def tcells (L : List (UInt8 × Bool)) : List Value := L.map fun x => .bool x.2
/-- Two rows of the call's own, side by side: the bytes of a class and whether each stood bare. -/
structure Two (w : World) (B g c g2 c2 n : Nat) (L : List (UInt8 × Bool)) : Prop where
  len : L.length = n
  one : w.ownsRow B 5 1 (.slice (some ⟨g, 0, none⟩) n c) n (ucells L)
  two : w.ownsRow B 4 1 (.slice (some ⟨g2, 0, none⟩) n c2) n (tcells L)
  ne : g ≠ g2
theorem own_later {w w' : World} {B b : Nat} {e : TypeId} {size : Nat} {v : Value} {n : Nat} {xs : List Value} (h : w.ownsRow B e size v n xs) (hb : Below b w w') (hlt : ∀ k, v.ownBlock = some k → k < b) : w'.ownsRow B e size v n xs := by
  refine ⟨h.1, ?_⟩
  rcases h.2 with h2 | ⟨g, cap, cur, hv, h3, h4, h5⟩
  · exact .inl h2
  · refine .inr ⟨g, cap, cur, hv, h3, ?_, h5⟩
    have hlt' := hlt g (by rw [hv]; rfl)
    have hs := (Array.getElem?_eq_some_iff.1 h4).1
    have hR : RowAt w g cur e := h4
    exact hR.later hb hlt'
theorem Two.lt {w : World} {B g c g2 c2 n : Nat} {L : List (UInt8 × Bool)} (h : Two w B g c g2 c2 n L) : (B ≤ g ∧ g < w.heap.size) ∧ B ≤ g2 ∧ g2 < w.heap.size := ⟨h.one.lt g rfl, h.two.lt g2 rfl⟩
theorem Two.later {w w' : World} {B b g c g2 c2 n : Nat} {L : List (UInt8 × Bool)} (h : Two w B g c g2 c2 n L) (hb : Below b w w') (h1 : g < b) (h2 : g2 < b) : Two w' B g c g2 c2 n L :=
  ⟨h.len, own_later h.one hb (fun k hk => by simp [Value.ownBlock] at hk; omega), own_later h.two hb (fun k hk => by simp [Value.ownBlock] at hk; omega), h.ne⟩
theorem addr_mk_add (g k : Nat) : (⟨g, 0, none⟩ : Addr).add k = ⟨g, k, none⟩ := by unfold Addr.add; split <;> simp_all
theorem Two.at1 {w : World} {B g c g2 c2 n : Nat} {L : List (UInt8 × Bool)} (h : Two w B g c g2 c2 n L) {k : Nat} {x : UInt8 × Bool} (hk : L[k]? = some x) : w.cell? ⟨g, k, none⟩ = some (.int .u8 (x.1.toNat : Int)) := by
  have := h.one.cells (g := g) rfl k (.int .u8 (x.1.toNat : Int)) (by unfold ucells; rw [List.getElem?_map, hk]; rfl)
  rw [addr_mk_add] at this
  exact this
theorem Two.at2 {w : World} {B g c g2 c2 n : Nat} {L : List (UInt8 × Bool)} (h : Two w B g c g2 c2 n L) {k : Nat} {x : UInt8 × Bool} (hk : L[k]? = some x) : w.cell? ⟨g2, k, none⟩ = some (.bool x.2) := by
  have := h.two.cells (g := g2) rfl k (.bool x.2) (by unfold tcells; rw [List.getElem?_map, hk]; rfl)
  rw [addr_mk_add] at this
  exact this
/-- Both rows have grown by one. -/
theorem Two.push {w2 w3 : World} {B n : Nat} {L : List (UInt8 × Bool)} (hL : L.length = n) {x : UInt8 × Bool} {g2 h1 k1 h2 k2 : Nat}
    (o1 : w2.ownsRow B 5 1 (.slice (some ⟨h1, 0, none⟩) (n + 1) k1) (n + 1) (ucells L ++ [.int .u8 (x.1.toNat : Int)])) (gr : w2.grownBy w3 (some g2)) (hg : h1 ≠ g2)
    (o2 : w3.ownsRow B 4 1 (.slice (some ⟨h2, 0, none⟩) (n + 1) k2) (n + 1) (tcells L ++ [.bool x.2])) (hne : h1 ≠ h2) : Two w3 B h1 k1 h2 k2 (n + 1) (L ++ [x]) := by
  refine ⟨by rw [List.length_append, hL]; rfl, ?_, ?_, hne⟩
  · have : ucells (L ++ [x]) = ucells L ++ [.int .u8 (x.1.toNat : Int)] := by simp [ucells]
    rw [this]
    refine o1.kept gr (.inr ?_)
    intro e
    simp [Value.ownBlock] at e
    omega
  · have : tcells (L ++ [x]) = tcells L ++ [.bool x.2] := by simp [tcells]
    rw [this]
    exact o2

theorem place {g g1 H n c : Nat} (h : (Value.slice (some ⟨g, 0, none⟩) n c).ownBlock = some g1 ∨ g1 = H) : g1 = g ∨ g1 = H := by
  rcases h with h | h
  · left
    injection h with h
    exact h.symm
  · exact .inr h
theorem Two.keep {w w1 : World} {B g c g2 c2 n : Nat} {L : List (UInt8 × Bool)} (T : Two w B g c g2 c2 n L) {o : Obj} (gr1 : (w.alloc o).grownBy w1 (Value.slice (some ⟨g, 0, none⟩) n c).ownBlock) : w1.ownsRow B 4 1 (.slice (some ⟨g2, 0, none⟩) n c2) n (tcells L) :=
  (T.two.alloc o).kept gr1 (.inr (by
    intro e
    injection e with e
    exact T.ne e.symm))
theorem Two.next {w w1 w2 : World} {B g c g2 c2 n : Nat} {L : List (UInt8 × Bool)} (T : Two w B g c g2 c2 n L) (x : UInt8 × Bool) {o o' : Obj} {g1 c1 g3 c3 : Nat} {xs ys : List Value} (hxs : xs = ucells L ++ [.int .u8 (x.1.toNat : Int)]) (hys : ys = tcells L ++ [.bool x.2])
    (o1 : w1.ownsRow B 5 1 (.slice (some ⟨g1, 0, none⟩) (n + 1) c1) (n + 1) xs) (gr1 : (w.alloc o).grownBy w1 (Value.slice (some ⟨g, 0, none⟩) n c).ownBlock) (p1 : (Value.slice (some ⟨g, 0, none⟩) n c).ownBlock = some g1 ∨ g1 = (w.alloc o).heap.size) (lt1 : g1 < w1.heap.size)
    (o2 : w2.ownsRow B 4 1 (.slice (some ⟨g3, 0, none⟩) (n + 1) c3) (n + 1) ys) (gr2 : (w1.alloc o').grownBy w2 (Value.slice (some ⟨g2, 0, none⟩) n c2).ownBlock) (p2 : (Value.slice (some ⟨g2, 0, none⟩) n c2).ownBlock = some g3 ∨ g3 = (w1.alloc o').heap.size) (lt2 : g3 < w2.heap.size) :
    Two w2 B g1 c1 g3 c3 (n + 1) (L ++ [x]) := by
  subst hxs hys
  have hlt := T.lt
  have hne := T.ne
  have q1 := place p1
  have q2 := place p2
  simp only [World.size_alloc] at q1 q2
  exact Two.push (g2 := g2) T.len (o1.alloc _) gr2 (by omega) o2 (by omega)
theorem Two.frame {w0 w w1 w2 : World} {H g c g2 c2 n : Nat} {L : List (UInt8 × Bool)} (T : Two w (H + 1) g c g2 c2 n L) (hB : Below H w0 w) {C : Array Value} {t : TypeId} (hR : RowAt w H C t) {o o' : Obj}
    (gr1 : (w.alloc o).grownBy w1 (Value.slice (some ⟨g, 0, none⟩) n c).ownBlock) (gr2 : (w1.alloc o').grownBy w2 (Value.slice (some ⟨g2, 0, none⟩) n c2).ownBlock) : Below H w0 w2 ∧ RowAt w2 H C t := by
  have hlt := T.lt
  have hRl := hR.lt
  have s1 : (w.alloc o).heap.size ≤ w1.heap.size := gr1.size
  simp only [World.size_alloc] at s1
  refine ⟨?_, ?_⟩
  · refine ((((hB.alloc (by omega) o).grown gr1 (by simp; omega) ?_).alloc (by omega) o').grown gr2 (by simp; omega) ?_)
    · intro k hk
      injection hk with hk
      simp only at hk
      omega
    · intro k hk
      injection hk with hk
      simp only at hk
      omega
  · refine RowAt.grown ((RowAt.grown (hR.old o) gr1 ?_).old o') gr2 ?_
    · intro e
      injection e with e
      simp only at e
      omega
    · intro e
      injection e with e
      simp only at e
      omega

theorem at_orS (x y : S4) (i : Nat) : (x.or y).at i = x.at i ||| y.at i := by unfold S4.at S4.or; by_cases h0 : i = 0 <;> by_cases h1 : i = 1 <;> by_cases h2 : i = 2 <;> simp [h0, h1, h2]
theorem at_notS (x : S4) (i : Nat) : x.not.at i = inv (x.at i) := by unfold S4.at S4.not; by_cases h0 : i = 0 <;> by_cases h1 : i = 1 <;> by_cases h2 : i = 2 <;> simp [h0, h1, h2]
theorem has_orS (x y : S4) (b : Nat) : (x.or y).has b = (x.has b || y.has b) := by
  show ((x.or y).at (b / 64)).testBit (b % 64) = _
  rw [at_orS, Nat.testBit_or]; rfl
theorem inv_bitS {a : Nat} (h : a < 18446744073709551616) (i : Nat) : (inv a).testBit i = (decide (i < 64) && !a.testBit i) := by
  unfold inv
  rw [show 18446744073709551615 - a = 2 ^ 64 - (a + 1) by omega, Nat.testBit_two_pow_sub_succ (n := 64) h]
theorem has_notS {x : S4} (hx : x.ok) (b : Nat) : x.not.has b = !x.has b := by
  show (x.not.at (b / 64)).testBit (b % 64) = _
  rw [at_notS, inv_bitS (S4.at_ok hx _)]
  have : b % 64 < 64 := by omega
  rw [decide_eq_true this]; rfl
theorem spanS_ok (a b : UInt8) : (spanS a b).ok := spanN_ok _ _
theorem has_spanS (a b : UInt8) (m : Nat) (hm : m < 256) (h : ¬ b < a) : (spanS a b).has m = decide (a.toNat ≤ m ∧ m ≤ b.toNat) := by
  have hb := b.toNat_lt
  have ha : a.toNat ≤ b.toNat := by
    rw [UInt8.lt_iff_toNat_lt] at h
    omega
  unfold spanS
  rw [has_span _ _ _ hm (by omega)]
  congr 1
  apply propext
  omega
/-- The row of bools of a set. -/
def RowIs (tk : List Bool) (S : S4) : Prop := tk.length = 256 ∧ ∀ m, m < 256 → inB tk m = S.has m
theorem RowIs.zero : RowIs tk0 S4.zero := ⟨by unfold tk0; rw [List.length_replicate], fun m hm => by rw [tk0_in, has_zero]⟩
/-- Half a span is in. -/
def Upto (tk tk' : List Bool) (a k : Nat) : Prop := tk'.length = 256 ∧ ∀ m, m < 256 → inB tk' m = (inB tk m || decide (a ≤ m ∧ m < k))
theorem Upto.start {tk : List Bool} {S : S4} (h : RowIs tk S) (a : Nat) : Upto tk tk a a := ⟨h.1, fun m hm => by
  have : ¬ (a ≤ m ∧ m < a) := by omega
  rw [decide_eq_false this, Bool.or_false]⟩
theorem Upto.step {tk tk' : List Bool} {a k : Nat} (h : Upto tk tk' a k) (hk : k < 256) (ha : a ≤ k) : Upto tk (tk'.set k true) a (k + 1) := ⟨by rw [List.length_set]; exact h.1, fun m hm => by
  rw [inB_set (by rw [h.1]; exact hk), h.2 m hm, Bool.or_assoc]
  congr 1
  rw [Bool.eq_iff_iff]
  simp
  omega⟩
theorem Upto.done {tk tk' : List Bool} {S : S4} {a b : UInt8} (hS : RowIs tk S) (hab : ¬ b < a) (h : Upto tk tk' a.toNat (b.toNat + 1)) : RowIs tk' (S.or (spanS a b)) := ⟨h.1, fun m hm => by
  rw [h.2 m hm, has_orS, hS.2 m hm, has_spanS a b m hm hab]
  congr 2
  apply propext
  omega⟩
/-- Turned, up to k. -/
def Turned (tk tk' : List Bool) (k : Nat) : Prop := tk'.length = 256 ∧ ∀ m, m < 256 → inB tk' m = (if m < k then !inB tk m else inB tk m)
theorem Turned.start {tk : List Bool} {S : S4} (h : RowIs tk S) : Turned tk tk 0 := ⟨h.1, fun m hm => by rw [if_neg (by omega)]⟩
theorem inB_put {tk : List Bool} {k : Nat} (hk : k < tk.length) (v : Bool) (b : Nat) : inB (tk.set k v) b = if k = b then v else inB tk b := by
  unfold inB
  rw [List.getD_eq_getElem?_getD, List.getD_eq_getElem?_getD]
  by_cases h : k = b
  · subst h
    rw [List.getElem?_set_self hk]; simp
  · rw [List.getElem?_set_ne h]; simp [h]
theorem Turned.step {tk tk' : List Bool} {k : Nat} (h : Turned tk tk' k) (hk : k < 256) : Turned tk (tk'.set k (!inB tk' k)) (k + 1) := ⟨by rw [List.length_set]; exact h.1, fun m hm => by
  rw [inB_put (by rw [h.1]; exact hk)]
  by_cases e : k = m
  · subst e
    rw [if_pos rfl, if_pos (by omega), h.2 k hk, if_neg (by omega)]
  · rw [if_neg e, h.2 m hm]
    by_cases e2 : m < k
    · rw [if_pos e2, if_pos (by omega)]
    · rw [if_neg e2, if_neg (by omega)]⟩
theorem Turned.done {tk tk' : List Bool} {S : S4} (hS : RowIs tk S) (ho : S.ok) (h : Turned tk tk' 256) : RowIs tk' S.not := ⟨h.1, fun m hm => by
  rw [h.2 m hm, if_pos hm, has_notS ho, hS.2 m hm]⟩

theorem Two.drewN {w : World} {B g c g2 c2 n : Nat} {L : List (UInt8 × Bool)} (h : Two w B g c g2 c2 n L) (q : Nat) : Two (w.drewN q) B g c g2 c2 n L := ⟨h.len, h.one, h.two, h.ne⟩
theorem drop_at {α : Type} {L : List α} {i : Nat} {x : α} (h : L[i]? = some x) : L.drop i = x :: L.drop (i + 1) := by
  obtain ⟨hl, he⟩ := List.getElem?_eq_some_iff.1 h
  rw [List.drop_eq_getElem_cons hl, he]
theorem spL_last {L : List (UInt8 × Bool)} {i n : Nat} {x : UInt8 × Bool} (hL : L.length = n) (hx : L[i]? = some x) (h : ¬ i + 2 < n) (S : S4) : spL (L.drop i) S = spL (L.drop (i + 1)) (S.or (spanS x.1 x.1)) := by
  rw [drop_at hx]
  refine spL_one _ _ _ (fun b c l' e => ?_)
  have := congrArg List.length e
  simp at this
  omega
theorem spL_bare {L : List (UInt8 × Bool)} {i : Nat} {x y : UInt8 × Bool} (hx : L[i]? = some x) (hy : L[i + 1]? = some y) (h : ¬ (y.1 = 45 ∧ y.2 = true)) (S : S4) : spL (L.drop i) S = spL (L.drop (i + 1)) (S.or (spanS x.1 x.1)) := by
  rw [drop_at hx]
  refine spL_one _ _ _ (fun b c l' e => ?_)
  rw [drop_at hy] at e
  injection e with e1 e2
  rw [← e1]; exact h
theorem spL_span {L : List (UInt8 × Bool)} {i : Nat} {x z : UInt8 × Bool} (hx : L[i]? = some x) (hy : L[i + 1]? = some (45, true)) (hz : L[i + 2]? = some z) (S : S4) : spL (L.drop i) S = if z.1 < x.1 then none else spL (L.drop (i + 2 + 1)) (S.or (spanS x.1 z.1)) := by
  rw [drop_at hx, drop_at hy, drop_at hz]
  simp [spL]
theorem boolRow_in {tk : List Bool} {m : Nat} (h : m < tk.length) : (boolRow tk)[m]? = some (.bool (inB tk m)) := by
  apply boolRow_at
  unfold inB
  rw [List.getD_eq_getElem?_getD, List.getElem?_eq_getElem h]; rfl

theorem Two.setOther {w : World} {B g c g2 c2 n : Nat} {L : List (UInt8 × Bool)} (h : Two w B g c g2 c2 n L) (a : Addr) (v : Value) (h1 : a.block ≠ g) (h2 : a.block ≠ g2) : Two (w.setCell a v) B g c g2 c2 n L := by
  refine ⟨h.len, ?_, ?_, h.ne⟩
  · rcases h.one.2 with e | ⟨g', cap, cur, hv, h3, h4, h5⟩
    · exact ⟨h.one.1, .inl e⟩
    · refine ⟨h.one.1, .inr ⟨g', cap, cur, hv, h3, ?_, h5⟩⟩
      injection hv with hv
      injection hv with hv
      injection hv with hv
      subst hv
      have hR : RowAt w g cur 5 := h4
      exact hR.other v h1
  · rcases h.two.2 with e | ⟨g', cap, cur, hv, h3, h4, h5⟩
    · exact ⟨h.two.1, .inl e⟩
    · refine ⟨h.two.1, .inr ⟨g', cap, cur, hv, h3, ?_, h5⟩⟩
      injection hv with hv
      injection hv with hv
      injection hv with hv
      subst hv
      have hR : RowAt w g2 cur 4 := h4
      exact hR.other v h2
theorem wrap64_nat {n : Nat} (h : n < 9223372036854775808) : wrap64 (n : Int) = (n : Int) := by
  unfold wrap64
  omega

end Go.Proofs.YtkddighepgpccaaDoor
