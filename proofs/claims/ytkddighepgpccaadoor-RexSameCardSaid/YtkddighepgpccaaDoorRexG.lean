/-
  The parser's parts, one over the other: what each gives; the walk of group.
-/
import Derived.Test.YtkddighepgpccaaDoorRexN
namespace Go.Proofs.YtkddighepgpccaaDoor
open Go Go.RowKit
set_option linter.unusedSimpArgs false
set_option linter.unusedVariables false

/-- A part was read: its tree, and where the parser is. 'R bad t r g': how the result fits. -/
def PartPost (w : World) (P : Nat) (s : ByteArray) (a : Nat) (R : Bool → T → Nat → Nat → Prop) (e : Ending) (w' : World) : Prop :=
  ∃ (cs : Array Value) (t : T) (a' g' : Nat) (bad : Bool), e = .returned (.agg cs) ∧ TreeAt (fun b => w.heap.size ≤ b) w' t cs ∧ PSt w' P s a' g' bad ∧ Touch w w' (· = P) ∧ a' ≤ s.size ∧ (bad = false → a ≤ a' ∧ g' ≤ a') ∧ R bad t a' g'
def OptR (s : ByteArray) (R : Option (T × List UInt8 × Nat)) (bad : Bool) (t : T) (a' g' : Nat) : Prop := (bad = true ∧ R = none) ∨ (bad = false ∧ R = some (t, rem s a', g'))
def ExprC (n : Nat) : Prop := ∀ (w : World) (P : Nat) (s : ByteArray) (a g : Nat), s.size ≤ 100 → a ≤ s.size → g ≤ a → (rem s a).length < n → PSt w P s a g false →
  Calls Tryd.prog 38 #[.pointer (some ⟨P, 0, none⟩)] w (PartPost w P s a (OptR s (Run (rem s a) g [] [])))
def groupR (R : Option (T × List UInt8 × Nat)) (g : Nat) : Option (T × List UInt8 × Nat) :=
  match R with
  | some (t, r2, g2) => if r2.head? = some 41 then some (.mk 7 (g + 1) S4.zero [t], r2.tail, g2) else none
  | none => none
theorem seesB_close {s : ByteArray} {a : Nat} {c : UInt8} : seesB s a false [c] = decide ((rem s a).head? = some c) := by
  unfold seesB
  cases rem s a with
  | nil => rfl
  | cons d r =>
    rw [Bool.eq_iff_iff]
    simp [seesL]
theorem groupR_some {s : ByteArray} {a g g' : Nat} {t : T} {b : Bool} (hb : seesB s a false [41] = b) : groupR (some (t, rem s a, g')) g = if b = true then some (.mk 7 (g + 1) S4.zero [t], rem s (a + 1), g') else none := by
  rw [seesB_close] at hb
  unfold groupR
  simp only
  cases b with
  | false =>
    have := of_decide_eq_false hb
    rw [if_neg this]
    simp
  | true =>
    have h := of_decide_eq_true hb
    rw [if_pos h]
    simp only [if_true]
    cases hr : rem s a with
    | nil => rw [hr] at h; cases h
    | cons d r =>
      rw [(rem_tail hr).1]; rfl

set_option maxHeartbeats 4000000 in
set_option maxRecDepth 100000 in
theorem group_any (n : Nat) (hE : ExprC n) (w : World) (P : Nat) (s : ByteArray) (a g : Nat) (hs : s.size ≤ 100) (ha : a ≤ s.size) (hg : g + 1 ≤ a) (hn : (rem s a).length < n) (h : PSt w P s a g false) :
    Calls Tryd.prog 80 #[.pointer (some ⟨P, 0, none⟩)] w (PartPost w P s a (OptR s (groupR (Run (rem s a) (g + 1) [] []) g))) := by
  have hP := RowAt.lt h
  obtain ⟨c0, c1, c2, c3⟩ := PSt.cells h
  obtain ⟨f0, f1, f2, f3⟩ := PSt.frozen h
  have q1 : PSt (w.setCell ⟨P, 2, none⟩ (.int .i64 ((g : Int) + 1))) P s a (g + 1) false := PSt.setG h (g + 1)
  obtain ⟨d0, d1, d2, d3⟩ : _ ∧ _ ∧ (w.setCell ⟨P, 2, none⟩ (.int .i64 ((g : Int) + 1))).cell? ⟨P, 2, none⟩ = some (.int .i64 ((g : Int) + 1)) ∧ _ := PSt.cells q1
  obtain ⟨V, hV⟩ : ∃ V, ((w.setCell ⟨P, 2, none⟩ (.int .i64 ((g : Int) + 1))).alloc (.cells #[.int .i64 0, .int .i64 0, .int .u64 0, .int .u64 0, .int .u64 0, .int .u64 0, .slice none 0 0] 41)).alloc (.cells #[.int .i64 7, .int .i64 ((g : Int) + 1), .int .u64 0, .int .u64 0, .int .u64 0, .int .u64 0, .slice none 0 0] 41) = V := ⟨_, rfl⟩
  have hz : (w.setCell ⟨P, 2, none⟩ (.int .i64 ((g : Int) + 1))).heap.size = w.heap.size := by simp [World.setCell]
  have v1 : PSt V P s a (g + 1) false := by rw [← hV]; exact RowAt.old (RowAt.old q1 _) _
  have v2 : RowAt V w.heap.size #[.int .i64 0, .int .i64 0, .int .u64 0, .int .u64 0, .int .u64 0, .int .u64 0, .slice none 0 0] 41 := by
    rw [← hV]; exact RowAt.old (RowAt.new' _ _ _ hz) _
  have v3 : RowAt V (w.heap.size + 1) #[.int .i64 7, .int .i64 ((g : Int) + 1), .int .u64 0, .int .u64 0, .int .u64 0, .int .u64 0, .slice none 0 0] 41 := by
    rw [← hV]; exact RowAt.new' _ _ _ (by simp [hz])
  have v4 : Touch w V (· = P) := by rw [← hV]; exact (((Touch.refl w (· = P)).put (a := ⟨P, 2, none⟩) _ (.inl rfl)).alloc _).alloc _
  have hVs : V.heap.size = w.heap.size + 2 := by rw [← hV]; simp [hz]
  have HE := Lib.hid (hE V P s a (g + 1) hs ha hg hn v1)
  have HV := Lib.hid hV
  have HVs := Lib.hid hVs
  clear q1 hz hV hVs
  go_enter Tryd.func80, Tryd.ntmps80
  go_wp2_with fail
  have hV := HV.out
  have hPR : w.heap.size ≠ P := by omega
  have hPN : w.heap.size + 1 ≠ P := by omega
  simp only [hV]
  refine HE.out.mono ?_
  rintro e w1 ⟨cs, t, a', g', bad, rfl, ht, hp, htw, ha', hag, hR⟩
  try dsimp only
  have u2 := v2.touch htw hPR
  have u3 := v3.touch htw hPN
  have u4 := v4.trans htw
  have hs1 := htw.size
  clear hV HV c0 c1 c2 c3 d0 d1 d2 d3 f0 f1 f2 f3 v1 v2 v3 v4 HE hE
  -- the row of one node
  obtain ⟨k, i, S, ks, A, cc, rfl, rfl, hSok⟩ := ht.form
  have HT := Lib.hid ht
  clear ht
  unfold nodeC
  have hN1 : w.heap.size + 1 < w1.heap.size := by have := HVs.out; omega
  have hP1 : P < w1.heap.size := by omega
  obtain ⟨b, hb⟩ : ∃ b, seesB s a' bad [41] = b := ⟨_, rfl⟩
  obtain ⟨⟨n0, n1, n2, n3, n4, n5, n6⟩, m0, m1, m2, m3, m4, m5, m6⟩ := node_facts (k := 7) (i := g + 1) (s := S4.zero) (sl := .slice none 0 0) u3
  go_upto_region 4 with fail
  obtain ⟨V2, hV2⟩ : ∃ V2, (w1.setCell ⟨w.heap.size + 1, 6, none⟩ (.slice (some ⟨w1.heap.size, 0, none⟩) 1 1)).alloc (.cells #[.int .i64 (k : Int), .int .i64 (i : Int), .int .u64 (S.a0 : Int), .int .u64 (S.a1 : Int), .int .u64 (S.a2 : Int), .int .u64 (S.a3 : Int), .slice A ks.length cc] 41) = V2 := ⟨_, rfl⟩
  have hz2 : (w1.setCell ⟨w.heap.size + 1, 6, none⟩ (.slice (some ⟨w1.heap.size, 0, none⟩) 1 1)).heap.size = w1.heap.size := by simp [World.setCell]
  have x1 : PSt V2 P s a' g' bad := by rw [← hV2]; exact RowAt.old (RowAt.other hp _ hPN) _
  have x2 : RowAt V2 w.heap.size #[.int .i64 0, .int .i64 0, .int .u64 0, .int .u64 0, .int .u64 0, .int .u64 0, .slice none 0 0] 41 := by
    rw [← hV2]; exact RowAt.old (RowAt.other u2 _ (by simp)) _
  have x3 : RowAt V2 (w.heap.size + 1) #[.int .i64 7, .int .i64 ((g : Int) + 1), .int .u64 0, .int .u64 0, .int .u64 0, .int .u64 0, .slice (some ⟨w1.heap.size, 0, none⟩) 1 1] 41 := by
    rw [← hV2]; exact RowAt.old (RowAt.set u3 6 _) _
  have x4 : RowAt V2 w1.heap.size (nodeC k i S (.slice A ks.length cc)) 41 := by
    rw [← hV2]; exact RowAt.new' _ _ _ hz2
  have x5 : Touch w1 V2 (· = w.heap.size + 1) := by rw [← hV2]; exact ((Touch.refl w1 (· = w.heap.size + 1)).put (a := ⟨w.heap.size + 1, 6, none⟩) _ (.inl rfl)).alloc _
  have x6 : Touch w V2 (· = P) := by rw [← hV2]; exact (u4.put (a := ⟨w.heap.size + 1, 6, none⟩) _ (.inr (by simp))).alloc _
  have y1 : TreeAt (fun b => w.heap.size + 2 ≤ b) V2 (.mk k i S ks) (nodeC k i S (.slice A ks.length cc)) := HT.out.touch x5 (fun b hb => by have := HVs.out; omega) (fun b hb => by have := HVs.out; omega)
  have HK := Lib.hid (takes_is V2 P s a' g' bad hs ha' x1 ⟨#[41]⟩ hb)
  simp only [hV2]
  clear hV2 hz2 n0 n1 n2 n3 n4 n5 n6 m0 m1 m2 m3 m4 m5 m6 u2 u3 u4 hp htw
  go_wp2_with fail
  refine HK.out.mono ?_
  rintro e w2 ⟨rfl, hp2, ht2⟩
  try dsimp only
  have hPK : w1.heap.size ≠ P := by omega
  have r2 := x2.touch ht2 hPR
  have b2 := x3.touch ht2 hPN
  have k2 := x4.touch ht2 hPK
  have t2 := x6.trans ht2
  have tt2 := y1.touch ht2 (fun b hb => hb) (fun b hb => by omega)
  clear x1 x2 x3 x4 x5 x6 y1 HK HT ht2
  have hP2 : P < w2.heap.size := by have := t2.size; omega
  cases b with
  | true =>
    obtain ⟨hbf, hlt, -⟩ := seesB_true hb
    subst hbf
    obtain ⟨haa, hgg⟩ := hag rfl
    have HR : Hid (OptR s (groupR (Run (rem s a) (g + 1) [] []) g) false (.mk 7 (g + 1) S4.zero [.mk k i S ks]) (a' + 1) g') := by
      rcases hR with ⟨hR, _⟩ | ⟨_, hR⟩
      · cases hR
      · rw [hR]
        exact .inr ⟨rfl, groupR_some hb⟩
    have p3 : PSt w2 P s (a' + 1) g' false := hp2
    have r3 := r2
    have b3 := b2
    have k3 := k2
    have t3 := t2
    have tt := tt2
    clear r2 b2 k2 t2 tt2 hp2 hR hb
    obtain ⟨⟨n0, n1, n2, n3, n4, n5, n6⟩, -⟩ := node_facts (k := 0) (i := 0) (s := S4.zero) (sl := .slice none 0 0) r3
    obtain ⟨-, m0, m1, m2, m3, m4, m5, m6⟩ := node_facts (k := 0) (i := 0) (s := S4.zero) (sl := .slice none 0 0) r3
    obtain ⟨l0, l1, l2, l3, l4, l5, l6⟩ := row7 b3
    have tr := TreeAt.one (ok := fun b => w.heap.size + 1 ≤ b) (tt.mono (fun b hb => (by omega))) k3 (by omega) 1 7 (g + 1) S4.zero_ok
    go_wp2_with fail
    obtain ⟨z0, z1, z2, z3, z4, z5, z6⟩ := row7 (RowAt.seven r3 (.int .i64 7) (.int .i64 ((g : Int) + 1)) (.int .u64 0) (.int .u64 0) (.int .u64 0) (.int .u64 0) (.slice (some ⟨w1.heap.size, 0, none⟩) 1 1))
    refine bodyPost_ret (v := .agg #[.int .i64 7, .int .i64 ((g : Int) + 1), .int .u64 0, .int .u64 0, .int .u64 0, .int .u64 0, .slice (some ⟨w1.heap.size, 0, none⟩) 1 1]) (by simp [results, Tryd.results80, go_sem, z0, z1, z2, z3, z4, z5, z6]) rfl ?_
    have tq := touch_putN (Touch.refl w2 (· = w.heap.size)) (.inl rfl) 7 (g + 1) S4.zero (.slice (some ⟨w1.heap.size, 0, none⟩) 1 1)
    refine ⟨_, _, (a' + 1), g', false, rfl, tr.touch tq (fun b hb => (by omega)) (fun b hb => (by omega)), RowAt.putN_other p3 7 (g + 1) S4.zero (.slice (some ⟨w1.heap.size, 0, none⟩) 1 1) hPR, touch_putN t3 (.inr (Nat.le_refl _)) 7 (g + 1) S4.zero (.slice (some ⟨w1.heap.size, 0, none⟩) 1 1), by omega, (fun hb => by first | (cases hb; done) | exact ⟨by omega, by omega⟩), HR.out⟩
  | false =>
    have HR : Hid (OptR s (groupR (Run (rem s a) (g + 1) [] []) g) true (.mk 7 (g + 1) S4.zero [.mk k i S ks]) a' g') := by
      rcases hR with ⟨_, hR⟩ | ⟨hbf, hR⟩
      · rw [hR]; exact .inl ⟨rfl, rfl⟩
      · subst hbf
        rw [hR]
        exact .inl ⟨rfl, groupR_some hb⟩
    have hp3 : PSt w2 P s a' g' bad := hp2
    obtain ⟨c0, c1, c2, c3⟩ := PSt.cells hp3
    obtain ⟨f0, f1, f2, f3⟩ := PSt.frozen hp3
    clear hp2 hR hb
    go_upto_region 6 with fail
    obtain ⟨w3, hw3⟩ : ∃ w3, w2.setCell ⟨P, 3, none⟩ (.bool true) = w3 := ⟨_, rfl⟩
    have p3 : PSt w3 P s a' g' true := by rw [← hw3]; exact PSt.setBad hp3 true
    have r3 : RowAt w3 w.heap.size #[.int .i64 0, .int .i64 0, .int .u64 0, .int .u64 0, .int .u64 0, .int .u64 0, .slice none 0 0] 41 := by rw [← hw3]; exact r2.other _ (Ne.symm hPR)
    have b3 : RowAt w3 (w.heap.size + 1) #[.int .i64 7, .int .i64 ((g : Int) + 1), .int .u64 0, .int .u64 0, .int .u64 0, .int .u64 0, .slice (some ⟨w1.heap.size, 0, none⟩) 1 1] 41 := by rw [← hw3]; exact b2.other _ (Ne.symm hPN)
    have k3 : RowAt w3 w1.heap.size (nodeC k i S (.slice A ks.length cc)) 41 := by rw [← hw3]; exact k2.other _ (Ne.symm hPK)
    have t3 : Touch w w3 (· = P) := by rw [← hw3]; exact t2.put _ (.inl rfl)
    have tt : TreeAt (fun b => w.heap.size + 2 ≤ b) w3 (.mk k i S ks) (nodeC k i S (.slice A ks.length cc)) := by
      rw [← hw3]
      exact tt2.touch ((Touch.refl w2 (· = P)).put _ (.inl rfl)) (fun b hb => hb) (fun b hb => by omega)
    simp only [hw3]
    clear hw3 r2 b2 k2 t2 tt2 hp3 c0 c1 c2 c3 f0 f1 f2 f3
    obtain ⟨⟨n0, n1, n2, n3, n4, n5, n6⟩, -⟩ := node_facts (k := 0) (i := 0) (s := S4.zero) (sl := .slice none 0 0) r3
    obtain ⟨-, m0, m1, m2, m3, m4, m5, m6⟩ := node_facts (k := 0) (i := 0) (s := S4.zero) (sl := .slice none 0 0) r3
    obtain ⟨l0, l1, l2, l3, l4, l5, l6⟩ := row7 b3
    have tr := TreeAt.one (ok := fun b => w.heap.size + 1 ≤ b) (tt.mono (fun b hb => (by omega))) k3 (by omega) 1 7 (g + 1) S4.zero_ok
    go_wp2_with fail
    obtain ⟨z0, z1, z2, z3, z4, z5, z6⟩ := row7 (RowAt.seven r3 (.int .i64 7) (.int .i64 ((g : Int) + 1)) (.int .u64 0) (.int .u64 0) (.int .u64 0) (.int .u64 0) (.slice (some ⟨w1.heap.size, 0, none⟩) 1 1))
    refine bodyPost_ret (v := .agg #[.int .i64 7, .int .i64 ((g : Int) + 1), .int .u64 0, .int .u64 0, .int .u64 0, .int .u64 0, .slice (some ⟨w1.heap.size, 0, none⟩) 1 1]) (by simp [results, Tryd.results80, go_sem, z0, z1, z2, z3, z4, z5, z6]) rfl ?_
    have tq := touch_putN (Touch.refl w3 (· = w.heap.size)) (.inl rfl) 7 (g + 1) S4.zero (.slice (some ⟨w1.heap.size, 0, none⟩) 1 1)
    refine ⟨_, _, a', g', true, rfl, tr.touch tq (fun b hb => (by omega)) (fun b hb => (by omega)), RowAt.putN_other p3 7 (g + 1) S4.zero (.slice (some ⟨w1.heap.size, 0, none⟩) 1 1) hPR, touch_putN t3 (.inr (Nat.le_refl _)) 7 (g + 1) S4.zero (.slice (some ⟨w1.heap.size, 0, none⟩) 1 1), by omega, (fun hb => by first | (cases hb; done) | exact ⟨by omega, by omega⟩), HR.out⟩

end Go.Proofs.YtkddighepgpccaaDoor
