/-
  The walk of the parser's class.
-/
import Derived.Test.YtkddighepgpccaaDoorRexP3
import Derived.Deep.RegionHeld3
import Derived.RegionCalls
import Derived.Deep.Cut
namespace Go.Proofs.YtkddighepgpccaaDoor
open Go Go.RowKit
set_option linter.unusedSimpArgs false
set_option linter.unusedVariables false

/-- A whole set stored. -/
def put4 (w : World) (U : Nat) (s : OK) : World := (((w.setCell ⟨U, 0, none⟩ (.int .u64 (s.1.a0 : Int))).setCell ⟨U, 1, none⟩ (.int .u64 (s.1.a1 : Int))).setCell ⟨U, 2, none⟩ (.int .u64 (s.1.a2 : Int))).setCell ⟨U, 3, none⟩ (.int .u64 (s.1.a3 : Int))
theorem RowAt.put4 {w : World} {U : Nat} {c : S4} {t : TypeId} (h : RowAt w U c.cells t) (s : OK) : RowAt (put4 w U s) U s.1.cells t :=
  RowAt.four h _ _ _ _
theorem RowAt.put4_other {w : World} {U b : Nat} {c : Array Value} {t : TypeId} (h : RowAt w b c t) (s : OK) (hne : U ≠ b) : RowAt (Go.Proofs.YtkddighepgpccaaDoor.put4 w U s) b c t :=
  (((h.other _ hne).other _ hne).other _ hne).other _ hne
theorem PSt.put4_other {w : World} {P U : Nat} {s : ByteArray} {a g : Nat} {bad : Bool} (h : PSt w P s a g bad) (t : OK) (hne : U ≠ P) : PSt (put4 w U t) P s a g bad := RowAt.put4_other h t hne
theorem PSt.later {w w' : World} {P : Nat} {s : ByteArray} {a g : Nat} {bad : Bool} (h : PSt w P s a g bad) (hb : Below w.heap.size w w') : PSt w' P s a g bad := RowAt.later h hb (RowAt.lt h)
theorem touch_put4 {w w' : World} {S : Nat → Prop} (h : Touch w w' S) {U : Nat} (hU : S U ∨ w.heap.size ≤ U) (s : OK) : Touch w (put4 w' U s) S :=
  (((h.put _ hU).put _ hU).put _ hU).put _ hU

/-- The inner relation: what is left gives what the whole gives. -/
def SetR (RES : Option (S4 × List UInt8)) (s : ByteArray) (first : Bool) (a : Nat) (S : OK) (bad : Bool) : Prop := (bad = true ∧ RES = none) ∨ (bad = false ∧ pSet first (rem s a) S.1 = RES)
theorem UnionX (s t : OK) (w : World) : Calls Tryd.prog 85 #[s.v, t.v] w fun e w' => e = .returned (.agg #[.int .u64 ((s.or t).1.a0 : Int), .int .u64 ((s.or t).1.a1 : Int), .int .u64 ((s.or t).1.a2 : Int), .int .u64 ((s.or t).1.a3 : Int)]) ∧ Below w.heap.size w w' := UnionK s t w
theorem NotX (s : OK) (w : World) : Calls Tryd.prog 82 #[s.v] w fun e w' => e = .returned (.agg #[.int .u64 (s.not.1.a0 : Int), .int .u64 (s.not.1.a1 : Int), .int .u64 (s.not.1.a2 : Int), .int .u64 (s.not.1.a3 : Int)]) ∧ Below w.heap.size w w' := NotK s w
theorem below_undrew {w w' : World} (h : Below w.drew.heap.size w.drew w') : Below w.heap.size w w' := ⟨h.os, h.tape, h.output, h.size, h.block⟩
theorem row_frozen {w : World} {b : Nat} {c : Array Value} {t : TypeId} (h : RowAt w b c t) : ∀ w', Below w.heap.size w w' → w'.frozen? ⟨b, 0, none⟩ = false ∧ w'.frozen? ⟨b, 1, none⟩ = false ∧ w'.frozen? ⟨b, 2, none⟩ = false ∧ w'.frozen? ⟨b, 3, none⟩ = false := fun w' hb =>
  ⟨(h.later hb h.lt).frozen 0, (h.later hb h.lt).frozen 1, (h.later hb h.lt).frozen 2, (h.later hb h.lt).frozen 3⟩
theorem SetR.next_none {RES : Option (S4 × List UInt8)} {s : ByteArray} {first : Bool} {a : Nat} {S : OK} (h : SetR RES s first a S false) (hm : memberL (rem s a) = none) : RES = none := by
  rcases h with ⟨h, _⟩ | ⟨_, h⟩
  · cases h
  · rw [← h, pSet]
    split
    · rfl
    · rename_i e; rw [hm] at e; cases e
theorem head_of {s : ByteArray} {a : Nat} {c : UInt8} (h : seesB s a false [c] = false) : (rem s a).head? ≠ some c := by
  intro hc
  unfold seesB at h
  cases hr : rem s a with
  | nil => rw [hr] at hc; cases hc
  | cons d r =>
    rw [hr] at h hc
    simp at hc
    subst hc
    simp [seesL] at h
theorem SetR.close {RES : Option (S4 × List UInt8)} {s : ByteArray} {first : Bool} {a : Nat} {S : OK} (h : SetR RES s first a S false) (hv : seesB s a false [93] = true) : RES = if first = true then none else some (S.1, rem s (a + 1)) := by
  obtain ⟨_, hlt, c, r, hr, hc, hr2⟩ := seesB_true hv
  have hc : c = 93 := by simpa using hc
  subst hc
  rcases h with ⟨h, _⟩ | ⟨_, h⟩
  · cases h
  · rw [← h, pSet, hr]
    split
    · rename_i e; simp [memberL] at e
    · rw [if_pos (by rfl), ← hr2]
      rfl
theorem SetR.one {RES : Option (S4 × List UInt8)} {s : ByteArray} {first : Bool} {a a' : Nat} {S : OK} {low : UInt8} {r1 : List UInt8} (h : SetR RES s first a S false) (hv : seesB s a false [93] = false) (hm : memberL (rem s a) = some (low, r1)) (hsp : spansL r1 = false) (hr : rem s a' = r1) : SetR RES s false a' (S.or (OK.span low.toNat (low.toNat + 1 - low.toNat))) false := by
  rcases h with ⟨h, _⟩ | ⟨_, h⟩
  · cases h
  · refine .inr ⟨rfl, ?_⟩
    rw [← h, pSet.eq_1 first]
    split
    · rename_i e; rw [hm] at e; cases e
    · rename_i l2 r2 e
      rw [hm] at e
      simp only [Option.some.injEq, Prod.mk.injEq] at e
      obtain ⟨rfl, rfl⟩ := e
      rw [if_neg (head_of hv), hsp, hr]
      simp only [Bool.false_eq_true, if_false]
      rfl
theorem SetR.two {RES : Option (S4 × List UInt8)} {s : ByteArray} {first : Bool} {a a' : Nat} {S : OK} {low high : UInt8} {r1 r2 : List UInt8} (h : SetR RES s first a S false) (hv : seesB s a false [93] = false) (hm : memberL (rem s a) = some (low, r1)) (hsp : spansL r1 = true) (hm2 : memberL r1.tail = some (high, r2)) (hr : rem s a' = r2) : SetR RES s false a' (S.or (OK.span low.toNat (high.toNat + 1 - low.toNat))) (decide (high < low)) := by
  rcases h with ⟨h, _⟩ | ⟨_, h⟩
  · cases h
  · have e1 : RES = if high < low then none else pSet false r2 (S.1.or (spanS low high)) := by
      rw [← h, pSet]
      split
      · rename_i e; rw [hm] at e; cases e
      · rename_i l3 r3 e
        rw [hm] at e
        simp only [Option.some.injEq, Prod.mk.injEq] at e
        obtain ⟨rfl, rfl⟩ := e
        rw [if_neg (head_of hv), hsp]
        simp only [if_true]
        split
        · rename_i e; rw [hm2] at e; cases e
        · rename_i l4 r4 e
          rw [hm2] at e
          simp only [Option.some.injEq, Prod.mk.injEq] at e
          obtain ⟨rfl, rfl⟩ := e
          rfl
    by_cases hlt : high < low
    · rw [if_pos hlt] at e1
      exact .inl ⟨decide_eq_true hlt, e1⟩
    · rw [if_neg hlt] at e1
      refine .inr ⟨decide_eq_false hlt, ?_⟩
      rw [e1, hr]
      rfl
theorem SetR.two_none {RES : Option (S4 × List UInt8)} {s : ByteArray} {first : Bool} {a : Nat} {S : OK} {low : UInt8} {r1 : List UInt8} (h : SetR RES s first a S false) (hv : seesB s a false [93] = false) (hm : memberL (rem s a) = some (low, r1)) (hsp : spansL r1 = true) (hm2 : memberL r1.tail = none) : RES = none := by
  rcases h with ⟨h, _⟩ | ⟨_, h⟩
  · cases h
  · rw [← h, pSet]
    split
    · rfl
    · rename_i l3 r3 e
      rw [hm] at e
      simp only [Option.some.injEq, Prod.mk.injEq] at e
      obtain ⟨rfl, rfl⟩ := e
      rw [if_neg (head_of hv), hsp]
      simp only [if_true]
      split
      · rfl
      · rename_i e; rw [hm2] at e; cases e

/-- How much is left to read. -/
def pmeas (n P : Nat) (w : World) : Nat :=
  match w.cell? ⟨P, 3, none⟩ with
  | some (.bool true) => 0
  | _ => match w.cell? ⟨P, 1, none⟩ with
    | some (.int _ k) => n + 1 - k.toNat
    | _ => 0
theorem PSt.meas {w : World} {P : Nat} {s : ByteArray} {a g : Nat} {bad : Bool} (h : PSt w P s a g bad) : pmeas s.size P w = if bad = true then 0 else s.size + 1 - a := by
  obtain ⟨c0, c1, c2, c3⟩ := h.cells
  unfold pmeas
  rw [c1, c3]
  cases bad <;> simp
def ClassR (s : ByteArray) (a : Nat) (S : OK) (a' : Nat) (bad : Bool) : Prop := (bad = true ∧ pClass (rem s a) = none) ∨ (bad = false ∧ pClass (rem s a) = some (S.1, rem s a'))
def ClassPost (w : World) (P : Nat) (s : ByteArray) (a g : Nat) (e : Ending) (w' : World) : Prop :=
  ∃ (S : OK) (a' : Nat) (bad : Bool), e = .returned S.v ∧ PSt w' P s a' g bad ∧ Touch w w' (· = P) ∧ a' ≤ s.size ∧ ClassR s a S a' bad
theorem pClass_of {s : ByteArray} {a : Nat} {nt : Bool} (h : seesB s a false [94] = nt) : pClass (rem s a) = if nt = true then (pSet true (rem s (a + nt.toNat)) S4.zero).map (fun x => (x.1.not, x.2)) else pSet true (rem s (a + nt.toNat)) S4.zero := by
  unfold pClass
  cases nt with
  | true =>
    obtain ⟨_, hlt, c, r, hr, hc, hr2⟩ := seesB_true h
    have hc : c = 94 := by simpa using hc
    subst hc
    rw [hr]
    simp only [List.head?_cons, if_true, List.tail_cons, Bool.toNat_true]
    rw [← hr2]
  | false =>
    have hne : (rem s a).head? ≠ some 94 := by
      intro hc
      unfold seesB at h
      cases hr : rem s a with
      | nil => rw [hr] at hc; cases hc
      | cons c r =>
        rw [hr] at h hc
        simp at hc
        subst hc
        simp [seesL] at h
    rw [if_neg hne]
    simp
theorem OK.v_inj {x y : OK} (h : x.1 = y.1) : x = y := Subtype.ext h

set_option maxHeartbeats 16000000 in
set_option maxRecDepth 100000 in
theorem class_any (w : World) (P : Nat) (s : ByteArray) (a g : Nat) (hs : s.size ≤ 100) (ha : a ≤ s.size) (h : PSt w P s a g false) :
    Calls Tryd.prog 81 #[.pointer (some ⟨P, 0, none⟩)] w (ClassPost w P s a g) := by
  obtain ⟨nt, hnt⟩ : ∃ nt, seesB s a false [94] = nt := ⟨_, rfl⟩
  have HPC := Lib.hid (pClass_of hnt)
  have hPlt := RowAt.lt h
  obtain ⟨a1, ha1⟩ : ∃ a1, a + nt.toNat = a1 := ⟨_, rfl⟩
  have ha1s : a1 ≤ s.size := by
    cases nt with
    | false => simp at ha1; omega
    | true => obtain ⟨_, hlt, _⟩ := seesB_true hnt; simp at ha1; omega
  have HT := Lib.hid (takes_is (w.alloc (.cells S4.zero.cells 38)) P s a g false hs ha (RowAt.old h _) ⟨#[94]⟩ hnt)
  rw [ha1] at HT HPC
  obtain ⟨RES, hRES⟩ : ∃ RES, pSet true (rem s a1) S4.zero = RES := ⟨_, rfl⟩
  have HRES := Lib.hid hRES
  rw [hRES] at HPC
  clear hnt ha1 hRES
  go_enter Tryd.func81, Tryd.ntmps81
  go_wp2_with fail
  refine HT.out.mono ?_
  rintro e w1 ⟨rfl, hp1, ht1⟩
  go_wp2_with fail
  obtain ⟨B, hB⟩ : ∃ B, w1.heap.size = B := ⟨_, rfl⟩
  have hwB : w.heap.size < B := by
    have := ht1.size
    simp at this
    omega
  have hPB : B ≠ P := by omega
  have hPR : w.heap.size ≠ P := by omega
  have hRB : w.heap.size ≠ B := by omega
  have q1 : PSt (w1.alloc (.cells S4.zero.cells 38)) P s a1 g false := RowAt.old hp1 _
  have q2 : RowAt (w1.alloc (.cells S4.zero.cells 38)) B OK.zero.1.cells 38 := by rw [← hB]; exact RowAt.new w1 _ _
  have q3 : RowAt (w1.alloc (.cells S4.zero.cells 38)) w.heap.size OK.zero.1.cells 38 := by
    refine RowAt.old (RowAt.touch ?_ ht1 hPR) _
    exact RowAt.new w _ _
  have q4 : Touch w (w1.alloc (.cells S4.zero.cells 38)) (· = P) := (((Touch.refl w (· = P)).alloc _).trans ht1).alloc _
  simp only [hB]
  go_loopw [5] (fun v5 wr => ∃ (first : Bool) (a' : Nat) (bad : Bool) (S : OK), v5 = .bool first ∧ PSt wr P s a' g bad ∧ RowAt wr B S.1.cells 38 ∧ RowAt wr w.heap.size OK.zero.1.cells 38 ∧ Touch w wr (· = P) ∧ a' ≤ s.size ∧ Hid (SetR RES s first a' S bad)) (fun _ wr => pmeas s.size P wr)
  case atStart => exact ⟨true, a1, false, OK.zero, rfl, q1, q2, q3, q4, ha1s, .inr ⟨rfl, HRES.out⟩⟩
  case round =>
    obtain ⟨first, a', bad, S, rfl, hp, hRB', hRR, ht, ha', HSR⟩ := hrel
    clear q1 q2 q3 q4
    obtain ⟨c0, c1, c2, c3⟩ := hp.cells
    obtain ⟨f0, f1, f2, f3⟩ := hp.frozen
    cases bad with
    | true =>
      have HNR : Hid (RES = none) := by
        rcases HSR.out with ⟨_, hn⟩ | ⟨hn, _⟩
        · exact hn
        · cases hn
      have HNO : Hid (pClass (rem s a) = none) := by
        show _ = _
        rw [HPC.out, HNR.out]
        cases nt <;> rfl
      go_wp2_with fail
      refine (takes_is _ P s a' g true hs ha' hp ⟨#[93]⟩ (b := false) rfl).mono ?_
      rintro e w2 ⟨rfl, hp2, ht2⟩
      try dsimp only
      have haT := ha'
      have hp2 : PSt w2 P s a' g true := hp2
      have hb2 : RowAt w2 B S.1.cells 38 := RowAt.touch (hRB') ht2 hPB
      have hr2 : RowAt w2 w.heap.size OK.zero.1.cells 38 := RowAt.touch (hRR) ht2 hPR
      have htt := (ht).trans ht2
      obtain ⟨d0, d1, d2, d3⟩ := hp2.cells
      obtain ⟨e0, e1, e2, e3⟩ := hp2.frozen
      have p3 := hp2.setBad true
      have b3 := hb2.other (a := ⟨P, 3, none⟩) (.bool true) (Ne.symm hPB)
      have r3 := hr2.other (a := ⟨P, 3, none⟩) (.bool true) (Ne.symm hPR)
      have t3 := htt.put (a := ⟨P, 3, none⟩) (.bool true) (.inl rfl)
      go_upto_region 17 with fail
      obtain ⟨w3, hw3⟩ : ∃ w3, w2.setCell ⟨P, 3, none⟩ (.bool true) = w3 := ⟨_, rfl⟩
      rw [hw3] at p3 b3 r3 t3
      simp only [hw3]
      clear hw3 hp2 hb2 hr2 htt d0 d1 d2 d3 e0 e1 e2 e3
      have kb := set_cells b3 w3 (Below.refl _ _)
      obtain ⟨kb0, kb1, kb2, kb3⟩ := kb
      obtain ⟨z0, z1, z2, z3⟩ := row_frozen r3 w3 (Below.refl _ _)
      have kr := set_cells r3 w3 (Below.refl _ _)
      obtain ⟨kr0, kr1, kr2, kr3⟩ := kr
      cases nt with
      | true =>
        have HS := Lib.hid (NotX S w3)
        go_wp2_with fail
        refine HS.out.mono ?_
        rintro e w4 ⟨rfl, hb4⟩
        try dsimp only
        have hp4 : PSt w4 P s a' g true := RowAt.later p3 hb4 p3.lt
        have hr4 := r3.later hb4 r3.lt
        have ht4 := t3.trans (Touch.ofBelow (· = P) hb4)
        obtain ⟨y0, y1, y2, y3⟩ := row_frozen hr4 w4 (Below.refl _ _)
        have kr4 := set_cells hr4 w4 (Below.refl _ _)
        obtain ⟨kr40, kr41, kr42, kr43⟩ := kr4
        clear kb0 kb1 kb2 kb3 kr0 kr1 kr2 kr3 z0 z1 z2 z3
        go_wp2_with fail
        have hf := hr4.put4 S.not
        unfold put4 at hf
        have x0 := hf.cellIs 0 _ rfl
        have x1 := hf.cellIs 1 _ rfl
        have x2 := hf.cellIs 2 _ rfl
        have x3 := hf.cellIs 3 _ rfl
        refine bodyPost_ret (by simp [results, Tryd.results81, go_sem, x0, x1, x2, x3]; try rfl) rfl ?_
        exact ⟨S.not, a', true, rfl, hp4.put4_other _ hPR, touch_put4 ht4 (.inr (Nat.le_refl _)) _, haT, .inl ⟨rfl, HNO.out⟩⟩
      | false =>
        go_wp2_with fail
        have hf := r3.put4 S
        unfold put4 at hf
        have x0 := hf.cellIs 0 _ rfl
        have x1 := hf.cellIs 1 _ rfl
        have x2 := hf.cellIs 2 _ rfl
        have x3 := hf.cellIs 3 _ rfl
        refine bodyPost_ret (by simp [results, Tryd.results81, go_sem, x0, x1, x2, x3]; try rfl) rfl ?_
        exact ⟨S, a', true, rfl, PSt.put4_other p3 _ hPR, touch_put4 t3 (.inr (Nat.le_refl _)) _, haT, .inl ⟨rfl, HNO.out⟩⟩
    | false =>
      obtain ⟨v, hv⟩ : ∃ v, seesB s a' false [93] = v := ⟨_, rfl⟩
      have HSE := Lib.hid (fun w hp => sees_is w P s a' g false hs ha' hp ⟨#[93]⟩ hv)
      cases v with
      | true =>
        have HCL := Lib.hid (HSR.out.close hv)
        cases first with
        | true =>
          have HNR : Hid (RES = none) := HCL.out
          have HNO : Hid (pClass (rem s a) = none) := by
            show _ = _
            rw [HPC.out, HNR.out]
            cases nt <;> rfl
          go_wp2_with fail
          refine (HSE.out _ hp).mono ?_
          rintro e w1' ⟨rfl, n, rfl⟩
          try dsimp only
          go_wp2_with fail
          refine (takes_is _ P s a' g true hs ha' ((hp.drewN n).setBad true) ⟨#[93]⟩ (b := false) rfl).mono ?_
          rintro e w2 ⟨rfl, hp2, ht2⟩
          try dsimp only
          have haT := ha'
          have hp2 : PSt w2 P s a' g true := hp2
          have hb2 : RowAt w2 B S.1.cells 38 := RowAt.touch ((hRB'.drewN n).other _ (Ne.symm hPB)) ht2 hPB
          have hr2 : RowAt w2 w.heap.size OK.zero.1.cells 38 := RowAt.touch ((hRR.drewN n).other _ (Ne.symm hPR)) ht2 hPR
          have htt := ((ht.drewN n).put (a := ⟨P, 3, none⟩) (.bool true) (.inl rfl)).trans ht2
          obtain ⟨d0, d1, d2, d3⟩ := hp2.cells
          obtain ⟨e0, e1, e2, e3⟩ := hp2.frozen
          have p3 := hp2.setBad true
          have b3 := hb2.other (a := ⟨P, 3, none⟩) (.bool true) (Ne.symm hPB)
          have r3 := hr2.other (a := ⟨P, 3, none⟩) (.bool true) (Ne.symm hPR)
          have t3 := htt.put (a := ⟨P, 3, none⟩) (.bool true) (.inl rfl)
          go_upto_region 17 with fail
          obtain ⟨w3, hw3⟩ : ∃ w3, w2.setCell ⟨P, 3, none⟩ (.bool true) = w3 := ⟨_, rfl⟩
          rw [hw3] at p3 b3 r3 t3
          simp only [hw3]
          clear hw3 hp2 hb2 hr2 htt d0 d1 d2 d3 e0 e1 e2 e3
          have kb := set_cells b3 w3 (Below.refl _ _)
          obtain ⟨kb0, kb1, kb2, kb3⟩ := kb
          obtain ⟨z0, z1, z2, z3⟩ := row_frozen r3 w3 (Below.refl _ _)
          have kr := set_cells r3 w3 (Below.refl _ _)
          obtain ⟨kr0, kr1, kr2, kr3⟩ := kr
          cases nt with
          | true =>
            have HS := Lib.hid (NotX S w3)
            go_wp2_with fail
            refine HS.out.mono ?_
            rintro e w4 ⟨rfl, hb4⟩
            try dsimp only
            have hp4 : PSt w4 P s a' g true := RowAt.later p3 hb4 p3.lt
            have hr4 := r3.later hb4 r3.lt
            have ht4 := t3.trans (Touch.ofBelow (· = P) hb4)
            obtain ⟨y0, y1, y2, y3⟩ := row_frozen hr4 w4 (Below.refl _ _)
            have kr4 := set_cells hr4 w4 (Below.refl _ _)
            obtain ⟨kr40, kr41, kr42, kr43⟩ := kr4
            clear kb0 kb1 kb2 kb3 kr0 kr1 kr2 kr3 z0 z1 z2 z3
            go_wp2_with fail
            have hf := hr4.put4 S.not
            unfold put4 at hf
            have x0 := hf.cellIs 0 _ rfl
            have x1 := hf.cellIs 1 _ rfl
            have x2 := hf.cellIs 2 _ rfl
            have x3 := hf.cellIs 3 _ rfl
            refine bodyPost_ret (by simp [results, Tryd.results81, go_sem, x0, x1, x2, x3]; try rfl) rfl ?_
            exact ⟨S.not, a', true, rfl, hp4.put4_other _ hPR, touch_put4 ht4 (.inr (Nat.le_refl _)) _, haT, .inl ⟨rfl, HNO.out⟩⟩
          | false =>
            go_wp2_with fail
            have hf := r3.put4 S
            unfold put4 at hf
            have x0 := hf.cellIs 0 _ rfl
            have x1 := hf.cellIs 1 _ rfl
            have x2 := hf.cellIs 2 _ rfl
            have x3 := hf.cellIs 3 _ rfl
            refine bodyPost_ret (by simp [results, Tryd.results81, go_sem, x0, x1, x2, x3]; try rfl) rfl ?_
            exact ⟨S, a', true, rfl, PSt.put4_other p3 _ hPR, touch_put4 t3 (.inr (Nat.le_refl _)) _, haT, .inl ⟨rfl, HNO.out⟩⟩
        | false =>
          have HGOOD : Hid (pClass (rem s a) = some ((if nt = true then S.not else S).1, rem s (a' + 1))) := by
            show _ = _
            rw [HPC.out, HCL.out]
            cases nt <;> rfl
          go_wp2_with (go_at_call 70; refine (HSE.out _ hp).mono ?_; rintro e w1' ⟨rfl, n, rfl⟩)
          refine (takes_is _ P s a' g false hs ha' (hp.drewN n) ⟨#[93]⟩ hv).mono ?_
          rintro e w3 ⟨rfl, hp2, ht2⟩
          try dsimp only
          obtain ⟨_, hltv, _⟩ := seesB_true hv
          have haT : a' + 1 ≤ s.size := hltv
          have p3 : PSt w3 P s (a' + 1) g false := hp2
          have b3 : RowAt w3 B S.1.cells 38 := RowAt.touch (hRB'.drewN n) ht2 hPB
          have r3 : RowAt w3 w.heap.size OK.zero.1.cells 38 := RowAt.touch (hRR.drewN n) ht2 hPR
          have t3 := (ht.drewN n).trans ht2
          clear hp2
          go_upto_region 17 with fail
          have kb := set_cells b3 w3 (Below.refl _ _)
          obtain ⟨kb0, kb1, kb2, kb3⟩ := kb
          obtain ⟨z0, z1, z2, z3⟩ := row_frozen r3 w3 (Below.refl _ _)
          have kr := set_cells r3 w3 (Below.refl _ _)
          obtain ⟨kr0, kr1, kr2, kr3⟩ := kr
          cases nt with
          | true =>
            have HS := Lib.hid (NotX S w3)
            go_wp2_with fail
            refine HS.out.mono ?_
            rintro e w4 ⟨rfl, hb4⟩
            try dsimp only
            have hp4 : PSt w4 P s (a' + 1) g false := RowAt.later p3 hb4 p3.lt
            have hr4 := r3.later hb4 r3.lt
            have ht4 := t3.trans (Touch.ofBelow (· = P) hb4)
            obtain ⟨y0, y1, y2, y3⟩ := row_frozen hr4 w4 (Below.refl _ _)
            have kr4 := set_cells hr4 w4 (Below.refl _ _)
            obtain ⟨kr40, kr41, kr42, kr43⟩ := kr4
            clear kb0 kb1 kb2 kb3 kr0 kr1 kr2 kr3 z0 z1 z2 z3
            go_wp2_with fail
            have hf := hr4.put4 S.not
            unfold put4 at hf
            have x0 := hf.cellIs 0 _ rfl
            have x1 := hf.cellIs 1 _ rfl
            have x2 := hf.cellIs 2 _ rfl
            have x3 := hf.cellIs 3 _ rfl
            refine bodyPost_ret (by simp [results, Tryd.results81, go_sem, x0, x1, x2, x3]; try rfl) rfl ?_
            exact ⟨S.not, (a' + 1), false, rfl, hp4.put4_other _ hPR, touch_put4 ht4 (.inr (Nat.le_refl _)) _, haT, .inr ⟨rfl, HGOOD.out⟩⟩
          | false =>
            go_wp2_with fail
            have hf := r3.put4 S
            unfold put4 at hf
            have x0 := hf.cellIs 0 _ rfl
            have x1 := hf.cellIs 1 _ rfl
            have x2 := hf.cellIs 2 _ rfl
            have x3 := hf.cellIs 3 _ rfl
            refine bodyPost_ret (by simp [results, Tryd.results81, go_sem, x0, x1, x2, x3]; try rfl) rfl ?_
            exact ⟨S, (a' + 1), false, rfl, PSt.put4_other p3 _ hPR, touch_put4 t3 (.inr (Nat.le_refl _)) _, haT, .inr ⟨rfl, HGOOD.out⟩⟩
      | false =>
        cases hm : memberL (rem s a') with
        | none =>
          have HM := Lib.hid (fun W hW => member_bad W P s a' g false hs ha' hW (.inr hm))
          have HNR : Hid (RES = none) := HSR.out.next_none hm
          clear hv
          cases first <;> (
            go_wp2_with (go_at_call 70; refine (HSE.out _ (by first | exact hp | exact hp.drewN _)).mono ?_; rintro e w1' ⟨rfl, n, rfl⟩)
            refine (HM.out _ (by first | exact hp.drewN _ | exact PSt.drewN (hp.drewN _) _)).mono ?_
            rintro e w2 ⟨rfl, a2, hp2, htw, ha2⟩
            try dsimp only
            have ht2 : Touch wr w2 (· = P) := Touch.trans (by first | exact (Touch.refl _ _).drewN _ | exact ((Touch.refl _ _).drewN _).drewN _) htw
            have haN := ha2
            go_wp2_with fail
            refine (spans_is _ P s a2 g true hs ha2 hp2 (b := false) rfl).mono ?_
            rintro e w3' ⟨rfl, n3, rfl⟩
            try dsimp only
            obtain ⟨w3, hw3⟩ : ∃ w3, w2.drewN n3 = w3 := ⟨_, rfl⟩
            have hp3 : PSt w3 P s a2 g true := by rw [← hw3]; exact hp2.drewN _
            have hq3 : Touch wr w3 (· = P) := by rw [← hw3]; exact ht2.drewN _
            simp only [hw3]
            clear hw3 ht2 htw hp2
            have hb3 := RowAt.touch hRB' hq3 hPB
            have hr3 := RowAt.touch hRR hq3 hPR
            have ht3 := ht.trans hq3
            obtain ⟨d0, d1, d2, d3⟩ := hp3.cells
            obtain ⟨e0, e1, e2, e3⟩ := hp3.frozen
            have hlo : (0 : Nat) < 256 := by decide
            have hhi : (0 : Nat) < 256 := by decide
            have HNEW : Hid (SetR RES s false a2 (S.or (OK.span 0 (0 + 1 - 0))) true) := .inl ⟨rfl, HNR.out⟩
            go_upto_region 14 with fail
            obtain ⟨W14, hW14⟩ : ∃ W14, w3.setCell ⟨P, 3, none⟩ (.bool true) = W14 := ⟨_, rfl⟩
            have p14 : PSt W14 P s a2 g true := by rw [← hW14]; exact hp3.setBad _
            have b14 : RowAt W14 B S.1.cells 38 := by rw [← hW14]; exact hb3.other _ (Ne.symm hPB)
            have r14 : RowAt W14 w.heap.size OK.zero.1.cells 38 := by rw [← hW14]; exact hr3.other _ (Ne.symm hPR)
            have t14 : Touch w W14 (· = P) := by rw [← hW14]; exact ht3.put _ (.inl rfl)
            simp only [hW14]
            clear hW14 hp3 hb3 hr3 ht3
            have g14 := set_cells b14
            have z14 := row_frozen b14
            have hb0 : Below W14.heap.size W14 W14.drew := (Below.refl _ _).drew
            have HSP := Lib.hid (SpanK 0 0 hlo hhi)
            obtain ⟨N, hN⟩ : ∃ N, 0 + 1 - 0 = N := ⟨_, rfl⟩
            rw [hN] at HSP HNEW
            have HUN := Lib.hid (UnionX S (OK.span 0 N))
            clear hN
            clear c0 c1 c2 c3 f0 f1 f2 f3 d0 d1 d2 d3 e0 e1 e2 e3
            go_region_with (first | (go_at_call 86; refine (HSP.out _).mono ?_; rintro e w9 ⟨rfl, hb9⟩; have hb9 := below_undrew hb9) | (go_at_call 85; refine (HUN.out _).mono ?_; rintro e w10 ⟨rfl, hb10⟩; have hb10 := below_step hb10 hb9))
            all_goals (
              go_wp2_with fail
              have hq := (b14.later hb10 b14.lt).put4 (S.or (OK.span 0 N))
              have pq := PSt.put4_other (PSt.later p14 hb10) (S.or (OK.span 0 N)) hPB
              have rq := (r14.later hb10 r14.lt).put4_other (S.or (OK.span 0 N)) (Ne.symm hRB)
              have tq := touch_put4 (t14.trans (Touch.ofBelow (· = P) hb10)) (.inr (Nat.le_of_lt hwB)) (S.or (OK.span 0 N))
              go_roundw
              case rel => exact ⟨false, a2, true, _, rfl, pq, hq, rq, tq, haN, HNEW⟩
              case measure =>
                have m1 := pq.meas
                have m2 := hp.meas
                unfold put4 at m1
                first | (rw [m1, m2]; simp; omega) | (simp only [m1, m2]; simp; omega)))
        | some x =>
          obtain ⟨low, r1⟩ := x
          have HM := Lib.hid (fun W hW => member_ok W P s a' g hs hW low r1 hm)
          obtain ⟨sp, hspl⟩ : ∃ sp, spansL r1 = sp := ⟨_, rfl⟩
          cases sp with
          | false =>
            cases first <;> (
              go_wp2_with (go_at_call 70; refine (HSE.out _ (by first | exact hp | exact hp.drewN _)).mono ?_; rintro e w1' ⟨rfl, n, rfl⟩)
              refine (HM.out _ (by first | exact hp.drewN _ | exact PSt.drewN (hp.drewN _) _)).mono ?_
              rintro e w2 ⟨rfl, a2, hp2, htw, ha2, hr2e⟩
              try dsimp only
              have ht2 : Touch wr w2 (· = P) := Touch.trans (by first | exact (Touch.refl _ _).drewN _ | exact ((Touch.refl _ _).drewN _).drewN _) htw
              have HSPL := Lib.hid (spans_is w2 P s a2 g false hs ha2 hp2 (b := false) (by rw [hr2e]; exact hspl))
              go_wp2_with fail
              refine HSPL.out.mono ?_
              rintro e w3' ⟨rfl, n3, rfl⟩
              try dsimp only
              obtain ⟨w3, hw3⟩ : ∃ w3, w2.drewN n3 = w3 := ⟨_, rfl⟩
              have hp3 : PSt w3 P s a2 g false := by rw [← hw3]; exact hp2.drewN _
              have hq3 : Touch wr w3 (· = P) := by rw [← hw3]; exact ht2.drewN _
              simp only [hw3]
              clear hw3 ht2 htw hp2 HSPL
              have hb3 := RowAt.touch hRB' hq3 hPB
              have hr3 := RowAt.touch hRR hq3 hPR
              have ht3 := ht.trans hq3
              obtain ⟨d0, d1, d2, d3⟩ := hp3.cells
              obtain ⟨e0, e1, e2, e3⟩ := hp3.frozen
              have hlo : low.toNat < 256 := low.toNat_lt
              have hhi : low.toNat < 256 := low.toNat_lt
              have haN := ha2
              have HNEW : Hid (SetR RES s false a2 (S.or (OK.span low.toNat (low.toNat + 1 - low.toNat))) false) := HSR.out.one hv hm hspl hr2e
              have HLT := Lib.hid (memberL_lt hm)
              have HLE := Lib.hid hr2e
              clear hr2e
              go_upto_region 14 with fail
              obtain ⟨W14, hW14⟩ : ∃ W14, w3.setCell ⟨P, 3, none⟩ (.bool false) = W14 := ⟨_, rfl⟩
              have p14 : PSt W14 P s a2 g false := by rw [← hW14]; exact hp3.setBad _
              have b14 : RowAt W14 B S.1.cells 38 := by rw [← hW14]; exact hb3.other _ (Ne.symm hPB)
              have r14 : RowAt W14 w.heap.size OK.zero.1.cells 38 := by rw [← hW14]; exact hr3.other _ (Ne.symm hPR)
              have t14 : Touch w W14 (· = P) := by rw [← hW14]; exact ht3.put _ (.inl rfl)
              simp only [hW14]
              clear hW14 hp3 hb3 hr3 ht3
              have g14 := set_cells b14
              have z14 := row_frozen b14
              have hb0 : Below W14.heap.size W14 W14.drew := (Below.refl _ _).drew
              have HSP := Lib.hid (SpanK low.toNat low.toNat hlo hhi)
              obtain ⟨N, hN⟩ : ∃ N, low.toNat + 1 - low.toNat = N := ⟨_, rfl⟩
              rw [hN] at HSP HNEW
              have HUN := Lib.hid (UnionX S (OK.span low.toNat N))
              clear hN
              clear c0 c1 c2 c3 f0 f1 f2 f3 d0 d1 d2 d3 e0 e1 e2 e3
              clear hm hv hspl
              go_region_with (first | (go_at_call 86; refine (HSP.out _).mono ?_; rintro e w9 ⟨rfl, hb9⟩; have hb9 := below_undrew hb9) | (go_at_call 85; refine (HUN.out _).mono ?_; rintro e w10 ⟨rfl, hb10⟩; have hb10 := below_step hb10 hb9))
              all_goals (
                go_wp2_with fail
                have hq := (b14.later hb10 b14.lt).put4 (S.or (OK.span low.toNat N))
                have pq := PSt.put4_other (PSt.later p14 hb10) (S.or (OK.span low.toNat N)) hPB
                have rq := (r14.later hb10 r14.lt).put4_other (S.or (OK.span low.toNat N)) (Ne.symm hRB)
                have tq := touch_put4 (t14.trans (Touch.ofBelow (· = P) hb10)) (.inr (Nat.le_of_lt hwB)) (S.or (OK.span low.toNat N))
                go_roundw
                case rel => exact ⟨false, a2, false, _, rfl, pq, hq, rq, tq, haN, HNEW⟩
                case measure =>
                  have m1 := pq.meas
                  have m2 := hp.meas
                  unfold put4 at m1
                  first | (rw [m1, m2]; (have q1 := HLT.out; rw [← HLE.out, rem_length, rem_length] at q1; simp; omega)) | (simp only [m1, m2]; (have q1 := HLT.out; rw [← HLE.out, rem_length, rem_length] at q1; simp; omega))))
          | true =>
            cases hm2 : memberL r1.tail with
            | none =>
              have HNR : Hid (RES = none) := HSR.out.two_none hv hm hspl hm2
              cases first <;> (
                go_wp2_with (go_at_call 70; refine (HSE.out _ (by first | exact hp | exact hp.drewN _)).mono ?_; rintro e w1' ⟨rfl, n, rfl⟩)
                refine (HM.out _ (by first | exact hp.drewN _ | exact PSt.drewN (hp.drewN _) _)).mono ?_
                rintro e w2 ⟨rfl, a2, hp2, htw, ha2, hr2e⟩
                try dsimp only
                have ht2 : Touch wr w2 (· = P) := Touch.trans (by first | exact (Touch.refl _ _).drewN _ | exact ((Touch.refl _ _).drewN _).drewN _) htw
                have HSPL := Lib.hid (spans_is w2 P s a2 g false hs ha2 hp2 (b := true) (by rw [hr2e]; exact hspl))
                go_wp2_with fail
                refine HSPL.out.mono ?_
                rintro e w3' ⟨rfl, n3, rfl⟩
                try dsimp only
                obtain ⟨w3, hw3⟩ : ∃ w3, w2.drewN n3 = w3 := ⟨_, rfl⟩
                have hp3 : PSt w3 P s a2 g false := by rw [← hw3]; exact hp2.drewN _
                have hq3 : Touch wr w3 (· = P) := by rw [← hw3]; exact ht2.drewN _
                simp only [hw3]
                clear hw3 ht2 htw hp2 HSPL
                obtain ⟨dd, rr, hdd, hd93⟩ := spansL_cons hspl
                rw [hdd] at hr2e
                obtain ⟨hr2t, hlt2⟩ := rem_tail hr2e
                have htl : r1.tail = rem s (a2 + 1) := by rw [hdd, ← hr2t]; rfl
                have HTL := Lib.hid htl
                clear hr2e hdd hr2t htl
                obtain ⟨d0, d1, d2, d3⟩ := hp3.cells
                obtain ⟨e0, e1, e2, e3⟩ := hp3.frozen
                have hp4 := hp3.setAt (a2 + 1)
                have hq4 := hq3.put (a := ⟨P, 1, none⟩) (.int .i64 ((a2 + 1 : Nat) : Int)) (.inl rfl)
                have hlo : low.toNat < 256 := low.toNat_lt
                go_wp2_with fail
                refine (member_bad _ P s (a2 + 1) g false hs hlt2 hp4 (.inr (by rw [← HTL.out]; exact hm2))).mono ?_
                rintro e w5 ⟨rfl, a5, hp5, ht5, ha5⟩
                try dsimp only
                obtain ⟨w3', hw3'⟩ : ∃ w3', w5 = w3' := ⟨_, rfl⟩
                clear hw3'
                clear d0 d1 d2 d3 e0 e1 e2 e3 hp3
                obtain ⟨d0, d1, d2, d3⟩ := hp5.cells
                obtain ⟨e0, e1, e2, e3⟩ := hp5.frozen
                have hq5 := hq4.trans ht5
                have hb3 := RowAt.touch hRB' hq5 hPB
                have hr3 := RowAt.touch hRR hq5 hPR
                have ht3 := ht.trans hq5
                have hhi : (0 : Nat) < 256 := by decide
                have haN := ha5
                have hp3 := hp5
                clear hq5 hq4 hq3 hp4 hp5
                have HNEW : Hid (SetR RES s false a5 (S.or (OK.span low.toNat (0 + 1 - low.toNat))) true) := .inl ⟨rfl, HNR.out⟩
                go_upto_region 14 with fail
                obtain ⟨W14, hW14⟩ : ∃ W14, w5.setCell ⟨P, 3, none⟩ (.bool true) = W14 := ⟨_, rfl⟩
                have p14 : PSt W14 P s a5 g true := by rw [← hW14]; exact hp3.setBad _
                have b14 : RowAt W14 B S.1.cells 38 := by rw [← hW14]; exact hb3.other _ (Ne.symm hPB)
                have r14 : RowAt W14 w.heap.size OK.zero.1.cells 38 := by rw [← hW14]; exact hr3.other _ (Ne.symm hPR)
                have t14 : Touch w W14 (· = P) := by rw [← hW14]; exact ht3.put _ (.inl rfl)
                simp only [hW14]
                clear hW14 hp3 hb3 hr3 ht3
                have g14 := set_cells b14
                have z14 := row_frozen b14
                have hb0 : Below W14.heap.size W14 W14.drew := (Below.refl _ _).drew
                have HSP := Lib.hid (SpanK low.toNat 0 hlo hhi)
                obtain ⟨N, hN⟩ : ∃ N, 0 + 1 - low.toNat = N := ⟨_, rfl⟩
                rw [hN] at HSP HNEW
                have HUN := Lib.hid (UnionX S (OK.span low.toNat N))
                clear hN
                clear c0 c1 c2 c3 f0 f1 f2 f3 d0 d1 d2 d3 e0 e1 e2 e3
                clear hm hv hspl hm2
                go_region_with (first | (go_at_call 86; refine (HSP.out _).mono ?_; rintro e w9 ⟨rfl, hb9⟩; have hb9 := below_undrew hb9) | (go_at_call 85; refine (HUN.out _).mono ?_; rintro e w10 ⟨rfl, hb10⟩; have hb10 := below_step hb10 hb9))
                all_goals (
                  go_wp2_with fail
                  have hq := (b14.later hb10 b14.lt).put4 (S.or (OK.span low.toNat N))
                  have pq := PSt.put4_other (PSt.later p14 hb10) (S.or (OK.span low.toNat N)) hPB
                  have rq := (r14.later hb10 r14.lt).put4_other (S.or (OK.span low.toNat N)) (Ne.symm hRB)
                  have tq := touch_put4 (t14.trans (Touch.ofBelow (· = P) hb10)) (.inr (Nat.le_of_lt hwB)) (S.or (OK.span low.toNat N))
                  go_roundw
                  case rel => exact ⟨false, a5, true, _, rfl, pq, hq, rq, tq, haN, HNEW⟩
                  case measure =>
                    have m1 := pq.meas
                    have m2 := hp.meas
                    unfold put4 at m1
                    first | (rw [m1, m2]; simp; omega) | (simp only [m1, m2]; simp; omega)))
            | some y =>
              obtain ⟨high, r2⟩ := y
              obtain ⟨hl, hhl⟩ : ∃ hl, decide (high < low) = hl := ⟨_, rfl⟩
              cases hl with
              | true =>
                cases first <;> (
                  go_wp2_with (go_at_call 70; refine (HSE.out _ (by first | exact hp | exact hp.drewN _)).mono ?_; rintro e w1' ⟨rfl, n, rfl⟩)
                  refine (HM.out _ (by first | exact hp.drewN _ | exact PSt.drewN (hp.drewN _) _)).mono ?_
                  rintro e w2 ⟨rfl, a2, hp2, htw, ha2, hr2e⟩
                  try dsimp only
                  have ht2 : Touch wr w2 (· = P) := Touch.trans (by first | exact (Touch.refl _ _).drewN _ | exact ((Touch.refl _ _).drewN _).drewN _) htw
                  have HSPL := Lib.hid (spans_is w2 P s a2 g false hs ha2 hp2 (b := true) (by rw [hr2e]; exact hspl))
                  go_wp2_with fail
                  refine HSPL.out.mono ?_
                  rintro e w3' ⟨rfl, n3, rfl⟩
                  try dsimp only
                  obtain ⟨w3, hw3⟩ : ∃ w3, w2.drewN n3 = w3 := ⟨_, rfl⟩
                  have hp3 : PSt w3 P s a2 g false := by rw [← hw3]; exact hp2.drewN _
                  have hq3 : Touch wr w3 (· = P) := by rw [← hw3]; exact ht2.drewN _
                  simp only [hw3]
                  clear hw3 ht2 htw hp2 HSPL
                  obtain ⟨dd, rr, hdd, hd93⟩ := spansL_cons hspl
                  rw [hdd] at hr2e
                  obtain ⟨hr2t, hlt2⟩ := rem_tail hr2e
                  have htl : r1.tail = rem s (a2 + 1) := by rw [hdd, ← hr2t]; rfl
                  have HTL := Lib.hid htl
                  clear hr2e hdd hr2t htl
                  obtain ⟨d0, d1, d2, d3⟩ := hp3.cells
                  obtain ⟨e0, e1, e2, e3⟩ := hp3.frozen
                  have hp4 := hp3.setAt (a2 + 1)
                  have hq4 := hq3.put (a := ⟨P, 1, none⟩) (.int .i64 ((a2 + 1 : Nat) : Int)) (.inl rfl)
                  have hlo : low.toNat < 256 := low.toNat_lt
                  go_wp2_with fail
                  refine (member_ok _ P s (a2 + 1) g hs hp4 high r2 (by rw [← HTL.out]; exact hm2)).mono ?_
                  rintro e w5 ⟨rfl, a5, hp5, ht5, ha5, hr5⟩
                  try dsimp only
                  clear d0 d1 d2 d3 e0 e1 e2 e3 hp3
                  obtain ⟨d0, d1, d2, d3⟩ := hp5.cells
                  obtain ⟨e0, e1, e2, e3⟩ := hp5.frozen
                  have hq5 := hq4.trans ht5
                  have hb3 := RowAt.touch hRB' hq5 hPB
                  have hr3 := RowAt.touch hRR hq5 hPR
                  have ht3 := ht.trans hq5
                  have hhi : high.toNat < 256 := high.toNat_lt
                  have haN := ha5
                  have hp3 := hp5
                  clear hq5 hq4 hq3 hp4 hp5
                  have HNEW : Hid (SetR RES s false a5 (S.or (OK.span low.toNat (high.toNat + 1 - low.toNat))) true) := by
                    have q := HSR.out.two hv hm hspl hm2 hr5
                    rw [hhl] at q
                    exact q
                  have hhd : decide ((high.toNat : Int) < (low.toNat : Int)) = true := by
                    rw [← hhl]
                    have q : (high < low) = (high.toNat < low.toNat) := by rw [UInt8.lt_iff_toNat_lt]
                    simp only [q]
                    rw [Bool.eq_iff_iff]; simp
                  have hhn : decide (high.toNat < low.toNat) = true := by
                    rw [← hhd, Bool.eq_iff_iff]; simp
                  have HLT := Lib.hid (memberL_lt hm)
                  have HLT2 := Lib.hid (memberL_lt hm2)
                  have HLE := Lib.hid hr5
                  have HTLL := Lib.hid (show r1.tail.length ≤ r1.length by simp)
                  clear hr5 hhl
                  go_upto_region 14 with fail
                  obtain ⟨W14, hW14⟩ : ∃ W14, w5.setCell ⟨P, 3, none⟩ (.bool true) = W14 := ⟨_, rfl⟩
                  have p14 : PSt W14 P s a5 g true := by rw [← hW14]; exact hp3.setBad _
                  have b14 : RowAt W14 B S.1.cells 38 := by rw [← hW14]; exact hb3.other _ (Ne.symm hPB)
                  have r14 : RowAt W14 w.heap.size OK.zero.1.cells 38 := by rw [← hW14]; exact hr3.other _ (Ne.symm hPR)
                  have t14 : Touch w W14 (· = P) := by rw [← hW14]; exact ht3.put _ (.inl rfl)
                  simp only [hW14]
                  clear hW14 hp3 hb3 hr3 ht3
                  have g14 := set_cells b14
                  have z14 := row_frozen b14
                  have hb0 : Below W14.heap.size W14 W14.drew := (Below.refl _ _).drew
                  have HSP := Lib.hid (SpanK low.toNat high.toNat hlo hhi)
                  obtain ⟨N, hN⟩ : ∃ N, high.toNat + 1 - low.toNat = N := ⟨_, rfl⟩
                  rw [hN] at HSP HNEW
                  have HUN := Lib.hid (UnionX S (OK.span low.toNat N))
                  clear hN
                  clear c0 c1 c2 c3 f0 f1 f2 f3 d0 d1 d2 d3 e0 e1 e2 e3
                  clear hm hv hspl hm2
                  go_region_with (first | (go_at_call 86; refine (HSP.out _).mono ?_; rintro e w9 ⟨rfl, hb9⟩; have hb9 := below_undrew hb9) | (go_at_call 85; refine (HUN.out _).mono ?_; rintro e w10 ⟨rfl, hb10⟩; have hb10 := below_step hb10 hb9))
                  all_goals (
                    go_wp2_with fail
                    have hq := (b14.later hb10 b14.lt).put4 (S.or (OK.span low.toNat N))
                    have pq := PSt.put4_other (PSt.later p14 hb10) (S.or (OK.span low.toNat N)) hPB
                    have rq := (r14.later hb10 r14.lt).put4_other (S.or (OK.span low.toNat N)) (Ne.symm hRB)
                    have tq := touch_put4 (t14.trans (Touch.ofBelow (· = P) hb10)) (.inr (Nat.le_of_lt hwB)) (S.or (OK.span low.toNat N))
                    go_roundw
                    case rel => exact ⟨false, a5, true, _, rfl, pq, hq, rq, tq, haN, HNEW⟩
                    case measure =>
                      have m1 := pq.meas
                      have m2 := hp.meas
                      unfold put4 at m1
                      first | (rw [m1, m2]; simp; omega) | (simp only [m1, m2]; simp; omega)))
              | false =>
                cases first <;> (
                  go_wp2_with (go_at_call 70; refine (HSE.out _ (by first | exact hp | exact hp.drewN _)).mono ?_; rintro e w1' ⟨rfl, n, rfl⟩)
                  refine (HM.out _ (by first | exact hp.drewN _ | exact PSt.drewN (hp.drewN _) _)).mono ?_
                  rintro e w2 ⟨rfl, a2, hp2, htw, ha2, hr2e⟩
                  try dsimp only
                  have ht2 : Touch wr w2 (· = P) := Touch.trans (by first | exact (Touch.refl _ _).drewN _ | exact ((Touch.refl _ _).drewN _).drewN _) htw
                  have HSPL := Lib.hid (spans_is w2 P s a2 g false hs ha2 hp2 (b := true) (by rw [hr2e]; exact hspl))
                  go_wp2_with fail
                  refine HSPL.out.mono ?_
                  rintro e w3' ⟨rfl, n3, rfl⟩
                  try dsimp only
                  obtain ⟨w3, hw3⟩ : ∃ w3, w2.drewN n3 = w3 := ⟨_, rfl⟩
                  have hp3 : PSt w3 P s a2 g false := by rw [← hw3]; exact hp2.drewN _
                  have hq3 : Touch wr w3 (· = P) := by rw [← hw3]; exact ht2.drewN _
                  simp only [hw3]
                  clear hw3 ht2 htw hp2 HSPL
                  obtain ⟨dd, rr, hdd, hd93⟩ := spansL_cons hspl
                  rw [hdd] at hr2e
                  obtain ⟨hr2t, hlt2⟩ := rem_tail hr2e
                  have htl : r1.tail = rem s (a2 + 1) := by rw [hdd, ← hr2t]; rfl
                  have HTL := Lib.hid htl
                  clear hr2e hdd hr2t htl
                  obtain ⟨d0, d1, d2, d3⟩ := hp3.cells
                  obtain ⟨e0, e1, e2, e3⟩ := hp3.frozen
                  have hp4 := hp3.setAt (a2 + 1)
                  have hq4 := hq3.put (a := ⟨P, 1, none⟩) (.int .i64 ((a2 + 1 : Nat) : Int)) (.inl rfl)
                  have hlo : low.toNat < 256 := low.toNat_lt
                  go_wp2_with fail
                  refine (member_ok _ P s (a2 + 1) g hs hp4 high r2 (by rw [← HTL.out]; exact hm2)).mono ?_
                  rintro e w5 ⟨rfl, a5, hp5, ht5, ha5, hr5⟩
                  try dsimp only
                  clear d0 d1 d2 d3 e0 e1 e2 e3 hp3
                  obtain ⟨d0, d1, d2, d3⟩ := hp5.cells
                  obtain ⟨e0, e1, e2, e3⟩ := hp5.frozen
                  have hq5 := hq4.trans ht5
                  have hb3 := RowAt.touch hRB' hq5 hPB
                  have hr3 := RowAt.touch hRR hq5 hPR
                  have ht3 := ht.trans hq5
                  have hhi : high.toNat < 256 := high.toNat_lt
                  have haN := ha5
                  have hp3 := hp5
                  clear hq5 hq4 hq3 hp4 hp5
                  have HNEW : Hid (SetR RES s false a5 (S.or (OK.span low.toNat (high.toNat + 1 - low.toNat))) false) := by
                    have q := HSR.out.two hv hm hspl hm2 hr5
                    rw [hhl] at q
                    exact q
                  have hhd : decide ((high.toNat : Int) < (low.toNat : Int)) = false := by
                    rw [← hhl]
                    have q : (high < low) = (high.toNat < low.toNat) := by rw [UInt8.lt_iff_toNat_lt]
                    simp only [q]
                    rw [Bool.eq_iff_iff]; simp
                  have hhn : decide (high.toNat < low.toNat) = false := by
                    rw [← hhd, Bool.eq_iff_iff]; simp
                  have HLT := Lib.hid (memberL_lt hm)
                  have HLT2 := Lib.hid (memberL_lt hm2)
                  have HLE := Lib.hid hr5
                  have HTLL := Lib.hid (show r1.tail.length ≤ r1.length by simp)
                  clear hr5 hhl
                  go_upto_region 14 with fail
                  obtain ⟨W14, hW14⟩ : ∃ W14, w5.setCell ⟨P, 3, none⟩ (.bool false) = W14 := ⟨_, rfl⟩
                  have p14 : PSt W14 P s a5 g false := by rw [← hW14]; exact hp3.setBad _
                  have b14 : RowAt W14 B S.1.cells 38 := by rw [← hW14]; exact hb3.other _ (Ne.symm hPB)
                  have r14 : RowAt W14 w.heap.size OK.zero.1.cells 38 := by rw [← hW14]; exact hr3.other _ (Ne.symm hPR)
                  have t14 : Touch w W14 (· = P) := by rw [← hW14]; exact ht3.put _ (.inl rfl)
                  simp only [hW14]
                  clear hW14 hp3 hb3 hr3 ht3
                  have g14 := set_cells b14
                  have z14 := row_frozen b14
                  have hb0 : Below W14.heap.size W14 W14.drew := (Below.refl _ _).drew
                  have HSP := Lib.hid (SpanK low.toNat high.toNat hlo hhi)
                  obtain ⟨N, hN⟩ : ∃ N, high.toNat + 1 - low.toNat = N := ⟨_, rfl⟩
                  rw [hN] at HSP HNEW
                  have HUN := Lib.hid (UnionX S (OK.span low.toNat N))
                  clear hN
                  clear c0 c1 c2 c3 f0 f1 f2 f3 d0 d1 d2 d3 e0 e1 e2 e3
                  clear hm hv hspl hm2
                  go_region_with (first | (go_at_call 86; refine (HSP.out _).mono ?_; rintro e w9 ⟨rfl, hb9⟩; have hb9 := below_undrew hb9) | (go_at_call 85; refine (HUN.out _).mono ?_; rintro e w10 ⟨rfl, hb10⟩; have hb10 := below_step hb10 hb9))
                  all_goals (
                    go_wp2_with fail
                    have hq := (b14.later hb10 b14.lt).put4 (S.or (OK.span low.toNat N))
                    have pq := PSt.put4_other (PSt.later p14 hb10) (S.or (OK.span low.toNat N)) hPB
                    have rq := (r14.later hb10 r14.lt).put4_other (S.or (OK.span low.toNat N)) (Ne.symm hRB)
                    have tq := touch_put4 (t14.trans (Touch.ofBelow (· = P) hb10)) (.inr (Nat.le_of_lt hwB)) (S.or (OK.span low.toNat N))
                    go_roundw
                    case rel => exact ⟨false, a5, false, _, rfl, pq, hq, rq, tq, haN, HNEW⟩
                    case measure =>
                      have m1 := pq.meas
                      have m2 := hp.meas
                      unfold put4 at m1
                      first | (rw [m1, m2]; (have q1 := HLT.out; have q2 := HLT2.out; have q3 := HTLL.out; rw [← HLE.out, rem_length] at q2; rw [rem_length] at q1; simp; omega)) | (simp only [m1, m2]; (have q1 := HLT.out; have q2 := HLT2.out; have q3 := HTLL.out; rw [← HLE.out, rem_length] at q2; rw [rem_length] at q1; simp; omega))))

end Go.Proofs.YtkddighepgpccaaDoor
