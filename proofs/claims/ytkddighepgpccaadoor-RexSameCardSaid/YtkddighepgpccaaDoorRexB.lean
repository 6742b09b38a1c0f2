/-
  The walk of the parser's branch.
-/
import Derived.Test.YtkddighepgpccaaDoorRexW
namespace Go.Proofs.YtkddighepgpccaaDoor
open Go Go.RowKit
set_option linter.unusedSimpArgs false
set_option linter.unusedVariables false

def Stops (l : List UInt8) : Prop := l = [] ∨ (∃ r, l = 124 :: r) ∨ ∃ r, l = 41 :: r
def BranchR (s : ByteArray) (a g : Nat) (bad : Bool) (t : T) (a' g' : Nat) : Prop :=
  (bad = true ∧ ∀ done, Run (rem s a) g done [] = none) ∨
  (bad = false ∧ Stops (rem s a') ∧ ∃ cur, t = joinT 2 cur ∧ ∀ done, Run (rem s a) g done [] = Run (rem s a') g' done cur)
def AG (bad : Bool) (a a' g' n : Nat) : Prop := bad = false → a ≤ a' ∧ g' ≤ a' ∧ n ≤ a'
def BranchI (s : ByteArray) (a g : Nat) (bad : Bool) (cur : List T) (a' g' : Nat) : Prop :=
  (bad = true ∧ ∀ done, Run (rem s a) g done [] = none) ∨
  (bad = false ∧ (cur ≠ [] → notOp (rem s a')) ∧ ∀ done, Run (rem s a) g done [] = Run (rem s a') g' done cur)
theorem BranchI.close {s : ByteArray} {a g a' g' : Nat} {bad : Bool} {cur : List T} (h : BranchI s a g bad cur a' g') (hs : bad = false → Stops (rem s a')) : BranchR s a g bad (joinT 2 cur) a' g' := by
  rcases h with h | ⟨hb, _, h⟩
  · exact .inl h
  · exact .inr ⟨hb, hs hb, cur, rfl, h⟩
theorem BranchI.next {s : ByteArray} {a g a1 g1 a' g' : Nat} {bad : Bool} {cur : List T} {t : T} {c : UInt8} {r : List UInt8} (h : BranchI s a g false cur a1 g1) (hr : rem s a1 = c :: r) (hi : ItemR s a1 g1 bad t a' g') : BranchI s a g bad (cur ++ [t]) a' g' := by
  obtain ⟨hi, hno⟩ := hi
  rcases h with ⟨h, _⟩ | ⟨_, h1, h2⟩
  · cases h
  · rcases hi with ⟨hb, hi⟩ | ⟨hb, hlt, hi⟩
    · refine .inl ⟨hb, fun done => ?_⟩
      rw [h2]
      rcases hi with ⟨c', r', hr', hop⟩ | hi
      · rw [hr] at hr'
        injection hr' with e1 e2
        subst e1 e2
        by_cases hc : cur = []
        · subst hc
          rw [hr]
          refine Run_op_none hop (?_ : lex1 (c :: r) = some (.mark c, r)) g1 done
          have hn : c = 42 ∨ c = 43 ∨ c = 63 := by simpa [isOp, or_assoc] using hop
          rcases hn with rfl | rfl | rfl <;> rfl
        · have := h1 hc c r hr
          rw [this] at hop
          cases hop
      · exact hi done cur
    · refine .inr ⟨hb, fun _ => hno hb, fun done => ?_⟩
      rw [h2]
      exact hi done cur
theorem Joined2 (v : Value) (ts : List T) (B : Nat) (w : World) (hB : B ≤ w.heap.size) (h : NRow 41 B w v ts) :
    Calls Tryd.prog 47 #[.int .i64 2, v] w (TreePost B (joinT 2 ts) w) := joined_any 2 (by decide) v ts B w hB h
theorem Joined3 (v : Value) (ts : List T) (B : Nat) (w : World) (hB : B ≤ w.heap.size) (h : NRow 41 B w v ts) :
    Calls Tryd.prog 47 #[.int .i64 3, v] w (TreePost B (joinT 3 ts) w) := joined_any 3 (by decide) v ts B w hB h

set_option maxHeartbeats 8000000 in
set_option maxRecDepth 100000 in
theorem branch_any (n : Nat) (hE : ExprC n) (w : World) (P : Nat) (s : ByteArray) (a g : Nat) (hs : s.size ≤ 100) (ha : a ≤ s.size) (hg : g ≤ a) (hn : (rem s a).length < n + 1) (h : PSt w P s a g false) :
    Calls Tryd.prog 58 #[.pointer (some ⟨P, 0, none⟩)] w (PartPost w P s a (BranchR s a g)) := by
  have hP := RowAt.lt h
  have hPR : w.heap.size ≠ P := by omega
  obtain ⟨V, hV⟩ : ∃ V, w.alloc (.cells #[.int .i64 0, .int .i64 0, .int .u64 0, .int .u64 0, .int .u64 0, .int .u64 0, .slice none 0 0] 41) = V := ⟨_, rfl⟩
  have v1 : PSt V P s a g false := by rw [← hV]; exact RowAt.old h _
  have v2 : RowAt V w.heap.size #[.int .i64 0, .int .i64 0, .int .u64 0, .int .u64 0, .int .u64 0, .int .u64 0, .slice none 0 0] 41 := by rw [← hV]; exact RowAt.new _ _ _
  have v3 : Touch w V (· = P) := by rw [← hV]; exact (Touch.refl w (· = P)).alloc _
  have HV := Lib.hid hV
  have HN := Lib.hid hn
  have HE := Lib.hid hE
  clear hV hE hn
  go_enter Tryd.func58, Tryd.ntmps58
  go_wp2_with fail
  have hV := HV.out
  simp only [hV]
  clear hV HV
  go_loopw [3] (fun v wr => ∃ (cur : List T) (a' g' : Nat) (bad : Bool), PSt wr P s a' g' bad ∧ RowAt wr w.heap.size #[.int .i64 0, .int .i64 0, .int .u64 0, .int .u64 0, .int .u64 0, .int .u64 0, .slice none 0 0] 41 ∧ NRow 41 (w.heap.size + 1) wr v cur ∧ Touch w wr (· = P) ∧ a' ≤ s.size ∧ AG bad a a' g' cur.length ∧ cur.length ≤ 101 ∧ Hid (BranchI s a g bad cur a' g')) (fun _ wr => pmeas s.size P wr)
  case atStart => exact ⟨[], a, g, false, v1, v2, NRow.nil _ _ _, v3, ha, (fun _ => ⟨Nat.le_refl _, hg, Nat.zero_le _⟩), Nat.zero_le _, .inr ⟨rfl, (fun h => absurd rfl h), fun _ => rfl⟩⟩
  case round =>
    clear v1 v2 v3
    obtain ⟨cur, a', g', bad, hp, hRR, hrow, htc, ha', hag, hcl, HI⟩ := hrel
    have hsz := htc.size
    have HAG := Lib.hid hag
    clear hag
    have hRlt : w.heap.size < wr.heap.size := RowAt.lt hRR
    by_cases hnone : bad = true ∨ rem s a' = []
    · have HST : Hid (bad = false → Stops (rem s a')) := fun hb => by
        rcases hnone with h | h
        · rw [hb] at h; cases h
        · exact .inl h
      have HNX := Lib.hid (next_none wr P s a' g' bad hs ha' hp hnone)
      clear hnone
      go_wp2_with fail
      refine HNX.out.mono ?_
      rintro e w1 ⟨rfl, n1, rfl⟩
      try dsimp only
      obtain ⟨w1, hw1⟩ : ∃ w1, wr.drewN n1 = w1 := ⟨_, rfl⟩
      have yp : PSt w1 P s a' g' bad := by rw [← hw1]; exact hp
      have yr : RowAt w1 w.heap.size #[.int .i64 0, .int .i64 0, .int .u64 0, .int .u64 0, .int .u64 0, .int .u64 0, .slice none 0 0] 41 := by rw [← hw1]; exact hRR
      have yd : Touch wr w1 (fun _ => False) := by rw [← hw1]; exact ⟨rfl, rfl, rfl, Nat.le_refl _, fun _ _ _ => rfl⟩
      have yrow := hrow.touch yd (fun _ _ h => h)
      have yc := htc.trans (yd.mono (fun _ h => h.elim))
      have hs1 : w1.heap.size = wr.heap.size := by rw [← hw1]; rfl
      simp only [hw1]
      clear hw1 yd
      clear hs1
      go_wp2_with fail
      refine (Joined2 u3 cur (w.heap.size + 1) w1 (RowAt.lt yr) yrow).mono ?_
      rintro e w2 ⟨cs, rfl, ht, hb2⟩
      try dsimp only
      have HR : Hid (BranchR s a g bad (joinT 2 cur) a' g') := HI.out.close (HST.out)
      obtain ⟨k, i, S, ks, A, cc, hT, rfl, hSok⟩ := ht.form
      have HT := Lib.hid ht
      have r2 := RowAt.later yr hb2 (RowAt.lt yr)
      have p2 : PSt w2 P s a' g' bad := RowAt.later yp hb2 (RowAt.lt yp)
      have t2 := yc.trans (Touch.ofBelow (· = P) hb2)
      unfold nodeC
      clear ht hT
      obtain ⟨⟨n0, n1, n2, n3, n4, n5, n6⟩, m0, m1, m2, m3, m4, m5, m6⟩ := node_facts (k := 0) (i := 0) (s := S4.zero) (sl := .slice none 0 0) r2
      go_wp2_with fail
      obtain ⟨z0, z1, z2, z3, z4, z5, z6⟩ := row7 (RowAt.seven r2 (.int .i64 (k : Int)) (.int .i64 (i : Int)) (.int .u64 (S.a0 : Int)) (.int .u64 (S.a1 : Int)) (.int .u64 (S.a2 : Int)) (.int .u64 (S.a3 : Int)) (.slice A ks.length cc))
      refine bodyPost_ret (v := .agg (nodeC k i S (.slice A ks.length cc))) (by simp [results, Tryd.results58, go_sem, nodeC, z0, z1, z2, z3, z4, z5, z6]) rfl ?_
      have tq := touch_putN (Touch.refl w2 (· = w.heap.size)) (.inl rfl) k i S (.slice A ks.length cc)
      exact ⟨_, _, a', g', bad, rfl, HT.out.touch tq (fun b hb => (by omega)) (fun b hb => (by omega)), RowAt.putN_other p2 k i S (.slice A ks.length cc) hPR, touch_putN t2 (.inr (Nat.le_refl _)) k i S (.slice A ks.length cc), ha', (fun hb => ⟨(HAG.out hb).1, (HAG.out hb).2.1⟩), HR.out⟩
    · obtain rfl : bad = false := by cases bad <;> simp_all
      cases hr : rem s a' with
      | nil => exact absurd (Or.inr hr) hnone
      | cons c r =>
        have HNX := Lib.hid (next_some wr P s a' g' hs hp c r hr)
        obtain ⟨v1, hv1⟩ : ∃ v, seesB s a' false [124, 41] = v := ⟨_, rfl⟩
        have HSE := Lib.hid (fun n1 => sees_is (wr.drewN n1) P s a' g' false hs ha' (hp.drewN n1) ⟨#[124, 41]⟩ hv1)
        have HC : Hid (if v1 = true then Stops (rem s a') else c ≠ 124 ∧ c ≠ 41) := by
          show if v1 = true then Stops (rem s a') else c ≠ 124 ∧ c ≠ 41
          have hv : seesL [124, 41] (c :: r) = v1 := by rw [← hv1]; unfold seesB; rw [hr]; rfl
          simp [seesL] at hv
          cases v1 with
          | true =>
            simp at hv
            rw [if_pos rfl, hr]
            rcases hv with rfl | rfl
            · exact .inr (.inl ⟨r, rfl⟩)
            · exact .inr (.inr ⟨r, rfl⟩)
          | false =>
            simp at hv
            rw [if_neg (by simp)]
            exact hv
        obtain ⟨hrt, hlt⟩ := rem_tail hr
        have HRR := Lib.hid hr
        clear hnone hv1 hr hrt
        cases v1 with
        | true =>
          have HST : Hid (Stops (rem s a')) := HC.out
          clear HC
          go_wp2_with fail
          refine HNX.out.mono ?_
          rintro e w1 ⟨rfl, n1, rfl⟩
          try dsimp only
          go_wp2_with fail
          refine (HSE.out _).mono ?_
          rintro e w1 ⟨rfl, n2, rfl⟩
          try dsimp only
          obtain ⟨w1, hw1⟩ : ∃ w1, (wr.drewN n1).drewN n2 = w1 := ⟨_, rfl⟩
          have yp : PSt w1 P s a' g' false := by rw [← hw1]; exact hp
          have yr : RowAt w1 w.heap.size #[.int .i64 0, .int .i64 0, .int .u64 0, .int .u64 0, .int .u64 0, .int .u64 0, .slice none 0 0] 41 := by rw [← hw1]; exact hRR
          have yd : Touch wr w1 (fun _ => False) := by rw [← hw1]; exact ⟨rfl, rfl, rfl, Nat.le_refl _, fun _ _ _ => rfl⟩
          have yrow := hrow.touch yd (fun _ _ h => h)
          have yc := htc.trans (yd.mono (fun _ h => h.elim))
          have hs1 : w1.heap.size = wr.heap.size := by rw [← hw1]; rfl
          simp only [hw1]
          clear hw1 yd
          clear hs1
          go_wp2_with fail
          refine (Joined2 u3 cur (w.heap.size + 1) w1 (RowAt.lt yr) yrow).mono ?_
          rintro e w2 ⟨cs, rfl, ht, hb2⟩
          try dsimp only
          have HR : Hid (BranchR s a g false (joinT 2 cur) a' g') := HI.out.close (fun _ => HST.out)
          obtain ⟨k, i, S, ks, A, cc, hT, rfl, hSok⟩ := ht.form
          have HT := Lib.hid ht
          have r2 := RowAt.later yr hb2 (RowAt.lt yr)
          have p2 : PSt w2 P s a' g' false := RowAt.later yp hb2 (RowAt.lt yp)
          have t2 := yc.trans (Touch.ofBelow (· = P) hb2)
          unfold nodeC
          clear ht hT
          obtain ⟨⟨n0, n1, n2, n3, n4, n5, n6⟩, m0, m1, m2, m3, m4, m5, m6⟩ := node_facts (k := 0) (i := 0) (s := S4.zero) (sl := .slice none 0 0) r2
          go_wp2_with fail
          obtain ⟨z0, z1, z2, z3, z4, z5, z6⟩ := row7 (RowAt.seven r2 (.int .i64 (k : Int)) (.int .i64 (i : Int)) (.int .u64 (S.a0 : Int)) (.int .u64 (S.a1 : Int)) (.int .u64 (S.a2 : Int)) (.int .u64 (S.a3 : Int)) (.slice A ks.length cc))
          refine bodyPost_ret (v := .agg (nodeC k i S (.slice A ks.length cc))) (by simp [results, Tryd.results58, go_sem, nodeC, z0, z1, z2, z3, z4, z5, z6]) rfl ?_
          have tq := touch_putN (Touch.refl w2 (· = w.heap.size)) (.inl rfl) k i S (.slice A ks.length cc)
          exact ⟨_, _, a', g', false, rfl, HT.out.touch tq (fun b hb => (by omega)) (fun b hb => (by omega)), RowAt.putN_other p2 k i S (.slice A ks.length cc) hPR, touch_putN t2 (.inr (Nat.le_refl _)) k i S (.slice A ks.length cc), ha', (fun hb => ⟨(HAG.out hb).1, (HAG.out hb).2.1⟩), HR.out⟩
        | false =>
          have HC2 : Hid (c ≠ 124 ∧ c ≠ 41) := HC.out
          clear HC
          go_wp2_with fail
          refine HNX.out.mono ?_
          rintro e w1 ⟨rfl, n1, rfl⟩
          try dsimp only
          go_wp2_with fail
          refine (HSE.out _).mono ?_
          rintro e w1 ⟨rfl, n2, rfl⟩
          try dsimp only
          obtain ⟨w1, hw1⟩ : ∃ w1, (wr.drewN n1).drewN n2 = w1 := ⟨_, rfl⟩
          have yp : PSt w1 P s a' g' false := by rw [← hw1]; exact hp
          have yr : RowAt w1 w.heap.size #[.int .i64 0, .int .i64 0, .int .u64 0, .int .u64 0, .int .u64 0, .int .u64 0, .slice none 0 0] 41 := by rw [← hw1]; exact hRR
          have yd : Touch wr w1 (fun _ => False) := by rw [← hw1]; exact ⟨rfl, rfl, rfl, Nat.le_refl _, fun _ _ _ => rfl⟩
          have yrow := hrow.touch yd (fun _ _ h => h)
          have yc := htc.trans (yd.mono (fun _ h => h.elim))
          have hs1 : w1.heap.size = wr.heap.size := by rw [← hw1]; rfl
          simp only [hw1]
          clear hw1 yd
          obtain ⟨haa, hgg, hcc⟩ := HAG.out rfl
          have hlen : (rem s a').length < n + 1 := by
            have := HN.out
            rw [rem_length] at this ⊢
            omega
          have HIT := Lib.hid (item_any n HE.out w1 P s a' g' hs hgg hlen yp c r HRR.out HC2.out.1 HC2.out.2)
          clear hlen
          go_wp2_with fail
          refine HIT.out.mono ?_
          rintro e w2 ⟨cs, t, a2, g2, bad2, rfl, ht, p2, t2, ha2, hag2, hIR⟩
          try dsimp only
          have HI2 : Hid (BranchI s a g bad2 (cur ++ [t]) a2 g2) := HI.out.next HRR.out hIR
          have HAD : Hid (bad2 = false → a' < a2) := fun hb => by
            rcases hIR.1 with ⟨h, _⟩ | ⟨_, h, _⟩
            · rw [hb] at h; cases h
            · exact h
          have ht' : TreeAt (fun b => w1.heap.size ≤ b) w2 t cs := ht
          obtain ⟨k, i, S, ks, A, cc, hT, rfl, hSok⟩ := ht'.form
          have hs2 := t2.size
          have hsP : P < w2.heap.size := RowAt.lt p2
          -- behind the call: the node in a block of its own
          obtain ⟨V2, hV2⟩ : ∃ V2, w2.alloc (.cells #[.int .i64 (k : Int), .int .i64 (i : Int), .int .u64 (S.a0 : Int), .int .u64 (S.a1 : Int), .int .u64 (S.a2 : Int), .int .u64 (S.a3 : Int), .slice A ks.length cc] 41) = V2 := ⟨_, rfl⟩
          have q1 : PSt V2 P s a2 g2 bad2 := by rw [← hV2]; exact RowAt.old p2 _
          have q2 : RowAt V2 w.heap.size #[.int .i64 0, .int .i64 0, .int .u64 0, .int .u64 0, .int .u64 0, .int .u64 0, .slice none 0 0] 41 := by rw [← hV2]; exact RowAt.old (yr.touch t2 hPR) _
          have q3 : NRow 41 (w.heap.size + 1) V2 u3 cur := by
            rw [← hV2]; exact (yrow.touch t2 (fun b hb => by omega)).below ((Below.refl _ _).alloc (Nat.le_refl _) _)
          have q4 : RowAt V2 w2.heap.size (nodeC k i S (.slice A ks.length cc)) 41 := by rw [← hV2]; exact RowAt.new _ _ _
          have q5 : TreeAt (fun b => w.heap.size + 1 ≤ b ∧ some b ≠ u3.ownBlock) V2 t (nodeC k i S (.slice A ks.length cc)) := by
            rw [← hV2]
            have hne : ∀ b, w1.heap.size ≤ b → some b ≠ u3.ownBlock := fun b hb hc => by
              have := (yrow.own_ge b hc.symm).2
              omega
            exact TreeAt.turn (by simp) (fun b hb hlt => ⟨⟨by omega, hne b hb⟩, ((Below.refl w2.heap.size w2).alloc (Nat.le_refl _) _).block b hlt⟩) t _ ht'
          have q6 : Touch w V2 (· = P) := by rw [← hV2]; exact (yc.trans t2).alloc _
          have q7 : w.heap.size + 1 ≤ V2.heap.size := by rw [← hV2]; simp; omega
          have HV2 := Lib.hid hV2
          have hown := Lib.hid (fun k hk => (yrow.own_ge k hk).1)
          clear hV2 hT ht ht' t2 p2 HIT hIR HNX HSE
          unfold nodeC
          go_wp2_with (at_builtin; have hV2 := HV2.out; simp only [hV2]; refine wpList_append_node rfl (.tmp 19) (.tmp 22) 39 rfl 41 Tryd.underlying39 Tryd.info_rexNode (w.heap.size + 1) u3 cur (by rfl) q3 t _ w2.heap.size (by rfl) q4 q5 (by omega) q7 ?_; intro v' w3 hrow3 hgrow)
          have z1 : PSt w3 P s a2 g2 bad2 := RowAt.grown q1 hgrow (fun hc => by have := hown.out P hc.symm; omega)
          have z2 := RowAt.grown q2 hgrow (fun hc => by have := hown.out _ hc.symm; omega)
          have z3 := q6.grown hgrow (fun k hk => .inr (by have := hown.out k hk; omega))
          have z4 : AG bad2 a a2 g2 (cur ++ [t]).length := fun hb => by
            have h1 := hag2 hb
            have h2 := HAD.out hb
            rw [List.length_append, List.length_singleton]
            omega
          have m1 := PSt.meas z1
          have m2 := hp.meas
          have hcl2 : (cur ++ [t]).length ≤ 101 := by rw [List.length_append, List.length_singleton]; omega
          clear q1 q2 q3 q4 q5 q6 hgrow
          go_wp2_with fail
          go_roundw
          case rel => exact ⟨cur ++ [t], a2, g2, bad2, z1, z2, hrow3, z3, ha2, z4, hcl2, HI2⟩
          case measure =>
            have hd := HAD.out
            have q : ∀ x y : Nat, x = (if bad2 = true then 0 else s.size + 1 - a2) → y = (if false = true then 0 else s.size + 1 - a') → x < y := by
              intro x y hx hy
              cases bad2 with
              | true => simp at hx hy; omega
              | false => have := hd rfl; simp at hx hy; omega
            exact q _ _ m1 m2

end Go.Proofs.YtkddighepgpccaaDoor
