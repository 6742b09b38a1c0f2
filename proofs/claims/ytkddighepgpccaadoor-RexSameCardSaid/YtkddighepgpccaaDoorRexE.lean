/-
  The walk of the parser's expression, and the recursion closed.
-/
import Derived.Test.YtkddighepgpccaaDoorRexB
namespace Go.Proofs.YtkddighepgpccaaDoor
open Go Go.RowKit
set_option linter.unusedSimpArgs false
set_option linter.unusedVariables false

def ExprI (s : ByteArray) (a g : Nat) (bad : Bool) (kids : List T) (a' g' : Nat) : Prop :=
  (bad = true ∧ Run (rem s a) g [] [] = none) ∨
  (bad = false ∧ Stops (rem s a') ∧ ∃ done cur, kids = done ++ [joinT 2 cur] ∧ Run (rem s a) g [] [] = Run (rem s a') g' done cur)
theorem ExprI.start {s : ByteArray} {a g a' g' : Nat} {bad : Bool} {t : T} (h : BranchR s a g bad t a' g') : ExprI s a g bad [t] a' g' := by
  rcases h with ⟨hb, h⟩ | ⟨hb, hst, cur, rfl, h⟩
  · exact .inl ⟨hb, h []⟩
  · exact .inr ⟨hb, hst, [], cur, rfl, h []⟩
theorem ExprI.next {s : ByteArray} {a g a1 g1 a' g' : Nat} {bad bad2 : Bool} {kids : List T} {t : T} (h : ExprI s a g bad kids a1 g1) (hb : seesB s a1 bad [124] = true) (hi : BranchR s (a1 + 1) g1 bad2 t a' g') : ExprI s a g bad2 (kids ++ [t]) a' g' := by
  obtain ⟨rfl, hlt, c, r, hr, hc, hrt⟩ := seesB_true hb
  have hc : c = 124 := by simpa using hc
  subst hc
  rcases h with ⟨h, _⟩ | ⟨_, _, done, cur, rfl, h⟩
  · cases h
  · have h2 : Run (rem s a) g [] [] = Run (rem s (a1 + 1)) g1 (done ++ [joinT 2 cur]) [] := by
      rw [h, ← hrt]
      exact Run_bar (by rw [hr]; rfl) g1 done cur
    rcases hi with ⟨hb2, hi⟩ | ⟨hb2, hst, cur2, rfl, hi⟩
    · exact .inl ⟨hb2, by rw [h2]; exact hi _⟩
    · exact .inr ⟨hb2, hst, _, cur2, rfl, by rw [h2]; exact hi _⟩
theorem ExprI.close {s : ByteArray} {a g a' g' : Nat} {bad : Bool} {kids : List T} (h : ExprI s a g bad kids a' g') (hb : seesB s a' bad [124] = false) : OptR s (Run (rem s a) g [] []) bad (joinT 3 kids) a' g' := by
  rcases h with h | ⟨rfl, hst, done, cur, rfl, h⟩
  · exact .inl h
  · refine .inr ⟨rfl, ?_⟩
    rw [h]
    rcases hst with h0 | ⟨r, h0⟩ | ⟨r, h0⟩
    · rw [h0]; exact Run_nil g' done cur
    · rw [seesB_close, h0] at hb
      simp at hb
    · exact Run_close (by rw [h0]; rfl) g' done cur

set_option maxHeartbeats 8000000 in
set_option maxRecDepth 100000 in
theorem expr_step (n : Nat) (hE : ExprC n) : ExprC (n + 1) := by
  intro w P s a g hs ha hg hn h
  have hP := RowAt.lt h
  have hPR : w.heap.size ≠ P := by omega
  obtain ⟨V, hV⟩ : ∃ V, w.alloc (.cells #[.int .i64 0, .int .i64 0, .int .u64 0, .int .u64 0, .int .u64 0, .int .u64 0, .slice none 0 0] 41) = V := ⟨_, rfl⟩
  have v1 : PSt V P s a g false := by rw [← hV]; exact RowAt.old h _
  have v2 : RowAt V w.heap.size #[.int .i64 0, .int .i64 0, .int .u64 0, .int .u64 0, .int .u64 0, .int .u64 0, .slice none 0 0] 41 := by rw [← hV]; exact RowAt.new _ _ _
  have v3 : Touch w V (· = P) := by rw [← hV]; exact (Touch.refl w (· = P)).alloc _
  have hVs := v2.lt
  have HV := Lib.hid hV
  have HBR := Lib.hid (fun W a' g' ha' hg' hn' hW => branch_any n hE W P s a' g' hs ha' hg' hn' hW)
  have HN := Lib.hid hn
  clear hV hE hn
  go_enter Tryd.func38, Tryd.ntmps38
  go_wp2_with fail
  have hV := HV.out
  simp only [hV]
  clear hV HV
  refine (HBR.out _ a g ha hg HN.out v1).mono ?_
  rintro e w1 ⟨cs, t, a', g', bad, rfl, ht, p1, t1, ha', hag, hR⟩
  try dsimp only
  have u2 := v2.touch t1 hPR
  have u3 := v3.trans t1
  have hs1 := t1.size
  obtain ⟨k, i, S, ks, A, cc, hT, rfl, hSok⟩ := ht.form
  have HT := Lib.hid ht
  have HI0 : Hid (ExprI s a g bad [t] a' g') := ExprI.start hR
  clear hT ht v1 v2 v3 t1 hR
  unfold nodeC
  go_wp2_with fail
  obtain ⟨V2, hV2⟩ : ∃ V2, w1.alloc (.cells #[.int .i64 (k : Int), .int .i64 (i : Int), .int .u64 (S.a0 : Int), .int .u64 (S.a1 : Int), .int .u64 (S.a2 : Int), .int .u64 (S.a3 : Int), .slice A ks.length cc] 41) = V2 := ⟨_, rfl⟩
  have x1 : PSt V2 P s a' g' bad := by rw [← hV2]; exact RowAt.old p1 _
  have x2 : RowAt V2 w.heap.size #[.int .i64 0, .int .i64 0, .int .u64 0, .int .u64 0, .int .u64 0, .int .u64 0, .slice none 0 0] 41 := by rw [← hV2]; exact RowAt.old u2 _
  have x3 : Touch w V2 (· = P) := by rw [← hV2]; exact u3.alloc _
  have x4 : NRow 41 (w.heap.size + 1) V2 (.slice (some ⟨w1.heap.size, 0, none⟩) 1 1) [t] := by
    rw [← hV2]
    refine NRow.one (cs := nodeC k i S (.slice A ks.length cc)) ?_ (RowAt.new _ _ _) (by omega)
    exact TreeAt.turn (by simp) (fun b hb hlt => ⟨⟨by omega, by omega⟩, ((Below.refl w1.heap.size w1).alloc (Nat.le_refl _) _).block b hlt⟩) t _ HT.out
  simp only [hV2]
  clear hV2 u2 u3 p1 HT
  go_loopw [3] (fun v wr => ∃ (kids : List T) (a' g' : Nat) (bad : Bool), PSt wr P s a' g' bad ∧ RowAt wr w.heap.size #[.int .i64 0, .int .i64 0, .int .u64 0, .int .u64 0, .int .u64 0, .int .u64 0, .slice none 0 0] 41 ∧ NRow 41 (w.heap.size + 1) wr v kids ∧ Touch w wr (· = P) ∧ a' ≤ s.size ∧ AG bad a a' g' (kids.length - 1) ∧ kids.length ≤ 102 ∧ Hid (ExprI s a g bad kids a' g')) (fun _ wr => pmeas s.size P wr)
  case atStart => exact ⟨[t], a', g', bad, x1, x2, x4, x3, ha', (fun hb => ⟨(hag hb).1, (hag hb).2, Nat.zero_le _⟩), (by simp), HI0⟩
  case round =>
    clear x1 x2 x3 x4 HI0 ha' hag hs1 hSok
    obtain ⟨kids, a', g', bad, hp, hRR, hrow, htc, ha', hag, hcl, HI⟩ := hrel
    have hsz := htc.size
    have HAG := Lib.hid hag
    clear hag
    have hRlt : w.heap.size < wr.heap.size := RowAt.lt hRR
    obtain ⟨v1, hv1⟩ : ∃ v, seesB s a' bad [124] = v := ⟨_, rfl⟩
    have HK := Lib.hid (takes_is wr P s a' g' bad hs ha' hp ⟨#[124]⟩ hv1)
    cases v1 with
    | false =>
      have HR : Hid (OptR s (Run (rem s a) g [] []) bad (joinT 3 kids) a' g') := HI.out.close hv1
      clear hv1
      go_wp2_with fail
      refine HK.out.mono ?_
      rintro e w1 ⟨rfl, zp, zt⟩
      try dsimp only
      have yp : PSt w1 P s a' g' bad := zp
      have yr := hRR.touch zt hPR
      have yrow := hrow.touch zt (fun b hb => by omega)
      have yc := htc.trans zt
      clear zp zt
      go_wp2_with fail
      refine (Joined3 u3 kids (w.heap.size + 1) w1 (RowAt.lt yr) yrow).mono ?_
      rintro e w2 ⟨cs, rfl, ht, hb2⟩
      try dsimp only
      obtain ⟨k, i, S, ks, A, cc, hT, rfl, hSok⟩ := ht.form
      have HT := Lib.hid ht
      have r2 := RowAt.later yr hb2 (RowAt.lt yr)
      have p2 : PSt w2 P s a' g' bad := RowAt.later yp hb2 (RowAt.lt yp)
      have t2 := yc.trans (Touch.ofBelow (· = P) hb2)
      unfold nodeC
      clear ht hT
      obtain ⟨⟨n0, n1, n2, n3, n4, n5, n6⟩, m0, m1, m2, m3, m4, m5, m6⟩ := node_facts (k := 0) (i := 0) (s := S4.zero) (sl := .slice none 0 0) r2
      go_wp2_with fail
      obtain ⟨z0, z1, z2, z3, z4, z5, z6⟩ := row7 (RowAt.seven r2 (.int .i64 (k : Int)) (.int .i64 (i : Int)) (.int .u64 (S.a0 : Int)) (.int .u64 (S.a1 : Int)) (.int .u64 (S.a2 : Int)) (.int .u64 (S.a3 : Int)) (.slice A ks.length cc))
      refine bodyPost_ret (v := .agg (nodeC k i S (.slice A ks.length cc))) (by simp [results, Tryd.results38, go_sem, nodeC, z0, z1, z2, z3, z4, z5, z6]) rfl ?_
      have tq := touch_putN (Touch.refl w2 (· = w.heap.size)) (.inl rfl) k i S (.slice A ks.length cc)
      exact ⟨_, _, a', g', bad, rfl, HT.out.touch tq (fun b hb => (by omega)) (fun b hb => (by omega)), RowAt.putN_other p2 k i S (.slice A ks.length cc) hPR, touch_putN t2 (.inr (Nat.le_refl _)) k i S (.slice A ks.length cc), ha', (fun hb => ⟨(HAG.out hb).1, (HAG.out hb).2.1⟩), HR.out⟩
    | true =>
      have hb := seesB_true hv1
      have hbf : bad = false := hb.1
      have hlt := hb.2.1
      subst hbf
      clear hb
      obtain ⟨haa, hgg, hcc⟩ := HAG.out rfl
      have HNX := Lib.hid (fun b t a2 g2 (hh : BranchR s (a' + 1) g' b t a2 g2) => HI.out.next hv1 hh)
      clear hv1
      go_wp2_with fail
      refine HK.out.mono ?_
      rintro e w1 ⟨rfl, zp, zt⟩
      try dsimp only
      have yp : PSt w1 P s (a' + 1) g' false := zp
      have yr := hRR.touch zt hPR
      have yrow := hrow.touch zt (fun b hb => by omega)
      have yc := htc.trans zt
      have hz1 := zt.size
      clear zp zt
      have hlen : (rem s (a' + 1)).length < n + 1 := by
        have := HN.out
        rw [rem_length] at this ⊢
        omega
      have HBX := Lib.hid (HBR.out w1 (a' + 1) g' hlt (by omega) hlen yp)
      clear hlen
      go_wp2_with fail
      refine HBX.out.mono ?_
      rintro e w2 ⟨cs, t, a2, g2, bad2, rfl, ht, p2, t2, ha2, hag2, hBR⟩
      try dsimp only
      have HI2 : Hid (ExprI s a g bad2 (kids ++ [t]) a2 g2) := HNX.out _ _ _ _ hBR
      have ht' : TreeAt (fun b => w1.heap.size ≤ b) w2 t cs := ht
      obtain ⟨k, i, S, ks, A, cc, hT, rfl, hSok⟩ := ht'.form
      have hs2 := t2.size
      have hsP : P < w2.heap.size := RowAt.lt p2
      obtain ⟨V2, hV2⟩ : ∃ V2, w2.alloc (.cells #[.int .i64 (k : Int), .int .i64 (i : Int), .int .u64 (S.a0 : Int), .int .u64 (S.a1 : Int), .int .u64 (S.a2 : Int), .int .u64 (S.a3 : Int), .slice A ks.length cc] 41) = V2 := ⟨_, rfl⟩
      have q1 : PSt V2 P s a2 g2 bad2 := by rw [← hV2]; exact RowAt.old p2 _
      have q2 : RowAt V2 w.heap.size #[.int .i64 0, .int .i64 0, .int .u64 0, .int .u64 0, .int .u64 0, .int .u64 0, .slice none 0 0] 41 := by rw [← hV2]; exact RowAt.old (yr.touch t2 hPR) _
      have q3 : NRow 41 (w.heap.size + 1) V2 u3 kids := by
        rw [← hV2]; exact (yrow.touch t2 (fun b hb => by omega)).below ((Below.refl _ _).alloc (Nat.le_refl _) _)
      have q4 : RowAt V2 w2.heap.size (nodeC k i S (.slice A ks.length cc)) 41 := by rw [← hV2]; exact RowAt.new _ _ _
      have q5 : TreeAt (fun b => w.heap.size + 1 ≤ b ∧ some b ≠ u3.ownBlock) V2 t (nodeC k i S (.slice A ks.length cc)) := by
        rw [← hV2]
        have hne : ∀ b, w1.heap.size ≤ b → some b ≠ u3.ownBlock := fun b hb hc => by
          have := (yrow.own_ge b hc.symm).2
          omega
        exact TreeAt.turn (by simp) (fun b hb hlt => ⟨⟨by omega, hne b hb⟩, ((Below.refl w2.heap.size w2).alloc (Nat.le_refl _) _).block b hlt⟩) t _ ht'
      have q6 : Touch w V2 (· = P) := by rw [← hV2]; exact (yc.trans t2).alloc _
      have q7 : w.heap.size + 1 ≤ V2.heap.size := by rw [← hV2]; simp; omega
      have HV2 := Lib.hid hV2
      have hown := Lib.hid (fun k hk => (yrow.own_ge k hk).1)
      clear hV2 hT ht ht' t2 p2 HBX hBR HNX HK
      unfold nodeC
      go_wp2_with (at_builtin; have hV2 := HV2.out; simp only [hV2]; refine wpList_append_node rfl (.tmp 9) (.tmp 12) 39 rfl 41 Tryd.underlying39 Tryd.info_rexNode (w.heap.size + 1) u3 kids (by rfl) q3 t _ w2.heap.size (by rfl) q4 q5 (by omega) q7 ?_; intro v' w3 hrow3 hgrow)
      have z1 : PSt w3 P s a2 g2 bad2 := RowAt.grown q1 hgrow (fun hc => by have := hown.out P hc.symm; omega)
      have z2 := RowAt.grown q2 hgrow (fun hc => by have := hown.out _ hc.symm; omega)
      have z3 := q6.grown hgrow (fun k hk => .inr (by have := hown.out k hk; omega))
      have z4 : AG bad2 a a2 g2 ((kids ++ [t]).length - 1) := fun hb => by
        have h1 := hag2 hb
        rw [List.length_append, List.length_singleton]
        omega
      have m1 := PSt.meas z1
      have m2 := hp.meas
      have HL := Lib.hid hag2
      have hcl2 : (kids ++ [t]).length ≤ 102 := by rw [List.length_append, List.length_singleton]; omega
      clear q1 q2 q3 q4 q5 q6 hgrow
      go_wp2_with fail
      go_roundw
      case rel => exact ⟨kids ++ [t], a2, g2, bad2, z1, z2, hrow3, z3, ha2, z4, hcl2, HI2⟩
      case measure =>
        have hd := HL.out
        have q : ∀ x y : Nat, x = (if bad2 = true then 0 else s.size + 1 - a2) → y = (if false = true then 0 else s.size + 1 - a') → x < y := by
          intro x y hx hy
          cases bad2 with
          | true => simp at hx hy; omega
          | false => have := hd rfl; simp at hx hy; omega
        exact q _ _ m1 m2
theorem expr_all : ∀ n, ExprC n
  | 0 => fun w P s a g hs ha hg hn h => absurd hn (Nat.not_lt_zero _)
  | n + 1 => expr_step n (expr_all n)

end Go.Proofs.YtkddighepgpccaaDoor
