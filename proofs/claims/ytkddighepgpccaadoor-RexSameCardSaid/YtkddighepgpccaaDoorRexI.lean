/-
  The walk of the parser's item.
-/
import Derived.Test.YtkddighepgpccaaDoorRexA
namespace Go.Proofs.YtkddighepgpccaaDoor
open Go Go.RowKit
set_option linter.unusedSimpArgs false
set_option linter.unusedVariables false

def notOp (l : List UInt8) : Prop := ∀ c r, l = c :: r → isOp c = false
def ItemR (s : ByteArray) (a g : Nat) (bad : Bool) (t : T) (a' g' : Nat) : Prop := AtomR s a g bad t a' g' ∧ (bad = false → notOp (rem s a'))
theorem AtomR.step {s : ByteArray} {a a' g g' : Nat} {bad : Bool} {t : T} {c : UInt8} (h : AtomR s a g bad t a' g') (hc : isOp c = true) (hl : ∀ r, lex1 (c :: r) = some (.mark c, r)) (hb : seesB s a' bad [c] = true) : AtomR s a g false (.mk (opKind c) 0 S4.zero [t]) (a' + 1) g' := by
  obtain ⟨rfl, hlt, d, r, hr, hd, hrt⟩ := seesB_true hb
  have hd : d = c := by simpa using hd
  subst hd
  rcases h with ⟨hb, _⟩ | ⟨_, h1, h2⟩
  · cases hb
  · refine .inr ⟨rfl, by omega, fun done cur => ?_⟩
    rw [h2, ← hrt]
    exact Run_op hc (by rw [hr]; exact hl r) g' done cur t
theorem notOp_of {s : ByteArray} {a : Nat} (h1 : seesB s a false [42] = false) (h2 : seesB s a false [43] = false) (h3 : seesB s a false [63] = false) : notOp (rem s a) := by
  rw [seesB_close] at h1 h2 h3
  intro c r hr
  rw [hr] at h1 h2 h3
  simp at h1 h2 h3
  simp [isOp, h1, h2, h3]

set_option maxHeartbeats 8000000 in
set_option maxRecDepth 100000 in
theorem item_any (n : Nat) (hE : ExprC n) (w : World) (P : Nat) (s : ByteArray) (a g : Nat) (hs : s.size ≤ 100) (hg : g ≤ a) (hn : (rem s a).length < n + 1) (h : PSt w P s a g false) (c : UInt8) (r : List UInt8) (hr : rem s a = c :: r) (hc1 : c ≠ 124) (hc2 : c ≠ 41) :
    Calls Tryd.prog 71 #[.pointer (some ⟨P, 0, none⟩)] w (PartPost w P s a (ItemR s a g)) := by
  have hP := RowAt.lt h
  have hPR : w.heap.size ≠ P := by omega
  obtain ⟨V, hV⟩ : ∃ V, w.alloc (.cells #[.int .i64 0, .int .i64 0, .int .u64 0, .int .u64 0, .int .u64 0, .int .u64 0, .slice none 0 0] 41) = V := ⟨_, rfl⟩
  have v1 : PSt V P s a g false := by rw [← hV]; exact RowAt.old h _
  have v2 : RowAt V w.heap.size #[.int .i64 0, .int .i64 0, .int .u64 0, .int .u64 0, .int .u64 0, .int .u64 0, .slice none 0 0] 41 := by rw [← hV]; exact RowAt.new _ _ _
  have v3 : Touch w V (· = P) := by rw [← hV]; exact (Touch.refl w (· = P)).alloc _
  have hVs : w.heap.size < V.heap.size := v2.lt
  have HV := Lib.hid hV
  have HA := Lib.hid (atom_any n hE V P s a g hs hg hn v1 c r hr hc1 hc2)
  clear hV hE hn hr hc1 hc2
  go_enter Tryd.func71, Tryd.ntmps71
  go_wp2_with fail
  have hV := HV.out
  simp only [hV]
  clear hV HV
  refine HA.out.mono ?_
  rintro e w1 ⟨cs, t, a', g', bad, rfl, ht, p1, t1, ha', hag, hR⟩
  try dsimp only
  have u2 := v2.touch t1 hPR
  have u3 := v3.trans t1
  have hs1 : w.heap.size < w1.heap.size := u2.lt
  obtain ⟨k, i, S, ks, A, cc, hT, rfl, hSok⟩ := ht.form
  have HT := Lib.hid ht
  have HT0 := Lib.hid hT
  have hVs2 := t1.size
  unfold nodeC
  clear HA v1 v2 v3 t1 ht hT
  go_wp2_with fail
  obtain ⟨V2, hV2⟩ : ∃ V2, w1.alloc (.cells #[.int .i64 (k : Int), .int .i64 (i : Int), .int .u64 (S.a0 : Int), .int .u64 (S.a1 : Int), .int .u64 (S.a2 : Int), .int .u64 (S.a3 : Int), .slice A ks.length cc] 41) = V2 := ⟨_, rfl⟩
  have x1 : PSt V2 P s a' g' bad := by rw [← hV2]; exact RowAt.old p1 _
  have x2 : RowAt V2 w.heap.size #[.int .i64 0, .int .i64 0, .int .u64 0, .int .u64 0, .int .u64 0, .int .u64 0, .slice none 0 0] 41 := by rw [← hV2]; exact RowAt.old u2 _
  have x3 : Touch w V2 (· = P) := by rw [← hV2]; exact u3.alloc _
  have x4 : RowAt V2 w1.heap.size (nodeC k i S (.slice A ks.length cc)) 41 := by rw [← hV2]; exact RowAt.new _ _ _
  have x5 : TreeAt (fun b => w.heap.size + 1 ≤ b ∧ b ≠ w1.heap.size) V2 t (nodeC k i S (.slice A ks.length cc)) := by
    rw [← hV2]
    refine TreeAt.turn (by simp) (fun b hb hlt => ⟨⟨by omega, by omega⟩, ?_⟩) t _ HT.out
    exact ((Below.refl w1.heap.size w1).alloc (Nat.le_refl _) _).block b hlt
  obtain ⟨N, hN⟩ : ∃ N, w1.heap.size = N := ⟨_, rfl⟩
  have hNP : N ≠ P := by omega
  have hRN : w.heap.size ≠ N := by omega
  have hRN' : w.heap.size < N := by omega
  rw [hN] at x4 x5
  simp only [hV2, hN]
  clear hV2 u2 u3 p1 HT HT0 hs1 hVs2 hVs
  go_loopw [7] (fun _ wr => ∃ (k i : Nat) (S : S4) (A : Option Addr) (nn cc : Nat) (t : T) (a' g' : Nat) (bad : Bool), PSt wr P s a' g' bad ∧ RowAt wr w.heap.size #[.int .i64 0, .int .i64 0, .int .u64 0, .int .u64 0, .int .u64 0, .int .u64 0, .slice none 0 0] 41 ∧ RowAt wr N (nodeC k i S (.slice A nn cc)) 41 ∧ TreeAt (fun b => w.heap.size + 1 ≤ b ∧ b ≠ N) wr t (nodeC k i S (.slice A nn cc)) ∧ Touch w wr (· = P) ∧ a' ≤ s.size ∧ (bad = false → a ≤ a' ∧ g' ≤ a') ∧ Hid (AtomR s a g bad t a' g')) (fun _ wr => pmeas s.size P wr)
  case atStart => exact ⟨k, i, S, A, ks.length, cc, t, a', g', bad, x1, x2, x4, x5, x3, ha', hag, hR⟩
  case round =>
    clear x1 x2 x3 x4 x5 hR ha' hag hSok hN
    obtain ⟨k, i, S, A, nn, cc, t, a', g', bad, hp, hRR, hRNd, ht, htc, ha', hag, HR⟩ := hrel
    obtain ⟨v1, hv1⟩ : ∃ v, seesB s a' bad [42] = v := ⟨_, rfl⟩
    obtain ⟨v2, hv2⟩ : ∃ v, seesB s a' bad [43] = v := ⟨_, rfl⟩
    obtain ⟨v3, hv3⟩ : ∃ v, seesB s a' bad [63] = v := ⟨_, rfl⟩
    have H1 := Lib.hid (fun W hW => takes_is W P s a' g' bad hs ha' hW ⟨#[42]⟩ hv1)
    have H2 := Lib.hid (fun W hW => takes_is W P s a' g' bad hs ha' hW ⟨#[43]⟩ hv2)
    have H3 := Lib.hid (fun W hW => takes_is W P s a' g' bad hs ha' hW ⟨#[63]⟩ hv3)
    have yp := hp
    have yr := hRR
    have yn := hRNd
    have yt := ht
    have yc := htc
    cases v1 with
    | true =>
      go_wp2_with fail
      refine (H1.out _ yp).mono ?_
      rintro e w2 ⟨rfl, zp, zt⟩
      try dsimp only
      have yr := yr.touch zt hPR
      have yn := yn.touch zt hNP
      have yt := yt.touch zt (fun b hb => hb) (fun b hb => by omega)
      have yc := yc.trans zt
      have yp : PSt w2 P s (a' + 1) g' bad := zp
      clear zp zt
      have HR2 : Hid (AtomR s a g false (.mk 4 0 S4.zero [t]) (a' + 1) g') := HR.out.step (c := 42) rfl (fun _ => rfl) hv1
      have hb := seesB_true hv1
      have hbf : bad = false := hb.1
      have hlt := hb.2.1
      subst hbf
      clear hb
      obtain ⟨⟨n0, n1, n2, n3, n4, n5, n6⟩, m0, m1, m2, m3, m4, m5, m6⟩ := node_facts yn
      have hNlt : N < w2.heap.size := RowAt.lt yn
      have hPlt : P < w2.heap.size := RowAt.lt yp
      go_wp2_with fail
      have hz : (putN w2 N 4 0 S4.zero (.slice (some ⟨w2.heap.size, 0, none⟩) 1 1)).heap.size = w2.heap.size := by simp [putN, World.setCell]
      have e1 := RowAt.new' (putN w2 N 4 0 S4.zero (.slice (some ⟨w2.heap.size, 0, none⟩) 1 1)) (nodeC k i S (.slice A nn cc)) 41 hz
      have e2 := RowAt.old (RowAt.putN yn 4 0 S4.zero (.slice (some ⟨w2.heap.size, 0, none⟩) 1 1)) (.cells (nodeC k i S (.slice A nn cc)) 41)
      have e3 := RowAt.old (RowAt.putN_other yr 4 0 S4.zero (.slice (some ⟨w2.heap.size, 0, none⟩) 1 1) (Ne.symm hRN)) (.cells (nodeC k i S (.slice A nn cc)) 41)
      have e4 := RowAt.old (RowAt.putN_other yp 4 0 S4.zero (.slice (some ⟨w2.heap.size, 0, none⟩) 1 1) hNP) (.cells (nodeC k i S (.slice A nn cc)) 41)
      have e5 := (touch_putN yc (.inr (Nat.le_of_lt hRN')) 4 0 S4.zero (.slice (some ⟨w2.heap.size, 0, none⟩) 1 1)).alloc (.cells (nodeC k i S (.slice A nn cc)) 41)
      have e6 := yt.touch ((touch_putN (Touch.refl w2 (· = N)) (.inl rfl) 4 0 S4.zero (.slice (some ⟨w2.heap.size, 0, none⟩) 1 1)).alloc (.cells (nodeC k i S (.slice A nn cc)) 41)) (fun b hb => hb) (fun b hb => hb.2)
      have e7 := TreeAt.one e6 e1 ⟨by omega, by omega⟩ 1 4 0 S4.zero_ok
      have m1 := PSt.meas e4
      have m2 := hp.meas
      clear yr yn yp yt yc n0 n1 n2 n3 n4 n5 n6 m0
      go_roundw
      case rel => exact ⟨4, 0, S4.zero, _, _, _, _, a' + 1, g', false, e4, e3, e2, e7, e5, hlt, (fun hb => by have := hag rfl; omega), HR2⟩
      case measure =>
        have q : ∀ x y : Nat, x = (if false = true then 0 else s.size + 1 - (a' + 1)) → y = (if false = true then 0 else s.size + 1 - a') → x < y := by
          intro x y hx hy
          simp at hx hy
          omega
        exact q _ _ m1 m2
    | false =>
      go_wp2_with fail
      refine (H1.out _ yp).mono ?_
      rintro e w2 ⟨rfl, zp, zt⟩
      try dsimp only
      have yr := yr.touch zt hPR
      have yn := yn.touch zt hNP
      have yt := yt.touch zt (fun b hb => hb) (fun b hb => by omega)
      have yc := yc.trans zt
      have yp : PSt w2 P s a' g' bad := zp
      clear zp zt
      cases v2 with
      | true =>
        go_wp2_with fail
        refine (H2.out _ yp).mono ?_
        rintro e w3 ⟨rfl, zp, zt⟩
        try dsimp only
        have yr := yr.touch zt hPR
        have yn := yn.touch zt hNP
        have yt := yt.touch zt (fun b hb => hb) (fun b hb => by omega)
        have yc := yc.trans zt
        have yp : PSt w3 P s (a' + 1) g' bad := zp
        clear zp zt
        have HR2 : Hid (AtomR s a g false (.mk 5 0 S4.zero [t]) (a' + 1) g') := HR.out.step (c := 43) rfl (fun _ => rfl) hv2
        have hb := seesB_true hv2
        have hbf : bad = false := hb.1
        have hlt := hb.2.1
        subst hbf
        clear hb
        obtain ⟨⟨n0, n1, n2, n3, n4, n5, n6⟩, m0, m1, m2, m3, m4, m5, m6⟩ := node_facts yn
        have hNlt : N < w3.heap.size := RowAt.lt yn
        have hPlt : P < w3.heap.size := RowAt.lt yp
        go_wp2_with fail
        have hz : (putN w3 N 5 0 S4.zero (.slice (some ⟨w3.heap.size, 0, none⟩) 1 1)).heap.size = w3.heap.size := by simp [putN, World.setCell]
        have e1 := RowAt.new' (putN w3 N 5 0 S4.zero (.slice (some ⟨w3.heap.size, 0, none⟩) 1 1)) (nodeC k i S (.slice A nn cc)) 41 hz
        have e2 := RowAt.old (RowAt.putN yn 5 0 S4.zero (.slice (some ⟨w3.heap.size, 0, none⟩) 1 1)) (.cells (nodeC k i S (.slice A nn cc)) 41)
        have e3 := RowAt.old (RowAt.putN_other yr 5 0 S4.zero (.slice (some ⟨w3.heap.size, 0, none⟩) 1 1) (Ne.symm hRN)) (.cells (nodeC k i S (.slice A nn cc)) 41)
        have e4 := RowAt.old (RowAt.putN_other yp 5 0 S4.zero (.slice (some ⟨w3.heap.size, 0, none⟩) 1 1) hNP) (.cells (nodeC k i S (.slice A nn cc)) 41)
        have e5 := (touch_putN yc (.inr (Nat.le_of_lt hRN')) 5 0 S4.zero (.slice (some ⟨w3.heap.size, 0, none⟩) 1 1)).alloc (.cells (nodeC k i S (.slice A nn cc)) 41)
        have e6 := yt.touch ((touch_putN (Touch.refl w3 (· = N)) (.inl rfl) 5 0 S4.zero (.slice (some ⟨w3.heap.size, 0, none⟩) 1 1)).alloc (.cells (nodeC k i S (.slice A nn cc)) 41)) (fun b hb => hb) (fun b hb => hb.2)
        have e7 := TreeAt.one e6 e1 ⟨by omega, by omega⟩ 1 5 0 S4.zero_ok
        have m1 := PSt.meas e4
        have m2 := hp.meas
        clear yr yn yp yt yc n0 n1 n2 n3 n4 n5 n6 m0
        go_roundw
        case rel => exact ⟨5, 0, S4.zero, _, _, _, _, a' + 1, g', false, e4, e3, e2, e7, e5, hlt, (fun hb => by have := hag rfl; omega), HR2⟩
        case measure =>
          have q : ∀ x y : Nat, x = (if false = true then 0 else s.size + 1 - (a' + 1)) → y = (if false = true then 0 else s.size + 1 - a') → x < y := by
            intro x y hx hy
            simp at hx hy
            omega
          exact q _ _ m1 m2
      | false =>
        go_wp2_with fail
        refine (H2.out _ yp).mono ?_
        rintro e w3 ⟨rfl, zp, zt⟩
        try dsimp only
        have yr := yr.touch zt hPR
        have yn := yn.touch zt hNP
        have yt := yt.touch zt (fun b hb => hb) (fun b hb => by omega)
        have yc := yc.trans zt
        have yp : PSt w3 P s a' g' bad := zp
        clear zp zt
        cases v3 with
        | true =>
          go_wp2_with fail
          refine (H3.out _ yp).mono ?_
          rintro e w4 ⟨rfl, zp, zt⟩
          try dsimp only
          have yr := yr.touch zt hPR
          have yn := yn.touch zt hNP
          have yt := yt.touch zt (fun b hb => hb) (fun b hb => by omega)
          have yc := yc.trans zt
          have yp : PSt w4 P s (a' + 1) g' bad := zp
          clear zp zt
          have HR2 : Hid (AtomR s a g false (.mk 6 0 S4.zero [t]) (a' + 1) g') := HR.out.step (c := 63) rfl (fun _ => rfl) hv3
          have hb := seesB_true hv3
          have hbf : bad = false := hb.1
          have hlt := hb.2.1
          subst hbf
          clear hb
          obtain ⟨⟨n0, n1, n2, n3, n4, n5, n6⟩, m0, m1, m2, m3, m4, m5, m6⟩ := node_facts yn
          have hNlt : N < w4.heap.size := RowAt.lt yn
          have hPlt : P < w4.heap.size := RowAt.lt yp
          go_wp2_with fail
          have hz : (putN w4 N 6 0 S4.zero (.slice (some ⟨w4.heap.size, 0, none⟩) 1 1)).heap.size = w4.heap.size := by simp [putN, World.setCell]
          have e1 := RowAt.new' (putN w4 N 6 0 S4.zero (.slice (some ⟨w4.heap.size, 0, none⟩) 1 1)) (nodeC k i S (.slice A nn cc)) 41 hz
          have e2 := RowAt.old (RowAt.putN yn 6 0 S4.zero (.slice (some ⟨w4.heap.size, 0, none⟩) 1 1)) (.cells (nodeC k i S (.slice A nn cc)) 41)
          have e3 := RowAt.old (RowAt.putN_other yr 6 0 S4.zero (.slice (some ⟨w4.heap.size, 0, none⟩) 1 1) (Ne.symm hRN)) (.cells (nodeC k i S (.slice A nn cc)) 41)
          have e4 := RowAt.old (RowAt.putN_other yp 6 0 S4.zero (.slice (some ⟨w4.heap.size, 0, none⟩) 1 1) hNP) (.cells (nodeC k i S (.slice A nn cc)) 41)
          have e5 := (touch_putN yc (.inr (Nat.le_of_lt hRN')) 6 0 S4.zero (.slice (some ⟨w4.heap.size, 0, none⟩) 1 1)).alloc (.cells (nodeC k i S (.slice A nn cc)) 41)
          have e6 := yt.touch ((touch_putN (Touch.refl w4 (· = N)) (.inl rfl) 6 0 S4.zero (.slice (some ⟨w4.heap.size, 0, none⟩) 1 1)).alloc (.cells (nodeC k i S (.slice A nn cc)) 41)) (fun b hb => hb) (fun b hb => hb.2)
          have e7 := TreeAt.one e6 e1 ⟨by omega, by omega⟩ 1 6 0 S4.zero_ok
          have m1 := PSt.meas e4
          have m2 := hp.meas
          clear yr yn yp yt yc n0 n1 n2 n3 n4 n5 n6 m0
          go_roundw
          case rel => exact ⟨6, 0, S4.zero, _, _, _, _, a' + 1, g', false, e4, e3, e2, e7, e5, hlt, (fun hb => by have := hag rfl; omega), HR2⟩
          case measure =>
            have q : ∀ x y : Nat, x = (if false = true then 0 else s.size + 1 - (a' + 1)) → y = (if false = true then 0 else s.size + 1 - a') → x < y := by
              intro x y hx hy
              simp at hx hy
              omega
            exact q _ _ m1 m2
        | false =>
          go_wp2_with fail
          refine (H3.out _ yp).mono ?_
          rintro e w4 ⟨rfl, zp, zt⟩
          try dsimp only
          have yr := yr.touch zt hPR
          have yn := yn.touch zt hNP
          have yt := yt.touch zt (fun b hb => hb) (fun b hb => by omega)
          have yc := yc.trans zt
          have yp : PSt w4 P s a' g' bad := zp
          clear zp zt
          have HR2 : Hid (ItemR s a g bad t a' g') := ⟨HR.out, fun hb => by subst hb; exact notOp_of hv1 hv2 hv3⟩
          obtain ⟨⟨n0, n1, n2, n3, n4, n5, n6⟩, m0, m1, m2, m3, m4, m5, m6⟩ := node_facts yn
          obtain ⟨⟨o0, o1, o2, o3, o4, o5, o6⟩, l0, l1, l2, l3, l4, l5, l6⟩ := node_facts (k := 0) (i := 0) (s := S4.zero) (sl := .slice none 0 0) yr
          clear hv1 hv2 hv3 H1 H2 H3
          go_wp2_with fail
          obtain ⟨z0, z1, z2, z3, z4, z5, z6⟩ := row7 (RowAt.seven yr (.int .i64 (k : Int)) (.int .i64 (i : Int)) (.int .u64 (S.a0 : Int)) (.int .u64 (S.a1 : Int)) (.int .u64 (S.a2 : Int)) (.int .u64 (S.a3 : Int)) (.slice A nn cc))
          refine bodyPost_ret (v := .agg (nodeC k i S (.slice A nn cc))) (by simp [results, Tryd.results71, go_sem, nodeC, z0, z1, z2, z3, z4, z5, z6]) rfl ?_
          have tq := touch_putN (Touch.refl w4 (· = w.heap.size)) (.inl rfl) k i S (.slice A nn cc)
          exact ⟨_, _, a', g', bad, rfl, yt.touch tq (fun b hb => (by omega)) (fun b hb => (by omega)), RowAt.putN_other yp k i S (.slice A nn cc) hPR, touch_putN yc (.inr (Nat.le_refl _)) k i S (.slice A nn cc), ha', hag, HR2.out⟩

end Go.Proofs.YtkddighepgpccaaDoor
