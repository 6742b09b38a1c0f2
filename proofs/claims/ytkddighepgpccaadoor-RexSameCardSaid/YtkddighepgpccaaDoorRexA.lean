/-
  The walk of the parser's atom.
-/
import Derived.Test.YtkddighepgpccaaDoorRexG
namespace Go.Proofs.YtkddighepgpccaaDoor
open Go Go.RowKit
set_option linter.unusedSimpArgs false
set_option linter.unusedVariables false

def AtomR (s : ByteArray) (a g : Nat) (bad : Bool) (t : T) (a' g' : Nat) : Prop :=
  (bad = true ∧ ((∃ c r, rem s a = c :: r ∧ isOp c = true) ∨ ∀ done cur, Run (rem s a) g done cur = none)) ∨
  (bad = false ∧ a < a' ∧ ∀ done cur, Run (rem s a) g done cur = Run (rem s a') g' done (cur ++ [t]))
theorem rem_adv {s : ByteArray} {a a' : Nat} {x y : List UInt8} (h : (rem s a').length < (rem s a).length) : a < a' := by
  rw [rem_length, rem_length] at h
  omega
theorem AtomR.set {s : ByteArray} {a a' g : Nat} {S : S4} (h : lex1 (rem s a) = some (.set S, rem s a')) : AtomR s a g false (leaf 1 S) a' g :=
  .inr ⟨rfl, rem_adv (x := []) (y := []) (lex1_lt h), fun done cur => Run_set h g done cur⟩
theorem AtomR.none {s : ByteArray} {a g : Nat} (h0 : rem s a ≠ []) (h : lex1 (rem s a) = none) (t : T) (a' g' : Nat) : AtomR s a g true t a' g' :=
  .inl ⟨rfl, .inr fun done cur => Run_none h0 h g done cur⟩
theorem AtomR.opened {s : ByteArray} {a a' g g' : Nat} {r : List UInt8} {bad : Bool} {t : T} (hr : rem s a = 40 :: r) (ha : bad = false → a + 1 ≤ a') (h : OptR s (groupR (Run (rem s (a + 1)) (g + 1) [] []) g) bad t a' g') : AtomR s a g bad t a' g' := by
  have hl : lex1 (rem s a) = some (.mark 40, rem s (a + 1)) := by rw [hr, (rem_tail hr).1]; rfl
  rcases h with ⟨hb, h⟩ | ⟨hb, h⟩
  · subst hb
    refine .inl ⟨rfl, .inr fun done cur => ?_⟩
    cases h2 : Run (rem s (a + 1)) (g + 1) [] [] with
    | none => exact Run_open_none hl g h2 done cur
    | some x =>
      obtain ⟨t2, r2, g2⟩ := x
      rw [h2] at h
      by_cases hc : r2.head? = some 41
      · unfold groupR at h
        simp only at h
        rw [if_pos hc] at h
        cases h
      · exact Run_open_bad hl g h2 hc done cur
  · subst hb
    have ha := ha rfl
    refine .inr ⟨rfl, by omega, fun done cur => ?_⟩
    cases h2 : Run (rem s (a + 1)) (g + 1) [] [] with
    | none => rw [h2] at h; cases h
    | some x =>
      obtain ⟨t2, r2, g2⟩ := x
      rw [h2] at h
      unfold groupR at h
      simp only at h
      by_cases hc : r2.head? = some 41
      · rw [if_pos hc] at h
        simp only [Option.some.injEq, Prod.mk.injEq] at h
        obtain ⟨rfl, h3, rfl⟩ := h
        rw [← h3]
        cases r2 with
        | nil => cases hc
        | cons d r2 =>
          simp at hc
          subst hc
          exact Run_open hl g h2 done cur
      · rw [if_neg hc] at h; cases h
theorem lex1_plain {c : UInt8} {r : List UInt8} (h : c ≠ 92 ∧ c ≠ 91 ∧ c ≠ 46) (hm : isMark c = false) : lex1 (c :: r) = some (.set (single c), r) := by
  simp only [lex1]
  rw [if_neg h.1, if_neg h.2.1, if_neg h.2.2, hm]
  rfl
theorem byte_ne {c d : UInt8} (h : c ≠ d) : ((c.toNat : Int) == (d.toNat : Int)) = false := by
  rw [byte_int]; simpa using h
def tenK : OK := ⟨single 10, single_ok 10⟩
theorem notLF_ok : notLF.ok := S4.not_ok _

set_option maxHeartbeats 8000000 in
set_option maxRecDepth 100000 in
theorem atom_any (n : Nat) (hE : ExprC n) (w : World) (P : Nat) (s : ByteArray) (a g : Nat) (hs : s.size ≤ 100) (hg : g ≤ a) (hn : (rem s a).length < n + 1) (h : PSt w P s a g false) (c : UInt8) (r : List UInt8) (hr : rem s a = c :: r) (hc1 : c ≠ 124) (hc2 : c ≠ 41) :
    Calls Tryd.prog 77 #[.pointer (some ⟨P, 0, none⟩)] w (PartPost w P s a (AtomR s a g)) := by
  obtain ⟨hrt, hlt⟩ := rem_tail hr
  have hP := RowAt.lt h
  have hPR : w.heap.size ≠ P := by omega
  obtain ⟨V, hV⟩ : ∃ V, w.alloc (.cells #[.int .i64 0, .int .i64 0, .int .u64 0, .int .u64 0, .int .u64 0, .int .u64 0, .slice none 0 0] 41) = V := ⟨_, rfl⟩
  have v1 : PSt V P s a g false := by rw [← hV]; exact RowAt.old h _
  have v2 : RowAt V w.heap.size #[.int .i64 0, .int .i64 0, .int .u64 0, .int .u64 0, .int .u64 0, .int .u64 0, .slice none 0 0] 41 := by rw [← hV]; exact RowAt.new _ _ _
  have v3 : Touch w V (· = P) := by rw [← hV]; exact (Touch.refl w (· = P)).alloc _
  have hVs : w.heap.size < V.heap.size := v2.lt
  have HV := Lib.hid hV
  clear hV
  by_cases e40 : c = 40
  · subst e40
    have HB : Hid (Calls Tryd.prog 79 #[.pointer (some ⟨P, 0, none⟩)] V fun e w' => e = .returned (.int .u8 40) ∧ PSt w' P s (a + 1) g false ∧ Touch V w' (· = P)) := byte_some V P s a g hs v1 _ r hr
    go_enter Tryd.func77, Tryd.ntmps77
    go_wp2_with fail
    have hV := HV.out
    simp only [hV]
    clear hV HV
    refine HB.out.mono ?_
    rintro e w1 ⟨rfl, p1, t1⟩
    try dsimp only
    have u2 := v2.touch t1 hPR
    have u3 := v3.trans t1
    have hs1 : w.heap.size < w1.heap.size := u2.lt
    clear HB v1 v2 v3 t1
    go_wp2_with fail
    refine (group_any n hE w1 P s (a + 1) g hs hlt (by omega) (by rw [hr] at hn; rw [← hrt]; simpa using hn) p1).mono ?_
    rintro e w2 ⟨cs, t, a', g', bad, rfl, ht, p2, t2, ha', hag, hR⟩
    try dsimp only
    obtain ⟨k, i, S, ks, A, cc, rfl, rfl, hSok⟩ := ht.form
    have HT := Lib.hid ht
    have HR : Hid (AtomR s a g bad (.mk k i S ks) a' g') := AtomR.opened hr (fun hb => (hag hb).1) hR
    have r2 := u2.touch t2 hPR
    have tt := u3.trans t2
    unfold nodeC
    clear ht u2 u3 hR
    obtain ⟨⟨n0, n1, n2, n3, n4, n5, n6⟩, m0, m1, m2, m3, m4, m5, m6⟩ := node_facts (k := 0) (i := 0) (s := S4.zero) (sl := .slice none 0 0) r2
    go_wp2_with fail
    obtain ⟨z0, z1, z2, z3, z4, z5, z6⟩ := row7 (RowAt.seven r2 (.int .i64 (k : Int)) (.int .i64 (i : Int)) (.int .u64 (S.a0 : Int)) (.int .u64 (S.a1 : Int)) (.int .u64 (S.a2 : Int)) (.int .u64 (S.a3 : Int)) (.slice A ks.length cc))
    refine bodyPost_ret (v := .agg #[.int .i64 (k : Int), .int .i64 (i : Int), .int .u64 (S.a0 : Int), .int .u64 (S.a1 : Int), .int .u64 (S.a2 : Int), .int .u64 (S.a3 : Int), .slice A ks.length cc]) (by simp [results, Tryd.results77, go_sem, z0, z1, z2, z3, z4, z5, z6]) rfl ?_
    have tq := touch_putN (Touch.refl w2 (· = w.heap.size)) (.inl rfl) k i S (.slice A ks.length cc)
    have tree : TreeAt (fun b => w.heap.size + 1 ≤ b) w2 _ _ := HT.out.mono (fun b hb => (by omega))
    exact ⟨_, _, a', g', bad, rfl, tree.touch tq (fun b hb => (by omega)) (fun b hb => (by omega)), RowAt.putN_other p2 k i S (.slice A ks.length cc) hPR, touch_putN tt (.inr (Nat.le_refl _)) k i S (.slice A ks.length cc), by omega, (fun hb => by first | (cases hb; done) | exact ⟨by omega, by omega⟩ | exact HA hb | (have := hag hb; omega)), HR.out⟩
  by_cases e91 : c = 91
  · subst e91
    have HB : Hid (Calls Tryd.prog 79 #[.pointer (some ⟨P, 0, none⟩)] V fun e w' => e = .returned (.int .u8 91) ∧ PSt w' P s (a + 1) g false ∧ Touch V w' (· = P)) := byte_some V P s a g hs v1 _ r hr
    go_enter Tryd.func77, Tryd.ntmps77
    go_wp2_with fail
    have hV := HV.out
    simp only [hV]
    clear hV HV
    refine HB.out.mono ?_
    rintro e w1 ⟨rfl, p1, t1⟩
    try dsimp only
    have u2 := v2.touch t1 hPR
    have u3 := v3.trans t1
    have hs1 : w.heap.size < w1.heap.size := u2.lt
    clear HB v1 v2 v3 t1
    go_wp2_with fail
    refine (class_any w1 P s (a + 1) g hs hlt p1).mono ?_
    rintro e w2 ⟨S, a', bad, he, p2, t2, ha', hR⟩
    have he : e = .returned (.agg #[.int .u64 (S.1.a0 : Int), .int .u64 (S.1.a1 : Int), .int .u64 (S.1.a2 : Int), .int .u64 (S.1.a3 : Int)]) := he
    subst he
    try dsimp only
    have HR : Hid (AtomR s a g bad (leaf 1 S.1) a' g ∧ (bad = false → a ≤ a' ∧ g ≤ a')) := by
      rcases hR with ⟨hb, hR⟩ | ⟨hb, hR⟩
      · subst hb
        exact ⟨AtomR.none (by rw [hr]; simp) (by rw [hr, hrt]; simp only [lex1]; rw [if_neg (by decide), if_pos trivial, hR]; rfl) _ _ _, fun hb => by cases hb⟩
      · subst hb
        have hl : lex1 (rem s a) = some (.set S.1, rem s a') := by rw [hr, hrt]; simp only [lex1]; rw [if_neg (by decide), if_pos trivial, hR]; rfl
        have := rem_adv (x := []) (y := []) (lex1_lt hl)
        exact ⟨AtomR.set hl, fun _ => ⟨by omega, by omega⟩⟩
    have r2 := u2.touch t2 hPR
    have tt := u3.trans t2
    clear u2 u3 hR
    obtain ⟨⟨n0, n1, n2, n3, n4, n5, n6⟩, m0, m1, m2, m3, m4, m5, m6⟩ := node_facts (k := 0) (i := 0) (s := S4.zero) (sl := .slice none 0 0) r2
    have HA := HR.out.2
    go_wp2_with fail
    obtain ⟨z0, z1, z2, z3, z4, z5, z6⟩ := row7 (RowAt.seven r2 (.int .i64 1) (.int .i64 0) (.int .u64 (S.1.a0 : Int)) (.int .u64 (S.1.a1 : Int)) (.int .u64 (S.1.a2 : Int)) (.int .u64 (S.1.a3 : Int)) (.slice none 0 0))
    refine bodyPost_ret (v := .agg #[.int .i64 1, .int .i64 0, .int .u64 (S.1.a0 : Int), .int .u64 (S.1.a1 : Int), .int .u64 (S.1.a2 : Int), .int .u64 (S.1.a3 : Int), .slice none 0 0]) (by simp [results, Tryd.results77, go_sem, z0, z1, z2, z3, z4, z5, z6]) rfl ?_
    have tq := touch_putN (Touch.refl w2 (· = w.heap.size)) (.inl rfl) 1 0 S.1 (.slice none 0 0)
    have tree : TreeAt (fun b => w.heap.size + 1 ≤ b) w2 _ _ := TreeAt.leaf _ _ 1 0 S.2
    exact ⟨_, _, a', g, bad, rfl, tree.touch tq (fun b hb => (by omega)) (fun b hb => (by omega)), RowAt.putN_other p2 1 0 S.1 (.slice none 0 0) hPR, touch_putN tt (.inr (Nat.le_refl _)) 1 0 S.1 (.slice none 0 0), by omega, (fun hb => by first | (cases hb; done) | exact ⟨by omega, by omega⟩ | exact HA hb | (have := hag hb; omega)), HR.out.1⟩
  by_cases e46 : c = 46
  · subst e46
    have HB : Hid (Calls Tryd.prog 79 #[.pointer (some ⟨P, 0, none⟩)] V fun e w' => e = .returned (.int .u8 46) ∧ PSt w' P s (a + 1) g false ∧ Touch V w' (· = P)) := byte_some V P s a g hs v1 _ r hr
    go_enter Tryd.func77, Tryd.ntmps77
    go_wp2_with fail
    have hV := HV.out
    simp only [hV]
    clear hV HV
    refine HB.out.mono ?_
    rintro e w1 ⟨rfl, p1, t1⟩
    try dsimp only
    have u2 := v2.touch t1 hPR
    have u3 := v3.trans t1
    have hs1 : w.heap.size < w1.heap.size := u2.lt
    clear HB v1 v2 v3 t1
    have HNL := Lib.hid (fun w => NotX tenK w)
    have HOF := Lib.hid (OfOneX 10 (w1.alloc (.cells #[.int .u8 10] 5)) w1.heap.size (RowAt.new w1 _ _))
    go_wp2_with fail
    refine HOF.out.mono ?_
    rintro e w2 ⟨rfl, hb2⟩
    try dsimp only
    go_wp2_with fail
    refine (HNL.out _).mono ?_
    rintro e w3 ⟨rfl, hb3⟩
    try dsimp only
    have tb : Below w1.heap.size w1 w3 := ((Below.refl _ _).alloc (Nat.le_refl _) _).trans ((hb2.trans (hb3.mono hb2.size)).mono (by simp))
    have r2 := u2.later tb u2.lt
    have tt := u3.trans (Touch.ofBelow (· = P) tb)
    have p2 : PSt w3 P s (a + 1) g false := RowAt.later p1 tb (RowAt.lt p1)
    have HR : Hid (AtomR s a g false (leaf 1 notLF) (a + 1) g) := AtomR.set (by rw [hr, hrt]; rfl)
    obtain ⟨S, hS⟩ : ∃ S : S4, tenK.not.1 = S := ⟨_, rfl⟩
    have HS : Hid (S = notLF) := hS.symm
    have HSok : S.ok := by rw [← hS]; exact tenK.not.2
    simp only [hS]
    clear u2 u3 hS hb2 hb3 HOF HNL
    obtain ⟨⟨n0, n1, n2, n3, n4, n5, n6⟩, m0, m1, m2, m3, m4, m5, m6⟩ := node_facts (k := 0) (i := 0) (s := S4.zero) (sl := .slice none 0 0) r2
    go_wp2_with fail
    obtain ⟨z0, z1, z2, z3, z4, z5, z6⟩ := row7 (RowAt.seven r2 (.int .i64 1) (.int .i64 0) (.int .u64 (S.a0 : Int)) (.int .u64 (S.a1 : Int)) (.int .u64 (S.a2 : Int)) (.int .u64 (S.a3 : Int)) (.slice none 0 0))
    refine bodyPost_ret (v := .agg #[.int .i64 1, .int .i64 0, .int .u64 (S.a0 : Int), .int .u64 (S.a1 : Int), .int .u64 (S.a2 : Int), .int .u64 (S.a3 : Int), .slice none 0 0]) (by simp [results, Tryd.results77, go_sem, z0, z1, z2, z3, z4, z5, z6]) rfl ?_
    have tq := touch_putN (Touch.refl w3 (· = w.heap.size)) (.inl rfl) 1 0 S (.slice none 0 0)
    have tree : TreeAt (fun b => w.heap.size + 1 ≤ b) w3 _ _ := TreeAt.leaf _ _ 1 0 HSok
    exact ⟨_, _, (a + 1), g, false, rfl, tree.touch tq (fun b hb => (by omega)) (fun b hb => (by omega)), RowAt.putN_other p2 1 0 S (.slice none 0 0) hPR, touch_putN tt (.inr (Nat.le_refl _)) 1 0 S (.slice none 0 0), by omega, (fun hb => by first | (cases hb; done) | exact ⟨by omega, by omega⟩ | exact HA hb | (have := hag hb; omega)), (by rw [HS.out]; exact HR.out)⟩
  by_cases e94 : c = 94
  · subst e94
    have HB : Hid (Calls Tryd.prog 79 #[.pointer (some ⟨P, 0, none⟩)] V fun e w' => e = .returned (.int .u8 94) ∧ PSt w' P s (a + 1) g false ∧ Touch V w' (· = P)) := byte_some V P s a g hs v1 _ r hr
    go_enter Tryd.func77, Tryd.ntmps77
    go_wp2_with fail
    have hV := HV.out
    simp only [hV]
    clear hV HV
    refine HB.out.mono ?_
    rintro e w1 ⟨rfl, p1, t1⟩
    try dsimp only
    have u2 := v2.touch t1 hPR
    have u3 := v3.trans t1
    have hs1 : w.heap.size < w1.heap.size := u2.lt
    clear HB v1 v2 v3 t1
    have HR : Hid (AtomR s a g false (leaf 8 S4.zero) (a + 1) g) := .inr ⟨rfl, by omega, fun done cur => Run_begin (by rw [hr, hrt]; rfl) g done cur⟩
    obtain ⟨⟨n0, n1, n2, n3, n4, n5, n6⟩, m0, m1, m2, m3, m4, m5, m6⟩ := node_facts (k := 0) (i := 0) (s := S4.zero) (sl := .slice none 0 0) u2
    go_wp2_with fail
    obtain ⟨z0, z1, z2, z3, z4, z5, z6⟩ := row7 (RowAt.seven u2 (.int .i64 8) (.int .i64 0) (.int .u64 0) (.int .u64 0) (.int .u64 0) (.int .u64 0) (.slice none 0 0))
    refine bodyPost_ret (v := .agg #[.int .i64 8, .int .i64 0, .int .u64 0, .int .u64 0, .int .u64 0, .int .u64 0, .slice none 0 0]) (by simp [results, Tryd.results77, go_sem, z0, z1, z2, z3, z4, z5, z6]) rfl ?_
    have tq := touch_putN (Touch.refl w1 (· = w.heap.size)) (.inl rfl) 8 0 S4.zero (.slice none 0 0)
    have tree : TreeAt (fun b => w.heap.size + 1 ≤ b) w1 _ _ := TreeAt.leaf _ _ 8 0 S4.zero_ok
    exact ⟨_, _, (a + 1), g, false, rfl, tree.touch tq (fun b hb => (by omega)) (fun b hb => (by omega)), RowAt.putN_other p1 8 0 S4.zero (.slice none 0 0) hPR, touch_putN u3 (.inr (Nat.le_refl _)) 8 0 S4.zero (.slice none 0 0), by omega, (fun hb => by first | (cases hb; done) | exact ⟨by omega, by omega⟩ | exact HA hb | (have := hag hb; omega)), HR.out⟩
  by_cases e36 : c = 36
  · subst e36
    have HB : Hid (Calls Tryd.prog 79 #[.pointer (some ⟨P, 0, none⟩)] V fun e w' => e = .returned (.int .u8 36) ∧ PSt w' P s (a + 1) g false ∧ Touch V w' (· = P)) := byte_some V P s a g hs v1 _ r hr
    go_enter Tryd.func77, Tryd.ntmps77
    go_wp2_with fail
    have hV := HV.out
    simp only [hV]
    clear hV HV
    refine HB.out.mono ?_
    rintro e w1 ⟨rfl, p1, t1⟩
    try dsimp only
    have u2 := v2.touch t1 hPR
    have u3 := v3.trans t1
    have hs1 : w.heap.size < w1.heap.size := u2.lt
    clear HB v1 v2 v3 t1
    have HR : Hid (AtomR s a g false (leaf 9 S4.zero) (a + 1) g) := .inr ⟨rfl, by omega, fun done cur => Run_end (by rw [hr, hrt]; rfl) g done cur⟩
    obtain ⟨⟨n0, n1, n2, n3, n4, n5, n6⟩, m0, m1, m2, m3, m4, m5, m6⟩ := node_facts (k := 0) (i := 0) (s := S4.zero) (sl := .slice none 0 0) u2
    go_wp2_with fail
    obtain ⟨z0, z1, z2, z3, z4, z5, z6⟩ := row7 (RowAt.seven u2 (.int .i64 9) (.int .i64 0) (.int .u64 0) (.int .u64 0) (.int .u64 0) (.int .u64 0) (.slice none 0 0))
    refine bodyPost_ret (v := .agg #[.int .i64 9, .int .i64 0, .int .u64 0, .int .u64 0, .int .u64 0, .int .u64 0, .slice none 0 0]) (by simp [results, Tryd.results77, go_sem, z0, z1, z2, z3, z4, z5, z6]) rfl ?_
    have tq := touch_putN (Touch.refl w1 (· = w.heap.size)) (.inl rfl) 9 0 S4.zero (.slice none 0 0)
    have tree : TreeAt (fun b => w.heap.size + 1 ≤ b) w1 _ _ := TreeAt.leaf _ _ 9 0 S4.zero_ok
    exact ⟨_, _, (a + 1), g, false, rfl, tree.touch tq (fun b hb => (by omega)) (fun b hb => (by omega)), RowAt.putN_other p1 9 0 S4.zero (.slice none 0 0) hPR, touch_putN u3 (.inr (Nat.le_refl _)) 9 0 S4.zero (.slice none 0 0), by omega, (fun hb => by first | (cases hb; done) | exact ⟨by omega, by omega⟩ | exact HA hb | (have := hag hb; omega)), HR.out⟩
  by_cases e92 : c = 92
  · subst e92
    cases hr2 : r with
    | nil =>
      rw [hr2] at hrt
      have HB : Hid (Calls Tryd.prog 79 #[.pointer (some ⟨P, 0, none⟩)] V fun e w' => e = .returned (.int .u8 92) ∧ PSt w' P s (a + 1) g false ∧ Touch V w' (· = P)) := byte_some V P s a g hs v1 _ r hr
      go_enter Tryd.func77, Tryd.ntmps77
      go_wp2_with fail
      have hV := HV.out
      simp only [hV]
      clear hV HV
      refine HB.out.mono ?_
      rintro e w1 ⟨rfl, p1, t1⟩
      try dsimp only
      have u2 := v2.touch t1 hPR
      have u3 := v3.trans t1
      have hs1 : w.heap.size < w1.heap.size := u2.lt
      clear HB v1 v2 v3 t1
      have HB2 := Lib.hid (byte_none w1 P s (a + 1) g false hs hlt p1 (.inr hrt.symm))
      have HR : Hid (AtomR s a g true (leaf 1 (single 0)) (a + 1) g) := AtomR.none (by rw [hr]; simp) (by rw [hr, hr2]; rfl) _ _ _
      clear hrt
      go_wp2_with fail
      refine HB2.out.mono ?_
      rintro e w2 ⟨rfl, p2, t2⟩
      try dsimp only
      have y2 := u2.touch t2 hPR
      have y3 := u3.trans t2
      have hs2 : w.heap.size < w2.heap.size := y2.lt
      clear u2 u3 HB2
      go_wp2_with fail
      refine (single_any 0 (w.heap.size + 1) w2).mono ?_
      rintro e w3 ⟨cs, rfl, ht, hb3⟩
      try dsimp only
      obtain ⟨k, i, S, ks, A, cc, hT, rfl, hSok⟩ := ht.form
      have HT := Lib.hid ht
      have r3 := y2.later hb3 y2.lt
      have tt := y3.trans (Touch.ofBelow (· = P) hb3)
      have p3 : PSt w3 P s (a + 1) g true := RowAt.later p2 hb3 (RowAt.lt p2)
      unfold nodeC
      clear ht hT
      obtain ⟨⟨n0, n1, n2, n3, n4, n5, n6⟩, m0, m1, m2, m3, m4, m5, m6⟩ := node_facts (k := 0) (i := 0) (s := S4.zero) (sl := .slice none 0 0) r3
      go_wp2_with fail
      obtain ⟨z0, z1, z2, z3, z4, z5, z6⟩ := row7 (RowAt.seven r3 (.int .i64 (k : Int)) (.int .i64 (i : Int)) (.int .u64 (S.a0 : Int)) (.int .u64 (S.a1 : Int)) (.int .u64 (S.a2 : Int)) (.int .u64 (S.a3 : Int)) (.slice A ks.length cc))
      refine bodyPost_ret (v := .agg #[.int .i64 (k : Int), .int .i64 (i : Int), .int .u64 (S.a0 : Int), .int .u64 (S.a1 : Int), .int .u64 (S.a2 : Int), .int .u64 (S.a3 : Int), .slice A ks.length cc]) (by simp [results, Tryd.results77, go_sem, z0, z1, z2, z3, z4, z5, z6]) rfl ?_
      have tq := touch_putN (Touch.refl w3 (· = w.heap.size)) (.inl rfl) k i S (.slice A ks.length cc)
      have tree : TreeAt (fun b => w.heap.size + 1 ≤ b) w3 _ _ := HT.out
      exact ⟨_, _, (a + 1), g, true, rfl, tree.touch tq (fun b hb => (by omega)) (fun b hb => (by omega)), RowAt.putN_other p3 k i S (.slice A ks.length cc) hPR, touch_putN tt (.inr (Nat.le_refl _)) k i S (.slice A ks.length cc), by omega, (fun hb => by first | (cases hb; done) | exact ⟨by omega, by omega⟩ | exact HA hb | (have := hag hb; omega)), HR.out⟩
    | cons d r2 =>
      rw [hr2] at hrt
      obtain ⟨hrt2, hlt2⟩ := rem_tail hrt.symm
      have HB : Hid (Calls Tryd.prog 79 #[.pointer (some ⟨P, 0, none⟩)] V fun e w' => e = .returned (.int .u8 92) ∧ PSt w' P s (a + 1) g false ∧ Touch V w' (· = P)) := byte_some V P s a g hs v1 _ r hr
      go_enter Tryd.func77, Tryd.ntmps77
      go_wp2_with fail
      have hV := HV.out
      simp only [hV]
      clear hV HV
      refine HB.out.mono ?_
      rintro e w1 ⟨rfl, p1, t1⟩
      try dsimp only
      have u2 := v2.touch t1 hPR
      have u3 := v3.trans t1
      have hs1 : w.heap.size < w1.heap.size := u2.lt
      clear HB v1 v2 v3 t1
      have HB2 := Lib.hid (byte_some w1 P s (a + 1) g hs p1 d r2 hrt.symm)
      have HR : Hid (AtomR s a g false (leaf 1 (single d)) (a + 1 + 1) g) := AtomR.set (by rw [hr, hr2, hrt2]; rfl)
      clear hrt hrt2
      go_wp2_with fail
      refine HB2.out.mono ?_
      rintro e w2 ⟨rfl, p2, t2⟩
      try dsimp only
      have y2 := u2.touch t2 hPR
      have y3 := u3.trans t2
      have hs2 : w.heap.size < w2.heap.size := y2.lt
      clear u2 u3 HB2
      go_wp2_with fail
      refine (single_any d (w.heap.size + 1) w2).mono ?_
      rintro e w3 ⟨cs, rfl, ht, hb3⟩
      try dsimp only
      obtain ⟨k, i, S, ks, A, cc, hT, rfl, hSok⟩ := ht.form
      have HT := Lib.hid ht
      have r3 := y2.later hb3 y2.lt
      have tt := y3.trans (Touch.ofBelow (· = P) hb3)
      have p3 : PSt w3 P s (a + 1 + 1) g false := RowAt.later p2 hb3 (RowAt.lt p2)
      unfold nodeC
      clear ht hT
      obtain ⟨⟨n0, n1, n2, n3, n4, n5, n6⟩, m0, m1, m2, m3, m4, m5, m6⟩ := node_facts (k := 0) (i := 0) (s := S4.zero) (sl := .slice none 0 0) r3
      go_wp2_with fail
      obtain ⟨z0, z1, z2, z3, z4, z5, z6⟩ := row7 (RowAt.seven r3 (.int .i64 (k : Int)) (.int .i64 (i : Int)) (.int .u64 (S.a0 : Int)) (.int .u64 (S.a1 : Int)) (.int .u64 (S.a2 : Int)) (.int .u64 (S.a3 : Int)) (.slice A ks.length cc))
      refine bodyPost_ret (v := .agg #[.int .i64 (k : Int), .int .i64 (i : Int), .int .u64 (S.a0 : Int), .int .u64 (S.a1 : Int), .int .u64 (S.a2 : Int), .int .u64 (S.a3 : Int), .slice A ks.length cc]) (by simp [results, Tryd.results77, go_sem, z0, z1, z2, z3, z4, z5, z6]) rfl ?_
      have tq := touch_putN (Touch.refl w3 (· = w.heap.size)) (.inl rfl) k i S (.slice A ks.length cc)
      have tree : TreeAt (fun b => w.heap.size + 1 ≤ b) w3 _ _ := HT.out
      exact ⟨_, _, (a + 1 + 1), g, false, rfl, tree.touch tq (fun b hb => (by omega)) (fun b hb => (by omega)), RowAt.putN_other p3 k i S (.slice A ks.length cc) hPR, touch_putN tt (.inr (Nat.le_refl _)) k i S (.slice A ks.length cc), by omega, (fun hb => by first | (cases hb; done) | exact ⟨by omega, by omega⟩ | exact HA hb | (have := hag hb; omega)), HR.out⟩
  by_cases e42 : c = 42
  · subst e42
    have HB : Hid (Calls Tryd.prog 79 #[.pointer (some ⟨P, 0, none⟩)] V fun e w' => e = .returned (.int .u8 42) ∧ PSt w' P s (a + 1) g false ∧ Touch V w' (· = P)) := byte_some V P s a g hs v1 _ r hr
    go_enter Tryd.func77, Tryd.ntmps77
    go_wp2_with fail
    have hV := HV.out
    simp only [hV]
    clear hV HV
    refine HB.out.mono ?_
    rintro e w1 ⟨rfl, p1, t1⟩
    try dsimp only
    have u2 := v2.touch t1 hPR
    have u3 := v3.trans t1
    have hs1 : w.heap.size < w1.heap.size := u2.lt
    clear HB v1 v2 v3 t1
    have HR : Hid (AtomR s a g true (.mk 0 0 S4.zero []) (a + 1) g) := .inl ⟨rfl, .inl ⟨_, r, hr, rfl⟩⟩
    obtain ⟨c0, c1, c2, c3⟩ := PSt.cells p1
    obtain ⟨f0, f1, f2, f3⟩ := PSt.frozen p1
    go_upto_region 20 with fail
    obtain ⟨w2, hw2⟩ : ∃ w2, w1.setCell ⟨P, 3, none⟩ (.bool true) = w2 := ⟨_, rfl⟩
    have p2 : PSt w2 P s (a + 1) g true := by rw [← hw2]; exact PSt.setBad p1 true
    have r2 : RowAt w2 w.heap.size #[.int .i64 0, .int .i64 0, .int .u64 0, .int .u64 0, .int .u64 0, .int .u64 0, .slice none 0 0] 41 := by rw [← hw2]; exact u2.other _ (Ne.symm hPR)
    have tt : Touch w w2 (· = P) := by rw [← hw2]; exact u3.put _ (.inl rfl)
    simp only [hw2]
    clear hw2 u2 u3 c0 c1 c2 c3 f0 f1 f2 f3
    obtain ⟨⟨n0, n1, n2, n3, n4, n5, n6⟩, m0, m1, m2, m3, m4, m5, m6⟩ := node_facts (k := 0) (i := 0) (s := S4.zero) (sl := .slice none 0 0) r2
    go_wp2_with fail
    obtain ⟨z0, z1, z2, z3, z4, z5, z6⟩ := row7 (RowAt.seven r2 (.int .i64 0) (.int .i64 0) (.int .u64 0) (.int .u64 0) (.int .u64 0) (.int .u64 0) (.slice none 0 0))
    refine bodyPost_ret (v := .agg #[.int .i64 0, .int .i64 0, .int .u64 0, .int .u64 0, .int .u64 0, .int .u64 0, .slice none 0 0]) (by simp [results, Tryd.results77, go_sem, z0, z1, z2, z3, z4, z5, z6]) rfl ?_
    have tq := touch_putN (Touch.refl w2 (· = w.heap.size)) (.inl rfl) 0 0 S4.zero (.slice none 0 0)
    have tree : TreeAt (fun b => w.heap.size + 1 ≤ b) w2 _ _ := TreeAt.leaf _ _ 0 0 S4.zero_ok
    exact ⟨_, _, (a + 1), g, true, rfl, tree.touch tq (fun b hb => (by omega)) (fun b hb => (by omega)), RowAt.putN_other p2 0 0 S4.zero (.slice none 0 0) hPR, touch_putN tt (.inr (Nat.le_refl _)) 0 0 S4.zero (.slice none 0 0), by omega, (fun hb => by first | (cases hb; done) | exact ⟨by omega, by omega⟩ | exact HA hb | (have := hag hb; omega)), HR.out⟩
  by_cases e43 : c = 43
  · subst e43
    have HB : Hid (Calls Tryd.prog 79 #[.pointer (some ⟨P, 0, none⟩)] V fun e w' => e = .returned (.int .u8 43) ∧ PSt w' P s (a + 1) g false ∧ Touch V w' (· = P)) := byte_some V P s a g hs v1 _ r hr
    go_enter Tryd.func77, Tryd.ntmps77
    go_wp2_with fail
    have hV := HV.out
    simp only [hV]
    clear hV HV
    refine HB.out.mono ?_
    rintro e w1 ⟨rfl, p1, t1⟩
    try dsimp only
    have u2 := v2.touch t1 hPR
    have u3 := v3.trans t1
    have hs1 : w.heap.size < w1.heap.size := u2.lt
    clear HB v1 v2 v3 t1
    have HR : Hid (AtomR s a g true (.mk 0 0 S4.zero []) (a + 1) g) := .inl ⟨rfl, .inl ⟨_, r, hr, rfl⟩⟩
    obtain ⟨c0, c1, c2, c3⟩ := PSt.cells p1
    obtain ⟨f0, f1, f2, f3⟩ := PSt.frozen p1
    go_upto_region 20 with fail
    obtain ⟨w2, hw2⟩ : ∃ w2, w1.setCell ⟨P, 3, none⟩ (.bool true) = w2 := ⟨_, rfl⟩
    have p2 : PSt w2 P s (a + 1) g true := by rw [← hw2]; exact PSt.setBad p1 true
    have r2 : RowAt w2 w.heap.size #[.int .i64 0, .int .i64 0, .int .u64 0, .int .u64 0, .int .u64 0, .int .u64 0, .slice none 0 0] 41 := by rw [← hw2]; exact u2.other _ (Ne.symm hPR)
    have tt : Touch w w2 (· = P) := by rw [← hw2]; exact u3.put _ (.inl rfl)
    simp only [hw2]
    clear hw2 u2 u3 c0 c1 c2 c3 f0 f1 f2 f3
    obtain ⟨⟨n0, n1, n2, n3, n4, n5, n6⟩, m0, m1, m2, m3, m4, m5, m6⟩ := node_facts (k := 0) (i := 0) (s := S4.zero) (sl := .slice none 0 0) r2
    go_wp2_with fail
    obtain ⟨z0, z1, z2, z3, z4, z5, z6⟩ := row7 (RowAt.seven r2 (.int .i64 0) (.int .i64 0) (.int .u64 0) (.int .u64 0) (.int .u64 0) (.int .u64 0) (.slice none 0 0))
    refine bodyPost_ret (v := .agg #[.int .i64 0, .int .i64 0, .int .u64 0, .int .u64 0, .int .u64 0, .int .u64 0, .slice none 0 0]) (by simp [results, Tryd.results77, go_sem, z0, z1, z2, z3, z4, z5, z6]) rfl ?_
    have tq := touch_putN (Touch.refl w2 (· = w.heap.size)) (.inl rfl) 0 0 S4.zero (.slice none 0 0)
    have tree : TreeAt (fun b => w.heap.size + 1 ≤ b) w2 _ _ := TreeAt.leaf _ _ 0 0 S4.zero_ok
    exact ⟨_, _, (a + 1), g, true, rfl, tree.touch tq (fun b hb => (by omega)) (fun b hb => (by omega)), RowAt.putN_other p2 0 0 S4.zero (.slice none 0 0) hPR, touch_putN tt (.inr (Nat.le_refl _)) 0 0 S4.zero (.slice none 0 0), by omega, (fun hb => by first | (cases hb; done) | exact ⟨by omega, by omega⟩ | exact HA hb | (have := hag hb; omega)), HR.out⟩
  by_cases e63 : c = 63
  · subst e63
    have HB : Hid (Calls Tryd.prog 79 #[.pointer (some ⟨P, 0, none⟩)] V fun e w' => e = .returned (.int .u8 63) ∧ PSt w' P s (a + 1) g false ∧ Touch V w' (· = P)) := byte_some V P s a g hs v1 _ r hr
    go_enter Tryd.func77, Tryd.ntmps77
    go_wp2_with fail
    have hV := HV.out
    simp only [hV]
    clear hV HV
    refine HB.out.mono ?_
    rintro e w1 ⟨rfl, p1, t1⟩
    try dsimp only
    have u2 := v2.touch t1 hPR
    have u3 := v3.trans t1
    have hs1 : w.heap.size < w1.heap.size := u2.lt
    clear HB v1 v2 v3 t1
    have HR : Hid (AtomR s a g true (.mk 0 0 S4.zero []) (a + 1) g) := .inl ⟨rfl, .inl ⟨_, r, hr, rfl⟩⟩
    obtain ⟨c0, c1, c2, c3⟩ := PSt.cells p1
    obtain ⟨f0, f1, f2, f3⟩ := PSt.frozen p1
    go_upto_region 20 with fail
    obtain ⟨w2, hw2⟩ : ∃ w2, w1.setCell ⟨P, 3, none⟩ (.bool true) = w2 := ⟨_, rfl⟩
    have p2 : PSt w2 P s (a + 1) g true := by rw [← hw2]; exact PSt.setBad p1 true
    have r2 : RowAt w2 w.heap.size #[.int .i64 0, .int .i64 0, .int .u64 0, .int .u64 0, .int .u64 0, .int .u64 0, .slice none 0 0] 41 := by rw [← hw2]; exact u2.other _ (Ne.symm hPR)
    have tt : Touch w w2 (· = P) := by rw [← hw2]; exact u3.put _ (.inl rfl)
    simp only [hw2]
    clear hw2 u2 u3 c0 c1 c2 c3 f0 f1 f2 f3
    obtain ⟨⟨n0, n1, n2, n3, n4, n5, n6⟩, m0, m1, m2, m3, m4, m5, m6⟩ := node_facts (k := 0) (i := 0) (s := S4.zero) (sl := .slice none 0 0) r2
    go_wp2_with fail
    obtain ⟨z0, z1, z2, z3, z4, z5, z6⟩ := row7 (RowAt.seven r2 (.int .i64 0) (.int .i64 0) (.int .u64 0) (.int .u64 0) (.int .u64 0) (.int .u64 0) (.slice none 0 0))
    refine bodyPost_ret (v := .agg #[.int .i64 0, .int .i64 0, .int .u64 0, .int .u64 0, .int .u64 0, .int .u64 0, .slice none 0 0]) (by simp [results, Tryd.results77, go_sem, z0, z1, z2, z3, z4, z5, z6]) rfl ?_
    have tq := touch_putN (Touch.refl w2 (· = w.heap.size)) (.inl rfl) 0 0 S4.zero (.slice none 0 0)
    have tree : TreeAt (fun b => w.heap.size + 1 ≤ b) w2 _ _ := TreeAt.leaf _ _ 0 0 S4.zero_ok
    exact ⟨_, _, (a + 1), g, true, rfl, tree.touch tq (fun b hb => (by omega)) (fun b hb => (by omega)), RowAt.putN_other p2 0 0 S4.zero (.slice none 0 0) hPR, touch_putN tt (.inr (Nat.le_refl _)) 0 0 S4.zero (.slice none 0 0), by omega, (fun hb => by first | (cases hb; done) | exact ⟨by omega, by omega⟩ | exact HA hb | (have := hag hb; omega)), HR.out⟩
  have HR : Hid (AtomR s a g false (leaf 1 (single c)) (a + 1) g) := AtomR.set (by
    rw [hr, hrt]
    refine lex1_plain ⟨e92, e91, e46⟩ ?_
    simp [isMark, isOp, e40, e94, e36, e42, e43, e63, hc1, hc2])
  have d40 : ((c.toNat : Int) == 40) = false := byte_ne e40
  have d91 : ((c.toNat : Int) == 91) = false := byte_ne e91
  have d46 : ((c.toNat : Int) == 46) = false := byte_ne e46
  have d94 : ((c.toNat : Int) == 94) = false := byte_ne e94
  have d36 : ((c.toNat : Int) == 36) = false := byte_ne e36
  have d92 : ((c.toNat : Int) == 92) = false := byte_ne e92
  have d42 : ((c.toNat : Int) == 42) = false := byte_ne e42
  have d43 : ((c.toNat : Int) == 43) = false := byte_ne e43
  have d63 : ((c.toNat : Int) == 63) = false := byte_ne e63
  clear hc1 hc2 e40 e91 e46 e94 e36 e92 e42 e43 e63
  have HB : Hid (Calls Tryd.prog 79 #[.pointer (some ⟨P, 0, none⟩)] V fun e w' => e = .returned (.int .u8 (c.toNat : Int)) ∧ PSt w' P s (a + 1) g false ∧ Touch V w' (· = P)) := byte_some V P s a g hs v1 _ r hr
  go_enter Tryd.func77, Tryd.ntmps77
  go_wp2_with fail
  have hV := HV.out
  simp only [hV]
  clear hV HV
  refine HB.out.mono ?_
  rintro e w1 ⟨rfl, p1, t1⟩
  try dsimp only
  have u2 := v2.touch t1 hPR
  have u3 := v3.trans t1
  have hs1 : w.heap.size < w1.heap.size := u2.lt
  clear HB v1 v2 v3 t1
  go_wp2_with fail
  refine (single_any c (w.heap.size + 1) w1).mono ?_
  rintro e w3 ⟨cs, rfl, ht, hb3⟩
  try dsimp only
  obtain ⟨k, i, S, ks, A, cc, hT, rfl, hSok⟩ := ht.form
  have HT := Lib.hid ht
  have r3 := u2.later hb3 u2.lt
  have tt := u3.trans (Touch.ofBelow (· = P) hb3)
  have p3 : PSt w3 P s (a + 1) g false := RowAt.later p1 hb3 (RowAt.lt p1)
  unfold nodeC
  clear ht hT
  obtain ⟨⟨n0, n1, n2, n3, n4, n5, n6⟩, m0, m1, m2, m3, m4, m5, m6⟩ := node_facts (k := 0) (i := 0) (s := S4.zero) (sl := .slice none 0 0) r3
  go_wp2_with fail
  obtain ⟨z0, z1, z2, z3, z4, z5, z6⟩ := row7 (RowAt.seven r3 (.int .i64 (k : Int)) (.int .i64 (i : Int)) (.int .u64 (S.a0 : Int)) (.int .u64 (S.a1 : Int)) (.int .u64 (S.a2 : Int)) (.int .u64 (S.a3 : Int)) (.slice A ks.length cc))
  refine bodyPost_ret (v := .agg #[.int .i64 (k : Int), .int .i64 (i : Int), .int .u64 (S.a0 : Int), .int .u64 (S.a1 : Int), .int .u64 (S.a2 : Int), .int .u64 (S.a3 : Int), .slice A ks.length cc]) (by simp [results, Tryd.results77, go_sem, z0, z1, z2, z3, z4, z5, z6]) rfl ?_
  have tq := touch_putN (Touch.refl w3 (· = w.heap.size)) (.inl rfl) k i S (.slice A ks.length cc)
  have tree : TreeAt (fun b => w.heap.size + 1 ≤ b) w3 _ _ := HT.out
  exact ⟨_, _, (a + 1), g, false, rfl, tree.touch tq (fun b hb => (by omega)) (fun b hb => (by omega)), RowAt.putN_other p3 k i S (.slice A ks.length cc) hPR, touch_putN tt (.inr (Nat.le_refl _)) k i S (.slice A ks.length cc), by omega, (fun hb => by first | (cases hb; done) | exact ⟨by omega, by omega⟩ | exact HA hb | (have := hag hb; omega)), HR.out⟩

end Go.Proofs.YtkddighepgpccaaDoor
