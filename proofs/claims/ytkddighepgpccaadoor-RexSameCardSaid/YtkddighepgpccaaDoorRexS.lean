/-
  The walk of rex.Parse.
-/
import Derived.Test.YtkddighepgpccaaDoorRexE
import Derived.Test.YtkddighepgpccaaDoorErrs
import Derived.RegionTactic
namespace Go.Proofs.YtkddighepgpccaaDoor
open Go Go.RowKit
set_option linter.unusedSimpArgs false
set_option linter.unusedVariables false

def zeroT : T := .mk 0 0 S4.zero []
/-- What Parse gives: the error's number, and the tree. -/
def prs (s : ByteArray) : Nat × T :=
  if 60 < s.size then (2, zeroT)
  else match Run (rem s 0) 0 [] [] with
    | some (t, r, g) => if r = [] then (if 9 < g then (10, zeroT) else (0, t)) else (6, zeroT)
    | none => (6, zeroT)
structure Errs3 (w : World) (aL aR aF : Addr) : Prop where
  long : w.cell? ⟨0, 0, none⟩ = some (.iface 123 (.pointer (some aL)))
  regex : w.cell? ⟨1, 0, none⟩ = some (.iface 123 (.pointer (some aR)))
  full : w.cell? ⟨2, 0, none⟩ = some (.iface 123 (.pointer (some aF)))
theorem Errs3.later {w w' : World} {aL aR aF : Addr} (h : Errs3 w aL aR aF) (hb : Below w.heap.size w w') : Errs3 w' aL aR aF :=
  ⟨cell_later hb h.long, cell_later hb h.regex, cell_later hb h.full⟩
/-- The error's value by its number. -/
def errOf (aL aR aF : Addr) (k : Nat) : Value := if k = 0 then .nilIface else .iface 123 (.pointer (some (if k = 2 then aL else if k = 6 then aR else aF)))
def ParsePost (aL aR aF : Addr) (s : ByteArray) (w : World) (e : Ending) (w' : World) : Prop :=
  ∃ cs, e = .returned (.tuple #[.agg cs, errOf aL aR aF (prs s).1]) ∧ TreeAt (fun b => w.heap.size ≤ b) w' (prs s).2 cs ∧ Below w.heap.size w w'
theorem prs_long {s : ByteArray} (h : 60 < s.size) : prs s = (2, zeroT) := by unfold prs; rw [if_pos h]
theorem prs_none {s : ByteArray} (h : ¬ 60 < s.size) (hr : Run (rem s 0) 0 [] [] = none) : prs s = (6, zeroT) := by unfold prs; rw [if_neg h, hr]
theorem prs_rest {s : ByteArray} (h : ¬ 60 < s.size) {t : T} {a g : Nat} (hr : Run (rem s 0) 0 [] [] = some (t, rem s a, g)) (ha : a < s.size) : prs s = (6, zeroT) := by
  unfold prs
  rw [if_neg h, hr]
  simp only
  rw [if_neg (by rw [rem_cons ha]; simp)]
theorem prs_full {s : ByteArray} (h : ¬ 60 < s.size) {t : T} {a g : Nat} (hr : Run (rem s 0) 0 [] [] = some (t, rem s a, g)) (ha : s.size ≤ a) (hg : 9 < g) : prs s = (10, zeroT) := by
  unfold prs
  rw [if_neg h, hr]
  simp only
  rw [if_pos (rem_nil ha), if_pos hg]
theorem prs_ok {s : ByteArray} (h : ¬ 60 < s.size) {t : T} {a g : Nat} (hr : Run (rem s 0) 0 [] [] = some (t, rem s a, g)) (ha : s.size ≤ a) (hg : ¬ 9 < g) : prs s = (0, t) := by
  unfold prs
  rw [if_neg h, hr]
  simp only
  rw [if_pos (rem_nil ha), if_neg hg]

set_option maxHeartbeats 8000000 in
set_option maxRecDepth 100000 in
theorem Parse_long (aL aR aF : Addr) (s : ByteArray) (w : World) (hs : s.size ≤ 100) (hl : 60 < s.size) (hE : Errs3 w aL aR aF) :
    Calls Tryd.prog 18 #[.string s] w (ParsePost aL aR aF s w) := by
  have HP := Lib.hid (prs_long hl)
  have e1 := hE.long
  have hd : decide (60 < s.size) = true := decide_eq_true hl
  have e2 := fun o => cell_alloc e1 o
  have z0 : 0 < w.heap.size := World.block_lt_of_cell? w _ e1
  go_enter Tryd.func18, Tryd.ntmps18
  go_wp2
  go_region
  all_goals (
    go_wp2
    refine bodyPost_ret (v := .tuple #[.agg (nodeC 0 0 S4.zero (.slice none 0 0)), .iface 123 (.pointer (some aL))]) (by simp [results, Tryd.results18, go_sem, nodeC, S4.zero]) rfl ?_
    refine ⟨nodeC 0 0 S4.zero (.slice none 0 0), ?_, ?_, ?_⟩
    · rw [HP.out]; rfl
    · rw [HP.out]; exact TreeAt.leaf _ _ 0 0 S4.zero_ok
    · exact ((Below.refl _ _).alloc (Nat.le_refl _) _).drew)

set_option maxHeartbeats 8000000 in
set_option maxRecDepth 100000 in
theorem Parse_short (aL aR aF : Addr) (s : ByteArray) (w : World) (hl : ¬ 60 < s.size) (hE : Errs3 w aL aR aF) :
    Calls Tryd.prog 18 #[.string s] w (ParsePost aL aR aF s w) := by
  have hd : decide (60 < s.size) = false := decide_eq_false hl
  have z0 : 1 < w.heap.size := World.block_lt_of_cell? w _ hE.regex
  have z1 : 2 < w.heap.size := World.block_lt_of_cell? w _ hE.full
  obtain ⟨V, hV⟩ : ∃ V, (w.alloc (.cells #[.int .i64 0, .int .i64 0, .int .u64 0, .int .u64 0, .int .u64 0, .int .u64 0, .slice none 0 0] 41)).alloc (.cells #[.string s, .int .i64 0, .int .i64 0, .bool false] 70) = V := ⟨_, rfl⟩
  have v1 : PSt V (w.heap.size + 1) s 0 0 false := by rw [← hV]; exact RowAt.new' (w.alloc (.cells #[.int .i64 0, .int .i64 0, .int .u64 0, .int .u64 0, .int .u64 0, .int .u64 0, .slice none 0 0] 41)) _ _ (by simp)
  have v2 : RowAt V w.heap.size #[.int .i64 0, .int .i64 0, .int .u64 0, .int .u64 0, .int .u64 0, .int .u64 0, .slice none 0 0] 41 := by rw [← hV]; exact RowAt.old (RowAt.new _ _ _) _
  have v3 : Below w.heap.size w V := by rw [← hV]; exact ((Below.refl _ _).alloc (Nat.le_refl _) _).alloc (by simp) _
  have hVs : V.heap.size = w.heap.size + 2 := by rw [← hV]; simp
  have HX := Lib.hid (expr_all (s.size + 1) V (w.heap.size + 1) s 0 0 (by omega) (Nat.zero_le _) (Nat.le_refl _) (by rw [rem_length]; omega) v1)
  have HV := Lib.hid hV
  have HVs := Lib.hid hVs
  have HE := Lib.hid hE
  clear hV hVs hE
  go_enter Tryd.func18, Tryd.ntmps18
  go_wp2_with fail
  have hV := HV.out
  simp only [hV]
  clear hV HV
  refine HX.out.mono ?_
  rintro e w1 ⟨cs, t, a', g', bad, rfl, ht, p1, t1, ha', hag, hR⟩
  try dsimp only
  have u2 := v2.touch t1 (by omega)
  have hs1 := t1.size
  have hVs := HVs.out
  have b1 : Below w.heap.size w w1 := v3.trans (t1.below (by omega) (fun k hk => by omega))
  obtain ⟨k, i, S, ks, A, cc, hT, rfl, hSok⟩ := ht.form
  have HT := Lib.hid ht
  have HT2 := Lib.hid hT
  have HR := Lib.hid hR
  have hsN : w.heap.size + 1 < w1.heap.size := by omega
  unfold nodeC
  clear HX v1 v2 v3 t1 ht hT hR hVs
  obtain ⟨V3, hV3⟩ : ∃ V3, w1.alloc (.cells #[.int .i64 (k : Int), .int .i64 (i : Int), .int .u64 (S.a0 : Int), .int .u64 (S.a1 : Int), .int .u64 (S.a2 : Int), .int .u64 (S.a3 : Int), .slice A ks.length cc] 41) = V3 := ⟨_, rfl⟩
  have p3 : PSt V3 (w.heap.size + 1) s a' g' bad := by rw [← hV3]; exact RowAt.old p1 _
  have r3 : RowAt V3 w.heap.size #[.int .i64 0, .int .i64 0, .int .u64 0, .int .u64 0, .int .u64 0, .int .u64 0, .slice none 0 0] 41 := by rw [← hV3]; exact RowAt.old u2 _
  have n3 : RowAt V3 w1.heap.size (nodeC k i S (.slice A ks.length cc)) 41 := by rw [← hV3]; exact RowAt.new _ _ _
  have b3 : Below w.heap.size w V3 := by rw [← hV3]; exact b1.alloc (by omega) _
  have t3 : TreeAt (fun b => w.heap.size + 2 ≤ b) V3 t (nodeC k i S (.slice A ks.length cc)) := by
    rw [← hV3]
    exact TreeAt.turn (by simp) (fun b hb hlt => ⟨by have := HVs.out; omega, ((Below.refl w1.heap.size w1).alloc (Nat.le_refl _) _).block b hlt⟩) t _ HT.out
  have e3 : Errs3 V3 aL aR aF := HE.out.later b3
  have hlt3 : w.heap.size < V3.heap.size := RowAt.lt r3
  have HV3 := Lib.hid hV3
  obtain ⟨N, hN⟩ : ∃ N, w1.heap.size = N := ⟨_, rfl⟩
  have HN := Lib.hid hN
  rw [hN] at n3
  clear hV3 p1 u2 b1 HT hN hs1
  go_upto_region 5 with fail
  have hV3 := HV3.out
  have hN := HN.out
  simp only [hV3, hN]
  clear hV3 HV3 HN hN
  obtain ⟨c0, c1, c2, c3⟩ := PSt.cells p3
  obtain ⟨⟨n0, n1, n2, n3', n4, n5, n6⟩, m0, m1, m2, m3, m4, m5, m6⟩ := node_facts (k := 0) (i := 0) (s := S4.zero) (sl := .slice none 0 0) r3
  have e1 := e3.regex
  have e2 := e3.full
  have zR : 1 ≠ w.heap.size := Nat.ne_of_lt z0
  have zF : 2 ≠ w.heap.size := Nat.ne_of_lt z1
  by_cases hbad : bad = true
  · subst hbad
    have HP : Hid (prs s = (6, zeroT)) := prs_none hl (by rcases HR.out with ⟨_, h⟩ | ⟨h, _⟩; exact h; cases h)
    go_wp2
    go_region
    all_goals (
      go_wp2
      obtain ⟨x0, x1, x2, x3, x4, x5, x6⟩ := row7 (RowAt.seven r3 (.int .i64 0) (.int .i64 0) (.int .u64 0) (.int .u64 0) (.int .u64 0) (.int .u64 0) (.slice none 0 0))
      refine bodyPost_ret (v := .tuple #[.agg (nodeC 0 0 S4.zero (.slice none 0 0)), .iface 123 (.pointer (some aR))]) (by simp [results, Tryd.results18, go_sem, nodeC, S4.zero, x0, x1, x2, x3, x4, x5, x6]) rfl ?_
      refine ⟨nodeC 0 0 S4.zero (.slice none 0 0), ?_, ?_, ?_⟩
      · rw [HP.out]; rfl
      · rw [HP.out]; exact TreeAt.leaf _ _ 0 0 S4.zero_ok
      · exact (below_putN b3 (Nat.le_refl _) 0 0 S4.zero (.slice none 0 0)).drew)
  · obtain rfl : bad = false := by cases bad <;> simp_all
    have HRun : Hid (Run (rem s 0) 0 [] [] = some (t, rem s a', g')) := by
      rcases HR.out with ⟨h, _⟩ | ⟨_, h⟩
      · cases h
      · exact h
    clear hbad HR
    by_cases hat : a' < s.size
    · have HP : Hid (prs s = (6, zeroT)) := prs_rest hl HRun.out hat
      have hda : decide (a' < s.size) = true := decide_eq_true hat
      go_wp2
      go_region
      all_goals (
        go_wp2
        obtain ⟨x0, x1, x2, x3, x4, x5, x6⟩ := row7 (RowAt.seven r3 (.int .i64 0) (.int .i64 0) (.int .u64 0) (.int .u64 0) (.int .u64 0) (.int .u64 0) (.slice none 0 0))
        refine bodyPost_ret (v := .tuple #[.agg (nodeC 0 0 S4.zero (.slice none 0 0)), .iface 123 (.pointer (some aR))]) (by simp [results, Tryd.results18, go_sem, nodeC, S4.zero, x0, x1, x2, x3, x4, x5, x6]) rfl ?_
        refine ⟨nodeC 0 0 S4.zero (.slice none 0 0), ?_, ?_, ?_⟩
        · rw [HP.out]; rfl
        · rw [HP.out]; exact TreeAt.leaf _ _ 0 0 S4.zero_ok
        · exact (below_putN b3 (Nat.le_refl _) 0 0 S4.zero (.slice none 0 0)).drew)
    · have hda : decide (a' < s.size) = false := decide_eq_false hat
      by_cases hg9 : 9 < g'
      · have HP : Hid (prs s = (10, zeroT)) := prs_full hl HRun.out (by omega) hg9
        have hdg : decide (9 < g') = true := decide_eq_true hg9
        go_wp2
        go_region
        all_goals (
          go_wp2
          obtain ⟨x0, x1, x2, x3, x4, x5, x6⟩ := row7 (RowAt.seven r3 (.int .i64 0) (.int .i64 0) (.int .u64 0) (.int .u64 0) (.int .u64 0) (.int .u64 0) (.slice none 0 0))
          refine bodyPost_ret (v := .tuple #[.agg (nodeC 0 0 S4.zero (.slice none 0 0)), .iface 123 (.pointer (some aF))]) (by simp [results, Tryd.results18, go_sem, nodeC, S4.zero, x0, x1, x2, x3, x4, x5, x6]) rfl ?_
          refine ⟨nodeC 0 0 S4.zero (.slice none 0 0), ?_, ?_, ?_⟩
          · rw [HP.out]; rfl
          · rw [HP.out]; exact TreeAt.leaf _ _ 0 0 S4.zero_ok
          · exact (below_putN b3 (Nat.le_refl _) 0 0 S4.zero (.slice none 0 0)).drew)
      · have HP : Hid (prs s = (0, t)) := prs_ok hl HRun.out (by omega) hg9
        have hdg : decide (9 < g') = false := decide_eq_false hg9
        obtain ⟨⟨o0, o1, o2, o3, o4, o5, o6⟩, -⟩ := node_facts n3
        go_wp2
        obtain ⟨x0, x1, x2, x3, x4, x5, x6⟩ := row7 (RowAt.seven r3 (.int .i64 (k : Int)) (.int .i64 (i : Int)) (.int .u64 (S.a0 : Int)) (.int .u64 (S.a1 : Int)) (.int .u64 (S.a2 : Int)) (.int .u64 (S.a3 : Int)) (.slice A ks.length cc))
        refine bodyPost_ret (v := .tuple #[.agg (nodeC k i S (.slice A ks.length cc)), .nilIface]) (by simp [results, Tryd.results18, go_sem, nodeC, x0, x1, x2, x3, x4, x5, x6]) rfl ?_
        refine ⟨nodeC k i S (.slice A ks.length cc), ?_, ?_, ?_⟩
        · rw [HP.out]; rfl
        · rw [HP.out]
          exact t3.touch (touch_putN (Touch.refl V3 (· = w.heap.size)) (.inl rfl) k i S (.slice A ks.length cc)) (fun b hb => (by omega)) (fun b hb => (by omega))
        · exact below_putN b3 (Nat.le_refl _) k i S (.slice A ks.length cc)
theorem Parse_any (aL aR aF : Addr) (s : ByteArray) (w : World) (hs : s.size ≤ 100) (hE : Errs3 w aL aR aF) :
    Calls Tryd.prog 18 #[.string s] w (ParsePost aL aR aF s w) := by
  by_cases hl : 60 < s.size
  · exact Parse_long aL aR aF s w hs hl hE
  · exact Parse_short aL aR aF s w hl hE

end Go.Proofs.YtkddighepgpccaaDoor
