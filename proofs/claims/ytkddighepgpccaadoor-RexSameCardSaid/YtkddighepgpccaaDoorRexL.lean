/-
  The walk of rex.Literal; what Parse gives of a text with backslashes.
-/
import Derived.Test.YtkddighepgpccaaDoorRexQ2
import Derived.Lib.ConvBytes
namespace Go.Proofs.YtkddighepgpccaaDoor
open Go Go.RowKit
set_option linter.unusedSimpArgs false
set_option linter.unusedVariables false

def lf (c : UInt8) : T := leaf 1 (single c)
theorem below_bytes (w : World) (e : TypeId) (s : ByteArray) : Below w.heap.size w (Lib.bytesWorld w e s) :=
  ⟨rfl, rfl, rfl, by rw [Lib.bytesWorld_size]; omega, fun k hk => Lib.bytesWorld_at_old w e s k hk⟩

set_option maxHeartbeats 8000000 in
set_option maxRecDepth 100000 in
theorem Literal_any (s : ByteArray) (w : World) (hs : s.size ≤ 100) :
    Calls Tryd.prog 27 #[.string s] w (TreePost w.heap.size (joinT 2 (s.data.toList.map lf)) w) := by
  obtain ⟨U, hU⟩ : ∃ U, w.alloc (.cells #[.int .i64 0, .int .i64 0, .int .u64 0, .int .u64 0, .int .u64 0, .int .u64 0, .slice none 0 0] 41) = U := ⟨_, rfl⟩
  have hUs : U.heap.size = w.heap.size + 1 := by rw [← hU]; simp
  have u1 : RowAt U w.heap.size #[.int .i64 0, .int .i64 0, .int .u64 0, .int .u64 0, .int .u64 0, .int .u64 0, .slice none 0 0] 41 := by rw [← hU]; exact RowAt.new _ _ _
  have u2 : Below w.heap.size w U := by rw [← hU]; exact (Below.refl _ _).alloc (Nat.le_refl _) _
  have hcv := fun (W : World) => Lib.run_convert_string_bytes (P := Tryd.prog) W 9 81 5 s Tryd.underlying9 Tryd.underlying81 Tryd.underlying5
  obtain ⟨V, hV⟩ : ∃ V, Lib.bytesWorld U 5 s = V := ⟨_, rfl⟩
  have v1 : RowAt V w.heap.size #[.int .i64 0, .int .i64 0, .int .u64 0, .int .u64 0, .int .u64 0, .int .u64 0, .slice none 0 0] 41 := by rw [← hV]; exact u1.later (below_bytes _ _ _) u1.lt
  have v2 : Below w.heap.size w V := by rw [← hV]; exact u2.trans ((below_bytes U 5 s).mono u2.size)
  have v3 : V.heap.size = w.heap.size + 2 := by rw [← hV, Lib.bytesWorld_size, hUs]
  have v4 := Lib.hid (show ∀ j, j < s.size → V.cell? ⟨w.heap.size + 1, j, none⟩ = some (.int .u8 (s.data.toList.getD j 0).toNat) from fun j hj => by
    rw [← hV, ← hUs]; exact Lib.bytesWorld_cell U 5 s j hj)
  have HU := Lib.hid hU
  have HV := Lib.hid hV
  have HUs := Lib.hid hUs
  have HVs := Lib.hid v3
  clear hU hV hUs v3 u1 u2
  go_enter Tryd.func27, Tryd.ntmps27
  go_wp2_with fail
  have hU := HU.out
  simp only [hU]
  have hV := HV.out
  simp only [hV]
  clear hU HU hV HV HUs hcv
  go_loopw [3, 9] (fun v i wr => ∃ k : Nat, k ≤ s.size ∧ i = .int .i64 (k : Int) ∧ NRow 41 V.heap.size wr v ((s.data.toList.take k).map lf) ∧ Below V.heap.size V wr) (fun _ i _ => s.size - (intOf i).toNat)
  case atStart => exact ⟨0, Nat.zero_le _, rfl, NRow.nil _ _ _, Below.refl _ _⟩
  case round =>
    obtain ⟨k, hk, rfl, hrow, hbl⟩ := hrel
    have hsz := hbl.size
    have hVs := HVs.out
    by_cases hlt : k < s.size
    · obtain ⟨c, hc⟩ : ∃ c, s.data.toList.getD k 0 = c := ⟨_, rfl⟩
      have hcell := v4.out k hlt
      rw [hc] at hcell
      have c0 : wr.cell? ⟨w.heap.size + 1, k, none⟩ = some (.int .u8 (c.toNat : Int)) := cell_of_heap (hbl.block _ (by omega)) hcell
      have hT : (s.data.toList.take (k + 1)).map lf = (s.data.toList.take k).map lf ++ [lf c] := by
        have : s.data.toList[k]? = some c := by
          have hl : k < s.data.toList.length := by rw [← ba_size]; exact hlt
          rw [List.getElem?_eq_getElem hl, ← hc, List.getD_eq_getElem?_getD, List.getElem?_eq_getElem hl]
          rfl
        rw [List.take_add_one, this]
        simp
      have HT := Lib.hid hT
      have hlen : ((s.data.toList.take k).map lf).length ≤ 1000 := by rw [List.length_map, List.length_take]; omega
      have HLEN := Lib.hid hlen
      have HS := Lib.hid (single_any c wr.heap.size wr)
      obtain ⟨cur, hcur⟩ : ∃ cur, (s.data.toList.take k).map lf = cur := ⟨_, rfl⟩
      rw [hcur] at hrow HT HLEN
      have hki : (0 : Int) ≤ (k : Int) := by omega
      have hkl : (k : Int) < (s.size : Int) := by omega
      clear hc hcell hT hlen hcur v4
      go_wp2_with fail
      refine HS.out.mono ?_
      rintro e w2 ⟨cs, rfl, ht, hb2⟩
      try dsimp only
      obtain ⟨k2, i2, S, ks, A, cc, hTT, rfl, hSok⟩ := ht.form
      have hs2 := hb2.size
      obtain ⟨V2, hV2⟩ : ∃ V2, w2.alloc (.cells #[.int .i64 (k2 : Int), .int .i64 (i2 : Int), .int .u64 (S.a0 : Int), .int .u64 (S.a1 : Int), .int .u64 (S.a2 : Int), .int .u64 (S.a3 : Int), .slice A ks.length cc] 41) = V2 := ⟨_, rfl⟩
      have q3 : NRow 41 V.heap.size V2 u3 cur := by
        rw [← hV2]; exact (hrow.below hb2).below ((Below.refl _ _).alloc (Nat.le_refl _) _)
      have q4 : RowAt V2 w2.heap.size (nodeC k2 i2 S (.slice A ks.length cc)) 41 := by rw [← hV2]; exact RowAt.new _ _ _
      have q5 : TreeAt (fun b => V.heap.size ≤ b ∧ some b ≠ u3.ownBlock) V2 (lf c) (nodeC k2 i2 S (.slice A ks.length cc)) := by
        rw [← hV2]
        have hne : ∀ b, wr.heap.size ≤ b → some b ≠ u3.ownBlock := fun b hb hc => by
          have := (hrow.own_ge b hc.symm).2
          omega
        exact TreeAt.turn (by simp) (fun b hb hlt => ⟨⟨by omega, hne b hb⟩, ((Below.refl w2.heap.size w2).alloc (Nat.le_refl _) _).block b hlt⟩) _ _ ht
      have q6 : Below V.heap.size V V2 := by rw [← hV2]; exact (hbl.trans (hb2.mono hsz)).alloc (by omega) _
      have q7 : V.heap.size ≤ V2.heap.size := q6.size
      have HV2 := Lib.hid hV2
      have hown := Lib.hid (fun k hk => (hrow.own_ge k hk).1)
      clear hV2 hTT ht HS
      unfold nodeC
      go_wp2_with (at_builtin; have hV2 := HV2.out; simp only [hV2]; refine wpList_append_node rfl (.tmp 13) (.tmp 16) 39 rfl 41 Tryd.underlying39 Tryd.info_rexNode V.heap.size u3 cur (by rfl) q3 (lf c) _ w2.heap.size (by rfl) q4 q5 HLEN.out q7 ?_; intro v' w3 hrow3 hgrow)
      have z3 : Below V.heap.size V w3 := q6.grown hgrow q7 (fun k hk => hown.out k hk)
      clear q3 q4 q5 q6 hgrow
      go_wp2_with fail
      go_roundw
      case rel => exact ⟨k + 1, by omega, by go_num, by rw [HT.out]; exact hrow3, z3⟩
      case measure => first | (simp [intOf]; done) | (simp [intOf]; omega)
    · obtain rfl : k = s.size := by omega
      have e0 : (s.data.toList.take s.size).map lf = s.data.toList.map lf := by rw [List.take_of_length_le (by rw [← ba_size]; exact Nat.le_refl _)]
      rw [e0] at hrow
      have hb0 : Below w.heap.size w wr := v2.trans (hbl.mono v2.size)
      have y1 := v1.later hbl (by omega)
      have HJ := Lib.hid (Joined2 u3 _ V.heap.size wr hsz hrow)
      clear e0 hrow v1 v4
      go_wp2_with fail
      refine HJ.out.mono ?_
      rintro e w2 ⟨cs, rfl, ht, hb2⟩
      try dsimp only
      obtain ⟨k2, i2, S, ks, A, cc, hTT, rfl, hSok⟩ := ht.form
      have HT := Lib.hid ht
      have r2 := y1.later hb2 y1.lt
      have hb3 := hb0.trans (hb2.mono hb0.size)
      clear hTT ht HJ y1
      unfold nodeC
      obtain ⟨⟨n0, n1, n2, n3, n4, n5, n6⟩, m0, m1, m2, m3, m4, m5, m6⟩ := node_facts (k := 0) (i := 0) (s := S4.zero) (sl := .slice none 0 0) r2
      go_wp2_with fail
      obtain ⟨z0, z1, z2, z3, z4, z5, z6⟩ := row7 (RowAt.seven r2 (.int .i64 (k2 : Int)) (.int .i64 (i2 : Int)) (.int .u64 (S.a0 : Int)) (.int .u64 (S.a1 : Int)) (.int .u64 (S.a2 : Int)) (.int .u64 (S.a3 : Int)) (.slice A ks.length cc))
      refine bodyPost_ret (v := .agg (nodeC k2 i2 S (.slice A ks.length cc))) (by simp [results, Tryd.results27, go_sem, nodeC, z0, z1, z2, z3, z4, z5, z6]) rfl ?_
      have tq := touch_putN (Touch.refl w2 (· = w.heap.size)) (.inl rfl) k2 i2 S (.slice A ks.length cc)
      exact ⟨_, rfl, HT.out.touch tq (fun b hb => (by omega)) (fun b hb => (by omega)), below_putN hb3 (Nat.le_refl _) k2 i2 S (.slice A ks.length cc)⟩

/-! ### what Parse gives of a text with backslashes -/
def esc : List UInt8 → List UInt8
  | [] => []
  | c :: r => 92 :: c :: esc r
theorem run_esc : ∀ (l : List UInt8) (g : Nat) (done cur : List T), Run (esc l) g done cur = some (finT done (cur ++ l.map lf), [], g)
  | [], g, done, cur => by rw [esc, Run_nil]; simp
  | c :: r, g, done, cur => by
    rw [esc, Run_set (r' := esc r) (S := single c) (by simp [lex1]) g done cur, run_esc r]
    simp [lf]
theorem esc_length : ∀ l, (esc l).length = 2 * l.length
  | [] => rfl
  | c :: r => by simp only [esc, List.length_cons, esc_length r]; omega
theorem prs_esc {t : ByteArray} {l : List UInt8} (h : t.data.toList = esc l) (hl : l.length ≤ 30) : prs t = (0, joinT 2 (l.map lf)) := by
  have hs : t.size = 2 * l.length := by rw [ba_size, h, esc_length]
  have hr : rem t 0 = esc l := by unfold rem; rw [h]; rfl
  unfold prs
  rw [if_neg (by omega), hr, run_esc]
  rfl


end Go.Proofs.YtkddighepgpccaaDoor
