/-
  The walks of rex.Same, Size and Groups.
-/
import Derived.Test.YtkddighepgpccaaDoorRexQ
namespace Go.Proofs.YtkddighepgpccaaDoor
open Go Go.RowKit
set_option linter.unusedSimpArgs false
set_option linter.unusedVariables false

theorem eqlX (s t : S4) (hs : s.ok) (ht : t.ok) (b : Bool) (h : decide (s = t) = b) (w : World) : (binOp .eql 38 (.agg #[.int .u64 (s.a0 : Int), .int .u64 (s.a1 : Int), .int .u64 (s.a2 : Int), .int .u64 (s.a3 : Int)]) (.agg #[.int .u64 (t.a0 : Int), .int .u64 (t.a1 : Int), .int .u64 (t.a2 : Int), .int .u64 (t.a3 : Int)])).run Tryd.prog w = .ok (.bool b) w := eqlK ⟨s, hs⟩ ⟨t, ht⟩ b h w
theorem guardX (op : BinOp) (x y : Operand) (s t : S4) (hs : s.ok) (ht : t.ok) (w : World) : (eqGuard op 38 x y (.agg #[.int .u64 (s.a0 : Int), .int .u64 (s.a1 : Int), .int .u64 (s.a2 : Int), .int .u64 (s.a3 : Int)]) (.agg #[.int .u64 (t.a0 : Int), .int .u64 (t.a1 : Int), .int .u64 (t.a2 : Int), .int .u64 (t.a3 : Int)])).run Tryd.prog w = .ok () w := guardK op x y ⟨s, hs⟩ ⟨t, ht⟩ w

set_option maxHeartbeats 8000000 in
set_option maxRecDepth 100000 in
theorem same_step (n : Nat) (hS : SameC n) (hn : n ≤ 100000) : SameC (n + 1) := by
  intro ok w t u cs ds hsz ht hu
  obtain ⟨k1, i1, S1, ks1, A1, c1, rfl, rfl, hS1⟩ := ht.form
  obtain ⟨k2, i2, S2, ks2, A2, c2, rfl, rfl, hS2⟩ := hu.form
  obtain ⟨V, hV⟩ : ∃ V, (w.alloc (.cells (nodeC k1 i1 S1 (.slice A1 ks1.length c1)) 41)).alloc (.cells (nodeC k2 i2 S2 (.slice A2 ks2.length c2)) 41) = V := ⟨_, rfl⟩
  have hbV : Below w.heap.size w V := by rw [← hV]; exact ((Below.refl _ _).alloc (Nat.le_refl _) _).alloc (by simp) _
  have hsz2 : sizeL ks1 < n := by simp only [sizeT] at hsz; omega
  obtain ⟨hA, hA2⟩ := kids_of (ht.below hbV)
  obtain ⟨hB, hB2⟩ := kids_of (hu.below hbV)
  have hE := EqualFunc_any n hS ok V ks1 ks2 A1 A2 c1 c2 hA hB (by have := kids_small (ts := ks1); omega)  hA2 hB2 hsz2
  have HE := Lib.hid hE
  have hg := guardX .eql
  have e4 := eqlX S1 S2 hS1 hS2
  obtain ⟨b1, hb1⟩ : ∃ b, decide (k1 = k2) = b := ⟨_, rfl⟩
  obtain ⟨b2, hb2⟩ : ∃ b, decide (i1 = i2) = b := ⟨_, rfl⟩
  obtain ⟨b3, hb3⟩ : ∃ b, decide (S1 = S2) = b := ⟨_, rfl⟩
  have f1 : ((k1 : Int) == (k2 : Int)) = b1 := by rw [← hb1, Bool.eq_iff_iff]; simp only [beq_iff_eq, decide_eq_true_eq]; omega
  have f2 : ((i1 : Int) == (i2 : Int)) = b2 := by rw [← hb2, Bool.eq_iff_iff]; simp only [beq_iff_eq, decide_eq_true_eq]; omega
  have f3 := fun w => eqlX S1 S2 hS1 hS2 b3 hb3 w
  have hg := fun x y w => guardX .eql x y S1 S2 hS1 hS2 w
  have HR : Hid (sameT (.mk k1 i1 S1 ks1) (.mk k2 i2 S2 ks2) = (b1 && (b2 && (b3 && sameL ks1 ks2)))) := by
    show _ = _
    simp only [sameT, hb1, hb2, hb3]
  obtain ⟨RR, hRR⟩ : ∃ R, sameT (.mk k1 i1 S1 ks1) (.mk k2 i2 S2 ks2) = R := ⟨_, rfl⟩
  have HRR := Lib.hid hRR
  rw [hRR]
  have HV := Lib.hid hV
  clear hV hRR hE hA hA2 hB hB2 ht hu hb1 hb2 hb3 e4 hS
  show Calls _ _ #[.agg (nodeC k1 i1 S1 (.slice A1 ks1.length c1)), .agg (nodeC k2 i2 S2 (.slice A2 ks2.length c2))] _ _
  unfold nodeC
  obtain ⟨x0, x1, x2, x3, x4, x5, x6⟩ : True ∧ True ∧ True ∧ True ∧ True ∧ True ∧ True := ⟨trivial, trivial, trivial, trivial, trivial, trivial, trivial⟩
  cases b1 with
  | false =>
    go_enter Tryd.func20, Tryd.ntmps20
    go_wp2
    go_ret
    exact ⟨ret_bool (by rw [← HRR.out, HR.out]; rfl), ((Below.refl _ _).alloc (Nat.le_refl _) _).alloc (by simp) _⟩
  | true =>
    cases b2 with
    | false =>
      go_enter Tryd.func20, Tryd.ntmps20
      go_wp2
      go_ret
      exact ⟨ret_bool (by rw [← HRR.out, HR.out]; rfl), ((Below.refl _ _).alloc (Nat.le_refl _) _).alloc (by simp) _⟩
    | true =>
      cases b3 with
      | false =>
        go_enter Tryd.func20, Tryd.ntmps20
        go_wp2
        go_ret
        exact ⟨ret_bool (by rw [← HRR.out, HR.out]; rfl), ((Below.refl _ _).alloc (Nat.le_refl _) _).alloc (by simp) _⟩
      | true =>
        go_enter Tryd.func20, Tryd.ntmps20
        go_wp2_with fail
        have hV := HV.out
        unfold nodeC at hV
        simp only [hV]
        refine HE.out.mono ?_
        rintro e w1 ⟨rfl, hb1⟩
        try dsimp only
        go_wp2_with fail
        go_ret
        exact ⟨ret_bool (by rw [← HRR.out, HR.out]; rfl), hbV.trans (hb1.mono hbV.size)⟩
theorem same_all : ∀ n, n ≤ 100000 → SameC n
  | 0, _ => fun ok w t u cs ds h _ _ => absurd h (Nat.not_lt_zero _)
  | n + 1, h => same_step n (same_all n (by omega)) (by omega)
theorem Same_any (ok : Nat → Prop) (w : World) (t u : T) (cs ds : Array Value) (hz : sizeT t ≤ 10000) (ht : TreeAt ok w t cs) (hu : TreeAt ok w u ds) :
    Calls Tryd.prog 20 #[.agg cs, .agg ds] w fun e w' => e = .returned (.bool (sameT t u)) ∧ Below w.heap.size w w' :=
  same_all 100000 (Nat.le_refl _) ok w t u cs ds (by omega) ht hu

theorem sizeL_le (ts : List T) : sizeL ts ≤ sizeL ts := Nat.le_refl _
theorem sizeL_drop {ts : List T} {j : Nat} {t : T} (ht : ts[j]? = some t) : sizeL (ts.drop j) = sizeT t + sizeL (ts.drop (j + 1)) := by
  obtain ⟨l1, e1⟩ := List.getElem?_eq_some_iff.1 ht
  rw [List.drop_eq_getElem_cons l1, e1]
  rfl
theorem groupsL_drop {ts : List T} {j : Nat} {t : T} (ht : ts[j]? = some t) : groupsL (ts.drop j) = groupsT t + groupsL (ts.drop (j + 1)) := by
  obtain ⟨l1, e1⟩ := List.getElem?_eq_some_iff.1 ht
  rw [List.drop_eq_getElem_cons l1, e1]
  rfl
mutual
theorem groupsT_le : ∀ t, groupsT t ≤ sizeT t
  | .mk k i s ks => by
    simp only [groupsT, sizeT]
    have := groupsL_le ks
    split <;> omega
theorem groupsL_le : ∀ ts, groupsL ts ≤ sizeL ts
  | [] => Nat.le_refl _
  | t :: ts => by
    simp only [groupsL, sizeL]
    have h1 := groupsT_le t
    have h2 := groupsL_le ts
    omega
end
theorem SizeC1_any (w : World) (k i : Nat) (S : S4) (sl : Value) :
    Calls Tryd.prog 44 #[.agg (nodeC k i S sl)] w fun e w' => e = .returned (.int .i64 1) ∧ Below w.heap.size w w' := by
  unfold nodeC
  go_enter Tryd.func44, Tryd.ntmps44
  go_wp2
  go_ret
  exact ⟨rfl, (Below.refl _ _).alloc (Nat.le_refl _) _⟩
theorem GroupsC1_any (w : World) (k i : Nat) (S : S4) (sl : Value) {x : Nat} (hx : (if k = 7 then 1 else 0) = x) :
    Calls Tryd.prog 45 #[.agg (nodeC k i S sl)] w fun e w' => e = .returned (.int .i64 (x : Int)) ∧ Below w.heap.size w w' := by
  unfold nodeC
  by_cases h : k = 7
  · subst h
    obtain rfl : 1 = x := hx
    go_enter Tryd.func45, Tryd.ntmps45
    go_wp2
    go_ret
    exact ⟨rfl, (Below.refl _ _).alloc (Nat.le_refl _) _⟩
  · rw [if_neg h] at hx
    subst hx
    have h7 : ((k : Int) == 7) = false := by simp; omega
    go_enter Tryd.func45, Tryd.ntmps45
    go_wp2
    go_ret
    exact ⟨rfl, (Below.refl _ _).alloc (Nat.le_refl _) _⟩

def SizeC (n : Nat) : Prop := ∀ (ok : Nat → Prop) (w : World) (t : T) (cs : Array Value), sizeT t < n → TreeAt ok w t cs →
  Calls Tryd.prog 43 #[.agg cs, .func (.func 44) #[] #[]] w fun e w' => e = .returned (.int .i64 ((sizeT t : Nat) : Int)) ∧ Below w.heap.size w w'
set_option maxHeartbeats 8000000 in
set_option maxRecDepth 100000 in
theorem SizeC_step (n : Nat) (hS : SizeC n) (hn : n ≤ 100000) : SizeC (n + 1) := by
  intro ok w t cs hsz ht
  obtain ⟨k1, i1, S1, ks, A, c1, rfl, rfl, hS1⟩ := ht.form
  obtain ⟨L, hL⟩ : ∃ L, ks.length = L := ⟨_, rfl⟩
  have hks := kids_small (ts := ks)
  have hsz2 : sizeL ks < n := by simp only [sizeT] at hsz; omega
  have hLm : L ≤ 1000000 := by omega
  have hgl := sizeL_le ks
  have HSS := Lib.hid (fun k t (h1 : ks[k]? = some t) => sizeL_drop h1)
  have HD := Lib.hid (show ∀ k, L ≤ k → sizeL (ks.drop k) = 0 from fun k hk => by rw [List.drop_eq_nil_of_le (by omega)]; rfl)
  obtain ⟨hA, hA2⟩ := kids_of ht
  have HK := Lib.hid (show ∀ k, k < L → ∃ t g, A = some ⟨g, 0, none⟩ ∧ g < w.heap.size ∧ ks[k]? = some t ∧ sizeT t < n ∧ ∃ v, TreeAt ok w t v ∧ ∀ i x, v[i]? = some x → w.cell? ⟨g, k * 7 + i, none⟩ = some x from fun k hk => by
    cases A with
    | none => have := (hA rfl).1; subst this; simp at hL; omega
    | some a =>
      obtain ⟨e1, e2, e3⟩ := hA2 a rfl
      have h1 : ks[k]? = some ks[k] := List.getElem?_eq_getElem (by omega)
      obtain ⟨v, hv, hc⟩ := KidsAt.at_ ks 0 e3 k _ h1
      rw [Nat.zero_add] at hc
      have := sizeL_mem (List.mem_of_getElem? h1)
      exact ⟨_, a.block, by rw [e1], e2, h1, by omega, v, hv, hc⟩)
  have he1 := True.intro
  have HF := Lib.hid (fun W => SizeC1_any W k1 i1 S1 (.slice A L c1))
  have HC := Lib.hid hS
  obtain ⟨tot, htot⟩ : ∃ x, sizeT (.mk k1 i1 S1 ks) = x := ⟨_, rfl⟩
  have htl : tot ≤ 200000 := by rw [← htot]; simp only [sizeT]; omega
  have H0 : Hid ((1) + sizeL (ks.drop 0) = tot) := by
    show _ = _
    rw [← htot]
    skip
    simp only [sizeT, List.drop_zero]
  clear he1
  rw [htot]
  show Calls _ _ #[.agg (nodeC k1 i1 S1 (.slice A ks.length c1)), _] _ _
  rw [hL]
  have hb0 : Below w.heap.size w (w.alloc (.cells (nodeC k1 i1 S1 (.slice A L c1)) 41)) := (Below.refl _ _).alloc (Nat.le_refl _) _
  have hrow := RowAt.new w (nodeC k1 i1 S1 (.slice A L c1)) 41
  clear ht hsz hA hA2 htot hS hL hks hsz2 hgl
  unfold nodeC
  go_enter Tryd.func43, Tryd.ntmps43
  go_wp2_with fail
  refine (HF.out _).mono ?_
  rintro e w1 ⟨rfl, hb1⟩
  try dsimp only
  have hrow1 := hrow.later hb1 hrow.lt
  have hbw := hb0.trans (hb1.mono hb0.size)
  obtain ⟨⟨n0, n1, n2, n3, n4, n5, n6⟩, -⟩ := node_facts hrow1
  clear hrow hrow1 hb0 hb1 HF
  go_wp2_with fail
  clear n0 n1 n2 n3 n4 n5 n6
  go_loopw [5, 14] (fun v i wr => ∃ k x : Nat, k ≤ L ∧ i = .int .i64 (k : Int) ∧ v = .int .i64 (x : Int) ∧ x ≤ tot ∧ Hid (x + sizeL (ks.drop k) = tot) ∧ Below w.heap.size w wr) (fun _ i _ => L - (intOf i).toNat)
  case atStart => exact ⟨0, 1, Nat.zero_le _, rfl, rfl, by have := H0.out; omega, H0, hbw⟩
  case round =>
    obtain ⟨k, x, hk, rfl, rfl, hx, HR, hbl⟩ := hrel
    by_cases hlt : k < L
    · obtain ⟨t, g, rfl, hg, ht, hsz, v, hv, hc⟩ := HK.out k hlt
      obtain ⟨k2, i2, S2, ks2, A2, c2, hT2, rfl, hS2⟩ := hv.form
      obtain ⟨a0, a1, a2, a3, a4, a5, a6⟩ := node_cells (w := wr) (g := g) (o := k * 7) (fun j x hj => by have := hc j x hj; exact cell_of_heap (hbl.block g hg) this)
      simp only [Nat.add_zero] at a0
      have hszw := hbl.size
      have hgw : g < wr.heap.size := by omega
      obtain ⟨W2, hW2⟩ : ∃ W2, wr.alloc (.cells (nodeC k2 i2 S2 (.slice A2 ks2.length c2)) 41) = W2 := ⟨_, rfl⟩
      have hbW : Below wr.heap.size wr W2 := by rw [← hW2]; exact (Below.refl _ _).alloc (Nat.le_refl _) _
      have hbW0 : Below w.heap.size w W2 := hbl.trans (hbW.mono hszw)
      have HCALL := Lib.hid (HC.out ok W2 t _ hsz (hv.below hbW0))
      have hst := HSS.out k t ht
      obtain ⟨y, hy⟩ : ∃ y, sizeT t = y := ⟨_, rfl⟩
      rw [hy] at HCALL hst
      have hle : x + y ≤ tot := by have := HR.out; omega
      have HST : Hid (x + y + sizeL (ks.drop (k + 1)) = tot) := by show _ = _; have := HR.out; omega
      have HW2 := Lib.hid hW2
      clear hc hv ht hy hT2 HSS HK hW2 hst hS2 HR
      have hki : (0 : Int) ≤ (k : Int) := by omega
      have hkl : (k : Int) < (L : Int) := by omega
      go_wp2_with fail
      have hW2 := HW2.out
      unfold nodeC at hW2
      simp only [hW2]
      clear hW2 HW2
      refine HCALL.out.mono ?_
      rintro e w2 ⟨rfl, hb2⟩
      try dsimp only
      have hbl2 := hbW0.trans (hb2.mono hbW0.size)
      clear HCALL hbW hbW0 a0 a1 a2 a3 a4 a5 a6
      go_wp2_with fail
      go_roundw
      case rel => exact ⟨k + 1, x + y, by omega, by go_num, by go_num, hle, HST, hbl2⟩
      case measure => first | (simp [intOf]; done) | (simp [intOf]; omega)
    · obtain rfl : k = L := by omega
      have HRT : Hid ((x : Int) = (tot : Int)) := by show _ = _; have := HR.out; rw [HD.out k (Nat.le_refl _)] at this; omega
      clear HK HSS HR HD H0
      go_wp2_with fail
      go_ret
      exact ⟨ret_int HRT.out, hbl⟩
theorem SizeC_all : ∀ n, n ≤ 100000 → SizeC n
  | 0, _ => fun ok w t cs h _ => absurd h (Nat.not_lt_zero _)
  | n + 1, h => SizeC_step n (SizeC_all n (by omega)) (by omega)

def GroupsC (n : Nat) : Prop := ∀ (ok : Nat → Prop) (w : World) (t : T) (cs : Array Value), sizeT t < n → TreeAt ok w t cs →
  Calls Tryd.prog 43 #[.agg cs, .func (.func 45) #[] #[]] w fun e w' => e = .returned (.int .i64 ((groupsT t : Nat) : Int)) ∧ Below w.heap.size w w'
set_option maxHeartbeats 8000000 in
set_option maxRecDepth 100000 in
theorem GroupsC_step (n : Nat) (hS : GroupsC n) (hn : n ≤ 100000) : GroupsC (n + 1) := by
  intro ok w t cs hsz ht
  obtain ⟨k1, i1, S1, ks, A, c1, rfl, rfl, hS1⟩ := ht.form
  obtain ⟨L, hL⟩ : ∃ L, ks.length = L := ⟨_, rfl⟩
  have hks := kids_small (ts := ks)
  have hsz2 : sizeL ks < n := by simp only [sizeT] at hsz; omega
  have hLm : L ≤ 1000000 := by omega
  have hgl := groupsL_le ks
  have HSS := Lib.hid (fun k t (h1 : ks[k]? = some t) => groupsL_drop h1)
  have HD := Lib.hid (show ∀ k, L ≤ k → groupsL (ks.drop k) = 0 from fun k hk => by rw [List.drop_eq_nil_of_le (by omega)]; rfl)
  obtain ⟨hA, hA2⟩ := kids_of ht
  have HK := Lib.hid (show ∀ k, k < L → ∃ t g, A = some ⟨g, 0, none⟩ ∧ g < w.heap.size ∧ ks[k]? = some t ∧ sizeT t < n ∧ ∃ v, TreeAt ok w t v ∧ ∀ i x, v[i]? = some x → w.cell? ⟨g, k * 7 + i, none⟩ = some x from fun k hk => by
    cases A with
    | none => have := (hA rfl).1; subst this; simp at hL; omega
    | some a =>
      obtain ⟨e1, e2, e3⟩ := hA2 a rfl
      have h1 : ks[k]? = some ks[k] := List.getElem?_eq_getElem (by omega)
      obtain ⟨v, hv, hc⟩ := KidsAt.at_ ks 0 e3 k _ h1
      rw [Nat.zero_add] at hc
      have := sizeL_mem (List.mem_of_getElem? h1)
      exact ⟨_, a.block, by rw [e1], e2, h1, by omega, v, hv, hc⟩)
  obtain ⟨e1, he1⟩ : ∃ x : Nat, (if k1 = 7 then 1 else 0) = x := ⟨_, rfl⟩
  have HF := Lib.hid (fun W => GroupsC1_any W k1 i1 S1 (.slice A L c1) he1)
  have HC := Lib.hid hS
  obtain ⟨tot, htot⟩ : ∃ x, groupsT (.mk k1 i1 S1 ks) = x := ⟨_, rfl⟩
  have htl : tot ≤ 200000 := by rw [← htot]; simp only [groupsT]; (split <;> omega)
  have H0 : Hid ((e1) + groupsL (ks.drop 0) = tot) := by
    show _ = _
    rw [← htot]
    rw [← he1]
    simp only [groupsT, List.drop_zero]
  clear he1
  rw [htot]
  show Calls _ _ #[.agg (nodeC k1 i1 S1 (.slice A ks.length c1)), _] _ _
  rw [hL]
  have hb0 : Below w.heap.size w (w.alloc (.cells (nodeC k1 i1 S1 (.slice A L c1)) 41)) := (Below.refl _ _).alloc (Nat.le_refl _) _
  have hrow := RowAt.new w (nodeC k1 i1 S1 (.slice A L c1)) 41
  clear ht hsz hA hA2 htot hS hL hks hsz2 hgl
  unfold nodeC
  go_enter Tryd.func43, Tryd.ntmps43
  go_wp2_with fail
  refine (HF.out _).mono ?_
  rintro e w1 ⟨rfl, hb1⟩
  try dsimp only
  have hrow1 := hrow.later hb1 hrow.lt
  have hbw := hb0.trans (hb1.mono hb0.size)
  obtain ⟨⟨n0, n1, n2, n3, n4, n5, n6⟩, -⟩ := node_facts hrow1
  clear hrow hrow1 hb0 hb1 HF
  go_wp2_with fail
  clear n0 n1 n2 n3 n4 n5 n6
  go_loopw [5, 14] (fun v i wr => ∃ k x : Nat, k ≤ L ∧ i = .int .i64 (k : Int) ∧ v = .int .i64 (x : Int) ∧ x ≤ tot ∧ Hid (x + groupsL (ks.drop k) = tot) ∧ Below w.heap.size w wr) (fun _ i _ => L - (intOf i).toNat)
  case atStart => exact ⟨0, e1, Nat.zero_le _, rfl, rfl, by have := H0.out; omega, H0, hbw⟩
  case round =>
    obtain ⟨k, x, hk, rfl, rfl, hx, HR, hbl⟩ := hrel
    by_cases hlt : k < L
    · obtain ⟨t, g, rfl, hg, ht, hsz, v, hv, hc⟩ := HK.out k hlt
      obtain ⟨k2, i2, S2, ks2, A2, c2, hT2, rfl, hS2⟩ := hv.form
      obtain ⟨a0, a1, a2, a3, a4, a5, a6⟩ := node_cells (w := wr) (g := g) (o := k * 7) (fun j x hj => by have := hc j x hj; exact cell_of_heap (hbl.block g hg) this)
      simp only [Nat.add_zero] at a0
      have hszw := hbl.size
      have hgw : g < wr.heap.size := by omega
      obtain ⟨W2, hW2⟩ : ∃ W2, wr.alloc (.cells (nodeC k2 i2 S2 (.slice A2 ks2.length c2)) 41) = W2 := ⟨_, rfl⟩
      have hbW : Below wr.heap.size wr W2 := by rw [← hW2]; exact (Below.refl _ _).alloc (Nat.le_refl _) _
      have hbW0 : Below w.heap.size w W2 := hbl.trans (hbW.mono hszw)
      have HCALL := Lib.hid (HC.out ok W2 t _ hsz (hv.below hbW0))
      have hst := HSS.out k t ht
      obtain ⟨y, hy⟩ : ∃ y, groupsT t = y := ⟨_, rfl⟩
      rw [hy] at HCALL hst
      have hle : x + y ≤ tot := by have := HR.out; omega
      have HST : Hid (x + y + groupsL (ks.drop (k + 1)) = tot) := by show _ = _; have := HR.out; omega
      have HW2 := Lib.hid hW2
      clear hc hv ht hy hT2 HSS HK hW2 hst hS2 HR
      have hki : (0 : Int) ≤ (k : Int) := by omega
      have hkl : (k : Int) < (L : Int) := by omega
      go_wp2_with fail
      have hW2 := HW2.out
      unfold nodeC at hW2
      simp only [hW2]
      clear hW2 HW2
      refine HCALL.out.mono ?_
      rintro e w2 ⟨rfl, hb2⟩
      try dsimp only
      have hbl2 := hbW0.trans (hb2.mono hbW0.size)
      clear HCALL hbW hbW0 a0 a1 a2 a3 a4 a5 a6
      go_wp2_with fail
      go_roundw
      case rel => exact ⟨k + 1, x + y, by omega, by go_num, by go_num, hle, HST, hbl2⟩
      case measure => first | (simp [intOf]; done) | (simp [intOf]; omega)
    · obtain rfl : k = L := by omega
      have HRT : Hid ((x : Int) = (tot : Int)) := by show _ = _; have := HR.out; rw [HD.out k (Nat.le_refl _)] at this; omega
      clear HK HSS HR HD H0
      go_wp2_with fail
      go_ret
      exact ⟨ret_int HRT.out, hbl⟩
theorem GroupsC_all : ∀ n, n ≤ 100000 → GroupsC n
  | 0, _ => fun ok w t cs h _ => absurd h (Nat.not_lt_zero _)
  | n + 1, h => GroupsC_step n (GroupsC_all n (by omega)) (by omega)

set_option maxRecDepth 100000 in
theorem Size_any (ok : Nat → Prop) (w : World) (t : T) (cs : Array Value) (hz : sizeT t ≤ 10000) (ht : TreeAt ok w t cs) :
    Calls Tryd.prog 25 #[.agg cs] w fun e w' => e = .returned (.int .i64 ((sizeT t : Nat) : Int)) ∧ Below w.heap.size w w' := by
  obtain ⟨k1, i1, S1, ks, A, c1, hT, rfl, hS1⟩ := ht.form
  have hb : Below w.heap.size w (w.alloc (.cells (nodeC k1 i1 S1 (.slice A ks.length c1)) 41)) := (Below.refl _ _).alloc (Nat.le_refl _) _
  have HC := Lib.hid (SizeC_all 100000 (Nat.le_refl _) ok _ t _ (by omega) (ht.below hb))
  clear hT ht
  unfold nodeC
  go_enter Tryd.func25, Tryd.ntmps25
  go_wp2_with fail
  refine HC.out.mono ?_
  rintro e w2 ⟨rfl, hb2⟩
  try dsimp only
  go_wp2_with fail
  go_ret
  exact ⟨rfl, hb.trans (hb2.mono hb.size)⟩
set_option maxRecDepth 100000 in
theorem Groups_any (ok : Nat → Prop) (w : World) (t : T) (cs : Array Value) (hz : sizeT t ≤ 10000) (ht : TreeAt ok w t cs) :
    Calls Tryd.prog 26 #[.agg cs] w fun e w' => e = .returned (.int .i64 ((groupsT t : Nat) : Int)) ∧ Below w.heap.size w w' := by
  obtain ⟨k1, i1, S1, ks, A, c1, hT, rfl, hS1⟩ := ht.form
  have hb : Below w.heap.size w (w.alloc (.cells (nodeC k1 i1 S1 (.slice A ks.length c1)) 41)) := (Below.refl _ _).alloc (Nat.le_refl _) _
  have HC := Lib.hid (GroupsC_all 100000 (Nat.le_refl _) ok _ t _ (by omega) (ht.below hb))
  clear hT ht
  unfold nodeC
  go_enter Tryd.func26, Tryd.ntmps26
  go_wp2_with fail
  refine HC.out.mono ?_
  rintro e w2 ⟨rfl, hb2⟩
  try dsimp only
  go_wp2_with fail
  go_ret
  exact ⟨rfl, hb.trans (hb2.mono hb.size)⟩

end Go.Proofs.YtkddighepgpccaaDoor
