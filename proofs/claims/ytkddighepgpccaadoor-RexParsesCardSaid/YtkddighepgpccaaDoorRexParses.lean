/-
  The walk of the statement RexParses; ahead of it the walks of millwrightnum's all and Num, and of the law's Of.
-/
import Derived.Test.YtkddighepgpccaaDoorErrs
import Derived.Test.YtkddighepgpccaaDoorRefQ
import Derived.Test.YtkddighepgpccaaDoorRexZ
import Derived.Test.YtkddighepgpccaaDoorRexV
import Derived.Test.YtkddighepgpccaaDoorRefP
import Derived.Deep.RegionLaw
import Derived.Deep.AppendLies
namespace Go.Proofs.YtkddighepgpccaaDoor
open Go Go.RowKit
set_option linter.unusedSimpArgs false
set_option linter.unusedVariables false

/-! ### millwrightnum -/

theorem eighteen {α : Type} (l : List α) (h : l.length = 18) : ∃ a0 a1 a2 a3 a4 a5 a6 a7 a8 a9 a10 a11 a12 a13 a14 a15 a16 a17, l = [a0, a1, a2, a3, a4, a5, a6, a7, a8, a9, a10, a11, a12, a13, a14, a15, a16, a17] := by
  match l, h with
  | [a0, a1, a2, a3, a4, a5, a6, a7, a8, a9, a10, a11, a12, a13, a14, a15, a16, a17], _ => exact ⟨a0, a1, a2, a3, a4, a5, a6, a7, a8, a9, a10, a11, a12, a13, a14, a15, a16, a17, rfl⟩

set_option maxHeartbeats 2000000 in
theorem all_any (es : List Addr) (w : World) (hE : Errs w es) :
    Calls Tryd.prog 36 #[] w fun e w' => e = .returned (.slice (some ⟨w.heap.size, 0, none⟩) 18 18) ∧ w' = w.alloc (.cells (es.map errV).toArray 27) := by
  have hc := hE.cell
  obtain ⟨a0, a1, a2, a3, a4, a5, a6, a7, a8, a9, a10, a11, a12, a13, a14, a15, a16, a17, rfl⟩ := eighteen es hE.len
  have c0 : w.cell? ⟨4, 0, none⟩ = some (.iface 123 (.pointer (some a0))) := hc 0 _ _ rfl rfl
  have c1 : w.cell? ⟨0, 0, none⟩ = some (.iface 123 (.pointer (some a1))) := hc 1 _ _ rfl rfl
  have c2 : w.cell? ⟨5, 0, none⟩ = some (.iface 123 (.pointer (some a2))) := hc 2 _ _ rfl rfl
  have c3 : w.cell? ⟨6, 0, none⟩ = some (.iface 123 (.pointer (some a3))) := hc 3 _ _ rfl rfl
  have c4 : w.cell? ⟨7, 0, none⟩ = some (.iface 123 (.pointer (some a4))) := hc 4 _ _ rfl rfl
  have c5 : w.cell? ⟨1, 0, none⟩ = some (.iface 123 (.pointer (some a5))) := hc 5 _ _ rfl rfl
  have c6 : w.cell? ⟨8, 0, none⟩ = some (.iface 123 (.pointer (some a6))) := hc 6 _ _ rfl rfl
  have c7 : w.cell? ⟨9, 0, none⟩ = some (.iface 123 (.pointer (some a7))) := hc 7 _ _ rfl rfl
  have c8 : w.cell? ⟨10, 0, none⟩ = some (.iface 123 (.pointer (some a8))) := hc 8 _ _ rfl rfl
  have c9 : w.cell? ⟨2, 0, none⟩ = some (.iface 123 (.pointer (some a9))) := hc 9 _ _ rfl rfl
  have c10 : w.cell? ⟨11, 0, none⟩ = some (.iface 123 (.pointer (some a10))) := hc 10 _ _ rfl rfl
  have c11 : w.cell? ⟨12, 0, none⟩ = some (.iface 123 (.pointer (some a11))) := hc 11 _ _ rfl rfl
  have c12 : w.cell? ⟨13, 0, none⟩ = some (.iface 123 (.pointer (some a12))) := hc 12 _ _ rfl rfl
  have c13 : w.cell? ⟨14, 0, none⟩ = some (.iface 123 (.pointer (some a13))) := hc 13 _ _ rfl rfl
  have c14 : w.cell? ⟨15, 0, none⟩ = some (.iface 123 (.pointer (some a14))) := hc 14 _ _ rfl rfl
  have c15 : w.cell? ⟨16, 0, none⟩ = some (.iface 123 (.pointer (some a15))) := hc 15 _ _ rfl rfl
  have c16 : w.cell? ⟨17, 0, none⟩ = some (.iface 123 (.pointer (some a16))) := hc 16 _ _ rfl rfl
  have c17 : w.cell? ⟨18, 0, none⟩ = some (.iface 123 (.pointer (some a17))) := hc 17 _ _ rfl rfl
  clear hc hE
  go_enter Tryd.func36, Tryd.ntmps36
  go_wp2
  go_ret
  exact ⟨rfl, rfl⟩

theorem Num_nil (w : World) :
    Calls Tryd.prog 14 #[.nilIface] w fun e w' => e = .returned (.int .i64 0) ∧ w = w' := by
  go_enter Tryd.func14, Tryd.ntmps14
  go_wp2
  go_ret
  exact ⟨rfl, rfl⟩

theorem errs_at {es : List Addr} {w : World} {k : Nat} {b : Addr} (hb : es[k]? = some b) :
    (w.alloc (.cells (es.map errV).toArray 27)).cell? ⟨w.heap.size, k, none⟩ = some (.iface 123 (.pointer (some b))) := by
  have : (es.map errV)[k]? = some (errV b) := by rw [List.getElem?_map, hb]; rfl
  rw [World.cell?_alloc_at _ _ _ _ rfl]
  simpa [errV] using this
theorem errs_row {es : List Addr} {w : World} {b : Addr} (h : ∃ c t, w.heap[b.block]? = some (.cells c t (0, 0))) (o : Obj) : ∃ c t, (w.alloc o).heap[b.block]? = some (.cells c t (0, 0)) := by
  obtain ⟨c, t, h⟩ := h
  exact ⟨c, t, by rw [((Below.refl w.heap.size w).alloc (Nat.le_refl _) o).block _ (Array.getElem?_eq_some_iff.1 h).1]; exact h⟩

set_option maxHeartbeats 2000000 in
theorem Num_err (es : List Addr) (j : Nat) (a : Addr) (hj : es[j]? = some a) (w : World) (hE : Errs w es) :
    Calls Tryd.prog 14 #[.iface 123 (.pointer (some a))] w fun e w' => e = .returned (.int .i64 ((j : Int) + 1)) ∧ Below w.heap.size w w' := by
  have hj18 : j < 18 := by have := (List.getElem?_eq_some_iff.1 hj).1; have := hE.len; omega
  obtain ⟨ca, ta, hra⟩ := errs_row (es := es) (hE.row a (List.mem_of_getElem? hj)) (.cells (es.map errV).toArray 27)
  have HJ := Lib.hid hj
  have HE := hE
  clear hj
  go_enter Tryd.func14, Tryd.ntmps14
  go_wp2_with (go_at_call 36; refine (all_any es _ hE).mono ?_; rintro e w' ⟨rfl, rfl⟩)
  go_loopw [9] (fun i wr => ∃ k : Nat, k ≤ j ∧ i = .int .i64 k ∧ wr = w.alloc (.cells (es.map errV).toArray 27)) (fun i _ => 18 - (intOf i).toNat)
  case atStart => exact ⟨0, Nat.zero_le _, rfl, rfl⟩
  case round =>
    obtain ⟨k, hk, rfl, rfl⟩ := hrel
    obtain ⟨b, hb⟩ : ∃ b, es[k]? = some b := ⟨_, List.getElem?_eq_getElem (by have := hE.len; omega)⟩
    have cb := errs_at (w := w) hb
    obtain ⟨cc, tb, hrb⟩ := errs_row (es := es) (hE.row b (List.mem_of_getElem? hb)) (.cells (es.map errV).toArray 27)
    by_cases hkj : k = j
    · subst hkj
      obtain rfl : a = b := Option.some.inj (HJ.out.symm.trans hb)
      clear HJ hb HE hE
      go_wp2_with (go_at_call 37; refine (is_same _ _).mono ?_; rintro e w' ⟨rfl, rfl⟩)
      go_ret
      exact ⟨rfl, (Below.refl _ _).alloc (Nat.le_refl _) _⟩
    · have hne : a ≠ b := by
        rintro rfl
        have h1 := List.getElem?_eq_some_iff.1 HJ.out
        have h2 := List.getElem?_eq_some_iff.1 hb
        obtain ⟨h1, e1⟩ := h1
        obtain ⟨h2, e2⟩ := h2
        exact hkj ((List.getElem_inj hE.nodup).1 (e2.trans e1.symm))
      clear HJ hb HE hE
      go_wp2_with (go_at_call 37; refine (is_other _ _ _ _ _ _ _ hne hra hrb).mono ?_; rintro e w' ⟨rfl, rfl⟩)
      go_roundw
      case rel => exact ⟨k + 1, by omega, by go_num, trivial⟩
      case measure => first | (simp [intOf]; done) | (simp [intOf]; omega)


/-! ### Of -/

theorem step_append_node {P : Program} {ops : Array Oper} {o : Oper} {a : Act} {K : Act → World → Prop} {Q : Exit → Act → World → Prop} {E : Prop} {w : World} (hgd : o.guard = none) (s x : Operand) (st : TypeId)
    (ho : o.op = .call { callee := .builtin .append, args := #[s, x], argTypes := #[st, st] }) (e : TypeId) (hst : P.underlying st = some (.slice e)) (hi : (P.info? e).map (fun i => (i.zero, i.size, i.bytes)) = some (some (.agg zeroNode), 7, 72))
    (B : Nat) (v : Value) (ts : List T) (hs : a.eval s = v) (hrow : NRow e B w v ts) (t : T) (cs : Array Value) (X : Nat) (hx : a.eval x = .slice (some ⟨X, 0, none⟩) 1 1) (hX : RowAt w X cs e)
    (ht : TreeAt (fun b => B ≤ b ∧ some b ≠ v.ownBlock) w t cs) (hlen : ts.length ≤ 100000) (hB : B ≤ w.heap.size)
    (h : ∀ v' w', NRow e B w' v' (ts ++ [t]) → w.grownBy w' v.ownBlock → K (a.put o.dst v') w') :
    if Region.wanted o (yielded ops a.tmps) = true then Oper.wp P o a w K Q else E := by
  obtain ⟨xs, hown, hnodes⟩ := hrow
  obtain ⟨i0, hi1, hz0, hz1, hz2⟩ := info_parts hi
  refine step_append_lies (P := P) w hgd s x st ho B e i0 (.agg zeroNode) 7 72 hst hi1 hz0 hz1 hz2 rfl (by decide) v ts.length xs hs hown ⟨X, 0, none⟩ 1 1 cs.toList hx (by simp [ht.size]) (World.news_of_block hX) ht.oneCell (by decide) (by unfold maxLen; omega) (by omega) hB w.heap.size rfl ?_
  intro g cap w' hown' hgrow hat hlt
  have := NRow.push (H := w.heap.size) hB hnodes ht hown' hgrow hat rfl
  have e1 : (ts ++ [t]).length = ts.length + 1 := by simp
  rw [e1] at this
  exact h _ w' this hgrow
def OfC (n : Nat) : Prop := ∀ (ok : Nat → Prop) (w : World) (t : T) (cs : Array Value), sizeT t < n → TreeAt ok w t cs →
  Calls Tryd.prog 23 #[.agg cs] w (TreePost w.heap.size t w)
structure OSt (w : World) (k1 i1 : Nat) (S1 : S4) (ks : List T) (wr : World) (k : Nat) (v : Value) : Prop where
  out : RowAt wr (w.heap.size + 1 + 1) (nodeC k1 i1 S1 v) 46
  row : NRow 46 (w.heap.size + 3) wr v (ks.take k)
  res : RowAt wr (w.heap.size + 1) #[.int .i64 0, .int .i64 0, .int .u64 0, .int .u64 0, .int .u64 0, .int .u64 0, .slice none 0 0] 46
  bel : Below w.heap.size w wr

set_option maxHeartbeats 8000000 in
set_option maxRecDepth 100000 in
theorem of_step (n : Nat) (hS : OfC n) (hn : n ≤ 100000) : OfC (n + 1) := by
  intro ok w t cs hsz ht
  obtain ⟨k1, i1, S1, ks, A, c1, rfl, rfl, hS1⟩ := ht.form
  obtain ⟨L, hL⟩ : ∃ L, ks.length = L := ⟨_, rfl⟩
  have hks := kids_small (ts := ks)
  have hsz2 : sizeL ks < n := by simp only [sizeT] at hsz; omega
  have hLm : L ≤ 100000 := by omega
  obtain ⟨hA, hA2⟩ := kids_of ht
  have HK := Lib.hid (show ∀ k, k < L → ∃ t g, A = some ⟨g, 0, none⟩ ∧ g < w.heap.size ∧ ks[k]? = some t ∧ sizeT t < n ∧ ∃ v, TreeAt ok w t v ∧ ∀ i x, v[i]? = some x → w.cell? ⟨g, k * 7 + i, none⟩ = some x from fun k hk => by
    cases A with
    | none => have := (hA rfl).1; subst this; simp at hL; omega
    | some a =>
      obtain ⟨e1, e2, e3⟩ := hA2 a rfl
      have h1 : ks[k]? = some ks[k] := List.getElem?_eq_getElem (by omega)
      obtain ⟨v, hv, hc⟩ := KidsAt.at_ ks 0 e3 k _ h1
      rw [Nat.zero_add] at hc
      have := sizeL_mem (List.mem_of_getElem? h1)
      exact ⟨_, a.block, by rw [e1], e2, h1, by omega, v, hv, hc⟩)
  have HC := Lib.hid hS
  have HL := Lib.hid hL
  show Calls _ _ #[.agg (nodeC k1 i1 S1 (.slice A ks.length c1))] _ _
  rw [hL]
  obtain ⟨V, hV⟩ : ∃ V, ((w.alloc (.cells (nodeC k1 i1 S1 (.slice A L c1)) 41)).alloc (.cells #[.int .i64 0, .int .i64 0, .int .u64 0, .int .u64 0, .int .u64 0, .int .u64 0, .slice none 0 0] 46)).alloc (.cells (nodeC k1 i1 S1 (.slice none 0 0)) 46) = V := ⟨_, rfl⟩
  have r0 : RowAt V w.heap.size (nodeC k1 i1 S1 (.slice A L c1)) 41 := by rw [← hV]; exact RowAt.old (RowAt.old (RowAt.new _ _ _) _) _
  have H0 : Hid (OSt w k1 i1 S1 ks V 0 (.slice none 0 0)) := Lib.hid (by
    rw [← hV]
    exact ⟨RowAt.new' _ _ _ (by simp), NRow.nil _ _ _, RowAt.old (RowAt.new' _ _ _ (by simp)) _, (((Below.refl _ _).alloc (Nat.le_refl _) _).alloc (by simp) _).alloc (by simp; omega) _⟩)
  obtain ⟨x0, x1, x2, x3, x4, x5, x6⟩ := row7 r0
  unfold nodeC at hV
  have HV := Lib.hid hV
  clear ht hsz hA hA2 hS hL hks hsz2 hV r0
  unfold nodeC
  go_enter Tryd.func23, Tryd.ntmps23
  go_upto_region 2 with (fail)
  have hV := HV.out
  simp only [hV]
  clear hV HV
  go_wp2_with fail
  clear x0 x1 x2 x3 x4 x5 x6
  go_loopw [16] (fun i wr => ∃ (k : Nat) (v : Value), k ≤ L ∧ i = .int .i64 (k : Int) ∧ Hid (OSt w k1 i1 S1 ks wr k v)) (fun i _ => L - (intOf i).toNat)
  case atStart => exact ⟨0, _, Nat.zero_le _, rfl, H0⟩
  case round =>
    clear H0
    obtain ⟨k, v, hk, rfl, HO⟩ := hrel
    rcases Nat.lt_or_ge k L with hlt | hge
    · obtain ⟨t, g, rfl, hg, ht, hsz, vv, hv, hc⟩ := HK.out k hlt
      obtain ⟨k2, i2, S2, ks2, A2, c2, hT2, rfl, hS2⟩ := hv.form
      have hbl := HO.out.bel
      obtain ⟨a0, a1, a2, a3, a4, a5, a6⟩ := node_cells (w := wr) (g := g) (o := k * 7) (fun j x hj => by have := hc j x hj; exact cell_of_heap (hbl.block g hg) this)
      simp only [Nat.add_zero] at a0
      have hszw := hbl.size
      have hgw : g < wr.heap.size := by omega
      obtain ⟨C, cc, rfl, -, -⟩ := HO.out.row.slice
      have htl : (ks.take k).length = k := by rw [List.length_take, HL.out]; omega
      rw [htl] at HO
      obtain ⟨W2, hW2⟩ : ∃ W2, wr.alloc (.cells (nodeC k2 i2 S2 (.slice A2 ks2.length c2)) 41) = W2 := ⟨_, rfl⟩
      have hbW : Below wr.heap.size wr W2 := by rw [← hW2]; exact (Below.refl _ _).alloc (Nat.le_refl _) _
      have hbW0 : Below w.heap.size w W2 := hbl.trans (hbW.mono hszw)
      have hrow : RowAt W2 wr.heap.size (nodeC k2 i2 S2 (.slice A2 ks2.length c2)) 41 := by rw [← hW2]; exact RowAt.new _ _ _
      have O2 : OSt w k1 i1 S1 ks W2 k (.slice C k cc) := ⟨HO.out.out.later hbW HO.out.out.lt, HO.out.row.below hbW, HO.out.res.later hbW HO.out.res.lt, hbW0⟩
      obtain ⟨b0, b1, b2, b3, b4, b5, b6⟩ := row7 hrow
      have hvd : TreeAt ok W2 t _ := hv.below hbW0
      have HCALL := HC.out ok W2.drew t _ hsz (TreeAt.turn (w := W2) (w' := W2.drew) (Nat.le_refl _) (fun b hb _ => ⟨hb, rfl⟩) t _ hvd)
      have HT := Lib.hid ht
      have HW2 := Lib.hid hW2
      have HO2 := Lib.hid O2
      have hki : (0 : Int) ≤ (k : Int) := by omega
      have hkl : (k : Int) < (L : Int) := by omega
      unfold nodeC at HCALL
      have HCALL := Lib.hid HCALL
      clear hc hv hvd ht hT2 hS2 hbW hbW0 hrow hbl HK O2 hW2 htl
      go_upto_region 5 with (fail)
      have hW2 := HW2.out
      unfold nodeC at hW2
      simp only [hW2]
      clear hW2 HW2 a0 a1 a2 a3 a4 a5 a6
      obtain ⟨-, -, -, -, -, -, o6⟩ := row7 HO2.out.out
      have hUl : w.heap.size + 1 + 1 < W2.heap.size := HO2.out.out.lt
      go_region_law (first | (go_simp; go_at_call 23; refine HCALL.out.mono ?_; rintro e w9 ⟨cs9, rfl, ht9, hb9⟩; obtain ⟨k9, i9, S9, ks9, A9, c9, hT9, rfl, hS9⟩ := ht9.form; unfold nodeC; have hbd : Below W2.heap.size W2 w9 := (below_step hb9 (Below.refl _ _).drew); obtain ⟨V4, hV4⟩ : ∃ V4, w9.alloc (.cells #[.int .i64 (k9 : Int), .int .i64 (i9 : Int), .int .u64 (S9.a0 : Int), .int .u64 (S9.a1 : Int), .int .u64 (S9.a2 : Int), .int .u64 (S9.a3 : Int), .slice A9 ks9.length c9] 46) = V4 := ⟨_, rfl⟩; have hb4 : Below w9.heap.size w9 V4 := (by rw [← hV4]; exact (Below.refl _ _).alloc (Nat.le_refl _) _); have q4 : RowAt V4 w9.heap.size (nodeC k9 i9 S9 (.slice A9 ks9.length c9)) 46 := (by rw [← hV4]; exact RowAt.new _ _ _); have q3 : NRow 46 (w.heap.size + 3) V4 (.slice C k cc) (ks.take k) := (HO2.out.row.below hbd).below hb4; have hws := hbd.size; have q5 : TreeAt (fun b => w.heap.size + 3 ≤ b ∧ some b ≠ (Value.slice C k cc).ownBlock) V4 t (nodeC k9 i9 S9 (.slice A9 ks9.length c9)) := ((ht9.below hb4).mono (fun b hb => ⟨by have h1 : W2.heap.size ≤ b := hb; omega, fun hc => by have := (HO2.out.row.own_ge b hc.symm).2; have h1 : W2.heap.size ≤ b := hb; omega⟩)); have q7 : w.heap.size + 3 ≤ V4.heap.size := (by have := hb4.size; omega); have o9 := HO2.out.out.later hbd HO2.out.out.lt; obtain ⟨-, -, -, -, -, -, e6⟩ := row7 o9; have q1 := o9.later hb4 o9.lt; obtain ⟨-, -, -, -, -, -, e7⟩ := row7 q1; have s9 := HO2.out.res.later hbd HO2.out.res.lt; have q2 := s9.later hb4 s9.lt; have q6 : Below w.heap.size w V4 := (HO2.out.bel.trans (hbd.mono HO2.out.bel.size)).trans (hb4.mono (by omega)); have hown := Lib.hid (fun k hk => (HO2.out.row.own_ge k hk).1); have o9l := o9.lt; have HV4 := Lib.hid hV4; rw [← hV4] at e7; clear hV4 hb4 hT9 ht9 hb9 hS9 o9 s9) | (have hV4 := HV4.out; rw [hV4]; refine step_append_node rfl (.tmp 21) (.tmp 24) 44 rfl 46 Tryd.underlying44 Tryd.info_refNode (w.heap.size + 3) (.slice C k cc) (ks.take k) (by rfl) q3 t _ w9.heap.size (by rfl) q4 q5 (by rw [List.length_take]; omega) q7 ?_; intro v' w4 hrow4 hgrow; obtain ⟨C', cc', rfl, -, -⟩ := hrow4.slice; have q8 := RowAt.grown q1 hgrow (fun hc => by have := hown.out _ hc.symm; omega); have q9 := RowAt.grown q2 hgrow (fun hc => by have := hown.out _ hc.symm; omega); have q10 := q6.grown hgrow (by omega) (fun k hk => by have := hown.out k hk; omega); obtain ⟨-, -, -, -, -, -, u6⟩ := row7 q8; have f6 := q8.frozen 6; have Q8 := Lib.hid q8; have Q9 := Lib.hid q9; have Q10 := Lib.hid q10; have QR := Lib.hid hrow4; have hq8 := q8.lt; clear q8 q9 q10 hgrow hrow4 q1 q2 q3 q4 q5 q6 q7))
      all_goals (
        have F : Hid (OSt w k1 i1 S1 ks (w4.setCell ⟨w.heap.size + 1 + 1, 6, none⟩ (.slice C' (ks.take k ++ [t]).length cc')) (k + 1) (.slice C' (ks.take k ++ [t]).length cc')) := Lib.hid (by
          refine ⟨Q8.out.set 6 _, ?_, Q9.out.other _ (by simp), Q10.out.setCell (by simp; omega) _⟩
          rw [takeS HT.out]
          exact QR.out.touch ((Touch.refl w4 (· = w.heap.size + 1 + 1)).put (a := ⟨w.heap.size + 1 + 1, 6, none⟩) _ (.inl rfl)) (fun b hb h => by omega))
        have hle : (ks.take k ++ [t]).length = min k ks.length + 1 := by simp
        rw [hle] at F
        clear hle
        go_wp2_with fail
        go_roundw
        case rel => exact ⟨k + 1, _, hlt, by go_num, F⟩
        case measure => first | (simp [intOf]; done) | (simp [intOf]; omega))
    · obtain rfl : k = L := by omega
      clear HK HC
      obtain ⟨C, cc, rfl, -, -⟩ := HO.out.row.slice
      obtain ⟨x0, x1, x2, x3, x4, x5, x6⟩ := row7 HO.out.out
      have rz := HO.out.res
      obtain ⟨⟨n0, n1, n2, n3, n4, n5, n6⟩, m0, m1, m2, m3, m4, m5, m6⟩ := node_facts (k := 0) (i := 0) (s := S4.zero) (sl := .slice none 0 0) rz
      have hrl := rz.lt
      have htk : ks.take k = ks := List.take_of_length_le (by rw [HL.out]; omega)
      rw [htk] at x6 HO
      have HRW := HO.out.row
      rw [htk] at HRW
      have HRW := Lib.hid HRW
      obtain ⟨N, hN⟩ : ∃ N, ks.length = N := ⟨_, rfl⟩
      rw [hN] at HO x6 HRW
      clear htk hN
      go_wp2_with fail
      obtain ⟨z0, z1, z2, z3, z4, z5, z6⟩ := row7 (RowAt.seven rz (.int .i64 (k1 : Int)) (.int .i64 (i1 : Int)) (.int .u64 (S1.a0 : Int)) (.int .u64 (S1.a1 : Int)) (.int .u64 (S1.a2 : Int)) (.int .u64 (S1.a3 : Int)) (.slice C N cc))
      refine bodyPost_ret (v := .agg (nodeC k1 i1 S1 (.slice C N cc))) (by simp [results, Tryd.results23, go_sem, nodeC, z0, z1, z2, z3, z4, z5, z6]) rfl ?_
      refine ⟨_, rfl, ?_, below_putN HO.out.bel (by omega) k1 i1 S1 (.slice C N cc)⟩
      exact (HRW.out.tree k1 i1 hS1).touch (touch_putN (Touch.refl wr (· = w.heap.size + 1)) (.inl rfl) k1 i1 S1 (.slice C N cc)) (fun b hb => (by omega)) (fun b hb => (by omega))
theorem of_all : ∀ n, n ≤ 100000 → OfC n
  | 0, _ => fun ok w t cs h _ => absurd h (Nat.not_lt_zero _)
  | n + 1, h => of_step n (of_all n (by omega)) (by omega)
theorem Of_tree (ok : Nat → Prop) (w : World) (t : T) (cs : Array Value) (hz : sizeT t ≤ 10000) (ht : TreeAt ok w t cs) :
    Calls Tryd.prog 23 #[.agg cs] w (TreePost w.heap.size t w) := of_all 100000 (Nat.le_refl _) ok w t cs (by omega) ht


/-! ### the statement -/

theorem errs3_of {w : World} {es : List Addr} (h : Errs w es) : ∃ aL aR aF, es[1]? = some aL ∧ es[5]? = some aR ∧ es[9]? = some aF ∧ Errs3 w aL aR aF := by
  have hl := h.len
  have e1 : es[1]? = some es[1] := List.getElem?_eq_getElem (by omega)
  have e5 : es[5]? = some es[5] := List.getElem?_eq_getElem (by omega)
  have e9 : es[9]? = some es[9] := List.getElem?_eq_getElem (by omega)
  exact ⟨_, _, _, e1, e5, e9, h.cell 1 _ _ rfl e1, h.cell 5 _ _ rfl e5, h.cell 9 _ _ rfl e9⟩
theorem Num_prs {es : List Addr} {aL aR aF : Addr} (h1 : es[1]? = some aL) (h5 : es[5]? = some aR) (h9 : es[9]? = some aF) (s : ByteArray) (W : World) (hE : Errs W es) :
    Calls Tryd.prog 14 #[errOf aL aR aF (prs s).1] W fun e w' => e = .returned (.int .i64 ((prs s).1 : Int)) ∧ Below W.heap.size W w' := by
  rcases prs_num s with h | h | h | h
  · rw [h]
    refine (Num_nil W).mono ?_
    rintro e w' ⟨rfl, rfl⟩
    exact ⟨rfl, Below.refl _ _⟩
  · rw [h]; exact Num_err es 1 aL h1 W hE
  · rw [h]; exact Num_err es 5 aR h5 W hE
  · rw [h]; exact Num_err es 9 aF h9 W hE

set_option maxHeartbeats 8000000 in
set_option maxRecDepth 100000 in
theorem RexParses_walk (s : ByteArray) (w : World) (ws : s.size ≤ maxLen) (hE : ∃ es, Errs w es) :
    Calls Tryd.prog 5 #[.string s] w fun e w' => e = .returned (.bool true) ∧ Below w.heap.size w w' := by
  unfold maxLen at ws
  obtain ⟨es, hE⟩ := hE
  obtain ⟨aL, aR, aF, j1, j5, j9, hE3⟩ := errs3_of hE
  have HAL := Lib.hid (alive07_any aL aR aF w hE3)
  by_cases h100 : 100 < s.size
  · have hd : decide (100 < s.size) = true := decide_eq_true h100
    clear j1 j5 j9 hE3 hE
    go_enter Tryd.func5, Tryd.ntmps5
    go_wp2_with (go_at_call 17; refine HAL.out.mono ?_; rintro e w1 ⟨rfl, hb1⟩)
    go_ret
    exact ⟨rfl, hb1⟩
  · have hd : decide (100 < s.size) = false := decide_eq_false h100
    have hsz := prs_size s
    have hnum := prs_num s
    have HPA := Lib.hid (fun W hW => Parse_any aL aR aF s W (by omega) hW)
    have HRP := Lib.hid (fun W => RefParse_any s W (by omega))
    have HNU := Lib.hid (fun W hW => Num_prs j1 j5 j9 s W hW)
    obtain ⟨q, hq⟩ : ∃ q, (prs s).1 = q := ⟨_, rfl⟩
    obtain ⟨t, ht⟩ : ∃ t, (prs s).2 = t := ⟨_, rfl⟩
    unfold ParsePost at HPA
    unfold RefParsePost at HRP
    rw [ht] at hsz HPA HRP
    rw [hq] at HPA HRP HNU hnum
    obtain ⟨ev, hev⟩ : ∃ ev, errOf aL aR aF q = ev := ⟨_, rfl⟩
    rw [hev] at HPA HNU
    have hne : ((q : Int) != (q : Int)) = false := by simp
    have HE3 := Lib.hid hE3
    have HE := Lib.hid hE
    clear j1 j5 j9 hE3 hE hq ht hev
    go_enter Tryd.func5, Tryd.ntmps5
    go_wp2_with (go_at_call 17; refine HAL.out.mono ?_; rintro e w1 ⟨rfl, hb1⟩)
    refine (HPA.out _ (HE3.out.later hb1)).mono ?_
    rintro e w2 ⟨cs, rfl, hta, hb2⟩
    try dsimp only
    obtain ⟨k1, i1, S1, ks1, A1, c1, hT1, rfl, hS1⟩ := hta.form
    obtain ⟨V, hV⟩ : ∃ V, w2.alloc (.cells #[.int .i64 (k1 : Int), .int .i64 (i1 : Int), .int .u64 (S1.a0 : Int), .int .u64 (S1.a1 : Int), .int .u64 (S1.a2 : Int), .int .u64 (S1.a3 : Int), .slice A1 ks1.length c1] 41) = V := ⟨_, rfl⟩
    have bV : Below w2.heap.size w2 V := by rw [← hV]; exact (Below.refl _ _).alloc (Nat.le_refl _) _
    have B1 : Below w.heap.size w V := (hb1.trans (hb2.mono hb1.size)).trans (bV.mono (by have := hb1.size; have := hb2.size; omega))
    have ra : RowAt V w2.heap.size (nodeC k1 i1 S1 (.slice A1 ks1.length c1)) 41 := by rw [← hV]; exact RowAt.new _ _ _
    have ta : TreeAt (fun _ => True) V t (nodeC k1 i1 S1 (.slice A1 ks1.length c1)) := (hta.below bV).mono (fun _ _ => trivial)
    have HB1 := Lib.hid B1
    have HRA := Lib.hid ra
    have HTA := Lib.hid ta
    have HV := Lib.hid hV
    unfold nodeC
    clear hV bV B1 ra ta hta hT1 hS1 hb2 hb1 HPA
    go_upto_region 6 with (fail)
    have hV := HV.out
    simp only [hV]
    clear hV HV
    go_wp2_with fail
    refine (HRP.out _).mono ?_
    rintro e w3 ⟨ds, rfl, htb, hb3⟩
    try dsimp only
    obtain ⟨k2, i2, S2, ks2, A2, c2, hT2, rfl, hS2⟩ := htb.form
    obtain ⟨U, hU⟩ : ∃ U, w3.alloc (.cells #[.int .i64 (k2 : Int), .int .i64 (i2 : Int), .int .u64 (S2.a0 : Int), .int .u64 (S2.a1 : Int), .int .u64 (S2.a2 : Int), .int .u64 (S2.a3 : Int), .slice A2 ks2.length c2] 46) = U := ⟨_, rfl⟩
    have bU : Below w3.heap.size w3 U := by rw [← hU]; exact (Below.refl _ _).alloc (Nat.le_refl _) _
    have bVU : Below V.heap.size V U := hb3.trans (bU.mono hb3.size)
    have rb : RowAt U w3.heap.size (nodeC k2 i2 S2 (.slice A2 ks2.length c2)) 46 := by rw [← hU]; exact RowAt.new _ _ _
    have tb : TreeAt (fun _ => True) U t (nodeC k2 i2 S2 (.slice A2 ks2.length c2)) := (htb.below bU).mono (fun _ _ => trivial)
    have ta2 := HTA.out.below bVU
    have ra2 := HRA.out.later bVU HRA.out.lt
    have HB2 := Lib.hid (HB1.out.trans (bVU.mono HB1.out.size))
    have HTA2 := Lib.hid ta2
    have HTB := Lib.hid tb
    have HRA2 := Lib.hid ra2
    have HRB := Lib.hid rb
    have HEU := Lib.hid (HE.out.later HB2.out)
    have HU := Lib.hid hU
    unfold nodeC
    clear hU bU bVU rb tb htb hT2 hS2 hb3 ta2 ra2 HRP HTA HRA HB1 HE HE3
    go_upto_region 7 with (fail)
    have hU := HU.out
    simp only [hU]
    clear hU HU
    have hl1 := HRA2.out.lt
    have hl2 := HRB.out.lt
    obtain ⟨x0, x1, x2, x3, x4, x5, x6⟩ := row7 HRA2.out
    obtain ⟨y0, y1, y2, y3, y4, y5, y6⟩ := row7 HRB.out
    have HOF : Hid (∀ W, Below U.heap.size U W → Calls Tryd.prog 23 #[.agg (nodeC k1 i1 S1 (.slice A1 ks1.length c1))] W (TreePost W.heap.size t W)) := Lib.hid (fun W hW => Of_tree (fun _ => True) W t _ (by omega) (HTA2.out.below hW))
    have HSA : Hid (∀ W, Below U.heap.size U W → ∀ cs9, TreeAt (fun _ => True) W t cs9 → Calls Tryd.prog 21 #[.agg cs9, .agg (nodeC k2 i2 S2 (.slice A2 ks2.length c2))] W fun e w' => e = .returned (.bool true) ∧ Below W.heap.size W w') := Lib.hid (fun W hW cs9 h9 => by
      have := RSame_any (fun _ => True) W t t cs9 _ (by omega) h9 (HTB.out.below hW)
      rw [sameT_refl] at this
      exact this)
    unfold nodeC at HOF HSA
    go_cut [34] (fun v wx => v = .bool false ∧ Hid (Below U.heap.size U wx))
    case first =>
      go_region_with (first | (go_at_call 14; refine (HNU.out _ ?_).mono ?_; (exact HEU.out.later (Below.refl _ _).drew); rintro e w4 ⟨rfl, hb4⟩; have hbb4 : Below U.heap.size U w4 := below_step hb4 (Below.refl _ _).drew; obtain ⟨a0, a1, a2, a3, a4, a5, a6⟩ := row7 (HRA2.out.later hbb4 hl1); obtain ⟨b0, b1, b2, b3, b4, b5, b6⟩ := row7 (HRB.out.later hbb4 hl2)) | (go_at_call 23; refine (HOF.out _ ?_).mono ?_; (exact hbb4); rintro e w5 ⟨cs9, rfl, ht9, hb5⟩; have hbb5 : Below U.heap.size U w5 := below_step hb5 hbb4; obtain ⟨g0, g1, g2, g3, g4, g5, g6⟩ := row7 (HRB.out.later hbb5 hl2)) | (go_at_call 21; refine (HSA.out _ hbb5 _ (ht9.mono (fun _ _ => trivial))).mono ?_; rintro e w6 ⟨rfl, hb6⟩; have hbb6 : Below U.heap.size U w6 := below_step hb6 hbb5))
      all_goals (
        go_wp2_with fail
        go_meet
        case rel => exact ⟨rfl, Lib.hid hbb6⟩)
    case rest =>
      obtain ⟨rfl, HW⟩ := hcut
      have ra3 := HRA2.out.later HW.out hl1
      have rb3 := HRB.out.later HW.out hl2
      have HB3 := Lib.hid (HB2.out.trans (HW.out.mono HB2.out.size))
      have HTA3 := Lib.hid (HTA2.out.below HW.out)
      have HTB3 := Lib.hid (HTB.out.below HW.out)
      have HSU := Lib.hid (Sums_any (fun _ => True) wc t _ (by omega) HTB3.out)
      obtain ⟨a0, a1, a2, a3, a4, a5, a6⟩ := row7 ra3
      obtain ⟨b0, b1, b2, b3, b4, b5, b6⟩ := row7 rb3
      have HRA3 := Lib.hid ra3
      have hl3 := ra3.lt
      unfold nodeC at HSU
      clear x0 x1 x2 x3 x4 x5 x6 y0 y1 y2 y3 y4 y5 y6 HOF HSA HNU ra3 rb3
      have hsz2 := groupsT_le t
      obtain ⟨Z, hZ⟩ : ∃ Z, sizeT t = Z := ⟨_, rfl⟩
      obtain ⟨GG, hGG⟩ : ∃ G, groupsT t = G := ⟨_, rfl⟩
      rw [hZ, hGG] at HSU
      have HZ := Lib.hid hZ
      have HGG := Lib.hid hGG
      have e1 : ((Z : Int) == (Z : Int)) = true := by simp
      have e2 : ((GG : Int) == (GG : Int)) = true := by simp
      have hsz' : sizeT t ≤ 10000 := by omega
      have HSZ := Lib.hid hsz'
      clear hZ hGG hsz hsz2 hsz'
      go_wp2_with fail
      refine HSU.out.mono ?_
      rintro e w7 ⟨rfl, hb7⟩
      try dsimp only
      have HB4 := Lib.hid (HB3.out.trans (hb7.mono HB3.out.size))
      have ra4 := HRA3.out.later hb7 hl3
      have HSI := Size_any (fun _ => True) w7 t _ HSZ.out (HTA3.out.below hb7)
      rw [HZ.out] at HSI
      have HSI := Lib.hid HSI
      have HTA4 := Lib.hid (HTA3.out.below hb7)
      obtain ⟨c0, c1', c2', c3, c4, c5, c6⟩ := row7 ra4
      have HRA4 := Lib.hid ra4
      unfold nodeC at HSI
      clear a0 a1 a2 a3 a4 a5 a6 b0 b1 b2 b3 b4 b5 b6 ra4 hb7 HSU
      go_wp2_with fail
      refine HSI.out.mono ?_
      rintro e w8 ⟨rfl, hb8⟩
      try dsimp only
      have ra5 := HRA4.out.later hb8 HRA4.out.lt
      have HB5 := Lib.hid (HB4.out.trans (hb8.mono HB4.out.size))
      have HGI := Groups_any (fun _ => True) w8 t _ HSZ.out (HTA4.out.below hb8)
      rw [HGG.out] at HGI
      have HGI := Lib.hid HGI
      unfold nodeC at HGI
      obtain ⟨d0, d1, d2, d3, d4, d5, d6⟩ := row7 ra5
      clear c0 c1' c2' c3 c4 c5 c6 ra5 hb8 HSI
      go_wp2_with fail
      refine HGI.out.mono ?_
      rintro e w9 ⟨rfl, hb9⟩
      try dsimp only
      have HB6 := Lib.hid (HB5.out.trans (hb9.mono HB5.out.size))
      clear d0 d1 d2 d3 d4 d5 d6 hb9 HGI
      go_wp2_with fail
      go_ret
      exact ⟨rfl, HB6.out⟩

end Go.Proofs.YtkddighepgpccaaDoor
