/-
  Plain: the same tree; how great a tree is, how many groups it has. The walk of rex.Same.
-/
import Derived.Test.YtkddighepgpccaaDoorRexS
namespace Go.Proofs.YtkddighepgpccaaDoor
open Go Go.RowKit
set_option linter.unusedSimpArgs false
set_option linter.unusedVariables false

mutual
def sameT : T → T → Bool
  | .mk k i s ks, .mk k' i' s' ks' => decide (k = k') && (decide (i = i') && (decide (s = s') && sameL ks ks'))
def sameL : List T → List T → Bool
  | [], [] => true
  | t :: ts, u :: us => sameT t u && sameL ts us
  | _, _ => false
end
mutual
def sizeT : T → Nat
  | .mk _ _ _ ks => 1 + sizeL ks
def sizeL : List T → Nat
  | [] => 0
  | t :: ts => sizeT t + sizeL ts
end
mutual
def groupsT : T → Nat
  | .mk k _ _ ks => (if k = 7 then 1 else 0) + groupsL ks
def groupsL : List T → Nat
  | [] => 0
  | t :: ts => groupsT t + groupsL ts
end
mutual
theorem sameT_refl : ∀ t, sameT t t = true
  | .mk k i s ks => by simp [sameT, sameL_refl ks]
theorem sameL_refl : ∀ ts, sameL ts ts = true
  | [] => rfl
  | t :: ts => by simp [sameL, sameT_refl t, sameL_refl ts]
end
theorem sizeL_mem {t : T} : ∀ {ts : List T}, t ∈ ts → sizeT t ≤ sizeL ts
  | [], h => by simp at h
  | u :: us, h => by
    rcases List.mem_cons.1 h with rfl | h
    · simp only [sizeL]; omega
    · have := sizeL_mem h
      simp only [sizeL]; omega
theorem sameL_len : ∀ {ts us : List T}, ts.length ≠ us.length → sameL ts us = false
  | [], [], h => absurd rfl h
  | [], u :: us, h => rfl
  | t :: ts, [], h => rfl
  | t :: ts, u :: us, h => by
    simp only [sameL]
    rw [sameL_len (fun e => h (by simp [e]))]
    simp
/-- Of lists of one length: the first j are the same. -/
theorem sameL_drop {ts us : List T} (hl : ts.length = us.length) {j : Nat} {t u : T} (ht : ts[j]? = some t) (hu : us[j]? = some u) : sameL (ts.drop j) (us.drop j) = (sameT t u && sameL (ts.drop (j + 1)) (us.drop (j + 1))) := by
  have h1 := (List.getElem?_eq_some_iff.1 ht)
  have h2 := (List.getElem?_eq_some_iff.1 hu)
  obtain ⟨l1, e1⟩ := h1
  obtain ⟨l2, e2⟩ := h2
  rw [List.drop_eq_getElem_cons l1, List.drop_eq_getElem_cons l2, e1, e2]
  rfl

def SameC (n : Nat) : Prop := ∀ (ok : Nat → Prop) (w : World) (t u : T) (cs ds : Array Value), sizeT t < n → TreeAt ok w t cs → TreeAt ok w u ds →
  Calls Tryd.prog 20 #[.agg cs, .agg ds] w fun e w' => e = .returned (.bool (sameT t u)) ∧ Below w.heap.size w w'

set_option maxHeartbeats 8000000 in
set_option maxRecDepth 100000 in
theorem EqualFunc_any (n : Nat) (hS : SameC n) (ok : Nat → Prop) (w : World) (ts us : List T) (A B : Option Addr) (c d : Nat)
    (hA : A = none → ts = [] ∧ c = 0) (hB : B = none → us = [] ∧ d = 0) (hlA : ts.length ≤ 1000000) (hA2 : ∀ a, A = some a → a = ⟨a.block, 0, none⟩ ∧ a.block < w.heap.size ∧ KidsAt ok w ts a.block 0)
    (hB2 : ∀ a, B = some a → a = ⟨a.block, 0, none⟩ ∧ a.block < w.heap.size ∧ KidsAt ok w us a.block 0) (hsz : sizeL ts < n) :
    Calls Tryd.prog 42 #[.slice A ts.length c, .slice B us.length d, .func (.func 20) #[] #[]] w fun e w' => e = .returned (.bool (sameL ts us)) ∧ Below w.heap.size w w' := by
  by_cases hl : ts.length = us.length
  · obtain ⟨L, hL⟩ : ∃ L, ts.length = L := ⟨_, rfl⟩
    have hU : us.length = L := by omega
    have hLm : L ≤ 1000000 := by omega
    have HSS := Lib.hid (fun k t u (h1 : ts[k]? = some t) (h2 : us[k]? = some u) => sameL_drop hl h1 h2)
    have HD := Lib.hid (show ∀ k, L ≤ k → sameL (ts.drop k) (us.drop k) = true from fun k hk => by
      rw [List.drop_eq_nil_of_le (by omega), List.drop_eq_nil_of_le (by omega)]; rfl)
    have HK := Lib.hid (show ∀ k, k < L → ∃ t u g g', A = some ⟨g, 0, none⟩ ∧ B = some ⟨g', 0, none⟩ ∧ g < w.heap.size ∧ g' < w.heap.size ∧ ts[k]? = some t ∧ us[k]? = some u ∧ sizeT t < n ∧
        (∃ v, TreeAt ok w t v ∧ ∀ i x, v[i]? = some x → w.cell? ⟨g, k * 7 + i, none⟩ = some x) ∧ ∃ v, TreeAt ok w u v ∧ ∀ i x, v[i]? = some x → w.cell? ⟨g', k * 7 + i, none⟩ = some x from fun k hk => by
      cases A with
      | none => have := (hA rfl).1; subst this; simp at hL; omega
      | some a =>
        cases B with
        | none => have := (hB rfl).1; subst this; simp at hU; omega
        | some b =>
          obtain ⟨e1, e2, e3⟩ := hA2 a rfl
          obtain ⟨d1, d2, d3⟩ := hB2 b rfl
          have h1 : ts[k]? = some ts[k] := List.getElem?_eq_getElem (by omega)
          have h2 : us[k]? = some us[k] := List.getElem?_eq_getElem (by omega)
          obtain ⟨v, hv, hc⟩ := KidsAt.at_ ts 0 e3 k _ h1
          obtain ⟨v', hv', hc'⟩ := KidsAt.at_ us 0 d3 k _ h2
          rw [Nat.zero_add] at hc hc'
          have := sizeL_mem (List.mem_of_getElem? h1)
          exact ⟨_, _, a.block, b.block, by rw [e1], by rw [d1], e2, d2, h1, h2, by omega, ⟨v, hv, hc⟩, v', hv', hc'⟩)
    have HC := Lib.hid hS
    obtain ⟨R, hR⟩ : ∃ R, sameL ts us = R := ⟨_, rfl⟩
    have H0 : Hid (sameL (ts.drop 0) (us.drop 0) = R) := hR
    rw [hR, hL, hU]
    have hne : ((L : Int) != (L : Int)) = false := by simp
    clear hA hB hA2 hB2 hsz hl hL hU hlA hR hS
    go_enter Tryd.func42, Tryd.ntmps42
    go_wp2
    go_loopw [17] (fun i wr => ∃ k : Nat, k ≤ L ∧ i = .int .i64 (k : Int) ∧ Hid (sameL (ts.drop k) (us.drop k) = R) ∧ Below w.heap.size w wr) (fun i _ => L - (intOf i).toNat)
    case atStart => exact ⟨0, Nat.zero_le _, rfl, H0, Below.refl _ _⟩
    case round =>
      obtain ⟨k, hk, rfl, HR, hbl⟩ := hrel
      by_cases hlt : k < L
      · obtain ⟨t, u, g, g', rfl, rfl, hg, hg', ht, hu, hsz, ⟨v, hv, hc⟩, v', hv', hc'⟩ := HK.out k hlt
        obtain ⟨k1, i1, S1, ks1, A1, c1, hT1, rfl, hS1⟩ := hv.form
        obtain ⟨k2, i2, S2, ks2, A2, c2, hT2, rfl, hS2⟩ := hv'.form
        obtain ⟨a0, a1, a2, a3, a4, a5, a6⟩ := node_cells (w := wr) (g := g) (o := k * 7) (fun j x hj => by have := hc j x hj; exact cell_of_heap (hbl.block g hg) this)
        obtain ⟨b0, b1, b2, b3, b4, b5, b6⟩ := node_cells (w := wr) (g := g') (o := k * 7) (fun j x hj => by have := hc' j x hj; exact cell_of_heap (hbl.block g' hg') this)
        simp only [Nat.add_zero] at a0 b0
        have hsz2 := hbl.size
        have hgw : g < wr.heap.size := by omega
        have hgw' : g' < wr.heap.size := by omega
        obtain ⟨W2, hW2⟩ : ∃ W2, (wr.alloc (.cells (nodeC k1 i1 S1 (.slice A1 ks1.length c1)) 41)).alloc (.cells (nodeC k2 i2 S2 (.slice A2 ks2.length c2)) 41) = W2 := ⟨_, rfl⟩
        have hbW : Below wr.heap.size wr W2 := by rw [← hW2]; exact ((Below.refl _ _).alloc (Nat.le_refl _) _).alloc (by simp) _
        have hbW0 : Below w.heap.size w W2 := hbl.trans (hbW.mono hsz2)
        have HCALL := Lib.hid (HC.out ok W2 t u _ _ hsz (hv.below hbW0) (hv'.below hbW0))
        obtain ⟨b, hb⟩ : ∃ b, sameT t u = b := ⟨_, rfl⟩
        rw [hb] at HCALL
        have hst := HSS.out k t u ht hu
        rw [hb, HR.out] at hst
        have HST := Lib.hid hst
        have HW2 := Lib.hid hW2
        clear hc hc' hv hv' ht hu hb hT1 hT2 HSS HK hW2 hst hS1 hS2
        have hki : (0 : Int) ≤ (k : Int) := by omega
        have hkl : (k : Int) < (L : Int) := by omega
        cases b with
        | true =>
          go_wp2_with fail
          have hW2 := HW2.out
          unfold nodeC at hW2
          simp only [hW2]
          clear hW2 HW2
          refine HCALL.out.mono ?_
          rintro e w2 ⟨rfl, hb2⟩
          try dsimp only
          have hbl2 := hbW0.trans (hb2.mono hbW0.size)
          clear HCALL hbW hbW0 a0 a1 a2 a3 a4 a5 a6 b0 b1 b2 b3 b4 b5 b6
          go_wp2_with fail
          go_roundw
          case rel => exact ⟨k + 1, by omega, by go_num, by show _ = _; rw [HST.out]; simp, hbl2⟩
          case measure => first | (simp [intOf]; done) | (simp [intOf]; omega)
        | false =>
          go_wp2_with fail
          have hW2 := HW2.out
          unfold nodeC at hW2
          simp only [hW2]
          clear hW2 HW2
          refine HCALL.out.mono ?_
          rintro e w2 ⟨rfl, hb2⟩
          try dsimp only
          have hbl2 := hbW0.trans (hb2.mono hbW0.size)
          clear HCALL hbW hbW0 a0 a1 a2 a3 a4 a5 a6 b0 b1 b2 b3 b4 b5 b6
          go_wp2_with fail
          go_ret
          exact ⟨ret_bool (by have := HST.out; simpa using this.symm), hbl2⟩
      · obtain rfl : k = L := by omega
        have HRT : Hid (true = R) := by show _ = _; rw [← HR.out, HD.out k (Nat.le_refl _)]
        clear HK HSS HR HD
        go_wp2_with fail
        go_ret
        exact ⟨ret_bool HRT.out, hbl⟩
  · rw [sameL_len hl]
    have hne : ((ts.length : Int) != (us.length : Int)) = true := by simp; omega
    clear hA hB hA2 hB2 hsz hl hS
    go_enter Tryd.func42, Tryd.ntmps42
    go_wp2
    go_ret
    exact ⟨rfl, Below.refl _ _⟩

theorem kids_of {ok : Nat → Prop} {w : World} {k i : Nat} {s : S4} {ks : List T} {A : Option Addr} {c : Nat} (h : TreeAt ok w (.mk k i s ks) (nodeC k i s (.slice A ks.length c))) :
    (A = none → ks = [] ∧ c = 0) ∧ ∀ a, A = some a → a = ⟨a.block, 0, none⟩ ∧ a.block < w.heap.size ∧ KidsAt ok w ks a.block 0 := by
  unfold TreeAt at h
  obtain ⟨_, A', c', hv, h1, _, h2⟩ := h
  have e : (nodeC k i s (.slice A ks.length c))[6]? = (nodeC k i s (.slice A' ks.length c'))[6]? := by rw [hv]
  have e2 : Value.slice A ks.length c = Value.slice A' ks.length c' := Option.some.inj e
  injection e2 with e3 _ e4
  subst e3 e4
  exact ⟨h1, fun a ha => ⟨(h2 a ha).1, (h2 a ha).2.2.1, (h2 a ha).2.2.2⟩⟩
theorem kids_small {ts : List T} : ts.length ≤ sizeL ts := by
  induction ts with
  | nil => exact Nat.zero_le _
  | cons t ts ih =>
    obtain ⟨k, i, s, ks⟩ := t
    simp only [sizeL, sizeT, List.length_cons]
    omega

end Go.Proofs.YtkddighepgpccaaDoor
