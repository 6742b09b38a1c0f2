/-
  The walks of the reference's desk.
-/
import Derived.Test.YtboebjmfchbgbaaDoorRefSlots3
import Derived.Deep.RegionLaw
namespace Go.Proofs.YtboebjmfchbgbaaDoor
open Go Go.RowKit Go.Conc
set_option linter.unusedSimpArgs false
set_option linter.unusedVariables false

/-- An append onto a row of the call's own, as a step of a region that draws its order. -/
theorem step_append_own {P : Program} {w : World} {ops : Array Oper} {o : Oper} {a : Act} {K : Act → World → Prop} {Q : Exit → Act → World → Prop} {E : Prop} (hgd : o.guard = none) (s x : Operand) (t : TypeId)
    (ho : o.op = .call { callee := .builtin .append, args := #[s, x], argTypes := #[t, t] })
    (base : Nat) (e : TypeId) (i : TypeInfo) (z : Value) (size bytes : Nat) (ht : P.underlying t = some (.slice e)) (hi : P.info? e = some i) (hz : i.zero = some z)
    (hsize : i.size = size) (hby : i.bytes = bytes) (hzs : z.cells.size = size) (hsz : 0 < size)
    (v : Value) (n : Nat) (xs : List Value) (hs : a.eval s = v) (hown : w.ownsRow base e size v n xs)
    (ad : Addr) (m c : Nat) (news : List Value) (hx : a.eval x = .slice (some ad) m c) (hl : news.length = m * size) (hnews : ∀ j u, news[j]? = some u → w.cell? (ad.add j) = some u) (h1 : ∀ u ∈ news, u.oneCell' = true)
    (h63 : n + m ≤ maxLen) (hbytes : (n + m) * bytes ≤ 140737488355328) (hbase : base ≤ w.heap.size)
    (h : ∀ v' w', w'.ownsRow base e size v' (n + m) (xs ++ news) → w.grownBy w' v.ownBlock → (v' = .slice none 0 0 ↔ v = .slice none 0 0 ∧ m = 0) → K (a.put o.dst v') w') :
    if Region.wanted o (yielded ops a.tmps) = true then Oper.wp P o a w K Q else E := by
  have hw : Region.wanted o (yielded ops a.tmps) = true := by simp [Region.wanted, hgd]
  rw [if_pos hw]
  exact wp_append_own w s x t ho base e i z size bytes ht hi hz hsize hby hzs hsz v n xs hs hown ad m c news hx hl hnews h1 h63 hbytes hbase h
theorem news_far {W w2 : World} {row : Option Nat} {b : Nat} {l : List Value} (hg : W.grownBy w2 row) (hb : b < W.heap.size) (hc : ∀ j u, l[j]? = some u → W.cell? ((⟨b, 0, none⟩ : Addr).add j) = some u) (hne : some b ≠ row) : ∀ j u, l[j]? = some u → w2.cell? ((⟨b, 0, none⟩ : Addr).add j) = some u := by
  intro j u hu
  have := hc j u hu
  rw [addr_plain] at this ⊢
  have h2 := hg.block b hb hne
  unfold World.cell? at this ⊢
  simp only at this ⊢
  rw [h2]; exact this
theorem rowI_fix {base : Nat} {l : List Int} {x : Int} {A : Option Addr} {c : Nat} {w : World} (h : w.ownsRow base 3 1 (.slice A (0 + l.length + 1) c) (0 + l.length + 1) ([] ++ icells l ++ [.int .i64 x])) : IntRow base (l ++ [x]) (.slice A (l.length + 1) c) w := by
  unfold IntRow
  rw [List.nil_append, Nat.zero_add] at h
  rw [List.length_append, ← icells_append]
  exact h
theorem below_like {n : Nat} {w W W' : World} (h : Below n w W) (h1 : W'.heap = W.heap) (h2 : W'.os = W.os) (h3 : W'.tape = W.tape) (h4 : W'.output = W.output) : Below n w W' :=
  ⟨h2.trans h.os, h3.trans h.tape, h4.trans h.output, by rw [h1]; exact h.size, fun k hk => by rw [h1]; exact h.block k hk⟩

theorem RefPut_full (w : World) (base R r : Nat) (x : Int) (l : List Int) (v : Value) (cs : Array Value) (hr : r < 2) (hR : RowAt w R cs 66) (hv : cs[r]? = some v) (hI : RowI w base v l) (hfull : 16 ≤ l.length) :
    Calls Tryd.prog 33 #[.pointer (some ⟨R, 0, none⟩), .int .i64 (r : Int), .int .i64 x] w fun e w' => e = .returned (.int .i64 10) ∧ w = w' := by
  obtain ⟨A, c, rfl, h1, h2⟩ := hI.is
  have c0 := hR.cellIs r _ hv
  have hmx := h1.max
  go_enter Tryd.func33, Tryd.ntmps33
  go_wp2
  go_returns
  exact ⟨rfl, rfl⟩

set_option maxHeartbeats 4000000 in
set_option maxRecDepth 100000 in
theorem RefPut_ok (w : World) (base R r : Nat) (x : Int) (l : List Int) (v : Value) (cs : Array Value) (hr : r < 2) (hR : RowAt w R cs 66) (hv : cs[r]? = some v) (hI : RowI w base v l) (hroom : l.length < 16) :
    Calls Tryd.prog 33 #[.pointer (some ⟨R, 0, none⟩), .int .i64 (r : Int), .int .i64 x] w fun e w' => e = .returned (.int .i64 0) ∧ Touch w w' (fun k => k = R) ∧ ∃ v', RowAt w' R (cs.setIfInBounds r v') 66 ∧ RowI w' w.heap.size v' (l ++ [x]) := by
  obtain ⟨A, c, rfl, h1, h2⟩ := hI.is
  have c0 := hR.cellIs r _ hv
  have f0 := hR.frozen r
  have hRl := hR.lt
  have hr0 : (0 : Int) ≤ (r : Int) := by omega
  have hr1 : (r : Int) < 2 := by omega
  obtain ⟨i0, hi, hz0, hz1, hz2⟩ := info_parts Tryd.info_i64
  have HA := Lib.hid (World.ownsRow_lit (base := w.heap.size) (e := 3) (size := 1) w #[] 0 (Nat.le_refl _) (by decide) rfl)
  have HB := Lib.hid (World.ownsRow.alloc HA.out (.cells #[.int .i64 x] 3))
  have hC := World.ownsRow_lit (base := w.heap.size) (e := 3) (size := 1) (w.alloc (.cells #[.int .i64 x] 3)) #[] 0 (by simp) (by decide) rfl
  rw [World.size_alloc] at hC
  have HC := Lib.hid hC
  clear hC
  have BA := Lib.hid ((Below.refl w.heap.size w).alloc (Nat.le_refl _) (.cells #[] 3))
  have BB := Lib.hid (BA.out.alloc (by simp) (.cells #[.int .i64 x] 3))
  have BC := Lib.hid (((Below.refl w.heap.size w).alloc (Nat.le_refl _) (.cells #[.int .i64 x] 3)).alloc (by simp) (.cells #[] 3))
  have nxb := cell_one_new (w.alloc (.cells #[] 3)) (.int .i64 x) 3
  rw [World.size_alloc] at nxb
  have NXB := Lib.hid nxb
  have NXC := Lib.hid (fun j u hu => cell_alloc (cell_one_new w (.int .i64 x) 3 j u hu) (.cells #[] 3))
  clear nxb
  have hsz1 := World.size_alloc w (.cells #[] 3)
  cases A with
  | none =>
    obtain ⟨h3, rfl⟩ := h1.nil rfl
    obtain rfl : l = [] := List.eq_nil_of_length_eq_zero h3
    clear h1 h2 hI h3
    go_enter Tryd.func33, Tryd.ntmps33
    go_wp2_with (at_builtin; fail)
    have hcr := hv
    clear hv
    go_region_law (first | (refine step_append_own rfl (.tmp 24) (.tmp 26) 37 rfl w.heap.size 3 i0 (.int .i64 0) 1 8 Tryd.underlying37 hi hz0 hz1 hz2 rfl (by decide) _ 0 [] rfl (by first | exact HB.out | exact HC.out) ⟨_, 0, none⟩ 1 1 [.int .i64 x] rfl rfl (by first | exact NXB.out | exact NXC.out) (by intro u hu; simp at hu; subst hu; rfl) (by unfold maxLen; omega) (by omega) (by first | exact BB.out.size | exact BC.out.size) ?_; intro v'' w4 hown'' hgrow2 hnn2; obtain ⟨A4, c4, rfl⟩ := own_slice hown''; have hb4 : Below w.heap.size w w4 := (by refine Below.grown ?_ hgrow2 ?_ ?_; (first | exact below_like BB.out rfl rfl rfl rfl | exact below_like BC.out rfl rfl rfl rfl); (first | exact BB.out.size | exact BC.out.size); (first | exact own_base HB.out | exact own_base HC.out)); have HO4 := Lib.hid hown''; clear hown'' hgrow2; have hR4 := hR.later hb4 hRl; have e1 := hR4.cellIs r _ hcr; have f4 := hR4.frozen r))
    all_goals go_wp2
    all_goals go_returns
    all_goals exact ⟨rfl, Touch.setCell (S := fun k => k = R) (a := ⟨R, r, none⟩) (Touch.ofBelow _ hb4) _ rfl, _, hR4.set r _, (Ints.of_own (IntRow.setCell (base := w.heap.size) (l := [x]) HO4.out ⟨R, r, none⟩ _ hRl))⟩
  | some a =>
    obtain ⟨hg1, hg2, hg3, hg4⟩ := h2 a rfl
    have hc := h1.cell a rfl
    obtain ⟨g, hga⟩ : ∃ g, a = ⟨g, 0, none⟩ := ⟨_, hg3⟩
    subst hga
    have hn0 : ∀ j u, (icells l)[j]? = some u → w.cell? ((⟨g, 0, none⟩ : Addr).add j) = some u := by
      intro j u hu
      rw [icells, List.getElem?_map] at hu
      cases hy : l[j]? with
      | none => rw [hy] at hu; simp at hu
      | some y =>
        rw [hy] at hu
        simp at hu
        subst hu
        exact hc j y hy
    have NA := Lib.hid (fun j u hu => cell_alloc (hn0 j u hu) (.cells #[] 3))
    have NB := Lib.hid (fun j u hu => cell_alloc (NA.out j u hu) (.cells #[.int .i64 x] 3))
    have NC := Lib.hid (fun j u hu => cell_alloc (cell_alloc (hn0 j u hu) (.cells #[.int .i64 x] 3)) (.cells #[] 3))
    have hll := icells_length l
    clear hn0 hc h1 h2 hI hg3
    have hcr := hv
    clear hv
    go_enter Tryd.func33, Tryd.ntmps33
    go_wp2_with (at_builtin; fail)
    go_region_law (first | (refine step_append_own rfl (.tmp 24) (.tmp 26) 37 rfl w.heap.size 3 i0 (.int .i64 0) 1 8 Tryd.underlying37 hi hz0 hz1 hz2 rfl (by decide) _ (0 + l.length) ([] ++ icells l) rfl (by first | exact HO2.out | exact World.ownsRow.alloc HO2.out _) ⟨_, 0, none⟩ 1 1 [.int .i64 x] rfl rfl (by first | exact cell_one_new _ _ _ | exact news_far HG.out (by first | (simp; done) | (simp; omega)) NXB.out (by show some (w.heap.size + 1) ≠ some w.heap.size; simp) | exact news_far HG.out (by first | (simp; done) | (simp; omega)) NXC.out (by show some w.heap.size ≠ some (w.heap.size + 1); simp)) (by intro u hu; simp at hu; subst hu; rfl) (by unfold maxLen; omega) (by omega) (by first | exact hb2.size | exact (hb2.alloc hb2.size (.cells #[.int .i64 x] 3)).size) ?_; intro v'' w4 hown'' hgrow2 hnn2; obtain ⟨A4, c4, rfl⟩ := own_slice hown''; have hb4 : Below w.heap.size w w4 := (by refine Below.grown ?_ hgrow2 ?_ ?_; (first | exact below_like hb2 rfl rfl rfl rfl | exact below_like (hb2.alloc hb2.size (.cells #[.int .i64 x] 3)) rfl rfl rfl rfl); (first | exact hb2.size | exact (hb2.alloc hb2.size (.cells #[.int .i64 x] 3)).size); exact own_base HO2.out); have HO4 := Lib.hid hown''; clear hown'' hgrow2; have hR4 := hR.later hb4 hRl; have e1 := hR4.cellIs r _ hcr; have f4 := hR4.frozen r) | (refine step_append_own rfl (.tmp 17) (.tmp 23) 37 rfl w.heap.size 3 i0 (.int .i64 0) 1 8 Tryd.underlying37 hi hz0 hz1 hz2 rfl (by decide) _ 0 [] rfl (by first | exact HA.out | exact HB.out | exact HC.out) ⟨g, 0, none⟩ l.length _ (icells l) rfl (by rw [hll]; omega) (by first | exact NA.out | exact NB.out | exact NC.out) (by intro u hu; simp [icells] at hu; obtain ⟨x, _, rfl⟩ := hu; rfl) (by unfold maxLen; omega) (by omega) (by first | exact BA.out.size | exact BB.out.size | exact BC.out.size) ?_; intro v' w2 hown' hgrow hnn; have hb2 : Below w.heap.size w w2 := (by refine Below.grown ?_ hgrow ?_ ?_; (first | exact below_like BA.out rfl rfl rfl rfl | exact below_like BB.out rfl rfl rfl rfl | exact below_like BC.out rfl rfl rfl rfl); (first | exact BA.out.size | exact BB.out.size | exact BC.out.size); (first | exact own_base HA.out | exact own_base HB.out | exact own_base HC.out)); have HO2 := Lib.hid hown'; have HG := Lib.hid hgrow; clear hown' hgrow; have hR2 := hR.later hb2 hRl; have d1 := hR2.cellIs r _ hcr; have f2 := hR2.frozen r; have hR2l := hR2.lt))
    all_goals go_wp2
    all_goals go_returns
    all_goals exact ⟨rfl, Touch.setCell (S := fun k => k = R) (a := ⟨R, r, none⟩) (Touch.ofBelow _ hb4) _ rfl, _, hR4.set r _, (Ints.of_own (IntRow.setCell (base := w.heap.size) (l := l ++ [x]) (rowI_fix HO4.out) ⟨R, r, none⟩ _ hRl))⟩

end Go.Proofs.YtboebjmfchbgbaaDoor
