/-
  The walk of the statement ClassSets.
-/
import Derived.Test.YtboebjmfchbgbaaSetOf
import Derived.Deep.MidRow
import Derived.Deep.RegionHeld3
import Derived.Deep.DeepCutAuto
namespace Go.Proofs.Ytboebjmfchbgbaa
open Go Go.RowKit
set_option linter.unusedSimpArgs false
set_option linter.unusedVariables false

theorem eq_four (w : World) (s t : S4) : (Op.equalIn 10000 26 s.v t.v).run Try.prog w = .ok (decide (s = t)) w := by
  obtain ⟨iu, hiu, hu0, hu1, hu2⟩ := info_parts Try.info_u64
  obtain ⟨a0, a1, a2, a3⟩ := s
  obtain ⟨b0, b1, b2, b3⟩ := t
  unfold S4.v
  simp only
  have h := run_equalIn_array (P := Try.prog) w 9999 #[.int .u64 (a0 : Int), .int .u64 (a1 : Int), .int .u64 (a2 : Int), .int .u64 (a3 : Int)] #[.int .u64 (b0 : Int), .int .u64 (b1 : Int), .int .u64 (b2 : Int), .int .u64 (b3 : Int)] Try.underlying26 hiu
  have hr : List.range 4 = [0, 1, 2, 3] := rfl
  rw [Try.cells_u64, hr] at h
  refine h.trans ?_
  rw [eq_step w _ _ 0 [1, 2, 3] a0 b0 rfl rfl _ (eq_step w _ _ 1 [2, 3] a1 b1 rfl rfl _ (eq_step w _ _ 2 [3] a2 b2 rfl rfl _ (eq_step w _ _ 3 [] a3 b3 rfl rfl true (by simp [Op.eqItems]))))]
  congr 1
  rw [Bool.eq_iff_iff]
  simp

theorem Try.noGuard4 : Try.prog.eqGuardType Try.prog.depth 26 = false := by kernel_rfl
theorem guard4 (op : BinOp) (x y : Operand) (s t : OK) (w : World) : (eqGuard op 26 x y s.v t.v).run Try.prog w = .ok () w := run_eqGuard_agg w op _ x y _ _ Try.noGuard4
theorem eql4 (s t : OK) (h : s.1 = t.1) (w : World) : (binOp .eql 26 s.v t.v).run Try.prog w = .ok (.bool true) w := by
  show ((Op.equalIn 10000 26 s.v t.v) >>= fun b => pure (Value.bool b)).run Try.prog w = _
  have e : (Op.equalIn 10000 26 s.v t.v).run Try.prog w = .ok (decide (s.1 = t.1)) w := eq_four w s.1 t.1
  rw [Sem.run_bind, e, decide_eq_true h]; rfl

theorem RowAt.setCells_same {b : Nat} {C : Array Value} {t : TypeId} : ∀ (cs : List Value) (o : Nat) {w : World}, (∀ j v, cs[j]? = some v → C[o + j]? = some v) → RowAt w b C t → RowAt (w.setCells b o cs) b C t
  | [], o, w, h, hR => hR
  | v :: r, o, w, h, hR => by
    unfold World.setCells
    refine RowAt.setCells_same r (o + 1) (fun j u hu => ?_) ?_
    · have := h (j + 1) u (by simpa using hu)
      rw [show o + 1 + j = o + (j + 1) by omega]; exact this
    · have h0 := h 0 v rfl
      have h1 := hR.set o v
      have h2 : C.setIfInBounds o v = C := by
        apply Array.ext_getElem?
        intro i
        rw [Array.getElem?_setIfInBounds]
        split
        · rename_i e
          subst e
          split
          · rw [Nat.add_zero] at h0; exact h0.symm
          · rename_i hh; rw [Array.getElem?_eq_none (by omega)]
        · rfl
      rw [h2] at h1
      exact h1
theorem RowAt.setCells_other {b b' : Nat} {C : Array Value} {t : TypeId} (hne : b' ≠ b) : ∀ (cs : List Value) (o : Nat) {w : World}, RowAt w b C t → RowAt (w.setCells b' o cs) b C t
  | [], o, w, hR => hR
  | v :: r, o, w, hR => by
    unfold World.setCells
    exact RowAt.setCells_other hne r (o + 1) (hR.other v hne)
theorem below_setCells {n b : Nat} {w0 : World} (hb : n ≤ b) : ∀ (cs : List Value) (o : Nat) {w : World}, Below n w0 w → Below n w0 (w.setCells b o cs)
  | [], o, w, h => h
  | v :: r, o, w, h => by
    unfold World.setCells
    exact below_setCells hb r (o + 1) (h.setCell hb v)
theorem RowAt.there {w : World} {b : Nat} {C : Array Value} {t : TypeId} (h : RowAt w b C t) : w.there b 0 C.size := by
  intro j hj
  rw [Nat.zero_add]
  refine ⟨?_, h.frozen j⟩
  rw [h.cell j, Array.getElem?_eq_getElem hj]; rfl
theorem RowAt.range {w : World} {b : Nat} {tk : List Bool} {t : TypeId} (h : RowAt w b (boolRow tk) t) : w.rangeAt b 0 (tk.map Value.bool) := by
  intro j v hv
  rw [Nat.zero_add]
  refine h.cellIs j v ?_
  unfold boolRow
  rw [List.getElem?_toArray]; exact hv
theorem range_later {w w' : World} {b o : Nat} {cs : List Value} (h : w.rangeAt b o cs) (hb : Below w.heap.size w w') : w'.rangeAt b o cs := fun j v hv => cell_later hb (h j v hv)
def tk0 : List Bool := List.replicate 256 false
theorem Try.zero256 (w : World) : (zeroValue 24).run Try.prog w = .ok (.agg (boolRow tk0)) w := by kernel_rfl
theorem Try.size256 : (Try.prog.info? 24).map (·.size) = some 256 := by kernel_rfl
theorem tk0_size : (boolRow tk0).size = 256 := by decide +kernel
theorem bools_one (tk : List Bool) : ∀ v ∈ tk.map Value.bool, v.oneCell' = true := by
  intro v hv
  simp only [List.mem_map] at hv
  obtain ⟨b, _, rfl⟩ := hv
  rfl
theorem tk0_one : (boolRow tk0).all (·.oneCell') = true := all_oneCell_toArray (bools_one tk0)
theorem tk0_in (b : Nat) : inB tk0 b = false := by
  unfold inB tk0
  rw [List.getD_eq_getElem?_getD, List.getElem?_replicate]
  split <;> rfl
theorem inB_set {tk : List Bool} {m : Nat} (hm : m < tk.length) (b : Nat) : inB (tk.set m true) b = (inB tk b || decide (m = b)) := by
  unfold inB
  rw [List.getD_eq_getElem?_getD, List.getD_eq_getElem?_getD]
  by_cases h : m = b
  · subst h
    rw [List.getElem?_set_self hm]; simp
  · rw [List.getElem?_set_ne h]; simp [h]

set_option maxHeartbeats 8000000 in
set_option maxRecDepth 100000 in
theorem ClassSets_walk (A : Option Addr) (n c : Nat) (xs : List Int) (lo hi : Nat) (W : World) (hx : Byts W A n c xs) (zx : ∀ x ∈ xs, 0 ≤ x ∧ x < 256) (hl : lo < 256) (hh : hi < 256) :
    Calls Try.prog 3 #[.slice A n c, .int .u8 (lo : Int), .int .u8 (hi : Int)] W fun e w' => e = .returned (.bool true) ∧ Below W.heap.size W w' := by
  have hmx := hx.max
  by_cases hbig : 300 < n
  · go_enter Try.func3, Try.ntmps3
    go_wp2_with (go_at_call 9; refine (alive06_any _).mono ?_; rintro e w1 ⟨rfl, hb⟩)
    go_returns
    exact ⟨rfl, hb⟩
  obtain ⟨Z, hZ⟩ : ∃ Z, boolRow tk0 = Z := ⟨_, rfl⟩
  have zz := Try.zero256
  have zs : (Try.prog.info? 24).map (·.size) = some Z.size := by rw [Try.size256, ← hZ, tk0_size]
  have zo : Z.all (·.oneCell') = true := by rw [← hZ]; exact tk0_one
  rw [hZ] at zz
  have ZS := Lib.hid zs
  have ZO := Lib.hid zo
  have HZ := Lib.hid hZ
  have HX := Lib.hid hx
  have ZX := Lib.hid zx
  clear zs zo hZ hx zx
  go_enter Try.func3, Try.ntmps3
  go_upto_region 6 with (first | (go_at_call 9; refine (alive06_any _).mono ?_; rintro e w1 ⟨rfl, hb1⟩; have hsz1 := hb1.size; have rX0 := (RowAt.new w1 Z 24).old (.cells Z 24); have rY0 := (by have := RowAt.new (w1.alloc (.cells Z 24)) Z 24; rw [World.size_alloc] at this; exact this); have hB0 := (hb1.alloc hb1.size (.cells Z 24)).alloc (by simp; omega) (.cells Z 24)) | (refine wpList_store_mid rfl 24 (.tmp 7) (.tmp 17) rfl w1.heap.size 0 Z rfl rfl rX0.there ZS.out ZO.out ?_; have rX1 := rX0.setCells_same Z.toList 0 (by intro j v hv; rw [Nat.zero_add, ← Array.getElem?_toList]; exact hv); have rY1 := rY0.setCells_other (b' := w1.heap.size) (by omega) Z.toList 0; have hB1 := below_setCells (b := w1.heap.size) hsz1 Z.toList 0 hB0; generalize World.setCells _ w1.heap.size 0 Z.toList = V1 at rX1 rY1 hB1 ⊢) | (refine wpList_store_mid rfl 24 (.tmp 8) (.tmp 18) rfl (w1.heap.size + 1) 0 Z rfl rfl rY1.there ZS.out ZO.out ?_; have rX2 := rX1.setCells_other (b' := w1.heap.size + 1) (by omega) Z.toList 0; have rY2 := rY1.setCells_same Z.toList 0 (by intro j v hv; rw [Nat.zero_add, ← Array.getElem?_toList]; exact hv); have hB2 := below_setCells (b := w1.heap.size + 1) (by omega) Z.toList 0 hB1; generalize World.setCells _ (w1.heap.size + 1) 0 Z.toList = V2 at rX2 rY2 hB2 ⊢))
  simp only [Act.put]
  have hX0 : ¬ (w1.heap.size = w1.heap.size + 1) := by omega
  go_wp2_with fail
  go_loopw [21] (fun i wr => ∃ (k : Nat) (tk : List Bool), k ≤ n ∧ i = .int .i64 (k : Int) ∧ RowAt wr w1.heap.size (boolRow tk) 24 ∧ RowAt wr (w1.heap.size + 1) Z 24 ∧ tk.length = 256 ∧ Hid (∀ b, b < 256 → inB tk b = decide ((b : Int) ∈ xs.take k)) ∧ Below W.heap.size W wr) (fun i _ => n - (intOf i).toNat)
  case atStart => exact ⟨0, tk0, Nat.zero_le _, rfl, by rw [HZ.out]; exact rX2, rY2, by decide +kernel, (by show _; intro b hb; rw [tk0_in]; simp), hB2⟩
  case round =>
    obtain ⟨k, tk, hk, rfl, rX, rY, ht, HH, hbl⟩ := hrel
    clear rX0 rX1 rX2 rY0 rY1 rY2 hB0 hB1 hB2
    by_cases hlt : k < n
    · obtain ⟨a, x, rfl, hxk, ck⟩ := (HX.out.below hbl).at_ hlt
      obtain ⟨x0, x1⟩ := ZX.out x (List.mem_of_getElem? hxk)
      obtain ⟨m, rfl⟩ := Int.eq_ofNat_of_zero_le x0
      have hm : m < 256 := by omega
      have HH' : Hid (∀ b, b < 256 → inB (tk.set m true) b = decide ((b : Int) ∈ xs.take (k + 1))) := by
        intro b hb
        rw [inB_set (by omega), HH.out b hb, ← Bool.decide_or]
        exact decide_eq_decide.2 (mem_take_step hxk b).symm
      have hl : m < tk.length := by omega
      have cm := rX.cellIs m _ (boolRow_at (List.getElem?_eq_getElem hl))
      have fm := rX.frozen m
      clear hxk HH
      go_wp2_with fail
      go_roundw
      case rel => exact ⟨k + 1, tk.set m true, by omega, by go_num, by rw [← boolRow_set]; exact rX.set m _, rY.other _ hX0, by rw [List.length_set]; exact ht, HH', hbl.setCell hsz1 _⟩
      case measure => first | (simp [intOf]; done) | (simp [intOf]; omega)
    · have hkn : k = xs.length := by rw [HX.out.len]; omega
      have H1 : Hid (∀ b, b < 256 → inB tk b = decide ((b : Int) ∈ xs)) := by
        intro b hb
        have := HH.out b hb
        rw [hkn, List.take_length] at this
        exact this
      clear HH hkn
      go_wp2_with fail
      go_loopw [11] (fun i wr => ∃ (k2 m : Nat) (tk2 : List Bool), k2 = lo + m ∧ m ≤ hi + 1 - lo ∧ i = .int .i64 (k2 : Int) ∧ RowAt wr w1.heap.size (boolRow tk) 24 ∧ RowAt wr (w1.heap.size + 1) (boolRow tk2) 24 ∧ tk2.length = 256 ∧ Hid (∀ b, b < 256 → inB tk2 b = decide (lo ≤ b ∧ b < lo + m)) ∧ Below W.heap.size W wr) (fun i _ => 256 - (intOf i).toNat)
      case atStart => exact ⟨lo, 0, tk0, rfl, Nat.zero_le _, rfl, rX, by rw [HZ.out]; exact rY, by decide +kernel, (by show _; intro b hb; rw [tk0_in]; symm; apply decide_eq_false; omega), hbl⟩
      case round =>
        clear rX rY hbl
        obtain ⟨k2, m, tk2, hk2, hm, rfl, rX, rY, ht2, HH, hbl⟩ := hrel
        by_cases hlt2 : k2 ≤ hi
        · have hk256 : k2 < 256 := by omega
          have HH' : Hid (∀ b, b < 256 → inB (tk2.set k2 true) b = decide (lo ≤ b ∧ b < lo + (m + 1))) := by
            intro b hb
            rw [inB_set (by omega), HH.out b hb, ← Bool.decide_or]
            apply decide_eq_decide.2
            omega
          have hl2 : k2 < tk2.length := by omega
          have cm := rY.cellIs k2 _ (boolRow_at (List.getElem?_eq_getElem hl2))
          have fm := rY.frozen k2
          have hle : (k2 : Int) ≤ (hi : Int) := by omega
          have h0 : (0 : Int) ≤ (k2 : Int) := by omega
          have h256 : (k2 : Int) < 256 := by omega
          have HK := Lib.hid hk2
          clear hk2 HH
          go_wp2_with fail
          have hk2 := HK.out
          clear HK
          go_roundw
          case rel => exact ⟨k2 + 1, m + 1, tk2.set k2 true, by omega, by omega, by go_num, rX.other _ (by simp), by rw [← boolRow_set]; exact rY.set k2 _, by rw [List.length_set]; exact ht2, HH', hbl.setCell (by simp; omega) _⟩
          case measure => first | (simp [intOf]; done) | (simp [intOf]; omega)
        · have hgt : (hi : Int) < (k2 : Int) := by omega
          have hm2 : m = hi + 1 - lo := by omega
          have H2 : Hid (∀ b, b < 256 → inB tk2 b = decide (lo ≤ b ∧ b < lo + (hi + 1 - lo))) := by
            intro b hb
            have := HH.out b hb
            rw [hm2] at this
            exact this
          clear HH hm2 hk2
          go_upto_region 15 with fail
          have G1 := guard4
          obtain ⟨cs1, hcs1⟩ : ∃ cs, tk.map Value.bool = cs := ⟨_, rfl⟩
          obtain ⟨cs2, hcs2⟩ : ∃ cs, tk2.map Value.bool = cs := ⟨_, rfl⟩
          have u1 := Try.underlying24
          have z1 : (Try.prog.info? 24).map (·.size) = some cs1.length := by rw [Try.size256, ← hcs1, List.length_map, ht]
          have z2 : (Try.prog.info? 24).map (·.size) = some cs2.length := by rw [Try.size256, ← hcs2, List.length_map, ht2]
          have p1 := rX.range
          have p2 := rY.range
          rw [hcs1] at p1
          rw [hcs2] at p2
          have R1 : Hid (∀ w, Calls Try.prog 11 #[.agg cs1.toArray] w fun e w' => ∃ s : OK, e = .returned s.v ∧ OfInv tk 0 s.1 ∧ Below w.heap.size w w') := by
            intro w
            have := RefOf_any w tk ht
            unfold boolRow at this
            rw [hcs1] at this
            exact this
          have R2 : Hid (∀ w, Calls Try.prog 11 #[.agg cs2.toArray] w fun e w' => ∃ s : OK, e = .returned s.v ∧ OfInv tk2 0 s.1 ∧ Below w.heap.size w w') := by
            intro w
            have := RefOf_any w tk2 ht2
            unfold boolRow at this
            rw [hcs2] at this
            exact this
          have hSP := Lib.hid (SpanK lo hi hl hh)
          clear hcs1 hcs2 hlt hlt2 hgt rX rY ht ht2
          refine wp_region_noPanic ?_
          refine wp_region_held_drew (S := fun w' : World => w'.rangeAt w1.heap.size 0 cs1 ∧ w'.rangeAt (w1.heap.size + 1) 0 cs2 ∧ Below wr.heap.size wr w') (by kernel_rfl) ?_ (fun hHeld => ?_)
          · exact ⟨p1, p2, (Below.refl _ _).drew⟩
          refine wpAnyH_take (i := 0) (oi := ({ dst := some 38, op := Op.move (Operand.tmp 0), type := 22, pos := "law.go:30", after := #[], guard := none } : Oper)) (v := ?v0) rfl (by kernel_rfl) (by kernel_rfl) (by kernel_rfl) (fun _ _ _ h => h) (Or.inl ⟨by rfl, ?hy0⟩) (by assumption) ?rest0
          case hy0 => (intro w hSw; (try dsimp only at hSw); (first | (go_simp; done) | (go_simp; with_reducible rfl)))
          try simp only [Act.put, List.setIfInBounds_toArray, List.set_cons_zero, List.set_cons_succ]
          refine wpAnyH_take (i := 2) (oi := ({ dst := some 40, op := Op.load 24 (Operand.tmp 7), type := 24, pos := "law.go:30", after := #[], guard := none } : Oper)) (v := .agg cs1.toArray) rfl (by kernel_rfl) (by kernel_rfl) (by kernel_rfl) (fun _ _ _ h => h) (yieldsIf_load_mid (by rfl) _ _ rfl _ _ rfl cs1 _ (fun w h => h.1) u1 rfl z1) (by assumption) ?_
          try simp only [Act.put, List.setIfInBounds_toArray, List.set_cons_zero, List.set_cons_succ]
          refine wpAnyH_ready (rs := [1]) (by kernel_rfl) (by simp) ?_
          refine AllReadyH.cons (o := ({ dst := some 39, op := Op.call { callee := Callee.value (Operand.func 10), args := #[Operand.tmp 38], argTypes := #[22] }, type := 27, pos := "law.go:30", after := #[{ on := 0, ground := Ground.data }], guard := none } : Oper)) rfl (fun K hK => ?_) AllReadyH.nil
          go_simp
          refine (Of_any _ _ _ xs _ (HX.out.below hbl.drew) ZX.out).mono ?_
          rintro e w9 ⟨sO, rfl, hO, hb9⟩
          have HO := Lib.hid hO
          clear hO
          (try go_wp2_with fail)
          refine hK.out _ _ ?_ (fun hHeld => ?_)
          · (try dsimp only); exact And.imp (fun h => range_later h hb9) (And.imp (fun h => range_later h hb9) (fun h => below_step hb9 h)) (by assumption)
          clear hK K
          try simp only [Act.put, List.setIfInBounds_toArray, List.set_cons_zero, List.set_cons_succ]
          refine wpAnyH_ready (rs := [3]) (by kernel_rfl) (by simp) ?_
          refine AllReadyH.cons (o := ({ dst := some 41, op := Op.call { callee := Callee.value (Operand.func 11), args := #[Operand.tmp 40], argTypes := #[24] }, type := 26, pos := "law.go:30", after := #[{ on := 2, ground := Ground.data }, { on := 1, ground := Ground.chain }], guard := none } : Oper)) rfl (fun K hK => ?_) AllReadyH.nil
          go_simp
          refine (R1.out _).mono ?_
          rintro e w9 ⟨sR, rfl, hR, hb9⟩
          have eq1 := eql4 sO sR (set_ext sO.2 sR.2 (fun b hb => by rw [HO.out b hb, hR.done hb, H1.out b hb]))
          clear hR
          (try go_wp2_with fail)
          refine hK.out _ _ ?_ (fun hHeld => ?_)
          · (try dsimp only); exact And.imp (fun h => range_later h hb9) (And.imp (fun h => range_later h hb9) (fun h => below_step hb9 h)) (by assumption)
          clear hK K
          try simp only [Act.put, List.setIfInBounds_toArray, List.set_cons_zero, List.set_cons_succ]
          refine wpAnyH_take (i := 4) (oi := ({ dst := some 42, op := Op.binOp BinOp.eql 26 (Operand.tmp 39) (Operand.tmp 41) 26, type := 4, pos := "law.go:30", after := #[{ on := 1, ground := Ground.data }, { on := 3, ground := Ground.data }], guard := none } : Oper)) (v := ?v4) rfl (by kernel_rfl) (by kernel_rfl) (by kernel_rfl) (fun _ _ _ h => h) (Or.inl ⟨by rfl, ?hy4⟩) (by assumption) ?rest4
          case hy4 => (intro w hSw; (try dsimp only at hSw); (first | (go_simp; done) | (go_simp; with_reducible rfl)))
          try simp only [Act.put, List.setIfInBounds_toArray, List.set_cons_zero, List.set_cons_succ]
          refine wpAnyH_take (i := 5) (oi := ({ dst := some 43, op := Op.move (Operand.tmp 42), type := 4, pos := "law.go:30", after := #[{ on := 4, ground := Ground.data }, { on := 3, ground := Ground.chain }], guard := none } : Oper)) (v := ?v5) rfl (by kernel_rfl) (by kernel_rfl) (by kernel_rfl) (fun _ _ _ h => h) (Or.inl ⟨by rfl, ?hy5⟩) (by assumption) ?rest5
          case hy5 => (intro w hSw; (try dsimp only at hSw); (first | (go_simp; done) | (go_simp; with_reducible rfl)))
          try simp only [Act.put, List.setIfInBounds_toArray, List.set_cons_zero, List.set_cons_succ]
          refine wpAnyH_take (i := 6) (oi := ({ dst := some 44, op := Op.move (Operand.tmp 1), type := 5, pos := "law.go:30", after := #[{ on := 5, ground := Ground.guard }], guard := some (5, true) } : Oper)) (v := ?v6) rfl (by kernel_rfl) (by kernel_rfl) (by kernel_rfl) (fun _ _ _ h => h) (Or.inl ⟨by rfl, ?hy6⟩) (by assumption) ?rest6
          case hy6 => (intro w hSw; (try dsimp only at hSw); (first | (go_simp; done) | (go_simp; with_reducible rfl)))
          try simp only [Act.put, List.setIfInBounds_toArray, List.set_cons_zero, List.set_cons_succ]
          refine wpAnyH_take (i := 7) (oi := ({ dst := some 45, op := Op.move (Operand.tmp 2), type := 5, pos := "law.go:30", after := #[{ on := 5, ground := Ground.guard }], guard := some (5, true) } : Oper)) (v := ?v7) rfl (by kernel_rfl) (by kernel_rfl) (by kernel_rfl) (fun _ _ _ h => h) (Or.inl ⟨by rfl, ?hy7⟩) (by assumption) ?rest7
          case hy7 => (intro w hSw; (try dsimp only at hSw); (first | (go_simp; done) | (go_simp; with_reducible rfl)))
          try simp only [Act.put, List.setIfInBounds_toArray, List.set_cons_zero, List.set_cons_succ]
          refine wpAnyH_take (i := 9) (oi := ({ dst := some 47, op := Op.load 24 (Operand.tmp 8), type := 24, pos := "law.go:30", after := #[{ on := 5, ground := Ground.guard }], guard := some (5, true) } : Oper)) (v := .agg cs2.toArray) rfl (by kernel_rfl) (by kernel_rfl) (by kernel_rfl) (fun _ _ _ h => h) (yieldsIf_load_mid (by rfl) _ _ rfl _ _ rfl cs2 _ (fun w h => h.2.1) u1 rfl z2) (by assumption) ?_
          try simp only [Act.put, List.setIfInBounds_toArray, List.set_cons_zero, List.set_cons_succ]
          refine wpAnyH_ready (rs := [8]) (by kernel_rfl) (by simp) ?_
          refine AllReadyH.cons (o := ({ dst := some 46, op := Op.call { callee := Callee.value (Operand.func 12), args := #[Operand.tmp 44, Operand.tmp 45], argTypes := #[5, 5] }, type := 27, pos := "law.go:30", after := #[{ on := 6, ground := Ground.data }, { on := 7, ground := Ground.data }, { on := 5, ground := Ground.chain }, { on := 5, ground := Ground.guard }], guard := some (5, true) } : Oper)) rfl (fun K hK => ?_) AllReadyH.nil
          go_simp
          refine (hSP.out _).mono ?_
          rintro e w9 ⟨rfl, hb9⟩
          (try go_wp2_with fail)
          refine hK.out _ _ ?_ (fun hHeld => ?_)
          · (try dsimp only); exact And.imp (fun h => range_later h hb9) (And.imp (fun h => range_later h hb9) (fun h => below_step hb9 h)) (by assumption)
          clear hK K
          try simp only [Act.put, List.setIfInBounds_toArray, List.set_cons_zero, List.set_cons_succ]
          refine wpAnyH_ready (rs := [10]) (by kernel_rfl) (by simp) ?_
          refine AllReadyH.cons (o := ({ dst := some 48, op := Op.call { callee := Callee.value (Operand.func 11), args := #[Operand.tmp 47], argTypes := #[24] }, type := 26, pos := "law.go:30", after := #[{ on := 9, ground := Ground.data }, { on := 8, ground := Ground.chain }, { on := 5, ground := Ground.guard }], guard := some (5, true) } : Oper)) rfl (fun K hK => ?_) AllReadyH.nil
          go_simp
          refine (R2.out _).mono ?_
          rintro e w9 ⟨sQ, rfl, hQ, hb9⟩
          have eq2 := eql4 (OK.span lo (hi + 1 - lo)) sQ (set_ext (OK.span lo (hi + 1 - lo)).2 sQ.2 (fun b hb => by rw [hQ.done hb, H2.out b hb]; exact has_span lo (hi + 1 - lo) b hb (by omega)))
          clear hQ
          (try go_wp2_with fail)
          refine hK.out _ _ ?_ (fun hHeld => ?_)
          · (try dsimp only); exact And.imp (fun h => range_later h hb9) (And.imp (fun h => range_later h hb9) (fun h => below_step hb9 h)) (by assumption)
          clear hK K
          try simp only [Act.put, List.setIfInBounds_toArray, List.set_cons_zero, List.set_cons_succ]
          refine wpAnyH_take (i := 11) (oi := ({ dst := some 49, op := Op.binOp BinOp.eql 26 (Operand.tmp 46) (Operand.tmp 48) 26, type := 4, pos := "law.go:30", after := #[{ on := 8, ground := Ground.data }, { on := 10, ground := Ground.data }, { on := 5, ground := Ground.guard }], guard := some (5, true) } : Oper)) (v := ?v11) rfl (by kernel_rfl) (by kernel_rfl) (by kernel_rfl) (fun _ _ _ h => h) (Or.inl ⟨by rfl, ?hy11⟩) (by assumption) ?rest11
          case hy11 => (intro w hSw; (try dsimp only at hSw); (first | (go_simp; done) | (go_simp; with_reducible rfl)))
          try simp only [Act.put, List.setIfInBounds_toArray, List.set_cons_zero, List.set_cons_succ]
          refine wpAnyH_take (i := 12) (oi := ({ dst := some 50, op := Op.pick (Operand.tmp 43) (Operand.tmp 49) (Operand.const (Value.bool false)), type := 4, pos := "law.go:30", after := #[{ on := 5, ground := Ground.data }, { on := 11, ground := Ground.data }], guard := none } : Oper)) (v := ?v12) rfl (by kernel_rfl) (by kernel_rfl) (by kernel_rfl) (fun _ _ _ h => h) (Or.inl ⟨by rfl, ?hy12⟩) (by assumption) ?rest12
          case hy12 => (intro w hSw; (try dsimp only at hSw); (first | (go_simp; done) | (go_simp; with_reducible rfl)))
          try simp only [Act.put, List.setIfInBounds_toArray, List.set_cons_zero, List.set_cons_succ]
          refine wpAnyH_take (i := 13) (oi := ({ dst := some 6, op := Op.assign (Operand.tmp 50), type := 4, pos := "law.go:30", after := #[{ on := 12, ground := Ground.data }, { on := 10, ground := Ground.chain }, { on := 0, ground := Ground.phase }, { on := 1, ground := Ground.phase }, { on := 2, ground := Ground.phase }, { on := 3, ground := Ground.phase }, { on := 4, ground := Ground.phase }, { on := 5, ground := Ground.phase }, { on := 6, ground := Ground.phase }, { on := 7, ground := Ground.phase }, { on := 8, ground := Ground.phase }, { on := 9, ground := Ground.phase }, { on := 10, ground := Ground.phase }, { on := 11, ground := Ground.phase }, { on := 12, ground := Ground.phase }], guard := none } : Oper)) (v := ?v13) rfl (by kernel_rfl) (by kernel_rfl) (by kernel_rfl) (fun _ _ _ h => h) (Or.inl ⟨by rfl, ?hy13⟩) (by assumption) ?rest13
          case hy13 => (intro w hSw; (try dsimp only at hSw); (first | (go_simp; done) | (go_simp; with_reducible rfl)))
          try simp only [Act.put, List.setIfInBounds_toArray, List.set_cons_zero, List.set_cons_succ]
          refine wpAnyH_done (by kernel_rfl) ?_ _
          refine NoPanic.normal ?_
          have hF : Below wr.heap.size wr w9 := And.right (And.right (by assumption : w9.rangeAt w1.heap.size 0 cs1 ∧ w9.rangeAt (w1.heap.size + 1) 0 cs2 ∧ Below wr.heap.size wr w9))
          go_wp2_with fail
          go_returns
          exact ⟨rfl, hbl.trans (hF.mono hbl.size)⟩

end Go.Proofs.Ytboebjmfchbgbaa
