/-
  The walks of package class: within, and the chapter's example; sets whose words are words.
-/
import Derived.Test.YtboebjmfchbgbaaSet5
import Derived.Deep.RegionHeld3
namespace Go.Proofs.Ytboebjmfchbgbaa
open Go Go.RowKit
set_option linter.unusedSimpArgs false
set_option linter.unusedVariables false

def OK := { s : S4 // s.ok }
def OK.v (s : OK) : Value := s.1.v
def OK.or (s t : OK) : OK := ⟨s.1.or t.1, S4.or_ok s.2 t.2⟩
def OK.and (s t : OK) : OK := ⟨s.1.and t.1, S4.and_ok t.2⟩
def OK.not (s : OK) : OK := ⟨s.1.not, S4.not_ok _⟩
def OK.zero : OK := ⟨S4.zero, S4.zero_ok⟩
def OK.span (low n : Nat) : OK := ⟨spanN low n, spanN_ok low n⟩
theorem OK.raw (s : OK) : Value.agg #[.int .u64 (s.1.a0 : Int), .int .u64 (s.1.a1 : Int), .int .u64 (s.1.a2 : Int), .int .u64 (s.1.a3 : Int)] = s.v := rfl
theorem below_step {w0 wc w' : World} (hb : Below wc.heap.size wc w') (h0 : Below w0.heap.size w0 wc) : Below w0.heap.size w0 w' := h0.trans (hb.mono h0.size)
theorem NotK (s : OK) (w : World) : Calls Try.prog 14 #[s.v] w fun e w' => e = .returned s.not.v ∧ Below w.heap.size w w' := Not_any w s.1 s.2
theorem UnionK (s t : OK) (w : World) : Calls Try.prog 13 #[s.v, t.v] w fun e w' => e = .returned (s.or t).v ∧ Below w.heap.size w w' := Union_any w s.1 t.1 s.2 t.2
theorem MeetK (s t : OK) (w : World) : Calls Try.prog 15 #[s.v, t.v] w fun e w' => e = .returned (s.and t).v ∧ Below w.heap.size w w' := Meet_any w s.1 t.1 s.2 t.2
theorem CountK (s : OK) (w : World) : Calls Try.prog 18 #[s.v] w fun e w' => e = .returned (.int .i64 (s.1.count : Int)) ∧ Below w.heap.size w w' := Count_any w s.1 s.2
theorem EmptyK (s : OK) (w : World) : Calls Try.prog 17 #[s.v] w fun e w' => e = .returned (.bool (decide (s.1 = S4.zero))) ∧ Below w.heap.size w w' := Empty_any w s.1
theorem HasK (s : OK) (b : Nat) (hb : b < 256) (w : World) : Calls Try.prog 35 #[s.v, .int .u8 (b : Int)] w fun e w' => e = .returned (.bool (s.1.has b)) ∧ Below w.heap.size w w' := Has_any w s.1 s.2 b hb
theorem AllK (w : World) : Calls Try.prog 16 #[] w fun e w' => e = .returned OK.zero.not.v ∧ Below w.heap.size w w' := All_any w
theorem SpanK (low high : Nat) (hl : low < 256) (hh : high < 256) (w : World) : Calls Try.prog 12 #[.int .u8 (low : Int), .int .u8 (high : Int)] w fun e w' => e = .returned (OK.span low (high + 1 - low)).v ∧ Below w.heap.size w w' := Span_any w low high hl hh
theorem eqK (s t : OK) (b : Bool) (h : decide (s.1 = t.1) = b) (w : World) : (Op.equalIn 10000 27 s.v t.v).run Try.prog w = .ok b w := by
  rw [← h]; exact eq_set w s.1 t.1

theorem Try.noGuard : Try.prog.eqGuardType Try.prog.depth 27 = false := by kernel_rfl
theorem guardK (op : BinOp) (x y : Operand) (s t : OK) (w : World) : (eqGuard op 27 x y s.v t.v).run Try.prog w = .ok () w := run_eqGuard_agg w op _ x y _ _ Try.noGuard
theorem eqlK (s t : OK) (b : Bool) (h : decide (s.1 = t.1) = b) (w : World) : (binOp .eql 27 s.v t.v).run Try.prog w = .ok (.bool b) w := by
  show ((Op.equalIn 10000 27 s.v t.v) >>= fun b => pure (Value.bool b)).run Try.prog w = _
  rw [Sem.run_bind, eqK s t b h w]; rfl
theorem neqK (s t : OK) (b : Bool) (h : decide (s.1 = t.1) = b) (w : World) : (binOp .neq 27 s.v t.v).run Try.prog w = .ok (.bool !b) w := by
  show ((Op.equalIn 10000 27 s.v t.v) >>= fun b => pure (Value.bool !b)).run Try.prog w = _
  rw [Sem.run_bind, eqK s t b h w]; rfl

/-- A block that holds a set, whatever comes to be behind it. -/
theorem set_cells {w : World} {b : Nat} {s : OK} {t : TypeId} (h : RowAt w b s.1.cells t) : ∀ w', Below w.heap.size w w' → w'.cell? ⟨b, 0, none⟩ = some (.int .u64 (s.1.a0 : Int)) ∧ w'.cell? ⟨b, 1, none⟩ = some (.int .u64 (s.1.a1 : Int)) ∧ w'.cell? ⟨b, 2, none⟩ = some (.int .u64 (s.1.a2 : Int)) ∧ w'.cell? ⟨b, 3, none⟩ = some (.int .u64 (s.1.a3 : Int)) := fun w' hb =>
  ⟨(h.later hb h.lt).cellIs 0 _ rfl, (h.later hb h.lt).cellIs 1 _ rfl, (h.later hb h.lt).cellIs 2 _ rfl, (h.later hb h.lt).cellIs 3 _ rfl⟩

set_option maxHeartbeats 1000000 in
theorem WithinK (s t : OK) (w : World) :
    Calls Try.prog 19 #[s.v, t.v] w fun e w' => e = .returned (.bool (decide ((s.and t).1 = s.1))) ∧ Below w.heap.size w w' := by
  have q0 := (RowAt.new w s.1.cells 27).old (.cells t.1.cells 27)
  have q1 := RowAt.new (w.alloc (.cells s.1.cells 27)) t.1.cells 27
  simp only [World.size_alloc] at q1
  have hb0 : Below w.heap.size w _ := ((Below.refl w.heap.size w).alloc (Nat.le_refl _) (.cells s.1.cells 27)).alloc (by simp) (.cells t.1.cells 27)
  obtain ⟨W, hW⟩ : ∃ W, (w.alloc (.cells s.1.cells 27)).alloc (.cells t.1.cells 27) = W := ⟨_, rfl⟩
  rw [hW] at q0 q1 hb0
  have g0 := set_cells q0
  have g1 := set_cells q1
  have he := eqlK (s.and t) s _ rfl
  have hg := fun x y => guardK .eql x y (s.and t) s
  have hs := s.raw
  have ht := t.raw
  obtain ⟨b, hb⟩ : ∃ b, decide ((s.and t).1 = s.1) = b := ⟨_, rfl⟩
  rw [hb] at he ⊢
  clear hb
  show Calls _ _ #[.agg s.1.cells, .agg t.1.cells] _ _
  have HM := Lib.hid (fun w => MeetK s t w)
  go_enter Try.func19, Try.ntmps19
  go_wp2
  go_region_held3 (fun w' : World => Below W.heap.size W w') (first | exact below_step hb9 (by assumption) | exact (Below.refl _ _).drew | exact Below.refl _ _) (first | (go_at_call 15; refine (HM.out _).mono ?_; rintro e w9 ⟨rfl, hb9⟩))
  have hF : Below W.heap.size W w9 := by assumption
  go_wp2
  go_returns
  exact ⟨rfl, hb0.trans (hF.mono hb0.size)⟩

/-! ### the chapter's example -/
theorem alive_span (w : World) : Calls Try.prog 12 #[.int .u8 97, .int .u8 99] w fun e w' => e = .returned (.agg #[.int .u64 0, .int .u64 60129542144, .int .u64 0, .int .u64 0]) ∧ Below w.heap.size w w' := by
  have h := Span_any w 97 99 (by decide) (by decide)
  have e : spanN 97 (99 + 1 - 97) = ⟨0, 60129542144, 0, 0⟩ := by decide +kernel
  rw [e] at h
  exact h
def aS : S4 := ⟨0, 60129542144, 0, 0⟩
def aF : S4 := ⟨18446744073709551615, 18446744073709551615, 18446744073709551615, 18446744073709551615⟩
theorem aS_ok : aS.ok := ⟨by decide, by decide, by decide, by decide⟩
theorem aF_ok : aF.ok := ⟨by decide, by decide, by decide, by decide⟩
theorem alive_count (w : World) : Calls Try.prog 18 #[.agg #[.int .u64 0, .int .u64 60129542144, .int .u64 0, .int .u64 0]] w fun e w' => e = .returned (.int .i64 3) ∧ Below w.heap.size w w' := by
  have h := Count_any w aS aS_ok
  have e : aS.count = 3 := by decide +kernel
  rw [e] at h
  exact h
theorem alive_count2 (w : World) : Calls Try.prog 18 #[.agg #[.int .u64 18446744073709551615, .int .u64 18446744073709551615, .int .u64 18446744073709551615, .int .u64 18446744073709551615]] w fun e w' => e = .returned (.int .i64 256) ∧ Below w.heap.size w w' := by
  have h := Count_any w aF aF_ok
  have e : aF.count = 256 := by decide +kernel
  rw [e] at h
  exact h
theorem alive_has1 (w : World) : Calls Try.prog 35 #[.agg #[.int .u64 0, .int .u64 60129542144, .int .u64 0, .int .u64 0], .int .u8 98] w fun e w' => e = .returned (.bool true) ∧ Below w.heap.size w w' := by
  have h := Has_any w aS aS_ok 98 (by decide)
  have e : aS.has 98 = true := by decide +kernel
  rw [e] at h
  exact h
theorem alive_has2 (w : World) : Calls Try.prog 35 #[.agg #[.int .u64 0, .int .u64 60129542144, .int .u64 0, .int .u64 0], .int .u8 100] w fun e w' => e = .returned (.bool false) ∧ Below w.heap.size w w' := by
  have h := Has_any w aS aS_ok 100 (by decide)
  have e : aS.has 100 = false := by decide +kernel
  rw [e] at h
  exact h
theorem alive_all (w : World) : Calls Try.prog 16 #[] w fun e w' => e = .returned (.agg #[.int .u64 18446744073709551615, .int .u64 18446744073709551615, .int .u64 18446744073709551615, .int .u64 18446744073709551615]) ∧ Below w.heap.size w w' := All_any w

set_option maxHeartbeats 1000000 in
theorem alive06_any (w : World) :
    Calls Try.prog 9 #[] w fun e w' => e = .returned (.bool true) ∧ Below w.heap.size w w' := by
  have S1 := Lib.hid alive_span
  have S2 := Lib.hid alive_count
  have S3 := Lib.hid alive_count2
  have S4 := Lib.hid alive_has1
  have S5 := Lib.hid alive_has2
  have S6 := Lib.hid alive_all
  go_enter Try.func9, Try.ntmps9
  go_wp2_with (first | (go_at_call 12; refine (S1.out _).mono ?_; rintro e w1 ⟨rfl, hb1⟩; have hR := RowAt.new w1 #[.int .u64 0, .int .u64 60129542144, .int .u64 0, .int .u64 0] 27; have hW0 : Below w.heap.size w _ := hb1.alloc hb1.size (.cells #[.int .u64 0, .int .u64 60129542144, .int .u64 0, .int .u64 0] 27); have k0 := hR.cellIs 0 _ rfl; have k1 := hR.cellIs 1 _ rfl; have k2 := hR.cellIs 2 _ rfl; have k3 := hR.cellIs 3 _ rfl) | (go_at_call 16; refine (S6.out _).mono ?_; rintro e w5 ⟨rfl, hb5⟩) | (go_at_call 35; have := hb3; refine (S5.out _).mono ?_; rintro e w4 ⟨rfl, hb4⟩) | (go_at_call 35; refine (S4.out _).mono ?_; rintro e w3 ⟨rfl, hb3⟩; have l0 := cell_later hb3 j0; have l1 := cell_later hb3 j1; have l2 := cell_later hb3 j2; have l3 := cell_later hb3 j3) | (go_at_call 18; have := hb5; refine (S3.out _).mono ?_; rintro e w6 ⟨rfl, hb6⟩) | (go_at_call 18; refine (S2.out _).mono ?_; rintro e w2 ⟨rfl, hb2⟩; have j0 := cell_later hb2 k0; have j1 := cell_later hb2 k1; have j2 := cell_later hb2 k2; have j3 := cell_later hb2 k3))
  go_returns
  have h2 := hW0.trans (hb2.mono hW0.size)
  have h3 := h2.trans (hb3.mono h2.size)
  have h4 := h3.trans (hb4.mono h3.size)
  have h5 := h4.trans (hb5.mono h4.size)
  exact ⟨rfl, h5.trans (hb6.mono h5.size)⟩

end Go.Proofs.Ytboebjmfchbgbaa
