/-
  The walks of package class: within, and the chapter's example; sets whose words are words.
-/
import Derived.Test.YtkddighepgpccaaDoorSet5
import Derived.Deep.RegionHeld3
namespace Go.Proofs.YtkddighepgpccaaDoor
open Go Go.RowKit
set_option linter.unusedSimpArgs false
set_option linter.unusedVariables false

def OK := { s : S4 // s.ok }
def OK.v (s : OK) : Value := s.1.v
def OK.or (s t : OK) : OK := ⟨s.1.or t.1, S4.or_ok s.2 t.2⟩
def OK.and (s t : OK) : OK := ⟨s.1.and t.1, S4.and_ok t.2⟩
def OK.not (s : OK) : OK := ⟨s.1.not, S4.not_ok _⟩
def OK.zero : OK := ⟨S4.zero, S4.zero_ok⟩
def OK.span (low n : Nat) : OK := ⟨spanN low n, spanN_ok low n⟩
theorem OK.raw (s : OK) : Value.agg #[.int .u64 (s.1.a0 : Int), .int .u64 (s.1.a1 : Int), .int .u64 (s.1.a2 : Int), .int .u64 (s.1.a3 : Int)] = s.v := rfl
theorem below_step {w0 wc w' : World} (hb : Below wc.heap.size wc w') (h0 : Below w0.heap.size w0 wc) : Below w0.heap.size w0 w' := h0.trans (hb.mono h0.size)
theorem NotK (s : OK) (w : World) : Calls Tryd.prog 82 #[s.v] w fun e w' => e = .returned s.not.v ∧ Below w.heap.size w w' := Not_any w s.1 s.2
theorem UnionK (s t : OK) (w : World) : Calls Tryd.prog 85 #[s.v, t.v] w fun e w' => e = .returned (s.or t).v ∧ Below w.heap.size w w' := Union_any w s.1 t.1 s.2 t.2
theorem CountK (s : OK) (w : World) : Calls Tryd.prog 29 #[s.v] w fun e w' => e = .returned (.int .i64 (s.1.count : Int)) ∧ Below w.heap.size w w' := Count_any w s.1 s.2
theorem HasK (s : OK) (b : Nat) (hb : b < 256) (w : World) : Calls Tryd.prog 28 #[s.v, .int .u8 (b : Int)] w fun e w' => e = .returned (.bool (s.1.has b)) ∧ Below w.heap.size w w' := Has_any w s.1 s.2 b hb
theorem SpanK (low high : Nat) (hl : low < 256) (hh : high < 256) (w : World) : Calls Tryd.prog 86 #[.int .u8 (low : Int), .int .u8 (high : Int)] w fun e w' => e = .returned (OK.span low (high + 1 - low)).v ∧ Below w.heap.size w w' := Span_any w low high hl hh
theorem eqK (s t : OK) (b : Bool) (h : decide (s.1 = t.1) = b) (w : World) : (Op.equalIn 10000 38 s.v t.v).run Tryd.prog w = .ok b w := by
  rw [← h]; exact eq_set w s.1 t.1

theorem Tryd.noGuard : Tryd.prog.eqGuardType Tryd.prog.depth 38 = false := by kernel_rfl
theorem guardK (op : BinOp) (x y : Operand) (s t : OK) (w : World) : (eqGuard op 38 x y s.v t.v).run Tryd.prog w = .ok () w := run_eqGuard_agg w op _ x y _ _ Tryd.noGuard
theorem eqlK (s t : OK) (b : Bool) (h : decide (s.1 = t.1) = b) (w : World) : (binOp .eql 38 s.v t.v).run Tryd.prog w = .ok (.bool b) w := by
  show ((Op.equalIn 10000 38 s.v t.v) >>= fun b => pure (Value.bool b)).run Tryd.prog w = _
  rw [Sem.run_bind, eqK s t b h w]; rfl
theorem neqK (s t : OK) (b : Bool) (h : decide (s.1 = t.1) = b) (w : World) : (binOp .neq 38 s.v t.v).run Tryd.prog w = .ok (.bool !b) w := by
  show ((Op.equalIn 10000 38 s.v t.v) >>= fun b => pure (Value.bool !b)).run Tryd.prog w = _
  rw [Sem.run_bind, eqK s t b h w]; rfl

/-- A block that holds a set, whatever comes to be behind it. -/
theorem set_cells {w : World} {b : Nat} {s : OK} {t : TypeId} (h : RowAt w b s.1.cells t) : ∀ w', Below w.heap.size w w' → w'.cell? ⟨b, 0, none⟩ = some (.int .u64 (s.1.a0 : Int)) ∧ w'.cell? ⟨b, 1, none⟩ = some (.int .u64 (s.1.a1 : Int)) ∧ w'.cell? ⟨b, 2, none⟩ = some (.int .u64 (s.1.a2 : Int)) ∧ w'.cell? ⟨b, 3, none⟩ = some (.int .u64 (s.1.a3 : Int)) := fun w' hb =>
  ⟨(h.later hb h.lt).cellIs 0 _ rfl, (h.later hb h.lt).cellIs 1 _ rfl, (h.later hb h.lt).cellIs 2 _ rfl, (h.later hb h.lt).cellIs 3 _ rfl⟩

/-! ### the chapter's example -/
theorem alive_span (w : World) : Calls Tryd.prog 86 #[.int .u8 97, .int .u8 99] w fun e w' => e = .returned (.agg #[.int .u64 0, .int .u64 60129542144, .int .u64 0, .int .u64 0]) ∧ Below w.heap.size w w' := by
  have h := Span_any w 97 99 (by decide) (by decide)
  have e : spanN 97 (99 + 1 - 97) = ⟨0, 60129542144, 0, 0⟩ := by decide +kernel
  rw [e] at h
  exact h
def aS : S4 := ⟨0, 60129542144, 0, 0⟩
def aF : S4 := ⟨18446744073709551615, 18446744073709551615, 18446744073709551615, 18446744073709551615⟩
theorem aS_ok : aS.ok := ⟨by decide, by decide, by decide, by decide⟩
theorem aF_ok : aF.ok := ⟨by decide, by decide, by decide, by decide⟩
theorem alive_count (w : World) : Calls Tryd.prog 29 #[.agg #[.int .u64 0, .int .u64 60129542144, .int .u64 0, .int .u64 0]] w fun e w' => e = .returned (.int .i64 3) ∧ Below w.heap.size w w' := by
  have h := Count_any w aS aS_ok
  have e : aS.count = 3 := by decide +kernel
  rw [e] at h
  exact h
theorem alive_count2 (w : World) : Calls Tryd.prog 29 #[.agg #[.int .u64 18446744073709551615, .int .u64 18446744073709551615, .int .u64 18446744073709551615, .int .u64 18446744073709551615]] w fun e w' => e = .returned (.int .i64 256) ∧ Below w.heap.size w w' := by
  have h := Count_any w aF aF_ok
  have e : aF.count = 256 := by decide +kernel
  rw [e] at h
  exact h
theorem alive_has1 (w : World) : Calls Tryd.prog 28 #[.agg #[.int .u64 0, .int .u64 60129542144, .int .u64 0, .int .u64 0], .int .u8 98] w fun e w' => e = .returned (.bool true) ∧ Below w.heap.size w w' := by
  have h := Has_any w aS aS_ok 98 (by decide)
  have e : aS.has 98 = true := by decide +kernel
  rw [e] at h
  exact h
theorem alive_has2 (w : World) : Calls Tryd.prog 28 #[.agg #[.int .u64 0, .int .u64 60129542144, .int .u64 0, .int .u64 0], .int .u8 100] w fun e w' => e = .returned (.bool false) ∧ Below w.heap.size w w' := by
  have h := Has_any w aS aS_ok 100 (by decide)
  have e : aS.has 100 = false := by decide +kernel
  rw [e] at h
  exact h
end Go.Proofs.YtkddighepgpccaaDoor
