/-
  The walk of class.Of; which bytes are in.
-/
import Derived.Test.YtkddighepgpccaaDoorRefOf
import Derived.Test.YtkddighepgpccaaDoorByts
namespace Go.Proofs.YtkddighepgpccaaDoor
open Go Go.RowKit
set_option linter.unusedSimpArgs false
set_option linter.unusedVariables false

theorem has_with (s : S4) {b c : Nat} (hb : b < 256) (hc : c < 256) : (s.with c).has b = (s.has b || decide (c = b)) := by
  unfold S4.with S4.has
  rw [S4.at_put s (by omega) (by omega)]
  by_cases hq : c / 64 = b / 64
  · rw [if_pos hq, Nat.testBit_or, Nat.testBit_two_pow, hq]
    congr 1
    by_cases h : c = b
    · subst h; simp
    · have : ¬ (c % 64 = b % 64) := by omega
      simp [h, this]
  · rw [if_neg hq]
    have : ¬ c = b := by rintro rfl; exact hq rfl
    simp [this]
theorem has_zero (b : Nat) : S4.zero.has b = false := by
  unfold S4.has
  have h1 : ∀ i, S4.zero.at i = 0 := by
    intro i
    unfold S4.at S4.zero
    repeat' split
    all_goals rfl
  rw [h1, Nat.zero_testBit]
theorem has_span (low n b : Nat) (hb : b < 256) (hn : low + n ≤ 256) : (spanN low n).has b = decide (low ≤ b ∧ b < low + n) := by
  induction n with
  | zero =>
    unfold spanN
    rw [has_zero]
    have : ¬ (low ≤ b ∧ b < low + 0) := by omega
    simp [this]
  | succ n ih =>
    unfold spanN
    rw [has_with _ hb (by omega), ih (by omega)]
    rw [Bool.eq_iff_iff]
    simp
    omega

theorem mem_take_step {xs : List Int} {k m : Nat} (h : xs[k]? = some (m : Int)) (b : Nat) : (b : Int) ∈ xs.take (k + 1) ↔ (b : Int) ∈ xs.take k ∨ m = b := by
  rw [List.take_add_one, h, List.mem_append]
  constructor
  · rintro (h1 | h1)
    · exact .inl h1
    · simp at h1; exact .inr (by omega)
  · rintro (h1 | h1)
    · exact .inl h1
    · exact .inr (by simp; omega)
set_option maxHeartbeats 4000000 in
theorem Of_any (A : Option Addr) (n c : Nat) (xs : List Int) (w : World) (hx : Byts w A n c xs) (hz : ∀ x ∈ xs, 0 ≤ x ∧ x < 256) :
    Calls Tryd.prog 65 #[.slice A n c] w fun e w' => ∃ s : OK, e = .returned s.v ∧ (∀ b, b < 256 → s.1.has b = decide ((b : Int) ∈ xs)) ∧ Below w.heap.size w w' := by
  have hmx := hx.max
  have hZ0 := (RowAt.new w #[.int .u64 0, .int .u64 0, .int .u64 0, .int .u64 0] 38).old (.cells #[.int .u64 0, .int .u64 0, .int .u64 0, .int .u64 0] 38)
  have hR0 := RowAt.new (w.alloc (.cells #[.int .u64 0, .int .u64 0, .int .u64 0, .int .u64 0] 38)) #[.int .u64 0, .int .u64 0, .int .u64 0, .int .u64 0] 38
  simp only [World.size_alloc] at hR0
  have HX := Lib.hid hx
  have HZ := Lib.hid hz
  clear hx hz
  go_enter Tryd.func65, Tryd.ntmps65
  go_wp2
  go_loopw [8] (fun i wr => ∃ (k : Nat) (s : OK), k ≤ n ∧ i = .int .i64 (k : Int) ∧ RowAt wr w.heap.size #[.int .u64 0, .int .u64 0, .int .u64 0, .int .u64 0] 38 ∧ RowAt wr (w.heap.size + 1) s.1.cells 38 ∧ Hid (∀ b, b < 256 → s.1.has b = decide ((b : Int) ∈ xs.take k)) ∧ Below w.heap.size w wr) (fun i _ => n - (intOf i).toNat)
  case atStart => exact ⟨0, OK.zero, Nat.zero_le _, rfl, hZ0, hR0, (by show _; intro b hb; simp [OK.zero, has_zero]), ((Below.refl _ _).alloc (Nat.le_refl _) _).alloc (by simp) _⟩
  case round =>
    obtain ⟨k, s, hk, rfl, hZ, hR, HH, hbl⟩ := hrel
    clear hZ0 hR0
    by_cases hlt : k < n
    · obtain ⟨a, x, rfl, hxk, ck⟩ := (HX.out.below hbl).at_ hlt
      obtain ⟨x0, x1⟩ := HZ.out x (List.mem_of_getElem? hxk)
      obtain ⟨m, rfl⟩ := Int.eq_ofNat_of_zero_le x0
      have hm : m < 256 := by omega
      have HH' : Hid (∀ b, b < 256 → (s.1.with m).has b = decide ((b : Int) ∈ xs.take (k + 1))) := by
        intro b hb
        rw [has_with _ hb hm, HH.out b hb, ← Bool.decide_or]
        exact decide_eq_decide.2 (mem_take_step hxk b).symm
      obtain ⟨t, ht⟩ : ∃ t : OK, t.1 = s.1.with m := ⟨⟨s.1.with m, S4.with_ok s.2⟩, rfl⟩
      rw [← ht] at HH'
      have hcall := fun w => with_any w s.1 s.2 m hm
      rw [← ht] at hcall
      clear hxk HH ht
      obtain ⟨⟨d0, d1, d2, d3⟩, hd⟩ := s
      obtain ⟨⟨c0, c1, c2, c3⟩, hcc⟩ := t
      unfold S4.v at hcall
      unfold S4.cells at hR
      simp only at hcall hR
      have HC := Lib.hid hcall
      clear hcall
      have k0 := hR.cellIs 0 _ rfl
      have k1 := hR.cellIs 1 _ rfl
      have k2 := hR.cellIs 2 _ rfl
      have k3 := hR.cellIs 3 _ rfl
      go_wp2_with (go_at_call 73; refine (HC.out _).mono ?_; rintro e w2 ⟨rfl, hb2⟩; have hR2 := hR.later hb2 hR.lt; have f0 := hR2.frozen 0; have f1 := hR2.frozen 1; have f2 := hR2.frozen 2; have f3 := hR2.frozen 3; have z0 := hR2.cellIs 0 _ rfl; have z1 := hR2.cellIs 1 _ rfl; have z2 := hR2.cellIs 2 _ rfl; have z3 := hR2.cellIs 3 _ rfl)
      have hR4 := hR2.four (.int .u64 (c0 : Int)) (.int .u64 (c1 : Int)) (.int .u64 (c2 : Int)) (.int .u64 (c3 : Int))
      have hZ2 := hZ.later hb2 hZ.lt
      clear z0 z1 z2 z3 k0 k1 k2 k3 f0 f1 f2 f3 HC
      go_roundw
      case rel => exact ⟨k + 1, ⟨⟨c0, c1, c2, c3⟩, hcc⟩, by omega, by go_num, (((hZ2.other _ (by simp)).other _ (by simp)).other _ (by simp)).other _ (by simp), hR4, HH', ((((hbl.trans (hb2.mono hbl.size)).setCell (by simp) _).setCell (by simp) _).setCell (by simp) _).setCell (by simp) _⟩
      case measure => first | (simp [intOf]; done) | (simp [intOf]; omega)
    · have hkn : k = xs.length := by rw [HX.out.len]; omega
      have HF : Hid (∀ b, b < 256 → s.1.has b = decide ((b : Int) ∈ xs)) := by
        intro b hb
        have := HH.out b hb
        rw [hkn, List.take_length] at this
        exact this
      clear HH hkn
      obtain ⟨⟨d0, d1, d2, d3⟩, hd⟩ := s
      unfold S4.cells at hR
      simp only at hR
      have k0 := hR.cellIs 0 _ rfl
      have k1 := hR.cellIs 1 _ rfl
      have k2 := hR.cellIs 2 _ rfl
      have k3 := hR.cellIs 3 _ rfl
      have f0 := hZ.frozen 0
      have f1 := hZ.frozen 1
      have f2 := hZ.frozen 2
      have f3 := hZ.frozen 3
      have z0 := hZ.cellIs 0 _ rfl
      have z1 := hZ.cellIs 1 _ rfl
      have z2 := hZ.cellIs 2 _ rfl
      have z3 := hZ.cellIs 3 _ rfl
      go_wp2
      have hZ4 := hZ.four (.int .u64 (d0 : Int)) (.int .u64 (d1 : Int)) (.int .u64 (d2 : Int)) (.int .u64 (d3 : Int))
      have r0 := hZ4.cellIs 0 _ rfl
      have r1 := hZ4.cellIs 1 _ rfl
      have r2 := hZ4.cellIs 2 _ rfl
      have r3 := hZ4.cellIs 3 _ rfl
      refine bodyPost_ret (by simp [results, Tryd.results65, go_sem, r0, r1, r2, r3]; try rfl) rfl ?_
      exact ⟨⟨⟨d0, d1, d2, d3⟩, hd⟩, rfl, HF.out, (((hbl.setCell (Nat.le_refl _) _).setCell (Nat.le_refl _) _).setCell (Nat.le_refl _) _).setCell (Nat.le_refl _) _⟩

end Go.Proofs.YtkddighepgpccaaDoor
