/-
  The walks of the parser's small steps: takes, byte, member, spans.
-/
import Derived.Test.YtkddighepgpccaaDoorRexP
namespace Go.Proofs.YtkddighepgpccaaDoor
open Go Go.RowKit
set_option linter.unusedSimpArgs false
set_option linter.unusedVariables false

theorem seesB_true {s : ByteArray} {a : Nat} {bad : Bool} {l : List UInt8} (h : seesB s a bad l = true) : bad = false ∧ a < s.size ∧ ∃ c r, rem s a = c :: r ∧ l.contains c = true ∧ r = rem s (a + 1) := by
  unfold seesB at h
  rw [Bool.and_eq_true] at h
  obtain ⟨h1, h2⟩ := h
  have hlt : a < s.size := by
    rcases Nat.lt_or_ge a s.size with h' | h'
    · exact h'
    · rw [rem_nil h'] at h2; cases h2
  rw [rem_cons hlt] at h2 ⊢
  exact ⟨by simpa using h1, hlt, _, _, rfl, h2, rfl⟩
theorem takes_is (w : World) (P : Nat) (s : ByteArray) (a g : Nat) (bad : Bool) (hs : s.size ≤ 100) (ha : a ≤ s.size) (h : PSt w P s a g bad) (x : ByteArray) {b : Bool} (hb : seesB s a bad x.data.toList = b) :
    Calls Tryd.prog 59 #[.pointer (some ⟨P, 0, none⟩), .string x] w fun e w' => e = .returned (.bool b) ∧ PSt w' P s (a + b.toNat) g bad ∧ Touch w w' (· = P) := by
  have HS := Lib.hid (sees_is w P s a g bad hs ha h x hb)
  cases b with
  | false =>
    clear hb
    go_enter Tryd.func59, Tryd.ntmps59
    go_wp2_with (go_at_call 70; refine HS.out.mono ?_; rintro e w1 ⟨rfl, n, rfl⟩)
    go_ret
    exact ⟨rfl, h.drewN _, (Touch.refl _ _).drewN _⟩
  | true =>
    obtain ⟨_, hlt, _⟩ := seesB_true hb
    clear hb
    obtain ⟨c0, c1, c2, c3⟩ := h.cells
    obtain ⟨f0, f1, f2, f3⟩ := h.frozen
    go_enter Tryd.func59, Tryd.ntmps59
    go_wp2_with (go_at_call 70; refine HS.out.mono ?_; rintro e w1 ⟨rfl, n, rfl⟩)
    go_ret
    exact ⟨rfl, (h.drewN n).setAt (a + 1), ((Touch.refl _ _).drewN _).put _ (.inl rfl)⟩
theorem byte_some (w : World) (P : Nat) (s : ByteArray) (a g : Nat) (hs : s.size ≤ 100) (h : PSt w P s a g false) (c : UInt8) (r : List UInt8) (hr : rem s a = c :: r) :
    Calls Tryd.prog 79 #[.pointer (some ⟨P, 0, none⟩)] w fun e w' => e = .returned (.int .u8 (c.toNat : Int)) ∧ PSt w' P s (a + 1) g false ∧ Touch w w' (· = P) := by
  have HN := Lib.hid (next_some w P s a g hs h c r hr)
  have he : a < s.size := by
    rcases Nat.lt_or_ge a s.size with h' | h'
    · exact h'
    · rw [rem_nil h'] at hr; cases hr
  clear hr
  obtain ⟨c0, c1, c2, c3⟩ := h.cells
  obtain ⟨f0, f1, f2, f3⟩ := h.frozen
  go_enter Tryd.func79, Tryd.ntmps79
  go_wp2_with (go_at_call 69; refine HN.out.mono ?_; rintro e w1 ⟨rfl, n, rfl⟩)
  go_ret
  exact ⟨rfl, (h.drewN n).setAt (a + 1), ((Touch.refl _ _).drewN _).put _ (.inl rfl)⟩
theorem byte_none (w : World) (P : Nat) (s : ByteArray) (a g : Nat) (bad : Bool) (hs : s.size ≤ 100) (ha : a ≤ s.size) (h : PSt w P s a g bad) (hn : bad = true ∨ rem s a = []) :
    Calls Tryd.prog 79 #[.pointer (some ⟨P, 0, none⟩)] w fun e w' => e = .returned (.int .u8 0) ∧ PSt w' P s a g true ∧ Touch w w' (· = P) := by
  have HN := Lib.hid (next_none w P s a g bad hs ha h hn)
  clear hn
  obtain ⟨c0, c1, c2, c3⟩ := h.cells
  obtain ⟨f0, f1, f2, f3⟩ := h.frozen
  go_enter Tryd.func79, Tryd.ntmps79
  go_wp2_with (go_at_call 69; refine HN.out.mono ?_; rintro e w1 ⟨rfl, n, rfl⟩)
  go_ret
  exact ⟨rfl, (h.drewN n).setBad true, ((Touch.refl _ _).drewN _).put _ (.inl rfl)⟩
theorem rem_tail {s : ByteArray} {a : Nat} {c : UInt8} {r : List UInt8} (h : rem s a = c :: r) : r = rem s (a + 1) ∧ a < s.size := by
  have he : a < s.size := by
    rcases Nat.lt_or_ge a s.size with h' | h'
    · exact h'
    · rw [rem_nil h'] at h; cases h
  rw [rem_cons he] at h
  injection h with h1 h2
  exact ⟨h2.symm, he⟩
theorem member_ok (w : World) (P : Nat) (s : ByteArray) (a g : Nat) (hs : s.size ≤ 100) (h : PSt w P s a g false) (c : UInt8) (r : List UInt8) (hr : memberL (rem s a) = some (c, r)) :
    Calls Tryd.prog 83 #[.pointer (some ⟨P, 0, none⟩)] w fun e w' => e = .returned (.int .u8 (c.toNat : Int)) ∧ ∃ a', PSt w' P s a' g false ∧ Touch w w' (· = P) ∧ a' ≤ s.size ∧ rem s a' = r := by
  cases hm : rem s a with
  | nil => rw [hm] at hr; cases hr
  | cons d r1 =>
    rw [hm] at hr
    obtain ⟨h1, h2⟩ := rem_tail hm
    simp only [memberL] at hr
    have HB := Lib.hid (byte_some w P s a g hs h d r1 hm)
    by_cases hd : d = 92
    · rw [if_pos hd] at hr
      subst hd
      cases hm2 : r1 with
      | nil => rw [hm2] at hr; cases hr
      | cons d2 r2 =>
        rw [hm2] at hr
        simp only [Option.some.injEq, Prod.mk.injEq] at hr
        obtain ⟨rfl, rfl⟩ := hr
        rw [hm2] at h1
        obtain ⟨h3, h4⟩ := rem_tail h1.symm
        have HB2 := Lib.hid (fun w h => byte_some w P s (a + 1) g hs h d2 r2 h1.symm)
        have H3 := Lib.hid h3
        clear hm hm2 h1 h3
        go_enter Tryd.func83, Tryd.ntmps83
        go_wp2_with fail
        refine HB.out.mono ?_
        rintro e w1 ⟨rfl, hp1, ht1⟩
        go_wp2_with (go_at_call 79; refine (HB2.out _ hp1).mono ?_; rintro e w2 ⟨rfl, hp2, ht2⟩)
        go_ret
        exact ⟨rfl, _, hp2, ht1.trans ht2, by omega, H3.out.symm⟩
    · rw [if_neg hd] at hr
      simp only [Option.some.injEq, Prod.mk.injEq] at hr
      obtain ⟨rfl, rfl⟩ := hr
      have hne : ((d.toNat : Int) == 92) = false := by
        have : d.toNat ≠ 92 := fun e => hd (UInt8.toNat_inj.1 e)
        simp; omega
      have H1 := Lib.hid h1
      clear hm h1 hd
      go_enter Tryd.func83, Tryd.ntmps83
      go_wp2_with (go_at_call 79; refine HB.out.mono ?_; rintro e w1 ⟨rfl, hp1, ht1⟩)
      go_ret
      exact ⟨rfl, _, hp1, ht1, by omega, H1.out.symm⟩
theorem member_bad (w : World) (P : Nat) (s : ByteArray) (a g : Nat) (bad : Bool) (hs : s.size ≤ 100) (ha : a ≤ s.size) (h : PSt w P s a g bad) (hn : bad = true ∨ memberL (rem s a) = none) :
    Calls Tryd.prog 83 #[.pointer (some ⟨P, 0, none⟩)] w fun e w' => e = .returned (.int .u8 0) ∧ ∃ a', PSt w' P s a' g true ∧ Touch w w' (· = P) ∧ a' ≤ s.size := by
  by_cases hb : bad = true ∨ rem s a = []
  · have HB := Lib.hid (byte_none w P s a g bad hs ha h hb)
    clear hn hb
    go_enter Tryd.func83, Tryd.ntmps83
    go_wp2_with (go_at_call 79; refine HB.out.mono ?_; rintro e w1 ⟨rfl, hp1, ht1⟩)
    go_ret
    exact ⟨rfl, _, hp1, ht1, ha⟩
  · obtain rfl : bad = false := by cases bad <;> simp_all
    have hr : memberL (rem s a) = none := by simpa using hn
    cases hm : rem s a with
    | nil => exact absurd (Or.inr hm) hb
    | cons d r1 =>
      rw [hm] at hr
      obtain ⟨h1, h2⟩ := rem_tail hm
      simp only [memberL] at hr
      by_cases hd : d = 92
      · rw [if_pos hd] at hr
        subst hd
        cases hm2 : r1 with
        | cons d2 r2 => rw [hm2] at hr; cases hr
        | nil =>
          rw [hm2] at h1
          have HB := Lib.hid (byte_some w P s a g hs h 92 r1 hm)
          have HB2 := Lib.hid (fun w h => byte_none w P s (a + 1) g false hs (by omega) h (.inr h1.symm))
          clear hm hm2 h1 hn hb hr
          go_enter Tryd.func83, Tryd.ntmps83
          go_wp2_with fail
          refine HB.out.mono ?_
          rintro e w1 ⟨rfl, hp1, ht1⟩
          go_wp2_with (go_at_call 79; refine (HB2.out _ hp1).mono ?_; rintro e w2 ⟨rfl, hp2, ht2⟩)
          go_ret
          exact ⟨rfl, _, hp2, ht1.trans ht2, by omega⟩
      · rw [if_neg hd] at hr
        cases hr

end Go.Proofs.YtkddighepgpccaaDoor
