/-
  The walks of the parser's small steps: next, sees, takes, byte, member, spans.
-/
import Derived.Test.YtkddighepgpccaaDoorRexT
import Derived.Test.YtkddighepgpccaaDoorShelf
import Derived.Deep.QuietTactic
import Derived.BigQuiet
import Derived.Handy
namespace Go.Proofs.YtkddighepgpccaaDoor
open Go Go.RowKit
set_option linter.unusedSimpArgs false
set_option linter.unusedVariables false

/-- The parser at a place of its text. -/
def PSt (w : World) (P : Nat) (s : ByteArray) (at_ g : Nat) (bad : Bool) : Prop := RowAt w P #[.string s, .int .i64 (at_ : Int), .int .i64 (g : Int), .bool bad] 70
def rem (s : ByteArray) (a : Nat) : List UInt8 := s.data.toList.drop a
theorem PSt.cells {w : World} {P : Nat} {s : ByteArray} {a g : Nat} {bad : Bool} (h : PSt w P s a g bad) : w.cell? ⟨P, 0, none⟩ = some (.string s) ∧ w.cell? ⟨P, 1, none⟩ = some (.int .i64 (a : Int)) ∧ w.cell? ⟨P, 2, none⟩ = some (.int .i64 (g : Int)) ∧ w.cell? ⟨P, 3, none⟩ = some (.bool bad) :=
  ⟨h.cellIs 0 _ rfl, h.cellIs 1 _ rfl, h.cellIs 2 _ rfl, h.cellIs 3 _ rfl⟩
theorem PSt.frozen {w : World} {P : Nat} {s : ByteArray} {a g : Nat} {bad : Bool} (h : PSt w P s a g bad) : w.frozen? ⟨P, 0, none⟩ = false ∧ w.frozen? ⟨P, 1, none⟩ = false ∧ w.frozen? ⟨P, 2, none⟩ = false ∧ w.frozen? ⟨P, 3, none⟩ = false :=
  ⟨RowAt.frozen h 0, RowAt.frozen h 1, RowAt.frozen h 2, RowAt.frozen h 3⟩
theorem PSt.setAt {w : World} {P : Nat} {s : ByteArray} {a g : Nat} {bad : Bool} (h : PSt w P s a g bad) (b : Nat) : PSt (w.setCell ⟨P, 1, none⟩ (.int .i64 (b : Int))) P s b g bad := RowAt.set h 1 _
theorem PSt.setG {w : World} {P : Nat} {s : ByteArray} {a g : Nat} {bad : Bool} (h : PSt w P s a g bad) (b : Nat) : PSt (w.setCell ⟨P, 2, none⟩ (.int .i64 (b : Int))) P s a b bad := RowAt.set h 2 _
theorem PSt.setBad {w : World} {P : Nat} {s : ByteArray} {a g : Nat} {bad : Bool} (h : PSt w P s a g bad) (b : Bool) : PSt (w.setCell ⟨P, 3, none⟩ (.bool b)) P s a g b := RowAt.set h 3 _
theorem PSt.drewN {w : World} {P : Nat} {s : ByteArray} {a g : Nat} {bad : Bool} (h : PSt w P s a g bad) (n : Nat) : PSt (w.drewN n) P s a g bad := h
theorem rem_nil {s : ByteArray} {a : Nat} (h : s.size ≤ a) : rem s a = [] := List.drop_eq_nil_of_le (by rw [← ba_size]; exact h)
theorem rem_cons {s : ByteArray} {a : Nat} (h : a < s.size) : rem s a = s[a] :: rem s (a + 1) := by
  have hl : a < s.data.toList.length := by rw [← ba_size]; exact h
  unfold rem
  rw [List.drop_eq_getElem_cons hl]
  rfl
theorem rem_length (s : ByteArray) (a : Nat) : (rem s a).length = s.size - a := by rw [rem, List.length_drop, ← ba_size]

/-- Whether one of some signs comes. -/
def seesL (l : List UInt8) : List UInt8 → Bool
  | [] => false
  | c :: _ => l.contains c
def seesB (s : ByteArray) (a : Nat) (bad : Bool) (l : List UInt8) : Bool := !bad && seesL l (rem s a)

theorem drewN_two (w : World) (a b : Nat) : ∃ n, (w.drewN a).drewN b = w.drewN n := ⟨a + b, by simp [World.drewN, Nat.add_assoc]⟩
theorem next_none (w : World) (P : Nat) (s : ByteArray) (a g : Nat) (bad : Bool) (hs : s.size ≤ 100) (ha : a ≤ s.size) (h : PSt w P s a g bad) (hn : bad = true ∨ rem s a = []) :
    Calls Tryd.prog 69 #[.pointer (some ⟨P, 0, none⟩)] w fun e w' => e = .returned (.tuple #[.int .u8 0, .bool false]) ∧ ∃ n, w' = w.drewN n := by
  obtain ⟨c0, c1, c2, c3⟩ := h.cells
  cases bad with
  | true =>
    go_enter Tryd.func69, Tryd.ntmps69
    go_wp2
    go_quiet (fail)
    go_wp2
    go_ret2
    exact ⟨rfl, _, rfl⟩
  | false =>
    have he : s.size ≤ a := by
      rcases hn with hn | hn
      · cases hn
      · rcases Nat.lt_or_ge a s.size with h' | h'
        · rw [rem_cons h'] at hn; cases hn
        · exact h'
    have hd : decide (s.size ≤ a) = true := decide_eq_true he
    go_enter Tryd.func69, Tryd.ntmps69
    go_wp2
    go_quiet (fail)
    go_wp2
    go_ret2
    exact ⟨rfl, _, rfl⟩
theorem next_some (w : World) (P : Nat) (s : ByteArray) (a g : Nat) (hs : s.size ≤ 100) (h : PSt w P s a g false) (c : UInt8) (r : List UInt8) (hr : rem s a = c :: r) :
    Calls Tryd.prog 69 #[.pointer (some ⟨P, 0, none⟩)] w fun e w' => e = .returned (.tuple #[.int .u8 (c.toNat : Int), .bool true]) ∧ ∃ n, w' = w.drewN n := by
  obtain ⟨c0, c1, c2, c3⟩ := h.cells
  have he : a < s.size := by
    rcases Nat.lt_or_ge a s.size with h' | h'
    · exact h'
    · rw [rem_nil h'] at hr; cases hr
  obtain rfl : s[a] = c := by rw [rem_cons he] at hr; injection hr
  have hd : decide (s.size ≤ a) = false := by simp; omega
  go_enter Tryd.func69, Tryd.ntmps69
  go_wp2
  go_quiet (fail)
  go_wp2
  go_quiet (fail)
  go_wp2
  go_ret2
  exact ⟨rfl, drewN_two _ _ _⟩

theorem indexByte_has : ∀ (l : List UInt8) (c : UInt8), decide (0 ≤ Lib.indexByte l c) = l.contains c
  | [], c => by simp [Lib.indexByte]
  | b :: l, c => by
    have ih := indexByte_has l c
    have hge := Lib.indexByte_ge l c
    unfold Lib.indexByte
    by_cases h : b = c
    · subst h; simp
    · have h1 : (b == c) = false := by simpa using h
      have h2 : (c == b) = false := by simpa using Ne.symm h
      rw [h1, List.contains_cons, h2, Bool.false_or, ← ih]
      simp only [Bool.false_eq_true, if_false]
      by_cases h3 : Lib.indexByte l c = -1
      · rw [h3]; simp
      · have h4 : (Lib.indexByte l c == -1) = false := by simpa using h3
        rw [h4]
        simp only [Bool.false_eq_true, if_false]
        rw [Bool.eq_iff_iff]
        simp
        omega
/-- A sign comes, or none of them. -/
theorem sees_is (w : World) (P : Nat) (s : ByteArray) (a g : Nat) (bad : Bool) (hs : s.size ≤ 100) (ha : a ≤ s.size) (h : PSt w P s a g bad) (x : ByteArray) {b : Bool} (hb : seesB s a bad x.data.toList = b) :
    Calls Tryd.prog 70 #[.pointer (some ⟨P, 0, none⟩), .string x] w fun e w' => e = .returned (.bool b) ∧ ∃ n, w' = w.drewN n := by
  by_cases hn : bad = true ∨ rem s a = []
  · have hf : b = false := by
      rw [← hb]
      unfold seesB
      rcases hn with rfl | hn
      · rfl
      · rw [hn]; simp [seesL]
    subst hf
    have HN := Lib.hid (next_none w P s a g bad hs ha h hn)
    clear hn hb
    go_enter Tryd.func70, Tryd.ntmps70
    go_wp2_with (go_at_call 69; refine HN.out.mono ?_; rintro e w1 ⟨rfl, n, rfl⟩)
    go_ret
    exact ⟨rfl, _, rfl⟩
  · obtain rfl : bad = false := by cases bad <;> simp_all
    cases hr : rem s a with
    | nil => exact absurd (Or.inr hr) hn
    | cons c r =>
      have HN := Lib.hid (next_some w P s a g hs h c r hr)
      have hbb : decide (0 ≤ Lib.indexByte x.data.toList c) = b := by
        rw [← hb]
        unfold seesB
        rw [hr]
        simp only [seesL, Bool.not_false, Bool.true_and]
        exact indexByte_has _ _
      obtain ⟨i, hi⟩ : ∃ i, Lib.indexByte x.data.toList c = i := ⟨_, rfl⟩
      have hcc : ((c.toNat : Int)).toNat.toUInt8 = c := by simp
      have HI := Lib.hid (fun w => Tryd.strings_IndexByte x (c.toNat : Int) w)
      rw [hcc, hi] at HI
      rw [hi] at hbb
      clear hn hb hr hcc hi
      go_enter Tryd.func70, Tryd.ntmps70
      go_wp2_with (first | (go_at_call 69; refine HN.out.mono ?_; rintro e w1 ⟨rfl, n, rfl⟩) | (go_at_call 68; refine (HI.out _).mono ?_; rintro e w1 ⟨rfl, rfl⟩))
      go_ret
      exact ⟨rfl, _, rfl⟩

end Go.Proofs.YtkddighepgpccaaDoor
