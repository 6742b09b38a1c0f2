/-
  The walks of the reference's opened, closing and one.
-/
import Derived.Test.YtkddighepgpccaaDoorSgn
namespace Go.Proofs.YtkddighepgpccaaDoor
open Go Go.RowKit
set_option linter.unusedSimpArgs false
set_option linter.unusedVariables false

def isOpen : Tok → Bool
  | .mark c => c == 40
  | .set _ => false
theorem opn_le : ∀ l : List Tok, opn l ≤ l.length
  | [] => Nat.le_refl _
  | .mark c :: l => by
    have := opn_le l
    simp only [opn, List.length_cons]
    split <;> omega
  | .set S :: l => by
    have := opn_le l
    simp only [opn, List.length_cons]
    omega
theorem opn_one (t : Tok) : opn [t] = if isOpen t = true then 1 else 0 := by
  cases t with
  | mark c => simp [opn, isOpen]
  | set S => simp [opn, isOpen]
theorem takeS {α : Type} {l : List α} {k : Nat} {t : α} (h : l[k]? = some t) : l.take (k + 1) = l.take k ++ [t] := by
  rw [List.take_add_one, h]; rfl
theorem dropS {α : Type} {l : List α} {k : Nat} {t : α} (h : l[k]? = some t) : l.drop k = t :: l.drop (k + 1) := by
  obtain ⟨l1, e1⟩ := List.getElem?_eq_some_iff.1 h
  rw [List.drop_eq_getElem_cons l1, e1]
/-- The five cells of a sign, as the walk asks for them. -/
theorem Signs.five {w : World} {g o n c : Nat} {l : List Tok} (h : Signs w (some ⟨g, o, none⟩) n c l) {i : Nat} {t : Tok} (ht : l[i]? = some t) : ∃ v0 v1 v2 v3 v4, tokC t = #[v0, v1, v2, v3, v4] ∧
    w.cell? ⟨g, o + i * 5, none⟩ = some v0 ∧ w.cell? ⟨g, o + i * 5 + 1, none⟩ = some v1 ∧ w.cell? ⟨g, o + i * 5 + 2, none⟩ = some v2 ∧ w.cell? ⟨g, o + i * 5 + 3, none⟩ = some v3 ∧ w.cell? ⟨g, o + i * 5 + 4, none⟩ = some v4 := by
  obtain ⟨g', o', e, hc⟩ := h.at_
  injection e with e
  injection e with e1 e2
  subst e1 e2
  have key : ∀ k v, (tokC t).toList[k]? = some v → w.cell? ⟨g, o + i * 5 + k, none⟩ = some v := fun k v hk => by
    have := hc i t ht k v hk
    rw [show o + i * 5 + k = o + (5 * i + k) by omega]
    exact this
  cases t with
  | mark c => exact ⟨_, _, _, _, _, rfl, key 0 _ rfl, key 1 _ rfl, key 2 _ rfl, key 3 _ rfl, key 4 _ rfl⟩
  | set S => exact ⟨_, _, _, _, _, rfl, key 0 _ rfl, key 1 _ rfl, key 2 _ rfl, key 3 _ rfl, key 4 _ rfl⟩
/-- The mark of a sign as a number. -/
def markN : Tok → Nat
  | .mark c => c.toNat
  | .set _ => 0
def setN : Tok → S4
  | .mark _ => S4.zero
  | .set S => S
theorem tokC_form (t : Tok) : tokC t = #[.int .u8 (markN t : Int), .int .u64 ((setN t).a0 : Int), .int .u64 ((setN t).a1 : Int), .int .u64 ((setN t).a2 : Int), .int .u64 ((setN t).a3 : Int)] := by
  cases t with
  | mark c => rfl
  | set S => rfl
theorem Signs.six {w : World} {g o n c : Nat} {l : List Tok} (h : Signs w (some ⟨g, o, none⟩) n c l) {i : Nat} {t : Tok} (ht : l[i]? = some t) :
    w.cell? ⟨g, o + i * 5, none⟩ = some (.int .u8 (markN t : Int)) ∧ w.cell? ⟨g, o + i * 5 + 1, none⟩ = some (.int .u64 ((setN t).a0 : Int)) ∧ w.cell? ⟨g, o + i * 5 + 2, none⟩ = some (.int .u64 ((setN t).a1 : Int)) ∧
      w.cell? ⟨g, o + i * 5 + 3, none⟩ = some (.int .u64 ((setN t).a2 : Int)) ∧ w.cell? ⟨g, o + i * 5 + 4, none⟩ = some (.int .u64 ((setN t).a3 : Int)) := by
  have e := tokC_form t
  obtain ⟨u0, u1, u2, u3, u4, e2, h0, h1, h2, h3, h4⟩ := h.five ht
  rw [e] at e2
  injection e2 with e2
  injection e2 with q0 e2; injection e2 with q1 e2; injection e2 with q2 e2; injection e2 with q3 e2; injection e2 with q4 e2
  subst q0 q1 q2 q3 q4
  exact ⟨h0, h1, h2, h3, h4⟩
theorem markN_open (t : Tok) : ((markN t : Int) == 40) = isOpen t := by
  cases t with
  | mark c =>
    rw [Bool.eq_iff_iff]
    simp only [markN, isOpen, beq_iff_eq]
    constructor
    · intro h; exact UInt8.toNat_inj.1 (by simpa using Int.ofNat_inj.1 h)
    · rintro rfl; rfl
  | set S => rfl

set_option maxHeartbeats 4000000 in
set_option maxRecDepth 100000 in
theorem Opened_any (w : World) (A : Option Addr) (n c : Nat) (l : List Tok) (h : Signs w A n c l) :
    Calls Tryd.prog 41 #[.slice A n c] w fun e w' => e = .returned (.int .i64 (opn l : Int)) ∧ Below w.heap.size w w' := by
  obtain ⟨g, o, rfl, -⟩ := h.at_
  have hlen := h.len
  have hmax := h.max
  have H := Lib.hid h
  have HL := Lib.hid hlen
  clear h hlen
  go_enter Tryd.func41, Tryd.ntmps41
  go_wp2_with fail
  go_loopw [3, 8] (fun x i wr => ∃ k, k ≤ n ∧ i = .int .i64 (k : Int) ∧ x = .int .i64 (opn (l.take k) : Int) ∧ Hid (Below w.heap.size w wr)) (fun _ i _ => n - (intOf i).toNat)
  case atStart => exact ⟨0, Nat.zero_le _, rfl, rfl, Lib.hid (Below.refl _ _)⟩
  case round =>
    obtain ⟨k, hk, rfl, rfl, B⟩ := hrel
    rcases Nat.lt_or_ge k n with hlt | hge
    · have hd : decide ((k : Int) < (n : Int)) = true := decide_eq_true (by omega)
      obtain ⟨t, ht⟩ : ∃ t, l[k]? = some t := ⟨_, List.getElem?_eq_getElem (by rw [HL.out]; exact hlt)⟩
      have hS := H.out.later B.out
      obtain ⟨c0, c1, c2, c3, c4⟩ := hS.six ht
      have hm := markN_open t
      obtain ⟨b, hb⟩ : ∃ b, isOpen t = b := ⟨_, rfl⟩
      rw [hb] at hm
      have hq : opn (l.take (k + 1)) = opn (l.take k) + (if b = true then 1 else 0) := by rw [takeS ht, opn_append, opn_one, hb]
      have hle := opn_le (l.take k)
      rw [List.length_take] at hle
      obtain ⟨q, hqq⟩ : ∃ q, opn (l.take k) = q := ⟨_, rfl⟩
      have hqk : q ≤ k := by omega
      rw [hqq] at hq ⊢
      have HQ := Lib.hid hq
      clear hq hqq hle hS ht hb
      cases b with
      | true =>
        go_wp2_with fail
        go_roundw
        case rel => exact ⟨k + 1, hlt, by go_num, by rw [HQ.out]; go_num, Lib.hid (B.out.alloc B.out.size _)⟩
        case measure => simp [intOf]; omega
      | false =>
        go_wp2_with fail
        go_roundw
        case rel => exact ⟨k + 1, hlt, by go_num, by rw [HQ.out]; go_num, Lib.hid (B.out.alloc B.out.size _)⟩
        case measure => simp [intOf]; omega
    · have hd : decide ((k : Int) < (n : Int)) = false := decide_eq_false (by omega)
      have hx : l.take k = l := List.take_of_length_le (by rw [HL.out]; omega)
      have HX := Lib.hid hx
      clear hx
      go_wp2_with fail
      go_ret
      rw [HX.out]
      exact ⟨rfl, B.out⟩

def isClose : Tok → Bool
  | .mark c => c == 41
  | .set _ => false
theorem markN_close (t : Tok) : ((markN t : Int) == 41) = isClose t := by
  cases t with
  | mark c =>
    rw [Bool.eq_iff_iff]
    simp only [markN, isClose, beq_iff_eq]
    constructor
    · intro h; exact UInt8.toNat_inj.1 (by simpa using Int.ofNat_inj.1 h)
    · rintro rfl; rfl
  | set S => rfl
/-- The depth behind a sign. -/
def deepT (t : Tok) (d : Nat) : Nat := if isOpen t = true then d + 1 else if isClose t = true then d - 1 else d
/-- Where the depth comes to nothing. -/
def closeI : List Tok → Nat → Nat → Option Nat
  | [], _, _ => none
  | t :: l, i, d => if deepT t d = 0 then some i else closeI l (i + 1) (deepT t d)
theorem closeI_eq : ∀ (l : List Tok) (i d : Nat), 1 ≤ d → closeI l i d = (closeT l d).map fun x => i + x.1.length
  | [], i, d, hd => rfl
  | .set S :: l, i, d, hd => by
    have e : deepT (.set S) d = d := rfl
    simp only [closeI, closeT, e]
    rw [if_neg (by omega), closeI_eq l (i + 1) d hd]
    cases closeT l d with
    | none => rfl
    | some x => simp; omega
  | .mark c :: l, i, d, hd => by
    simp only [closeI, closeT]
    by_cases h1 : c = 40
    · have e : deepT (.mark c) d = d + 1 := by subst h1; rfl
      rw [e, if_neg (by omega), if_pos h1, closeI_eq l (i + 1) (d + 1) (by omega)]
      cases closeT l (d + 1) with
      | none => rfl
      | some x => simp; omega
    · by_cases h2 : c = 41
      · have e : deepT (.mark c) d = d - 1 := by subst h2; rfl
        rw [e, if_neg h1, if_pos h2]
        by_cases h3 : d ≤ 1
        · rw [if_pos (by omega), if_pos h3]; simp
        · rw [if_neg (by omega), if_neg h3, closeI_eq l (i + 1) (d - 1) (by omega)]
          cases closeT l (d - 1) with
          | none => rfl
          | some x => simp; omega
      · have e : deepT (.mark c) d = d := by simp [deepT, isOpen, isClose, h1, h2]
        rw [e, if_neg (by omega), if_neg h1, if_neg h2, closeI_eq l (i + 1) d hd]
        cases closeT l d with
        | none => rfl
        | some x => simp; omega
theorem not_both (t : Tok) (h : isOpen t = true) : isClose t = false := by
  cases t with
  | mark c =>
    obtain rfl : c = 40 := by simpa [isOpen] using h
    rfl
  | set S => rfl
/-- What closing gives of a row of signs and a place. -/
def closeV (o : Option Nat) : Value := match o with
  | none => .int .i64 (-1)
  | some i => .int .i64 (i : Int)

set_option maxHeartbeats 4000000 in
set_option maxRecDepth 100000 in
theorem Closing_any (w : World) (A : Option Addr) (n c : Nat) (l : List Tok) (h : Signs w A n c l) (a : Nat) (t0 : Tok) (ha : l[a]? = some t0) (h0 : isOpen t0 = true) :
    Calls Tryd.prog 72 #[.slice A n c, .int .i64 (a : Int)] w fun e w' => e = .returned (closeV (closeI (l.drop a) a 0)) ∧ w' = w := by
  obtain ⟨g, o, rfl, -⟩ := h.at_
  have hlen := h.len
  have hmax := h.max
  have han : a < n := by have := (List.getElem?_eq_some_iff.1 ha).1; omega
  have H := Lib.hid h
  have HL := Lib.hid hlen
  have HA := Lib.hid ha
  clear h hlen ha
  go_enter Tryd.func72, Tryd.ntmps72
  go_wp2_with fail
  go_loop [5, 6] (fun x i => ∃ k d : Nat, a ≤ k ∧ k ≤ n ∧ d ≤ k ∧ i = .int .i64 (k : Int) ∧ x = .int .i64 (d : Int) ∧ Hid (d = 0 → k = a) ∧ Hid (closeI (l.drop a) a 0 = closeI (l.drop k) k d)) (fun _ i => n - (intOf i).toNat)
  case atStart => exact ⟨a, 0, Nat.le_refl _, by omega, Nat.zero_le _, rfl, rfl, Lib.hid (fun _ => rfl), Lib.hid rfl⟩
  case round =>
    obtain ⟨k, d, hak, hk, hdk, rfl, rfl, D, C⟩ := hrel
    rcases Nat.lt_or_ge k n with hlt | hge
    · have hd : decide ((k : Int) < (n : Int)) = true := decide_eq_true (by omega)
      obtain ⟨t, ht⟩ : ∃ t, l[k]? = some t := ⟨_, List.getElem?_eq_getElem (by rw [HL.out]; exact hlt)⟩
      obtain ⟨c0, -, -, -, -⟩ := H.out.six ht
      have hm := markN_open t
      have hm2 := markN_close t
      have hcl : closeI (l.drop k) k d = if deepT t d = 0 then some k else closeI (l.drop (k + 1)) (k + 1) (deepT t d) := by rw [dropS ht]; rfl
      have hor : isOpen t = true ∨ 1 ≤ d := by
        by_cases e : d = 0
        · have := D.out e
          subst this
          have h1 := HA.out
          rw [ht] at h1
          injection h1 with h1
          subst h1
          exact .inl h0
        · exact .inr (by omega)
      cases hb : isOpen t with
      | true =>
        have hb2 := not_both t hb
        rw [hb] at hm
        rw [hb2] at hm2
        have e : deepT t d = d + 1 := by simp [deepT, hb]
        rw [e, if_neg (by omega)] at hcl
        have HC := Lib.hid (C.out.trans hcl)
        have hz : (((d : Int) + 1) == 0) = false := by simp; omega
        clear hcl e hb hb2 hor ht
        go_wp2_with fail
        go_round
        case rel => exact ⟨k + 1, d + 1, by omega, hlt, by omega, by go_num, by go_num, Lib.hid (by omega), HC⟩
        case measure => simp [intOf]; omega
      | false =>
        rw [hb] at hm hor
        have hd1 : 1 ≤ d := by rcases hor with h | h; cases h; exact h
        cases hb2 : isClose t with
        | true =>
          rw [hb2] at hm2
          have e : deepT t d = d - 1 := by simp [deepT, hb, hb2]
          rw [e] at hcl
          obtain ⟨d', rfl⟩ : ∃ d', d = d' + 1 := ⟨d - 1, by omega⟩
          have hsub : ((d' + 1 : Nat) : Int) - 1 = (d' : Int) := by omega
          by_cases hz : d' = 0
          · subst hz
            rw [if_pos (by omega)] at hcl
            have HC := Lib.hid (C.out.trans hcl)
            clear hcl e hb hb2 hor ht hsub
            go_wp2_with fail
            go_ret
            rw [HC.out]
            exact ⟨rfl, rfl⟩
          · rw [if_neg (by omega)] at hcl
            have HC := Lib.hid (C.out.trans hcl)
            have hz : ((d' : Int) == 0) = false := by simp; omega
            clear hcl e hb hb2 hor ht
            go_wp2_with fail
            go_round
            case rel => exact ⟨k + 1, d', by omega, hlt, by omega, by go_num, by go_num, Lib.hid (by simp at hz; omega), HC⟩
            case measure => simp [intOf]; omega
        | false =>
          rw [hb2] at hm2
          have e : deepT t d = d := by simp [deepT, hb, hb2]
          rw [e, if_neg (by omega)] at hcl
          have HC := Lib.hid (C.out.trans hcl)
          have hz : ((d : Int) == 0) = false := by simp; omega
          clear hcl e hb hb2 hor ht
          go_wp2_with fail
          go_round
          case rel => exact ⟨k + 1, d, by omega, hlt, by omega, by go_num, by go_num, Lib.hid (by omega), HC⟩
          case measure => simp [intOf]; omega
    · have hd : decide ((k : Int) < (n : Int)) = false := decide_eq_false (by omega)
      have hx : l.drop k = [] := List.drop_eq_nil_of_le (by rw [HL.out]; omega)
      have HX := Lib.hid (C.out.trans (by rw [hx]; rfl : closeI (l.drop k) k d = none))
      clear hx
      go_wp2_with fail
      go_ret
      rw [HX.out]
      exact ⟨rfl, rfl⟩

end Go.Proofs.YtkddighepgpccaaDoor
