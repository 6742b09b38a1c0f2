/-
  The walks of the reference of layer 30 (slots), and of millwrightnum.SameInts.
-/
import Derived.Test.YtboebjmfchbgbaaDoorSlotsJ
import Derived.Test.YtboebjmfchbgbaaDoorInts
namespace Go.Proofs.YtboebjmfchbgbaaDoor
open Go Go.RowKit Go.Conc
set_option linter.unusedSimpArgs false
set_option linter.unusedVariables false

/-- A slice whose block lies from 'base' on reads as the numbers l. -/
structure RowI (w : World) (base : Nat) (v : Value) (l : List Int) : Prop where
  is : ∃ A c, v = .slice A l.length c ∧ Ints w A l.length c l ∧ ∀ a, A = some a → base ≤ a.block ∧ a.block < w.heap.size ∧ a = ⟨a.block, 0, none⟩ ∧ l.length ≤ c
theorem addr_plain (g j : Nat) : (⟨g, 0, none⟩ : Addr).add j = ⟨g, j, none⟩ := by unfold Addr.add; split <;> simp_all
theorem Ints.of_own {w : World} {base : Nat} {l : List Int} {v : Value} (h : IntRow base l v w) : RowI w base v l := by
  rcases h.2 with ⟨rfl, h0⟩ | ⟨g, cap, cur, rfl, h3, h4, h5, h6, h7⟩
  · exact ⟨none, 0, by rw [h0], ⟨rfl, by omega, (fun _ => ⟨h0, rfl⟩), (fun a ha => by cases ha)⟩, fun a ha => by cases ha⟩
  · refine ⟨some ⟨g, 0, none⟩, cap, rfl, ⟨rfl, (by simp only [maxLen] at h6; omega), (fun ha => by cases ha), fun a ha j x hj => ?_⟩, fun a ha => ?_⟩
    · injection ha with ha
      subst ha
      exact h.cells (g := g) rfl j (.int .i64 x) (by rw [icells, List.getElem?_map, hj]; rfl)
    · injection ha with ha
      subst ha
      exact ⟨h3, (Array.getElem?_eq_some_iff.1 h4).1, rfl, h5⟩
theorem RowI.weaken {w : World} {base base' : Nat} {v : Value} {l : List Int} (h : RowI w base v l) (hb : base' ≤ base) : RowI w base' v l := by
  obtain ⟨A, c, e, h1, h2⟩ := h.is
  exact ⟨A, c, e, h1, fun a ha => ⟨Nat.le_trans hb (h2 a ha).1, (h2 a ha).2⟩⟩
theorem RowI.touch {w w' : World} {base : Nat} {v : Value} {l : List Int} {S : Nat → Prop} (h : RowI w base v l) (ht : Touch w w' S) (hs : ∀ k, base ≤ k → ¬ S k) : RowI w' base v l := by
  obtain ⟨A, c, rfl, hi, hb⟩ := h.is
  refine ⟨A, c, rfl, ⟨hi.len, hi.max, hi.nil, fun a ha j x hj => ?_⟩, fun a ha => ⟨(hb a ha).1, Nat.lt_of_lt_of_le (hb a ha).2.1 ht.size, (hb a ha).2.2⟩⟩
  have h1 := hi.cell a ha j x hj
  obtain ⟨h2, h3, _⟩ := hb a ha
  have e : (a.add j).block = a.block := by unfold Addr.add; split <;> rfl
  have := ht.block (a.add j).block (by rw [e]; exact h3) (by rw [e]; exact hs _ h2)
  unfold World.cell? at h1 ⊢
  rw [this]; exact h1

theorem Touch.alloc {w w' : World} {S : Nat → Prop} (h : Touch w w' S) (o : Obj) : Touch w (w'.alloc o) S := h.trans (Touch.ofBelow S ((Below.refl _ _).alloc (Nat.le_refl _) o))
theorem IntRow.setCell {w : World} {base : Nat} {l : List Int} {v : Value} (h : IntRow base l v w) (a : Addr) (x : Value) (ha : a.block < base) : IntRow base l v (w.setCell a x) := by
  have hb := own_base h
  refine World.ownsRow.kept h (row := some a.block) ⟨rfl, rfl, rfl, by simp [World.setCell], fun i hi hne => ?_⟩ ?_
  · have : a.block ≠ i := by rintro rfl; exact hne rfl
    simp [World.setCell, Array.getElem?_modify, this]
  · cases hv : v.ownBlock with
    | none => exact .inl rfl
    | some k =>
      refine .inr fun he => ?_
      injection he with he
      have := hb k hv
      omega

structure RSlot (w : World) (base R : Nat) (l : List Int) (many : Nat) : Prop where
  row : ∃ v, RowAt w R #[.int .i64 (many : Int), v] 59 ∧ RowI w base v l ∧ v ≠ .slice none 0 0

set_option maxHeartbeats 2000000 in
set_option maxRecDepth 100000 in
theorem RefNew_ok (many : Nat) (h1 : 1 ≤ many) (h8 : many ≤ 8) (w : World) :
    Calls Tryd.prog 24 #[.int .i64 (many : Int)] w fun e w' => e = .returned (.tuple #[.pointer (some ⟨w.heap.size, 0, none⟩), .int .i64 0]) ∧ Below w.heap.size w w' ∧ RSlot w' w.heap.size w.heap.size (upto many) many := by
  go_enter Tryd.func24, Tryd.ntmps24
  go_wp2_with fail
  obtain ⟨i0, hi, hz0, hz1, hz2⟩ := info_parts Tryd.info_i64
  go_loopw [5] (fun i wr => ∃ (k : Nat) (v : Value), k ≤ many ∧ i = .int .i64 k ∧ RowAt wr w.heap.size #[.int .i64 (many : Int), v] 59 ∧ IntRow (w.heap.size + 1) (upto k) v wr ∧ Below w.heap.size w wr) (fun i _ => many - (intOf i).toNat)
  case atStart => exact ⟨0, _, Nat.zero_le _, rfl, RowAt.new _ _ _, World.ownsRow_nil _ _ _ _, (Below.refl _ _).alloc (Nat.le_refl _) _⟩
  case round =>
    obtain ⟨k, v, hk, rfl, hR, HR, hbl⟩ := hrel
    by_cases hlt : k < many
    · have c0 := hR.cellIs 0 _ rfl
      have c1 := hR.cellIs 1 _ rfl
      have hlw := hR.lt
      have hul := upto_length k
      unfold IntRow at HR
      go_wp2_with (at_builtin; refine wpList_append_own _ rfl (.tmp 24) (.tmp 26) 37 rfl (w.heap.size + 1) 3 i0 (.int .i64 0) 1 8 Tryd.underlying37 hi hz0 hz1 hz2 rfl (by decide) _ _ _ rfl (World.ownsRow.alloc HR _) ⟨wr.heap.size, 0, none⟩ 1 1 [.int .i64 (k : Int)] rfl rfl (cell_one_new _ _ _) (by intro u hu; simp at hu; subst hu; rfl) (by unfold maxLen; omega) (by omega) (by simp; omega) ?_; intro v' w2 hown' hgrow _; have hb2 : Below (w.heap.size + 1) wr w2 := ((Below.refl _ _).alloc (by omega) _).grown hgrow (by simp; omega) (own_base HR); obtain ⟨A', c', rfl⟩ := own_slice hown'; have hR2 := hR.later hb2 (by omega); have d1 := hR2.cellIs 1 _ rfl; have f1 := hR2.frozen 1)
      have HR' : IntRow (w.heap.size + 1) (upto (k + 1)) (.slice A' ((upto k).length + 1) c') w2 := by
        unfold IntRow
        show w2.ownsRow _ _ _ _ (upto k ++ [(k : Int)]).length (icells (upto k ++ [(k : Int)]))
        rw [List.length_append, ← icells_append]
        exact hown'
      rw [hul] at HR'
      clear hown' hgrow
      go_roundw
      case rel => exact ⟨k + 1, _, by omega, by go_num, hR2.set 1 _, HR'.setCell ⟨w.heap.size, 1, none⟩ _ (Nat.lt_succ_self _), (hbl.trans (hb2.mono (by omega))).setCell (by simp) _⟩
      case measure => first | (simp [intOf]; done) | (simp [intOf]; omega)
    · obtain rfl : k = many := by omega
      go_wp2_with fail
      go_returns
      obtain ⟨A, c, e, h1, h2⟩ := (Ints.of_own HR).is
      refine ⟨rfl, hbl, v, hR, ⟨A, c, e, h1, ?_⟩, ?_⟩
      rotate_left
      · rw [e]
        intro hh
        injection hh with _ hh
        rw [upto_length] at hh
        omega
      exact (fun a ha => ⟨Nat.le_trans (Nat.le_succ _) (h2 a ha).1, (h2 a ha).2.1, (h2 a ha).2.2⟩)

theorem RefTake_none (w : World) (base R : Nat) (many : Nat) (h : RSlot w base R [] many) :
    Calls Tryd.prog 25 #[.pointer (some ⟨R, 0, none⟩)] w fun e w' => e = .returned (.tuple #[.int .i64 0, .bool false]) ∧ w = w' := by
  obtain ⟨v, hR, hI, hvn⟩ := h.row
  obtain ⟨A, c, rfl, h1, h2⟩ := hI.is
  have c1 := hR.cellIs 1 _ rfl
  go_enter Tryd.func25, Tryd.ntmps25
  go_wp2
  go_returns
  exact ⟨rfl, rfl⟩

set_option maxHeartbeats 2000000 in
set_option maxRecDepth 100000 in
theorem RefTake_some (w : World) (base R : Nat) (x : Int) (l : List Int) (many : Nat) (hlen : l.length ≤ 8) (hbR : base ≤ R) (h : RSlot w base R (x :: l) many) :
    Calls Tryd.prog 25 #[.pointer (some ⟨R, 0, none⟩)] w fun e w' => e = .returned (.tuple #[.int .i64 x, .bool true]) ∧ Touch w w' (fun k => k = R) ∧ RSlot w' base R l many := by
  obtain ⟨v, hR, hI, hvn⟩ := h.row
  obtain ⟨A, c, rfl, h1, h2⟩ := hI.is
  have c1 := hR.cellIs 1 _ rfl
  have f1 := hR.frozen 1
  have hA : ∃ g, A = some ⟨g, 0, none⟩ := by
    cases A with
    | none => have := (h1.nil rfl).1; simp at this
    | some a => exact ⟨a.block, by rw [← (h2 a rfl).2.2.1]⟩
  obtain ⟨g, rfl⟩ := hA
  have hcell : ∀ j y, (x :: l)[j]? = some y → w.cell? ⟨g, j, none⟩ = some (.int .i64 y) := by
    intro j y hj
    have := h1.cell _ rfl j y hj
    rwa [addr_plain] at this
  have c2 := hcell 0 x rfl
  obtain ⟨hg1, hg2, _, hg3⟩ := h2 _ rfl
  simp only at hg1 hg2
  have hRl := hR.lt
  have HC := Lib.hid hcell
  clear h1 h2 hcell hI h
  obtain ⟨i0, hi, hz0, hz1, hz2⟩ := info_parts Tryd.info_i64
  have HL := World.ownsRow_lit (base := w.heap.size) (e := 3) (size := 1) w #[] 0 (Nat.le_refl _) (by decide) rfl
  have hnb : ∀ o : Obj, R ≠ w.heap.size := fun _ => Nat.ne_of_lt hRl
  simp only [List.length_cons] at hg3
  by_cases hc1 : c = 1
  · obtain rfl : l = [] := List.eq_nil_of_length_eq_zero (by omega)
    subst hc1
    go_enter Tryd.func25, Tryd.ntmps25
    go_wp2
    go_returns
    refine ⟨rfl, Touch.alloc (Touch.setCell (S := fun k => k = R) (a := ⟨R, 1, none⟩) (Touch.refl w _) _ rfl) _, _, (hR.set 1 _).old _, ⟨some ⟨w.heap.size, 0, none⟩, 0, rfl, ⟨rfl, by decide, (fun h => by cases h), fun a ha j x hj => by simp at hj⟩, fun a ha => ?_⟩, by simp⟩
    injection ha with ha
    subst ha
    exact ⟨by simp only; omega, by simp [World.setCell], rfl, Nat.le_refl _⟩
  · have hnews : ∀ j u, (icells l)[j]? = some u → (w.alloc (.cells #[] 3)).cell? ((⟨g, 1, none⟩ : Addr).add j) = some u := by
      intro j u hu
      rw [icells, List.getElem?_map] at hu
      cases hy : l[j]? with
      | none => rw [hy] at hu; simp at hu
      | some y =>
        rw [hy] at hu
        simp at hu
        subst hu
        have e : (⟨g, 1, none⟩ : Addr).add j = ⟨g, 1 + j, none⟩ := by unfold Addr.add; split <;> simp_all
        rw [e]
        exact cell_alloc (HC.out (1 + j) y (by rw [Nat.add_comm, List.getElem?_cons_succ]; exact hy)) _
    have HN := Lib.hid hnews
    have HL' := Lib.hid HL
    clear hnews HL
    have hll := icells_length l
    go_enter Tryd.func25, Tryd.ntmps25
    go_wp2_with (at_builtin; refine wpList_append_own _ rfl (.tmp 18) (.tmp 23) 37 rfl w.heap.size 3 i0 (.int .i64 0) 1 8 Tryd.underlying37 hi hz0 hz1 hz2 rfl (by decide) _ _ _ rfl HL'.out ⟨g, 1, none⟩ l.length _ (icells l) rfl (by rw [hll]; omega) HN.out (by intro u hu; simp [icells] at hu; obtain ⟨x, _, rfl⟩ := hu; rfl) (by unfold maxLen; omega) (by omega) (by simp) ?_; intro v' w2 hown' hgrow hnn; have hnn := Lib.hid (show v' ≠ .slice none 0 0 from fun h => by have := (hnn.1 h).1; cases this); have hb2 : Below w.heap.size w w2 := ((Below.refl _ _).alloc (Nat.le_refl _) _).grown hgrow (by simp) (own_base HL'.out); obtain ⟨A', c', rfl⟩ := own_slice hown'; have hR2 := hR.later hb2 hRl; have d1 := hR2.cellIs 1 _ rfl; have f2 := hR2.frozen 1)
    go_returns
    have hrow : IntRow w.heap.size l (.slice A' l.length c') w2 := by
      unfold IntRow
      simpa using hown'
    have hrow2 := hrow.setCell ⟨R, 1, none⟩ (.slice A' l.length c') hRl
    refine ⟨rfl, Touch.setCell (S := fun k => k = R) (a := ⟨R, 1, none⟩) (Touch.ofBelow _ hb2) _ rfl, _, hR2.set 1 _, (Ints.of_own hrow2).weaken (by omega), (by simpa using hnn.out)⟩

/-- What a reference's slots are, spelt out. -/
theorem RSlot.open {w : World} {base R : Nat} {l : List Int} {many : Nat} (h : RSlot w base R l many) : ∃ A c, RowAt w R #[.int .i64 (many : Int), .slice A l.length c] 59 ∧ A ≠ none ∧ (∀ a, A = some a → ∃ g, a = ⟨g, 0, none⟩ ∧ base ≤ g ∧ g < w.heap.size ∧ l.length ≤ c ∧ ∀ j y, l[j]? = some y → w.cell? ⟨g, j, none⟩ = some (.int .i64 y)) := by
  obtain ⟨v, hR, hI, hvn⟩ := h.row
  obtain ⟨A, c, rfl, h1, h2⟩ := hI.is
  refine ⟨A, c, hR, fun hA => ?_, fun a ha => ?_⟩
  · subst hA
    obtain ⟨h3, rfl⟩ := h1.nil rfl
    rw [h3] at hvn
    exact hvn rfl
  obtain ⟨g1, g2, g3, g4⟩ := h2 a ha
  refine ⟨a.block, g3, g1, g2, g4, fun j y hj => ?_⟩
  have := h1.cell a ha j y hj
  rw [g3, addr_plain] at this
  exact this

def memB (x : Int) (l : List Int) : Bool := l.contains x
set_option maxHeartbeats 2000000 in
theorem RefFree_any (w : World) (base R : Nat) (x : Int) (l : List Int) (many : Nat) (hlen : l.length ≤ 8) (h : RSlot w base R l many) :
    Calls Tryd.prog 41 #[.pointer (some ⟨R, 0, none⟩), .int .i64 x] w fun e w' => e = .returned (.bool (memB x l)) ∧ w = w' := by
  obtain ⟨A, c, hR, hnil, hsome⟩ := h.open
  have c1 := hR.cellIs 1 _ rfl
  have HS := Lib.hid hsome
  have HNl := Lib.hid hnil
  clear hsome hnil h
  go_enter Tryd.func41, Tryd.ntmps41
  go_wp2_with fail
  go_loopw [12] (fun i w0 => ∃ k : Nat, k ≤ l.length ∧ i = .int .i64 k ∧ Hid ((l.take k).contains x = false) ∧ w0 = w) (fun i _ => l.length - (intOf i).toNat)
  case atStart => exact ⟨0, Nat.zero_le _, rfl, Lib.hid (by simp), rfl⟩
  case round =>
    obtain ⟨k, hk, rfl, HK, rfl⟩ := hrel
    by_cases hlt : k < l.length
    · obtain ⟨y, hy⟩ : ∃ y, l[k]? = some y := ⟨_, List.getElem?_eq_getElem hlt⟩
      have hA : ∃ g, A = some ⟨g, 0, none⟩ := by
        cases A with
        | none => exact absurd rfl HNl.out
        | some a => obtain ⟨g, hg, _⟩ := HS.out a rfl; exact ⟨g, by rw [hg]⟩
      obtain ⟨g, rfl⟩ := hA
      obtain ⟨g', hg', _, _, _, hc⟩ := HS.out _ rfl
      injection hg' with hg'
      subst hg'
      have ck := hc k y hy
      have hst : (l.take (k + 1)).contains x = ((l.take k).contains x || (x == y)) := by
        rw [List.take_add_one, hy, List.contains_append]
        congr 1
        show List.elem x [y] = _
        unfold List.elem
        cases x == y <;> rfl
      clear hc
      by_cases hxy : x = y
      · subst hxy
        have HC : Hid (memB x l = true) := by
          show l.contains x = true
          rw [List.contains_iff_mem]; exact List.mem_of_getElem? hy
        clear hst hy HK
        go_wp2_with fail
        go_returns
        exact ⟨ret_bool HC.out.symm, rfl⟩
      · have h1 : (y == x) = false := by simpa using fun h => hxy h.symm
        have HK' : Hid ((l.take (k + 1)).contains x = false) := by
          show _ = _
          rw [hst, HK.out]
          simpa using hxy
        clear hst hy HK
        go_wp2_with fail
        go_roundw
        case rel => exact ⟨k + 1, by omega, by go_num, HK', trivial⟩
        case measure => first | (simp [intOf]; done) | (simp [intOf]; omega)
    · have hkl : k = l.length := by omega
      subst hkl
      have HC : Hid (memB x l = false) := by
        show l.contains x = false
        have := HK.out
        rwa [List.take_length] at this
      clear HK
      go_wp2_with fail
      go_returns
      exact ⟨ret_bool HC.out.symm, rfl⟩

end Go.Proofs.YtboebjmfchbgbaaDoor
