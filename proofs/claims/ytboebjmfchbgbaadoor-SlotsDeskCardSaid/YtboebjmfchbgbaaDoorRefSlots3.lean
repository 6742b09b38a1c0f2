/-
  The walk of the reference's Taken; what holds of free slots and the reference's row together.
-/
import Derived.Test.YtboebjmfchbgbaaDoorRefSlots2
namespace Go.Proofs.YtboebjmfchbgbaaDoor
open Go Go.RowKit Go.Conc
set_option linter.unusedSimpArgs false
set_option linter.unusedVariables false

theorem RSlot.touch {w w' : World} {base R : Nat} {l : List Int} {many : Nat} {S : Nat → Prop} (h : RSlot w base R l many) (ht : Touch w w' S) (hR : ¬ S R) (hs : ∀ k, base ≤ k → ¬ S k) : RSlot w' base R l many := by
  obtain ⟨v, h1, h2, h3⟩ := h.row
  exact ⟨v, h1.touch ht hR, h2.touch ht hs, h3⟩
theorem RSlot.later {w w' : World} {base R : Nat} {l : List Int} {many : Nat} (h : RSlot w base R l many) (hb : Below w.heap.size w w') : RSlot w' base R l many :=
  h.touch (Touch.ofBelow (fun _ => False) hb) (fun h => h) (fun _ _ h => h)
theorem Slot.touch {w w' : World} {B C : Nat} {l : List Int} {tk : List Bool} {many : Nat} {S : Nat → Prop} (h : Slot w B C l tk many) (ht : Touch w w' S) (hB : ¬ S B) (hC : ¬ S C) : Slot w' B C l tk many :=
  ⟨h.row.touch ht hB, h.chan.touch ht hC, h.len⟩
theorem Slot.later {w w' : World} {B C : Nat} {l : List Int} {tk : List Bool} {many : Nat} (h : Slot w B C l tk many) (hb : Below w.heap.size w w') : Slot w' B C l tk many :=
  h.touch (Touch.ofBelow (fun _ => False) hb) (fun h => h) (fun h => h)

/-- The numbers below k that do not stand in the row. -/
def rtk (l : List Int) : Nat → List Int
  | 0 => []
  | k + 1 => rtk l k ++ if memB (k : Int) l = true then [] else [(k : Int)]
theorem rtk_le (l : List Int) : ∀ k, (rtk l k).length ≤ k
  | 0 => Nat.le_refl _
  | k + 1 => by
    have := rtk_le l k
    unfold rtk
    split <;> simp <;> omega

set_option maxHeartbeats 2000000 in
set_option maxRecDepth 100000 in
theorem RefTaken_any (w : World) (base R : Nat) (l : List Int) (many : Nat) (hm : many ≤ 8) (hlen : l.length ≤ 8) (h : RSlot w base R l many) :
    Calls Tryd.prog 28 #[.pointer (some ⟨R, 0, none⟩)] w fun e w' => ∃ v, e = .returned v ∧ IntRow w.heap.size (rtk l many) v w' ∧ Below w.heap.size w w' := by
  obtain ⟨i0, hi, hz0, hz1, hz2⟩ := info_parts Tryd.info_i64
  obtain ⟨TK, hTK⟩ : ∃ TK, rtk l = TK := ⟨_, rfl⟩
  have HLE := Lib.hid (show ∀ k, (TK k).length ≤ k by rw [← hTK]; exact rtk_le l)
  have HT0 := Lib.hid (show TK 0 = [] by rw [← hTK]; rfl)
  have HTS := Lib.hid (show ∀ k, TK (k + 1) = TK k ++ if memB (k : Int) l = true then [] else [(k : Int)] by rw [← hTK]; intro k; rfl)
  rw [hTK]
  clear hTK
  have HL := Lib.hid (World.ownsRow_lit (base := w.heap.size) (e := 3) (size := 1) w #[] 0 (Nat.le_refl _) (by decide) rfl)
  go_enter Tryd.func28, Tryd.ntmps28
  go_wp2_with fail
  go_loopw [3, 4] (fun v i wr => ∃ k : Nat, k ≤ many ∧ i = .int .i64 k ∧ IntRow w.heap.size (TK k) v wr ∧ Below w.heap.size w wr) (fun _ i _ => many - (intOf i).toNat)
  case atStart => exact ⟨0, Nat.zero_le _, rfl, by rw [HT0.out]; exact HL.out, (Below.refl _ _).alloc (Nat.le_refl _) _⟩
  case round =>
    obtain ⟨k, hk, rfl, HR, hbl⟩ := hrel
    have hsz := hbl.size
    have hRk := h.later hbl
    obtain ⟨A, c, hRr, _, _⟩ := hRk.open
    have c0 := hRr.cellIs 0 _ rfl
    have HS := Lib.hid (HTS.out k)
    have hlek := HLE.out k
    by_cases hlt : k < many
    · obtain ⟨b, hb⟩ : ∃ b, memB (k : Int) l = b := ⟨_, rfl⟩
      cases b
      · have HS2 : Hid (TK (k + 1) = TK k ++ [(k : Int)]) := by
          show _ = _
          rw [HS.out, hb]; simp
        clear HS HTS
        unfold IntRow at HR
        go_wp2_with (first | (go_at_call 41; refine (RefFree_any _ _ _ _ _ _ hlen hRk).mono ?_; rw [hb]; rintro e w' ⟨rfl, rfl⟩) | (at_builtin; refine wpList_append_own _ rfl (.tmp 18) (.tmp 20) 37 rfl w.heap.size 3 i0 (.int .i64 0) 1 8 Tryd.underlying37 hi hz0 hz1 hz2 rfl (by decide) _ _ _ rfl (World.ownsRow.alloc HR _) ⟨wr.heap.size, 0, none⟩ 1 1 [.int .i64 (k : Int)] rfl rfl (cell_one_new _ _ _) (by intro u hu; simp at hu; subst hu; rfl) (by unfold maxLen; omega) (by omega) (by simp; omega) ?_; intro v' w2 hown' hgrow _))
        have hbl' : Below w.heap.size w w2 := (hbl.alloc (by omega) _).grown hgrow (by simp; omega) (own_base HR)
        have HR' : Hid (IntRow w.heap.size (TK (k + 1)) v' w2) := by
          show IntRow _ _ _ _
          unfold IntRow
          rw [HS2.out, List.length_append, ← icells_append]
          exact hown'
        clear hown' hgrow HS2
        go_wp2
        go_roundw
        case rel => exact ⟨k + 1, by omega, by go_num, HR'.out, hbl'⟩
        case measure => first | (simp [intOf]; done) | (simp [intOf]; omega)
      · have HR' : Hid (IntRow w.heap.size (TK (k + 1)) u3 wr) := by
          show IntRow _ _ _ _
          rw [HS.out, hb]
          simp only [if_true, List.append_nil]
          exact HR
        clear HS HTS HLE HT0
        go_wp2_with (go_at_call 41; refine (RefFree_any _ _ _ _ _ _ hlen hRk).mono ?_; rw [hb]; rintro e w' ⟨rfl, rfl⟩)
        go_roundw
        case rel => exact ⟨k + 1, by omega, by go_num, HR'.out, hbl⟩
        case measure => first | (simp [intOf]; done) | (simp [intOf]; omega)
    · obtain rfl : k = many := by omega
      clear HLE HTS HT0 HS
      go_wp2
      go_returns
      exact ⟨_, rfl, HR, hbl⟩

/-! ### plain -/
structure K (l : List Int) (tk : List Bool) (M : Nat) : Prop extends J l tk M where
  back : ∀ j, j < M → tk[j]? = some false → (j : Int) ∈ l
theorem mem_upto {M j : Nat} (h : j < M) : (j : Int) ∈ upto M := by
  induction M with
  | zero => omega
  | succ M ih =>
    refine List.mem_append.2 ?_
    by_cases h1 : j < M
    · exact .inl (ih h1)
    · obtain rfl : j = M := by omega
      exact .inr (by simp)
theorem K.start {M : Nat} (h1 : 1 ≤ M) (h8 : M ≤ 8) : K (upto M) noTk M := ⟨J.start h1 h8, fun j hj _ => mem_upto hj⟩
theorem K.take {x : Int} {l : List Int} {tk : List Bool} {M : Nat} (h : K (x :: l) tk M) : ∃ j : Nat, x = (j : Int) ∧ j < M ∧ tk[j]? = some false ∧ K l (tk.set j true) M := by
  obtain ⟨j, hx, hj, hf, hJ⟩ := h.toJ.take
  refine ⟨j, hx, hj, hf, hJ, fun i hi hif => ?_⟩
  by_cases hij : j = i
  · subst hij
    rw [List.getElem?_set_self (List.getElem?_eq_some_iff.1 hf).1] at hif; cases hif
  · rw [List.getElem?_set_ne hij] at hif
    rcases List.mem_cons.1 (h.back i hi hif) with h1 | h1
    · omega
    · exact h1
theorem K.give {l : List Int} {tk : List Bool} {M j : Nat} (h : K l tk M) (hj : j < M) (ht : tk[j]? = some true) : l.length < M ∧ K (l ++ [(j : Int)]) (tk.set j false) M := by
  obtain ⟨h1, h2⟩ := h.toJ.give hj ht
  refine ⟨h1, h2, fun i hi hif => ?_⟩
  by_cases hij : j = i
  · subst hij; simp
  · rw [List.getElem?_set_ne hij] at hif
    exact List.mem_append_left _ (h.back i hi hif)
theorem K.yes {l : List Int} {tk : List Bool} {M j : Nat} (h : K l tk M) (hj : j < M) (ht : tk[j]? = some false) : memB (j : Int) l = true := by
  unfold memB
  rw [List.contains_iff_mem]
  exact h.back j hj ht
theorem K.no {l : List Int} {tk : List Bool} {M j : Nat} (h : K l tk M) (hj : j < M) (ht : tk[j]? = some true) : memB (j : Int) l = false := by
  unfold memB
  rw [← Bool.not_eq_true, List.contains_iff_mem]
  intro hm
  obtain ⟨i, hi, _, hf⟩ := h.mem _ hm
  obtain rfl : i = j := by omega
  rw [ht] at hf; cases hf
theorem K.same {l : List Int} {tk : List Bool} {M : Nat} (h : K l tk M) : rtk l M = tkL tk 8 := by
  have h1 : ∀ k, k ≤ M → rtk l k = tkL tk k := by
    intro k
    induction k with
    | zero => intro _; rfl
    | succ k ih =>
      intro hk
      unfold rtk tkL
      rw [ih (by omega)]
      congr 1
      obtain ⟨b, hb⟩ : ∃ b, tk[k]? = some b := ⟨_, List.getElem?_eq_getElem (by have := h.len; have := h.le; omega)⟩
      rw [List.getD_eq_getElem?_getD, hb]
      cases b
      · rw [h.yes (by omega) hb]; rfl
      · rw [h.no (by omega) hb]; rfl
  have h2 : ∀ d, M + d ≤ 8 → tkL tk (M + d) = tkL tk M := by
    intro d
    induction d with
    | zero => intro _; rfl
    | succ d ih =>
      intro hd
      have e : tkL tk (M + (d + 1)) = tkL tk (M + d) ++ if tk.getD (M + d) false = true then [((M + d : Nat) : Int)] else [] := rfl
      rw [e, ih (by omega), List.getD_eq_getElem?_getD, h.out (M + d) (by omega) (by omega)]
      simp
  rw [h1 M (Nat.le_refl _), ← h2 (8 - M) (by have := h.le; omega)]
  congr 1
  have := h.le
  omega
theorem K.small {l : List Int} {tk : List Bool} {M : Nat} (h : K l tk M) : l.length ≤ 8 := by
  have := h.sum
  have := h.le
  omega

end Go.Proofs.YtboebjmfchbgbaaDoor
