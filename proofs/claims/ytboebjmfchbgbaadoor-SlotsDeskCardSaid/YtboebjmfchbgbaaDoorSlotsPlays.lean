/-
  The walk of the statement SlotsPlays.
-/
import Derived.Test.YtboebjmfchbgbaaDoorRefSlots3
import Derived.Test.YtboebjmfchbgbaaDoorAliveSlots
import Derived.Deep.RegionHeld3
namespace Go.Proofs.YtboebjmfchbgbaaDoor
open Go Go.RowKit Go.Conc
set_option linter.unusedSimpArgs false
set_option linter.unusedVariables false

theorem IntRow.ints {base : Nat} {l : List Int} {v : Value} {w : World} (h : IntRow base l v w) : ∃ A c, v = .slice A l.length c ∧ Ints w A l.length c l := by
  obtain ⟨A, c, h1, h2, _⟩ := (Ints.of_own h).is
  exact ⟨A, c, h1, h2⟩
theorem Slot.drewN {w : World} {B C : Nat} {l : List Int} {tk : List Bool} {many : Nat} (h : Slot w B C l tk many) (q : Nat) : Slot (w.drewN q) B C l tk many := ⟨h.row, h.chan, h.len⟩
theorem RSlot.drewN {w : World} {base R : Nat} {l : List Int} {many : Nat} (h : RSlot w base R l many) (q : Nat) : RSlot (w.drewN q) base R l many := by
  obtain ⟨v, h1, h2, h3⟩ := h.row
  obtain ⟨A, c, e, h4, h5⟩ := h2.is
  exact ⟨v, h1, ⟨A, c, e, ⟨h4.len, h4.max, h4.nil, h4.cell⟩, h5⟩, h3⟩
theorem RSlot.len {w : World} {base R : Nat} {l : List Int} {many : Nat} (h : RSlot w base R l many) : ∃ A c L, l.length = L ∧ w.cell? ⟨R, 1, none⟩ = some (.slice A L c) := by
  obtain ⟨A, c, h1, _, _⟩ := h.open
  exact ⟨A, c, _, rfl, h1.cellIs 1 _ rfl⟩
theorem Free_len (w : World) (B C : Nat) (l : List Int) (tk : List Bool) (many L : Nat) (hL : l.length = L) (h : Slot w B C l tk many) :
    Calls Tryd.prog 20 #[.pointer (some ⟨B, 0, none⟩)] w fun e w' => e = .returned (.int .i64 (L : Int)) ∧ w = w' := by
  subst hL
  exact Free_any w B C l tk many h
theorem cell_drewN {w : World} {a : Addr} {v : Value} (q : Nat) (h : w.cell? a = some v) : (w.drewN q).cell? a = some v := h
theorem Slot.drew {w : World} {B C : Nat} {l : List Int} {tk : List Bool} {many : Nat} (h : Slot w B C l tk many) : Slot w.drew B C l tk many := ⟨h.row, h.chan, h.len⟩
theorem RSlot.drew {w : World} {base R : Nat} {l : List Int} {many : Nat} (h : RSlot w base R l many) : RSlot w.drew base R l many := by
  obtain ⟨v, h1, h2, h3⟩ := h.row
  obtain ⟨A, c, e, h4, h5⟩ := h2.is
  exact ⟨v, h1, ⟨A, c, e, ⟨h4.len, h4.max, h4.nil, h4.cell⟩, h5⟩, h3⟩
theorem Num_range (es : List Addr) (a : Addr) (h : es[0]? = some a) (w : World) (hE : Errs w es) :
    Calls Tryd.prog 23 #[.iface 98 (.pointer (some a))] w fun e w' => e = .returned (.int .i64 1) ∧ Below w.heap.size w w' := Num_err es 0 a h w hE
theorem Num_state (es : List Addr) (a : Addr) (h : es[13]? = some a) (w : World) (hE : Errs w es) :
    Calls Tryd.prog 23 #[.iface 98 (.pointer (some a))] w fun e w' => e = .returned (.int .i64 14) ∧ Below w.heap.size w w' := Num_err es 13 a h w hE

set_option maxHeartbeats 8000000 in
set_option maxRecDepth 100000 in
theorem SlotsPlays_walk (many : Int) (A : Option Addr) (n c : Nat) (xs : List Int) (W : World) (wm : (Lit.int .i64 many).wf = true) (hx : Ints W A n c xs) (zx : ∀ x ∈ xs, (Lit.int .i64 x).wf = true) (hE : ∃ es, Errs W es) :
    Calls Tryd.prog 7 #[.int .i64 many, .slice A n c] W fun e w' => e = .returned (.bool true) ∧ Below W.heap.size W w' := by
  obtain ⟨es, hE⟩ := hE
  obtain ⟨aR, haR⟩ : ∃ a, es[0]? = some a := ⟨_, List.getElem?_eq_getElem (by rw [hE.len]; decide)⟩
  obtain ⟨aS, haS⟩ : ∃ a, es[13]? = some a := ⟨_, List.getElem?_eq_getElem (by rw [hE.len]; decide)⟩
  have cR : W.cell? ⟨2, 0, none⟩ = some (.iface 98 (.pointer (some aR))) := hE.cell 0 _ _ rfl haR
  have cS : W.cell? ⟨3, 0, none⟩ = some (.iface 98 (.pointer (some aS))) := hE.cell 13 _ _ rfl haS
  by_cases hbig : 100 < n
  · go_enter Tryd.func7, Tryd.ntmps7
    go_wp2_with (go_at_call 16; refine (alive30_any _).mono ?_; rintro e w1 ⟨rfl, hb⟩)
    go_returns
    exact ⟨rfl, hb⟩
  by_cases hin : 1 ≤ many ∧ many ≤ 8
  · obtain ⟨M, rfl⟩ := Int.eq_ofNat_of_zero_le (show 0 ≤ many by omega)
    have hM1 : 1 ≤ M := by omega
    have hM8 : M ≤ 8 := by omega
    clear hin
    go_enter Tryd.func7, Tryd.ntmps7
    go_wp2_with (first | (go_at_call 16; refine (alive30_any _).mono ?_; rintro e w1 ⟨rfl, hb1⟩) | (go_at_call 17; refine (New_ok M hM1 hM8 _).mono ?_; rintro e w2 ⟨rfl, hb2, hS⟩) | (go_at_call 24; refine (RefNew_ok M hM1 hM8 _).mono ?_; rintro e w3 ⟨rfl, hb3, hR⟩) | (go_at_call 23; refine (Num_nil _).mono ?_; rintro e w' ⟨rfl, rfl⟩))
    have hlt0 := hS.row.lt
    have hW1 := hb1.size
    have hW2 : W.heap.size ≤ w2.heap.size := Nat.le_trans hW1 hb2.size
    have hb3W : Below W.heap.size W w3 := (hb1.trans (hb2.mono hW1)).trans (hb3.mono hW2)
    have hownW : ∀ k, k < W.heap.size → ¬ Own2 (w1.heap.size + 1) w1.heap.size k := by intro k hk; unfold Own2; omega
    have hownR : ∀ k, w2.heap.size ≤ k → ¬ Own2 (w1.heap.size + 1) w1.heap.size k := by intro k hk; unfold Own2; omega
    have hnB : ¬ (w1.heap.size + 1 = w2.heap.size) := by omega
    have hnC : ¬ (w1.heap.size = w2.heap.size) := by omega
    have hnW : ∀ k, k < W.heap.size → ¬ (k = w2.heap.size) := by intro k hk; omega
    go_loopw [45] (fun i wr => ∃ (k : Nat) (l : List Int) (tk : List Bool), k ≤ n ∧ i = .int .i64 k ∧ Slot wr (w1.heap.size + 1) w1.heap.size l tk M ∧ RSlot wr w2.heap.size w2.heap.size l M ∧ K l tk M ∧ Below W.heap.size W wr) (fun i _ => n - (intOf i).toNat)
    case atStart => exact ⟨0, _, noTk, Nat.zero_le _, rfl, hS.later hb3, hR, K.start hM1 hM8, hb3W⟩
    case round =>
      obtain ⟨k, l, tk, hk, rfl, hSk, hRk, hK, hbl⟩ := hrel
      clear hS hR hb1 hb2 hb3 hb3W
      by_cases hlt : k < n
      · obtain ⟨a, x, rfl, hxk, ck⟩ := (hx.below hbl).at_ hlt
        have hwf := zx x (List.mem_of_getElem? hxk)
        have cRk := cell_later hbl cR
        have cSk := cell_later hbl cS
        have hEk := hE.later hbl
        by_cases hneg : x < 0
        · cases l with
          | nil =>
            have hSt := hSk
            have hRt := hRk
            have hKt := hK
            have hbt := hbl
            obtain ⟨A4, c4, L4, hL4, e4⟩ := hRt.len
            go_wp2_with (first | (go_at_call 18; refine (Take_none _ _ _ _ _ hSk).mono ?_; rintro e w3 ⟨rfl, rfl⟩) | (go_at_call 25; refine (RefTake_none _ _ _ _ hRk).mono ?_; rintro e w3 ⟨rfl, rfl⟩))
            go_region_held3 (fun w : World => w.cell? ⟨w2.heap.size, 1, none⟩ = some (.slice A4 L4 c4)) (first | exact e4 | exact cell_later hb5 e4 | exact cell_later hb6 (cell_later hb5 e4) | exact cell_drewN _ (cell_later hb6 (cell_later hb5 e4))) (first | (go_at_call 20; refine (Free_len _ _ _ _ _ _ _ hL4 hSt.drew).mono ?_; rintro e w' ⟨rfl, rfl⟩) | (go_at_call 21; refine (Taken_any _ _ _ _ _ _ hSt.drew).mono ?_; rintro e w5 ⟨v5, rfl, hrow5, hb5⟩; obtain ⟨A5, c5, rfl, hI5⟩ := hrow5.ints) | (go_at_call 28; refine (RefTaken_any _ _ _ _ _ hM8 hKt.small (hRt.drew.later hb5)).mono ?_; rintro e w6 ⟨v6, rfl, hrow6, hb6⟩; rw [hKt.same] at hrow6; obtain ⟨A6, c6, rfl, hI6⟩ := hrow6.ints) | (go_at_call 27; refine (SameInts_yes _ _ _ _ _ _ _ (hI5.below hb6) hI6).mono ?_; rintro e w7 ⟨rfl, q, rfl⟩))
            go_wp2
            go_roundw
            case rel => exact ⟨k + 1, [], tk, by omega, by go_num, ((hSt.drew.later hb5).later hb6).drewN q, ((hRt.drew.later hb5).later hb6).drewN q, hKt, below_drewN ((hbt.drew.trans (hb5.mono hbt.size)).trans (hb6.mono (Nat.le_trans hbt.size hb5.size))) q⟩
            case measure => first | (simp [intOf]; done) | (simp [intOf]; omega)
          | cons y l =>
            obtain ⟨j, rfl, hjM, hjf, hKt⟩ := hK.take
            have hj8 : j < 8 := by omega
            have hl8 : l.length ≤ 8 := hKt.small
            go_wp2_with (first | (go_at_call 18; refine (Take_some _ _ _ j _ _ _ hj8 hSk).mono ?_; rintro e w3 ⟨rfl, ht3, hS3⟩; have hR3 := hRk.touch ht3 (hownR _ (Nat.le_refl _)) hownR) | (go_at_call 25; refine (RefTake_some _ _ _ _ _ _ hl8 (Nat.le_refl _) hR3).mono ?_; rintro e w4 ⟨rfl, ht4, hRt⟩; have hSt := hS3.touch ht4 hnB hnC; obtain ⟨A4, c4, L4, hL4, e4⟩ := hRt.len; have hbt : Below W.heap.size W w4 := (hbl.trans (ht3.below hbl.size hownW)).trans (ht4.below (Nat.le_trans hbl.size ht3.size) hnW)))
            go_region_held3 (fun w : World => w.cell? ⟨w2.heap.size, 1, none⟩ = some (.slice A4 L4 c4)) (first | exact e4 | exact cell_later hb5 e4 | exact cell_later hb6 (cell_later hb5 e4) | exact cell_drewN _ (cell_later hb6 (cell_later hb5 e4))) (first | (go_at_call 20; refine (Free_len _ _ _ _ _ _ _ hL4 hSt.drew).mono ?_; rintro e w' ⟨rfl, rfl⟩) | (go_at_call 21; refine (Taken_any _ _ _ _ _ _ hSt.drew).mono ?_; rintro e w5 ⟨v5, rfl, hrow5, hb5⟩; obtain ⟨A5, c5, rfl, hI5⟩ := hrow5.ints) | (go_at_call 28; refine (RefTaken_any _ _ _ _ _ hM8 hKt.small (hRt.drew.later hb5)).mono ?_; rintro e w6 ⟨v6, rfl, hrow6, hb6⟩; rw [hKt.same] at hrow6; obtain ⟨A6, c6, rfl, hI6⟩ := hrow6.ints) | (go_at_call 27; refine (SameInts_yes _ _ _ _ _ _ _ (hI5.below hb6) hI6).mono ?_; rintro e w7 ⟨rfl, q, rfl⟩))
            go_wp2
            go_roundw
            case rel => exact ⟨k + 1, l, tk.set j true, by omega, by go_num, ((hSt.drew.later hb5).later hb6).drewN q, ((hRt.drew.later hb5).later hb6).drewN q, hKt, below_drewN ((hbt.drew.trans (hb5.mono hbt.size)).trans (hb6.mono (Nat.le_trans hbt.size hb5.size))) q⟩
            case measure => first | (simp [intOf]; done) | (simp [intOf]; omega)
        · obtain ⟨m, rfl⟩ := Int.eq_ofNat_of_zero_le (show 0 ≤ x by omega)
          by_cases hmM : m < M
          · obtain ⟨b, hb⟩ : ∃ b, tk[m]? = some b := ⟨_, List.getElem?_eq_getElem (by have := hK.len; omega)⟩
            cases b
            · go_wp2_with (first | (go_at_call 19; refine (Give_state _ _ _ m _ _ _ _ hSk hmM hM8 hb cSk).mono ?_; rintro e w3 ⟨rfl, rfl⟩) | (go_at_call 23; refine (Num_state es aS haS _ hEk).mono ?_; rintro e w4 ⟨rfl, hb4⟩; have hSt := hSk.later hb4; have hRt := hRk.later hb4; have hbt := hbl.trans (hb4.mono hbl.size); have hKt := hK; obtain ⟨A4, c4, L4, hL4, e4⟩ := hRt.len) | (go_at_call 26; refine (RefGive_state _ _ _ m _ _ hM8 hKt.small hRt hmM (hK.yes hmM hb)).mono ?_; rintro e w8 ⟨rfl, rfl⟩))
              go_region_held3 (fun w : World => w.cell? ⟨w2.heap.size, 1, none⟩ = some (.slice A4 L4 c4)) (first | exact e4 | exact cell_later hb5 e4 | exact cell_later hb6 (cell_later hb5 e4) | exact cell_drewN _ (cell_later hb6 (cell_later hb5 e4))) (first | (go_at_call 20; refine (Free_len _ _ _ _ _ _ _ hL4 hSt.drew).mono ?_; rintro e w' ⟨rfl, rfl⟩) | (go_at_call 21; refine (Taken_any _ _ _ _ _ _ hSt.drew).mono ?_; rintro e w5 ⟨v5, rfl, hrow5, hb5⟩; obtain ⟨A5, c5, rfl, hI5⟩ := hrow5.ints) | (go_at_call 28; refine (RefTaken_any _ _ _ _ _ hM8 hKt.small (hRt.drew.later hb5)).mono ?_; rintro e w6 ⟨v6, rfl, hrow6, hb6⟩; rw [hKt.same] at hrow6; obtain ⟨A6, c6, rfl, hI6⟩ := hrow6.ints) | (go_at_call 27; refine (SameInts_yes _ _ _ _ _ _ _ (hI5.below hb6) hI6).mono ?_; rintro e w7 ⟨rfl, q, rfl⟩))
              go_wp2
              go_roundw
              case rel => exact ⟨k + 1, l, tk, by omega, by go_num, ((hSt.drew.later hb5).later hb6).drewN q, ((hRt.drew.later hb5).later hb6).drewN q, hKt, below_drewN ((hbt.drew.trans (hb5.mono hbt.size)).trans (hb6.mono (Nat.le_trans hbt.size hb5.size))) q⟩
              case measure => first | (simp [intOf]; done) | (simp [intOf]; omega)
            · obtain ⟨hroom, hKt⟩ := hK.give hmM hb
              go_wp2_with (first | (go_at_call 19; refine (Give_ok _ _ _ m _ _ _ hSk hmM hM8 hb hroom).mono ?_; rintro e w3 ⟨rfl, ht3, hS3⟩; have hR3 := hRk.touch ht3 (hownR _ (Nat.le_refl _)) hownR) | (go_at_call 23; refine (Num_nil _).mono ?_; rintro e w8 ⟨rfl, rfl⟩) | (go_at_call 26; refine (RefGive_ok _ _ _ m _ _ hM8 hK.small (Nat.le_refl _) hR3 hmM (hK.no hmM hb)).mono ?_; rintro e w4 ⟨rfl, ht4, hRt⟩; have hSt := hS3.touch ht4 hnB hnC; obtain ⟨A4, c4, L4, hL4, e4⟩ := hRt.len; have hbt : Below W.heap.size W w4 := (hbl.trans (ht3.below hbl.size hownW)).trans (ht4.below (Nat.le_trans hbl.size ht3.size) hnW)))
              go_region_held3 (fun w : World => w.cell? ⟨w2.heap.size, 1, none⟩ = some (.slice A4 L4 c4)) (first | exact e4 | exact cell_later hb5 e4 | exact cell_later hb6 (cell_later hb5 e4) | exact cell_drewN _ (cell_later hb6 (cell_later hb5 e4))) (first | (go_at_call 20; refine (Free_len _ _ _ _ _ _ _ hL4 hSt.drew).mono ?_; rintro e w' ⟨rfl, rfl⟩) | (go_at_call 21; refine (Taken_any _ _ _ _ _ _ hSt.drew).mono ?_; rintro e w5 ⟨v5, rfl, hrow5, hb5⟩; obtain ⟨A5, c5, rfl, hI5⟩ := hrow5.ints) | (go_at_call 28; refine (RefTaken_any _ _ _ _ _ hM8 hKt.small (hRt.drew.later hb5)).mono ?_; rintro e w6 ⟨v6, rfl, hrow6, hb6⟩; rw [hKt.same] at hrow6; obtain ⟨A6, c6, rfl, hI6⟩ := hrow6.ints) | (go_at_call 27; refine (SameInts_yes _ _ _ _ _ _ _ (hI5.below hb6) hI6).mono ?_; rintro e w7 ⟨rfl, q, rfl⟩))
              go_wp2
              go_roundw
              case rel => exact ⟨k + 1, _, tk.set m false, by omega, by go_num, ((hSt.drew.later hb5).later hb6).drewN q, ((hRt.drew.later hb5).later hb6).drewN q, hKt, below_drewN ((hbt.drew.trans (hb5.mono hbt.size)).trans (hb6.mono (Nat.le_trans hbt.size hb5.size))) q⟩
              case measure => first | (simp [intOf]; done) | (simp [intOf]; omega)
          · have hmM' : (M : Int) ≤ (m : Int) := by omega
            go_wp2_with (first | (go_at_call 19; refine (Give_range _ _ _ _ _ _ _ _ hSk (.inr hmM') cRk).mono ?_; rintro e w3 ⟨rfl, rfl⟩) | (go_at_call 23; refine (Num_range es aR haR _ hEk).mono ?_; rintro e w4 ⟨rfl, hb4⟩; have hSt := hSk.later hb4; have hRt := hRk.later hb4; have hbt := hbl.trans (hb4.mono hbl.size); have hKt := hK; obtain ⟨A4, c4, L4, hL4, e4⟩ := hRt.len) | (go_at_call 26; refine (RefGive_range _ _ _ _ _ _ hRt (.inr hmM')).mono ?_; rintro e w8 ⟨rfl, rfl⟩))
            go_region_held3 (fun w : World => w.cell? ⟨w2.heap.size, 1, none⟩ = some (.slice A4 L4 c4)) (first | exact e4 | exact cell_later hb5 e4 | exact cell_later hb6 (cell_later hb5 e4) | exact cell_drewN _ (cell_later hb6 (cell_later hb5 e4))) (first | (go_at_call 20; refine (Free_len _ _ _ _ _ _ _ hL4 hSt.drew).mono ?_; rintro e w' ⟨rfl, rfl⟩) | (go_at_call 21; refine (Taken_any _ _ _ _ _ _ hSt.drew).mono ?_; rintro e w5 ⟨v5, rfl, hrow5, hb5⟩; obtain ⟨A5, c5, rfl, hI5⟩ := hrow5.ints) | (go_at_call 28; refine (RefTaken_any _ _ _ _ _ hM8 hKt.small (hRt.drew.later hb5)).mono ?_; rintro e w6 ⟨v6, rfl, hrow6, hb6⟩; rw [hKt.same] at hrow6; obtain ⟨A6, c6, rfl, hI6⟩ := hrow6.ints) | (go_at_call 27; refine (SameInts_yes _ _ _ _ _ _ _ (hI5.below hb6) hI6).mono ?_; rintro e w7 ⟨rfl, q, rfl⟩))
            go_wp2
            go_roundw
            case rel => exact ⟨k + 1, l, tk, by omega, by go_num, ((hSt.drew.later hb5).later hb6).drewN q, ((hRt.drew.later hb5).later hb6).drewN q, hKt, below_drewN ((hbt.drew.trans (hb5.mono hbt.size)).trans (hb6.mono (Nat.le_trans hbt.size hb5.size))) q⟩
            case measure => first | (simp [intOf]; done) | (simp [intOf]; omega)
      · go_wp2_with fail
        go_returns
        exact ⟨rfl, hbl⟩
  · have hout : many < 1 ∨ 8 < many := by omega
    clear hin
    go_enter Tryd.func7, Tryd.ntmps7
    go_wp2_with (first | (go_at_call 16; refine (alive30_any _).mono ?_; rintro e w1 ⟨rfl, hb1⟩; have cR1 := cell_later hb1 cR; have hE1 := hE.later hb1) | (go_at_call 17; refine (New_bad many hout aR _ cR1).mono ?_; rintro e w2 ⟨rfl, hb2⟩; have hE2 := hE1.later hb2) | (go_at_call 24; refine (RefNew_bad many hout _).mono ?_; rintro e w3 ⟨rfl, rfl⟩) | (go_at_call 23; refine (Num_range es aR haR _ hE2).mono ?_; rintro e w3 ⟨rfl, hb3⟩))
    go_returns
    exact ⟨rfl, (hb1.trans (hb2.mono hb1.size)).trans (hb3.mono (Nat.le_trans hb1.size hb2.size))⟩

end Go.Proofs.YtboebjmfchbgbaaDoor
