/-
  The walk of the statement SlotsDesk.
-/
import Derived.Test.YtboebjmfchbgbaaDoorRefDesk2
import Derived.Test.YtboebjmfchbgbaaDoorDesk
import Derived.Test.YtboebjmfchbgbaaDoorSlotsPlays
namespace Go.Proofs.YtboebjmfchbgbaaDoor
open Go Go.RowKit Go.Conc
set_option linter.unusedSimpArgs false
set_option linter.unusedVariables false

structure RDesk (w : World) (R : Nat) (l0 l1 : List Int) : Prop where
  row : ∃ v0 v1, RowAt w R #[v0, v1] 66 ∧ RowI w (R + 1) v0 l0 ∧ RowI w (R + 1) v1 l1
theorem RowI.drewN {w : World} {base : Nat} {v : Value} {l : List Int} (h : RowI w base v l) (q : Nat) : RowI (w.drewN q) base v l := by
  obtain ⟨A, c, e, h4, h5⟩ := h.is
  exact ⟨A, c, e, ⟨h4.len, h4.max, h4.nil, h4.cell⟩, h5⟩
theorem RDesk.drewN {w : World} {R : Nat} {l0 l1 : List Int} (h : RDesk w R l0 l1) (q : Nat) : RDesk (w.drewN q) R l0 l1 := by
  obtain ⟨v0, v1, h1, h2, h3⟩ := h.row
  exact ⟨v0, v1, h1, h2.drewN q, h3.drewN q⟩
theorem RDesk.touch {w w' : World} {R : Nat} {l0 l1 : List Int} {S : Nat → Prop} (h : RDesk w R l0 l1) (ht : Touch w w' S) (hs : ∀ k, R ≤ k → ¬ S k) : RDesk w' R l0 l1 := by
  obtain ⟨v0, v1, h1, h2, h3⟩ := h.row
  exact ⟨v0, v1, h1.touch ht (hs R (Nat.le_refl _)), h2.touch ht (fun k hk => hs k (by omega)), h3.touch ht (fun k hk => hs k (by omega))⟩
theorem RDesk.later {w w' : World} {R : Nat} {l0 l1 : List Int} (h : RDesk w R l0 l1) (hb : Below w.heap.size w w') : RDesk w' R l0 l1 := h.touch (Touch.ofBelow (fun _ => False) hb) (fun _ _ h => h)
theorem DeskAt.drewN {w : World} {D E G : Nat} {l0 l1 : List Int} (h : DeskAt w D E G l0 l1) (q : Nat) : DeskAt (w.drewN q) D E G l0 l1 := ⟨h.row, h.c0, h.c1, h.nE, h.nG, h.ne⟩
theorem DeskAt.touch {w w' : World} {D E G : Nat} {l0 l1 : List Int} {S : Nat → Prop} (h : DeskAt w D E G l0 l1) (ht : Touch w w' S) (hD : ¬ S D) (hE : ¬ S E) (hG : ¬ S G) : DeskAt w' D E G l0 l1 :=
  ⟨h.row.touch ht hD, h.c0.touch ht hE, h.c1.touch ht hG, h.nE, h.nG, h.ne⟩
theorem DeskAt.later {w w' : World} {D E G : Nat} {l0 l1 : List Int} (h : DeskAt w D E G l0 l1) (hb : Below w.heap.size w w') : DeskAt w' D E G l0 l1 := h.touch (Touch.ofBelow (fun _ => False) hb) (fun h => h) (fun h => h) (fun h => h)
theorem RDesk.lens {w : World} {R : Nat} {l0 l1 : List Int} (h : RDesk w R l0 l1) : ∃ A c A' c', w.cell? ⟨R, 0, none⟩ = some (.slice A l0.length c) ∧ w.cell? ⟨R, 1, none⟩ = some (.slice A' l1.length c') := by
  obtain ⟨v0, v1, h1, h2, h3⟩ := h.row
  obtain ⟨A, c, rfl, _, _⟩ := h2.is
  obtain ⟨A', c', rfl, _, _⟩ := h3.is
  exact ⟨A, c, A', c', h1.cellIs 0 _ rfl, h1.cellIs 1 _ rfl⟩
theorem RDesk.first (w : World) (R : Nat) (x : Int) (l0 l1 : List Int) (hlen : l0.length < 16) (h : RDesk w R (x :: l0) l1) :
    Calls Tryd.prog 31 #[.pointer (some ⟨R, 0, none⟩)] w fun e w' => e = .returned (.tuple #[.int .i64 x, .bool true, .bool true]) ∧ Touch w w' (fun k => k = R) ∧ RDesk w' R l0 l1 := by
  obtain ⟨v0, v1, h1, h2, h3⟩ := h.row
  refine (RefNext_some w (R + 1) R 0 x l0 v0 _ (by decide) hlen h1 rfl h2 (fun k hk => by omega)).mono ?_
  rintro e w' ⟨rfl, ht, v', hr, hi⟩
  exact ⟨rfl, ht, v', v1, hr, hi.weaken h1.lt, h3.touch ht (fun k hk => by omega)⟩
theorem RDesk.second (w : World) (R : Nat) (x : Int) (l1 : List Int) (hlen : l1.length < 16) (h : RDesk w R [] (x :: l1)) :
    Calls Tryd.prog 31 #[.pointer (some ⟨R, 0, none⟩)] w fun e w' => e = .returned (.tuple #[.int .i64 x, .bool false, .bool true]) ∧ Touch w w' (fun k => k = R) ∧ RDesk w' R [] l1 := by
  obtain ⟨v0, v1, h1, h2, h3⟩ := h.row
  refine (RefNext_some w (R + 1) R 1 x l1 v1 _ (by decide) hlen h1 rfl h3 (fun k hk => ?_)).mono ?_
  · obtain rfl : k = 0 := by omega
    obtain ⟨A, c, rfl, _, _⟩ := h2.is
    exact ⟨A, c, rfl⟩
  rintro e w' ⟨rfl, ht, v', hr, hi⟩
  exact ⟨rfl, ht, v0, v', hr, h2.touch ht (fun k hk => by omega), hi.weaken h1.lt⟩
theorem RDesk.nothing (w : World) (R : Nat) (h : RDesk w R [] []) :
    Calls Tryd.prog 31 #[.pointer (some ⟨R, 0, none⟩)] w fun e w' => e = .returned (.tuple #[.int .i64 0, .bool false, .bool false]) ∧ w = w' := by
  obtain ⟨v0, v1, h1, h2, h3⟩ := h.row
  obtain ⟨A, c, rfl, _, _⟩ := h2.is
  obtain ⟨A', c', rfl, _, _⟩ := h3.is
  exact RefNext_none w R A A' c c' h1
theorem RDesk.put0 (w : World) (R : Nat) (x : Int) (l0 l1 : List Int) (hroom : l0.length < 16) (h : RDesk w R l0 l1) :
    Calls Tryd.prog 33 #[.pointer (some ⟨R, 0, none⟩), .int .i64 0, .int .i64 x] w fun e w' => e = .returned (.int .i64 0) ∧ Touch w w' (fun k => k = R) ∧ RDesk w' R (l0 ++ [x]) l1 := by
  obtain ⟨v0, v1, h1, h2, h3⟩ := h.row
  refine (RefPut_ok w (R + 1) R 0 x l0 v0 _ (by decide) h1 rfl h2 hroom).mono ?_
  rintro e w' ⟨rfl, ht, v', hr, hi⟩
  exact ⟨rfl, ht, v', v1, hr, hi.weaken h1.lt, h3.touch ht (fun k hk => by omega)⟩
theorem RDesk.put1 (w : World) (R : Nat) (x : Int) (l0 l1 : List Int) (hroom : l1.length < 16) (h : RDesk w R l0 l1) :
    Calls Tryd.prog 33 #[.pointer (some ⟨R, 0, none⟩), .int .i64 1, .int .i64 x] w fun e w' => e = .returned (.int .i64 0) ∧ Touch w w' (fun k => k = R) ∧ RDesk w' R l0 (l1 ++ [x]) := by
  obtain ⟨v0, v1, h1, h2, h3⟩ := h.row
  refine (RefPut_ok w (R + 1) R 1 x l1 v1 _ (by decide) h1 rfl h3 hroom).mono ?_
  rintro e w' ⟨rfl, ht, v', hr, hi⟩
  exact ⟨rfl, ht, v0, v', hr, h2.touch ht (fun k hk => by omega), hi.weaken h1.lt⟩
theorem RDesk.full0 (w : World) (R : Nat) (x : Int) (l0 l1 : List Int) (hfull : 16 ≤ l0.length) (h : RDesk w R l0 l1) :
    Calls Tryd.prog 33 #[.pointer (some ⟨R, 0, none⟩), .int .i64 0, .int .i64 x] w fun e w' => e = .returned (.int .i64 10) ∧ w = w' := by
  obtain ⟨v0, v1, h1, h2, h3⟩ := h.row
  exact RefPut_full w (R + 1) R 0 x l0 v0 _ (by decide) h1 rfl h2 hfull
theorem RDesk.full1 (w : World) (R : Nat) (x : Int) (l0 l1 : List Int) (hfull : 16 ≤ l1.length) (h : RDesk w R l0 l1) :
    Calls Tryd.prog 33 #[.pointer (some ⟨R, 0, none⟩), .int .i64 1, .int .i64 x] w fun e w' => e = .returned (.int .i64 10) ∧ w = w' := by
  obtain ⟨v0, v1, h1, h2, h3⟩ := h.row
  exact RefPut_full w (R + 1) R 1 x l1 v1 _ (by decide) h1 rfl h3 hfull
theorem Num_full (es : List Addr) (a : Addr) (h : es[9]? = some a) (w : World) (hE : Errs w es) :
    Calls Tryd.prog 23 #[.iface 98 (.pointer (some a))] w fun e w' => e = .returned (.int .i64 10) ∧ Below w.heap.size w w' := Num_err es 9 a h w hE
theorem Len_at (w : World) (D E G : Nat) (l0 l1 : List Int) (h : DeskAt w D E G l0 l1) (h0 : l0.length ≤ 16) (h1 : l1.length ≤ 16) (n : Nat) :
    Calls Tryd.prog 35 #[.pointer (some ⟨D, 0, none⟩)] (w.drewN n) fun e w' => e = .returned (.int .i64 ((l0.length : Int) + (l1.length : Int))) ∧ ∃ q, w' = (w.drewN n).drewN q := Len_any _ D E G l0 l1 (h.drewN n) h0 h1

set_option maxHeartbeats 8000000 in
set_option maxRecDepth 100000 in
theorem SlotsDesk_walk (A : Option Addr) (n c : Nat) (xs : List Int) (W : World) (hx : Ints W A n c xs) (zx : ∀ x ∈ xs, (Lit.int .i64 x).wf = true) (hE : ∃ es, Errs W es) :
    Calls Tryd.prog 8 #[.slice A n c] W fun e w' => e = .returned (.bool true) ∧ Below W.heap.size W w' := by
  obtain ⟨es, hE⟩ := hE
  obtain ⟨aF, haF⟩ : ∃ a, es[9]? = some a := ⟨_, List.getElem?_eq_getElem (by rw [hE.len]; decide)⟩
  have cF : W.cell? ⟨10, 0, none⟩ = some (.iface 98 (.pointer (some aF))) := hE.cell 9 _ _ rfl haF
  by_cases hbig : 200 < n
  · go_enter Tryd.func8, Tryd.ntmps8
    go_wp2_with (go_at_call 16; refine (alive30_any _).mono ?_; rintro e w1 ⟨rfl, hb⟩)
    go_returns
    exact ⟨rfl, hb⟩
  go_enter Tryd.func8, Tryd.ntmps8
  go_wp2_with (first | (go_at_call 16; refine (alive30_any _).mono ?_; rintro e w1 ⟨rfl, hb1⟩) | (go_at_call 29; refine (NewDesk_ok _).mono ?_; rintro e w2 ⟨D, E, G, rfl, hb2, hS, hD1, hE1, hG1⟩))
  have hDl := hS.row.lt
  have hEl := hS.c0.lt
  have hGl := hS.c1.lt
  have hW1 := hb1.size
  have hW2 : W.heap.size ≤ w2.heap.size := Nat.le_trans hW1 hb2.size
  have hbW2 : Below W.heap.size W w2 := hb1.trans (hb2.mono hW1)
  have hownW : ∀ k, k < W.heap.size → ¬ OwnD E G k := by intro k hk; unfold OwnD; omega
  have hownR : ∀ k, w2.heap.size ≤ k → ¬ OwnD E G k := by intro k hk; unfold OwnD; omega
  have hnD : ¬ (D = w2.heap.size) := by omega
  have hnE : ¬ (E = w2.heap.size) := by omega
  have hnG : ¬ (G = w2.heap.size) := by omega
  have hnW : ∀ k, k < W.heap.size → ¬ (k = w2.heap.size) := by intro k hk; omega
  go_loopw [25] (fun i wr => ∃ (k : Nat) (l0 l1 : List Int), k ≤ n ∧ i = .int .i64 k ∧ DeskAt wr D E G l0 l1 ∧ RDesk wr w2.heap.size l0 l1 ∧ l0.length ≤ 16 ∧ l1.length ≤ 16 ∧ Below W.heap.size W wr) (fun i _ => n - (intOf i).toNat)
  case atStart =>
    refine ⟨0, [], [], Nat.zero_le _, rfl, hS.later ((Below.refl _ _).alloc (Nat.le_refl _) _), ⟨_, _, RowAt.new _ _ _, ⟨none, 0, rfl, ⟨rfl, by decide, fun _ => ⟨rfl, rfl⟩, fun a ha => by cases ha⟩, fun a ha => by cases ha⟩, ⟨none, 0, rfl, ⟨rfl, by decide, fun _ => ⟨rfl, rfl⟩, fun a ha => by cases ha⟩, fun a ha => by cases ha⟩⟩, by decide, by decide, hbW2.alloc hW2 _⟩
  case round =>
    obtain ⟨k, l0, l1, hk, rfl, hDk, hRk, hl0, hl1, hbl⟩ := hrel
    clear hS hb1 hb2 hbW2
    by_cases hlt : k < n
    · obtain ⟨a, x, rfl, hxk, ck⟩ := (hx.below hbl).at_ hlt
      have hwf := zx x (List.mem_of_getElem? hxk)
      have cFk := cell_later hbl cF
      have hEk := hE.later hbl
      by_cases hneg : x < 0
      · cases l0 with
        | nil =>
          cases l1 with
          | nil =>
            have hDt := hDk
            have hRt := hRk
            have hbt := hbl
            have ht0 := hl0
            have ht1 := hl1
            obtain ⟨A4, c4, A5, c5, e4, e5⟩ := hRt.lens
            go_wp2_with (first | (go_at_call 30; refine (Next_none _ _ _ _ hDk).mono ?_; rintro e w3 ⟨rfl, rfl⟩) | (go_at_call 31; refine (RDesk.nothing _ _ hRk).mono ?_; rintro e w3 ⟨rfl, rfl⟩))
            go_quiet (first | (go_at_call 35; exact Calls.quiet_of (Len_at _ _ _ _ _ _ hDt ht0 ht1 _)))
            go_wp2_with fail
            go_roundw
            case rel => exact ⟨k + 1, [], [], by omega, by go_num, hDt.drewN _, hRt.drewN _, ht0, ht1, below_drewN hbt _⟩
            case measure => first | (simp [intOf]; done) | (simp [intOf]; omega)
          | cons y l1 =>
            have hl1t : l1.length < 16 := by simp at hl1; omega
            go_wp2_with (first | (go_at_call 30; refine (Next_second _ _ _ _ y l1 hDk).mono ?_; rintro e w3 ⟨rfl, ht3, hD3⟩; have hR3 := hRk.touch ht3 hownR) | (go_at_call 31; refine (RDesk.second _ _ y l1 hl1t hR3).mono ?_; rintro e w4 ⟨rfl, ht4, hRt⟩; have hDt := hD3.touch ht4 hnD hnE hnG; have hbt : Below W.heap.size W w4 := (hbl.trans (ht3.below hbl.size hownW)).trans (ht4.below (Nat.le_trans hbl.size ht3.size) hnW); have ht0 : ([] : List Int).length ≤ 16 := (by (try simp); (try omega)); have ht1 : (l1 : List Int).length ≤ 16 := (by (try simp); (try omega)); obtain ⟨A4, c4, A5, c5, e4, e5⟩ := hRt.lens))
            go_quiet (first | (go_at_call 35; exact Calls.quiet_of (Len_at _ _ _ _ _ _ hDt ht0 ht1 _)))
            go_wp2_with fail
            go_roundw
            case rel => exact ⟨k + 1, [], l1, by omega, by go_num, hDt.drewN _, hRt.drewN _, ht0, ht1, below_drewN hbt _⟩
            case measure => first | (simp [intOf]; done) | (simp [intOf]; omega)
        | cons y l0 =>
          have hl0t : l0.length < 16 := by simp at hl0; omega
          go_wp2_with (first | (go_at_call 30; refine (Next_first _ _ _ _ y l0 l1 hDk).mono ?_; rintro e w3 ⟨rfl, ht3, hD3⟩; have hR3 := hRk.touch ht3 hownR) | (go_at_call 31; refine (RDesk.first _ _ y l0 l1 hl0t hR3).mono ?_; rintro e w4 ⟨rfl, ht4, hRt⟩; have hDt := hD3.touch ht4 hnD hnE hnG; have hbt : Below W.heap.size W w4 := (hbl.trans (ht3.below hbl.size hownW)).trans (ht4.below (Nat.le_trans hbl.size ht3.size) hnW); have ht0 : (l0 : List Int).length ≤ 16 := (by (try simp); (try omega)); have ht1 : (l1 : List Int).length ≤ 16 := (by (try simp); (try omega)); obtain ⟨A4, c4, A5, c5, e4, e5⟩ := hRt.lens))
          go_quiet (first | (go_at_call 35; exact Calls.quiet_of (Len_at _ _ _ _ _ _ hDt ht0 ht1 _)))
          go_wp2_with fail
          go_roundw
          case rel => exact ⟨k + 1, l0, l1, by omega, by go_num, hDt.drewN _, hRt.drewN _, ht0, ht1, below_drewN hbt _⟩
          case measure => first | (simp [intOf]; done) | (simp [intOf]; omega)
      · obtain ⟨m, rfl⟩ := Int.eq_ofNat_of_zero_le (show 0 ≤ x by omega)
        obtain ⟨b, hev⟩ : ∃ b, ((m : Int) % 2 == 0) = b := ⟨_, rfl⟩
        cases b
        rotate_left
        · by_cases hr : l0.length < 16
          · go_wp2_with (first | (go_at_call 32; refine (Ended_room _ _ _ _ _ _ _ hDk hr).mono ?_; rintro e w3 ⟨rfl, ht3, hD3⟩; have hR3 := hRk.touch ht3 hownR) | (go_at_call 23; refine (Num_nil _).mono ?_; rintro e w8 ⟨rfl, rfl⟩) | (go_at_call 33; refine (RDesk.put0 _ _ _ _ _ hr hR3).mono ?_; rintro e w4 ⟨rfl, ht4, hRt⟩; have hDt := hD3.touch ht4 hnD hnE hnG; have hbt : Below W.heap.size W w4 := (hbl.trans (ht3.below hbl.size hownW)).trans (ht4.below (Nat.le_trans hbl.size ht3.size) hnW); have ht0 : (l0 ++ [(m : Int)] : List Int).length ≤ 16 := (by (try simp); (try omega)); have ht1 : (l1 : List Int).length ≤ 16 := (by (try simp); (try omega)); obtain ⟨A4, c4, A5, c5, e4, e5⟩ := hRt.lens))
            go_quiet (first | (go_at_call 35; exact Calls.quiet_of (Len_at _ _ _ _ _ _ hDt ht0 ht1 _)))
            go_wp2_with fail
            go_roundw
            case rel => exact ⟨k + 1, _, l1, by omega, by go_num, hDt.drewN _, hRt.drewN _, ht0, ht1, below_drewN hbt _⟩
            case measure => first | (simp [intOf]; done) | (simp [intOf]; omega)
          · have hf : 16 ≤ l0.length := by omega
            go_wp2_with (first | (go_at_call 32; refine (Ended_full _ _ _ _ _ _ _ _ hDk hf cFk).mono ?_; rintro e w3 ⟨rfl, rfl⟩) | (go_at_call 23; refine (Num_full es aF haF _ hEk).mono ?_; rintro e w4 ⟨rfl, hb4⟩; have hDt := hDk.later hb4; have hRt := hRk.later hb4; have hbt := hbl.trans (hb4.mono hbl.size); have ht0 := hl0; have ht1 := hl1; obtain ⟨A4, c4, A5, c5, e4, e5⟩ := hRt.lens) | (go_at_call 33; refine (RDesk.full0 _ _ _ _ _ hf hRt).mono ?_; rintro e w8 ⟨rfl, rfl⟩))
            go_quiet (first | (go_at_call 35; exact Calls.quiet_of (Len_at _ _ _ _ _ _ hDt ht0 ht1 _)))
            go_wp2_with fail
            go_roundw
            case rel => exact ⟨k + 1, l0, l1, by omega, by go_num, hDt.drewN _, hRt.drewN _, ht0, ht1, below_drewN hbt _⟩
            case measure => first | (simp [intOf]; done) | (simp [intOf]; omega)
        · by_cases hr : l1.length < 16
          · go_wp2_with (first | (go_at_call 34; refine (Begins_room _ _ _ _ _ _ _ hDk hr).mono ?_; rintro e w3 ⟨rfl, ht3, hD3⟩; have hR3 := hRk.touch ht3 hownR) | (go_at_call 23; refine (Num_nil _).mono ?_; rintro e w8 ⟨rfl, rfl⟩) | (go_at_call 33; refine (RDesk.put1 _ _ _ _ _ hr hR3).mono ?_; rintro e w4 ⟨rfl, ht4, hRt⟩; have hDt := hD3.touch ht4 hnD hnE hnG; have hbt : Below W.heap.size W w4 := (hbl.trans (ht3.below hbl.size hownW)).trans (ht4.below (Nat.le_trans hbl.size ht3.size) hnW); have ht0 : (l0 : List Int).length ≤ 16 := (by (try simp); (try omega)); have ht1 : (l1 ++ [(m : Int)] : List Int).length ≤ 16 := (by (try simp); (try omega)); obtain ⟨A4, c4, A5, c5, e4, e5⟩ := hRt.lens))
            go_quiet (first | (go_at_call 35; exact Calls.quiet_of (Len_at _ _ _ _ _ _ hDt ht0 ht1 _)))
            go_wp2_with fail
            go_roundw
            case rel => exact ⟨k + 1, l0, _, by omega, by go_num, hDt.drewN _, hRt.drewN _, ht0, ht1, below_drewN hbt _⟩
            case measure => first | (simp [intOf]; done) | (simp [intOf]; omega)
          · have hf : 16 ≤ l1.length := by omega
            go_wp2_with (first | (go_at_call 34; refine (Begins_full _ _ _ _ _ _ _ _ hDk hf cFk).mono ?_; rintro e w3 ⟨rfl, rfl⟩) | (go_at_call 23; refine (Num_full es aF haF _ hEk).mono ?_; rintro e w4 ⟨rfl, hb4⟩; have hDt := hDk.later hb4; have hRt := hRk.later hb4; have hbt := hbl.trans (hb4.mono hbl.size); have ht0 := hl0; have ht1 := hl1; obtain ⟨A4, c4, A5, c5, e4, e5⟩ := hRt.lens) | (go_at_call 33; refine (RDesk.full1 _ _ _ _ _ hf hRt).mono ?_; rintro e w8 ⟨rfl, rfl⟩))
            go_quiet (first | (go_at_call 35; exact Calls.quiet_of (Len_at _ _ _ _ _ _ hDt ht0 ht1 _)))
            go_wp2_with fail
            go_roundw
            case rel => exact ⟨k + 1, l0, l1, by omega, by go_num, hDt.drewN _, hRt.drewN _, ht0, ht1, below_drewN hbt _⟩
            case measure => first | (simp [intOf]; done) | (simp [intOf]; omega)
    · go_wp2_with fail
      go_returns
      exact ⟨rfl, hbl⟩

end Go.Proofs.YtboebjmfchbgbaaDoor
