/-
  The walks of the desk of package slots.
-/
import Derived.Test.YtboebjmfchbgbaaDoorSlots
import Derived.Deep.QuietTactic
import Derived.BigQuiet
import Derived.Deep.RegionWith
namespace Go.Proofs.YtboebjmfchbgbaaDoor
open Go Go.RowKit Go.Conc
set_option linter.unusedSimpArgs false
set_option linter.unusedVariables false

structure DeskAt (w : World) (D E G : Nat) (l0 l1 : List Int) : Prop where
  row : RowAt w D #[.chan (some E), .chan (some G)] 82
  c0 : ChanAt w E 16 l0
  c1 : ChanAt w G 16 l1
  nE : D ≠ E
  nG : D ≠ G
  ne : E ≠ G
def OwnD (E G : Nat) (k : Nat) : Prop := k = E ∨ k = G

theorem ChanAt.other {w : World} {C cap : Nat} {l : List Int} (h : ChanAt w C cap l) {D : Nat} (hne : C ≠ D) (cap' : Nat) (buf : Array Value) (cl : Bool) (s r : Nat) (tm : Bool) : ChanAt (w.setChan D cap' buf cl s r tm) C cap l := by
  obtain ⟨s0, r0, h⟩ := h
  refine ⟨s0, r0, ?_⟩
  simp only [World.setChan]
  rw [Array.getElem?_setIfInBounds_ne (Ne.symm hne)]; exact h

theorem put_room (w : World) (C : Nat) (x : Int) (l : List Int) (h : ChanAt w C 16 l) (hroom : l.length < 16) :
    Calls Tryd.prog 42 #[.chan (some C), .int .i64 x] w fun e w' => e = .returned .nilIface ∧ Touch w w' (fun k => k = C) ∧ ChanAt w' C 16 (l ++ [x]) ∧ ∃ buf s r, w' = w.setChan C 16 buf false s r false := by
  have hlt := h.lt
  obtain ⟨s, r, hc⟩ := h
  obtain ⟨W, hW⟩ : ∃ W, w.setChan C 16 (ints (l ++ [x])) false (s + 1) r false = W := ⟨_, rfl⟩
  have hch : ChanAt W C 16 (l ++ [x]) := by rw [← hW]; exact ChanAt.new hlt _ _ _ rfl _ _
  have htW : Touch w W (fun k => k = C) := by rw [← hW]; exact (Touch.refl _ _).setChan _ _ _ _ _ _ rfl
  have hp := ints_push l x
  go_enter Tryd.func42, Tryd.ntmps42
  iterate 26 (go_step)
  refine wp_region_comm (v := .tuple #[goInt 0, .bool false]) (cases := #[scase C (.int .i64 x) (.int .i64 0)]) (blocking := false) (shape := .select) (w1 := w) (w2 := W) rfl (by simp [go_sem, execOp, scase, Act.eval])
    (fun fr cs es hs => by have := step_lone_select_send_room hs hc (by rw [ints_size]; exact hroom); rw [hp, hW] at this; exact this) ?_
  go_wp2
  go_returns
  exact ⟨rfl, htW, hch, _, _, _, hW.symm⟩
theorem put_full (w : World) (C : Nat) (x : Int) (l : List Int) (a : Addr) (h : ChanAt w C 16 l) (hfull : 16 ≤ l.length)
    (cF : w.cell? ⟨10, 0, none⟩ = some (.iface 98 (.pointer (some a)))) :
    Calls Tryd.prog 42 #[.chan (some C), .int .i64 x] w fun e w' => e = .returned (.iface 98 (.pointer (some a))) ∧ w = w' := by
  obtain ⟨s, r, hc⟩ := h
  go_enter Tryd.func42, Tryd.ntmps42
  iterate 26 (go_step)
  refine wp_region_comm (v := .tuple #[goInt (-1), .bool false]) (cases := #[scase C (.int .i64 x) (.int .i64 0)]) (blocking := false) (shape := .select) (w1 := w) (w2 := w) rfl (by simp [go_sem, execOp, scase, Act.eval])
    (fun fr cs es hs => step_lone_select_send_full hs hc (by rw [ints_size]; exact hfull)) ?_
  go_wp2
  go_returns
  exact ⟨rfl, rfl⟩

theorem Ended_room (w : World) (D E G : Nat) (x : Int) (l0 l1 : List Int) (h : DeskAt w D E G l0 l1) (hroom : l0.length < 16) :
    Calls Tryd.prog 32 #[.pointer (some ⟨D, 0, none⟩), .int .i64 x] w fun e w' => e = .returned .nilIface ∧ Touch w w' (OwnD E G) ∧ DeskAt w' D E G (l0 ++ [x]) l1 := by
  have d0 := h.row.cellIs 0 _ rfl
  go_enter Tryd.func32, Tryd.ntmps32
  go_wp2_with (go_at_call 42; refine (put_room _ _ _ _ h.c0 hroom).mono ?_; rintro e w' ⟨rfl, ht, hc, buf, s, r, rfl⟩)
  go_returns
  refine ⟨rfl, ht.mono (fun k hk => .inl hk), ?_⟩
  exact ⟨h.row.setChan h.nE _ _ _ _ _ _, hc, h.c1.other h.ne.symm _ _ _ _ _ _, h.nE, h.nG, h.ne⟩
theorem Begins_room (w : World) (D E G : Nat) (x : Int) (l0 l1 : List Int) (h : DeskAt w D E G l0 l1) (hroom : l1.length < 16) :
    Calls Tryd.prog 34 #[.pointer (some ⟨D, 0, none⟩), .int .i64 x] w fun e w' => e = .returned .nilIface ∧ Touch w w' (OwnD E G) ∧ DeskAt w' D E G l0 (l1 ++ [x]) := by
  have d1 := h.row.cellIs 1 _ rfl
  go_enter Tryd.func34, Tryd.ntmps34
  go_wp2_with (go_at_call 42; refine (put_room _ _ _ _ h.c1 hroom).mono ?_; rintro e w' ⟨rfl, ht, hc, buf, s, r, rfl⟩)
  go_returns
  refine ⟨rfl, ht.mono (fun k hk => .inr hk), ?_⟩
  exact ⟨h.row.setChan h.nG _ _ _ _ _ _, h.c0.other h.ne _ _ _ _ _ _, hc, h.nE, h.nG, h.ne⟩
theorem Ended_full (w : World) (D E G : Nat) (x : Int) (l0 l1 : List Int) (a : Addr) (h : DeskAt w D E G l0 l1) (hfull : 16 ≤ l0.length)
    (cF : w.cell? ⟨10, 0, none⟩ = some (.iface 98 (.pointer (some a)))) :
    Calls Tryd.prog 32 #[.pointer (some ⟨D, 0, none⟩), .int .i64 x] w fun e w' => e = .returned (.iface 98 (.pointer (some a))) ∧ w = w' := by
  have d0 := h.row.cellIs 0 _ rfl
  go_enter Tryd.func32, Tryd.ntmps32
  go_wp2_with (go_at_call 42; refine (put_full _ _ _ _ _ h.c0 hfull cF).mono ?_; rintro e w' ⟨rfl, rfl⟩)
  go_returns
  exact ⟨rfl, rfl⟩
theorem Begins_full (w : World) (D E G : Nat) (x : Int) (l0 l1 : List Int) (a : Addr) (h : DeskAt w D E G l0 l1) (hfull : 16 ≤ l1.length)
    (cF : w.cell? ⟨10, 0, none⟩ = some (.iface 98 (.pointer (some a)))) :
    Calls Tryd.prog 34 #[.pointer (some ⟨D, 0, none⟩), .int .i64 x] w fun e w' => e = .returned (.iface 98 (.pointer (some a))) ∧ w = w' := by
  have d1 := h.row.cellIs 1 _ rfl
  go_enter Tryd.func34, Tryd.ntmps34
  go_wp2_with (go_at_call 42; refine (put_full _ _ _ _ _ h.c1 hfull cF).mono ?_; rintro e w' ⟨rfl, rfl⟩)
  go_returns
  exact ⟨rfl, rfl⟩

theorem Len_any (w : World) (D E G : Nat) (l0 l1 : List Int) (h : DeskAt w D E G l0 l1) (h0 : l0.length ≤ 16) (h1 : l1.length ≤ 16) :
    Calls Tryd.prog 35 #[.pointer (some ⟨D, 0, none⟩)] w fun e w' => e = .returned (.int .i64 ((l0.length : Int) + (l1.length : Int))) ∧ ∃ q, w' = w.drewN q := by
  have d0 := h.row.cellIs 0 _ rfl
  have d1 := h.row.cellIs 1 _ rfl
  obtain ⟨s, r, hc⟩ := h.c0
  have hlc := fun n : Nat => run_len_chan (P := Tryd.prog) (w := w.drewN n) 75 3 Tryd.underlying75 (show (w.drewN n).heap[E]? = _ from hc)
  simp only [ints_size] at hlc
  obtain ⟨s', r', hc'⟩ := h.c1
  have hld := fun n : Nat => run_len_chan (P := Tryd.prog) (w := w.drewN n) 75 3 Tryd.underlying75 (show (w.drewN n).heap[G]? = _ from hc')
  simp only [ints_size] at hld
  go_enter Tryd.func35, Tryd.ntmps35
  go_wp2
  go_quiet (fail)
  go_wp2
  go_returns
  exact ⟨rfl, _, rfl⟩

theorem desk_new (w : World) (E G : Nat) (h : E = w.heap.size ∧ G = w.heap.size + 1 ∨ E = w.heap.size + 1 ∧ G = w.heap.size) :
    Below w.heap.size w (((w.alloc (.chan 16 #[] false 0 0 false)).alloc (.chan 16 #[] false 0 0 false)).alloc (.cells #[.chan (some E), .chan (some G)] 82)).drew ∧ DeskAt (((w.alloc (.chan 16 #[] false 0 0 false)).alloc (.chan 16 #[] false 0 0 false)).alloc (.cells #[.chan (some E), .chan (some G)] 82)).drew (w.heap.size + 1 + 1) E G [] [] := by
  refine ⟨((((Below.refl _ _).alloc (Nat.le_refl _) _).alloc (by simp) _).alloc (by simp; omega) _).drew, ?_⟩
  have hrow := RowAt.new ((w.alloc (.chan 16 #[] false 0 0 false)).alloc (.chan 16 #[] false 0 0 false)) #[.chan (some E), .chan (some G)] 82
  simp only [World.size_alloc] at hrow
  have c0 : ChanAt (((w.alloc (.chan 16 #[] false 0 0 false)).alloc (.chan 16 #[] false 0 0 false)).alloc (.cells #[.chan (some E), .chan (some G)] 82)).drew w.heap.size 16 [] := by
    refine ⟨0, 0, ?_⟩
    show ((((w.heap.push _).push _).push _)[w.heap.size]? = _)
    rw [Array.getElem?_push, if_neg (by simp; try omega), Array.getElem?_push, if_neg (by simp), Array.getElem?_push_size]
    rfl
  have c1 : ChanAt (((w.alloc (.chan 16 #[] false 0 0 false)).alloc (.chan 16 #[] false 0 0 false)).alloc (.cells #[.chan (some E), .chan (some G)] 82)).drew (w.heap.size + 1) 16 [] := by
    refine ⟨0, 0, ?_⟩
    show ((((w.heap.push _).push _).push _)[w.heap.size + 1]? = _)
    have h2 := Array.getElem?_push_size (xs := w.heap.push (.chan 16 #[] false 0 0 false)) (x := Obj.chan 16 #[] false 0 0 false)
    rw [Array.size_push] at h2
    rw [Array.getElem?_push, if_neg (by simp)]
    exact h2
  rcases h with ⟨rfl, rfl⟩ | ⟨rfl, rfl⟩
  · exact ⟨hrow.drew, c0, c1, by omega, by omega, by omega⟩
  · exact ⟨hrow.drew, c1, c0, by omega, by omega, by omega⟩
theorem NewDesk_ok (w : World) :
    Calls Tryd.prog 29 #[] w fun e w' => ∃ D E G, e = .returned (.pointer (some ⟨D, 0, none⟩)) ∧ Below w.heap.size w w' ∧ DeskAt w' D E G [] [] ∧ w.heap.size ≤ D ∧ w.heap.size ≤ E ∧ w.heap.size ≤ G := by
  have hmk : ∀ w, (Instr.makeChan 75 (.int .i64 16)).run Tryd.prog w = .ok (.chan (some w.heap.size)) (w.alloc (.chan 16 #[] false 0 0 false)) := fun w => mk_chan 16 (by decide) w
  go_enter Tryd.func29, Tryd.ntmps29
  go_wp2
  go_region_with (fail)
  · go_wp2
    go_returns
    obtain ⟨h1, h2⟩ := desk_new w _ _ (.inl ⟨rfl, rfl⟩)
    exact ⟨_, _, _, rfl, h1, h2, by omega, Nat.le_refl _, by omega⟩
  · go_wp2
    go_returns
    obtain ⟨h1, h2⟩ := desk_new w _ _ (.inr ⟨rfl, rfl⟩)
    exact ⟨_, _, _, rfl, h1, h2, by omega, by omega, Nat.le_refl _⟩

theorem Next_none (w : World) (D E G : Nat) (h : DeskAt w D E G [] []) :
    Calls Tryd.prog 30 #[.pointer (some ⟨D, 0, none⟩)] w fun e w' => e = .returned (.tuple #[.int .i64 0, .bool false, .bool false]) ∧ w = w' := by
  have d0 := h.row.cellIs 0 _ rfl
  have d1 := h.row.cellIs 1 _ rfl
  obtain ⟨s, r, hc⟩ := h.c0
  have hcc : w.heap[E]? = some (.chan 16 #[] false s r false) := hc
  obtain ⟨s', r', hc'⟩ := h.c1
  have hcc' : w.heap[G]? = some (.chan 16 #[] false s' r' false) := hc'
  go_enter Tryd.func30, Tryd.ntmps30
  iterate 34 (go_step)
  refine wp_region_comm (v := .tuple #[goInt (-1), .bool false, .int .i64 0]) (cases := #[rcase E (.int .i64 0)]) (blocking := false) (shape := .select) (w1 := w) (w2 := w) rfl (by simp [go_sem, execOp, rcase, Act.eval]) (fun fr cs es hs => step_lone_select_default hs hcc) ?_
  iterate 32 (go_step)
  refine wp_region_comm (v := .tuple #[goInt (-1), .bool false, .int .i64 0]) (cases := #[rcase G (.int .i64 0)]) (blocking := false) (shape := .select) (w1 := w) (w2 := w) rfl (by simp [go_sem, execOp, rcase, Act.eval]) (fun fr cs es hs => step_lone_select_default hs hcc') ?_
  go_wp2
  go_returns
  exact ⟨rfl, rfl⟩
theorem Next_first (w : World) (D E G : Nat) (x : Int) (l0 l1 : List Int) (h : DeskAt w D E G (x :: l0) l1) :
    Calls Tryd.prog 30 #[.pointer (some ⟨D, 0, none⟩)] w fun e w' => e = .returned (.tuple #[.int .i64 x, .bool true, .bool true]) ∧ Touch w w' (OwnD E G) ∧ DeskAt w' D E G l0 l1 := by
  have d0 := h.row.cellIs 0 _ rfl
  have hlt := h.c0.lt
  obtain ⟨s, r, hc⟩ := h.c0
  have hp := ints_pop x l0
  obtain ⟨W, hW⟩ : ∃ W, w.setChan E 16 (ints l0) false s (r + 1) false = W := ⟨_, rfl⟩
  go_enter Tryd.func30, Tryd.ntmps30
  iterate 34 (go_step)
  refine wp_region_comm (v := .tuple #[goInt 0, .bool true, .int .i64 x]) (cases := #[rcase E (.int .i64 0)]) (blocking := false) (shape := .select) (w1 := w) (w2 := W) rfl (by simp [go_sem, execOp, rcase, Act.eval])
    (fun fr cs es hs => by have := step_lone_select_recv_buf hs hc (by simp [ints]); rw [hp, hW] at this; exact this) ?_
  go_wp2
  go_returns
  refine ⟨rfl, by rw [← hW]; exact (Touch.refl _ _).setChan _ _ _ _ _ _ (.inl rfl), ?_⟩
  rw [← hW]
  exact ⟨h.row.setChan h.nE _ _ _ _ _ _, ChanAt.new hlt _ _ _ rfl _ _, h.c1.other h.ne.symm _ _ _ _ _ _, h.nE, h.nG, h.ne⟩
theorem Next_second (w : World) (D E G : Nat) (x : Int) (l1 : List Int) (h : DeskAt w D E G [] (x :: l1)) :
    Calls Tryd.prog 30 #[.pointer (some ⟨D, 0, none⟩)] w fun e w' => e = .returned (.tuple #[.int .i64 x, .bool false, .bool true]) ∧ Touch w w' (OwnD E G) ∧ DeskAt w' D E G [] l1 := by
  have d0 := h.row.cellIs 0 _ rfl
  have d1 := h.row.cellIs 1 _ rfl
  have hlt := h.c1.lt
  obtain ⟨s0, r0, hc0⟩ := h.c0
  have hcc : w.heap[E]? = some (.chan 16 #[] false s0 r0 false) := hc0
  obtain ⟨s, r, hc⟩ := h.c1
  have hp := ints_pop x l1
  obtain ⟨W, hW⟩ : ∃ W, w.setChan G 16 (ints l1) false s (r + 1) false = W := ⟨_, rfl⟩
  go_enter Tryd.func30, Tryd.ntmps30
  iterate 34 (go_step)
  refine wp_region_comm (v := .tuple #[goInt (-1), .bool false, .int .i64 0]) (cases := #[rcase E (.int .i64 0)]) (blocking := false) (shape := .select) (w1 := w) (w2 := w) rfl (by simp [go_sem, execOp, rcase, Act.eval]) (fun fr cs es hs => step_lone_select_default hs hcc) ?_
  iterate 32 (go_step)
  refine wp_region_comm (v := .tuple #[goInt 0, .bool true, .int .i64 x]) (cases := #[rcase G (.int .i64 0)]) (blocking := false) (shape := .select) (w1 := w) (w2 := W) rfl (by simp [go_sem, execOp, rcase, Act.eval])
    (fun fr cs es hs => by have := step_lone_select_recv_buf hs hc (by simp [ints]); rw [hp, hW] at this; exact this) ?_
  go_wp2
  go_returns
  refine ⟨rfl, by rw [← hW]; exact (Touch.refl _ _).setChan _ _ _ _ _ _ (.inr rfl), ?_⟩
  rw [← hW]
  exact ⟨h.row.setChan h.nG _ _ _ _ _ _, h.c0.other h.ne _ _ _ _ _ _, ChanAt.new hlt _ _ _ rfl _ _, h.nE, h.nG, h.ne⟩

end Go.Proofs.YtboebjmfchbgbaaDoor
