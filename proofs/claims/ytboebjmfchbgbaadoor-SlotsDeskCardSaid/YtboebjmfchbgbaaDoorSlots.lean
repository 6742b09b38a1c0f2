/-
  The walks of package slots.
-/
import Derived.Test.YtboebjmfchbgbaaDoorComm
import Derived.Test.YtboebjmfchbgbaaDoorRow
import Derived.Test.YtboebjmfchbgbaaDoorArr
import Derived.Test.YtboebjmfchbgbaaDoorNum
import Derived.Laws.Entries
import Derived.Handy
import Derived.Conc.LoneSelectN
import Derived.Laws.AppendOwn
namespace Go.Proofs.YtboebjmfchbgbaaDoor
open Go Go.RowKit Go.Conc
set_option linter.unusedSimpArgs false
set_option linter.unusedVariables false

def ints (l : List Int) : Array Value := (l.map (Value.int .i64)).toArray
def slotCells (C : Nat) (tk : List Bool) (many : Nat) : Array Value := ((.chan (some C)) :: (tk.map Value.bool ++ [.int .i64 (many : Int)])).toArray
def ChanAt (w : World) (C cap : Nat) (l : List Int) : Prop := ∃ s r, w.heap[C]? = some (.chan cap (ints l) false s r false)
structure Slot (w : World) (B C : Nat) (l : List Int) (tk : List Bool) (many : Nat) : Prop where
  row : RowAt w B (slotCells C tk many) 77
  chan : ChanAt w C many l
  len : tk.length = 8

theorem Slot.free {w : World} {B C : Nat} {l : List Int} {tk : List Bool} {many : Nat} (h : Slot w B C l tk many) : w.cell? ⟨B, 0, none⟩ = some (.chan (some C)) := h.row.cellIs 0 _ rfl
theorem Slot.ne {w : World} {B C : Nat} {l : List Int} {tk : List Bool} {many : Nat} (h : Slot w B C l tk many) : B ≠ C := by
  rintro rfl
  obtain ⟨s, r, hc⟩ := h.chan
  have := h.row
  unfold RowAt at this
  rw [this] at hc; cases hc
theorem Slot.taken {w : World} {B C : Nat} {l : List Int} {tk : List Bool} {many : Nat} (h : Slot w B C l tk many) (k : Nat) (b : Bool) (hk : tk[k]? = some b) : w.cell? ⟨B, 1 + k, none⟩ = some (.bool b) := by
  have hlt := (List.getElem?_eq_some_iff.1 hk).1
  refine h.row.cellIs _ _ ?_
  have : (tk.map Value.bool)[k]? = some (.bool b) := by rw [List.getElem?_map, hk]; rfl
  unfold slotCells
  rw [List.getElem?_toArray, Nat.add_comm, List.getElem?_cons_succ, List.getElem?_append_left (by simpa using hlt), this]
theorem Slot.many {w : World} {B C : Nat} {l : List Int} {tk : List Bool} {many : Nat} (h : Slot w B C l tk many) : w.cell? ⟨B, 9, none⟩ = some (.int .i64 (many : Int)) := by
  refine h.row.cellIs _ _ ?_
  unfold slotCells
  rw [List.getElem?_toArray, List.getElem?_cons_succ, List.getElem?_append_right (by simp [h.len])]
  simp [h.len]

/-- Only blocks of which S holds, and new ones, are turned. -/
structure Touch (w w' : World) (S : Nat → Prop) : Prop where
  os : w'.os = w.os
  tape : w'.tape = w.tape
  output : w'.output = w.output
  size : w.heap.size ≤ w'.heap.size
  block : ∀ k, k < w.heap.size → ¬ S k → w'.heap[k]? = w.heap[k]?
theorem Touch.refl (w : World) (S : Nat → Prop) : Touch w w S := ⟨rfl, rfl, rfl, Nat.le_refl _, fun _ _ _ => rfl⟩
theorem Touch.trans {a b c : World} {S : Nat → Prop} (h : Touch a b S) (k : Touch b c S) : Touch a c S :=
  ⟨k.os.trans h.os, k.tape.trans h.tape, k.output.trans h.output, Nat.le_trans h.size k.size, fun i hi hs => (k.block i (Nat.lt_of_lt_of_le hi h.size) hs).trans (h.block i hi hs)⟩
theorem Touch.ofBelow {w w' : World} (S : Nat → Prop) (h : Below w.heap.size w w') : Touch w w' S := ⟨h.os, h.tape, h.output, h.size, fun k hk _ => h.block k hk⟩
theorem Touch.below {w w' : World} {S : Nat → Prop} (h : Touch w w' S) {n : Nat} (hn : n ≤ w.heap.size) (hs : ∀ k, k < n → ¬ S k) : Below n w w' := ⟨h.os, h.tape, h.output, h.size, fun k hk => h.block k (Nat.lt_of_lt_of_le hk hn) (hs k hk)⟩
theorem Touch.setCell {w w' : World} {S : Nat → Prop} (h : Touch w w' S) {a : Addr} (v : Value) (ha : S a.block) : Touch w (w'.setCell a v) S := by
  refine ⟨h.os, h.tape, h.output, by simpa [World.setCell] using h.size, fun k hk hs => ?_⟩
  have hne : a.block ≠ k := by rintro rfl; exact hs ha
  rw [← h.block k hk hs]
  simp [World.setCell, Array.getElem?_modify, hne]
theorem Touch.setChan {w w' : World} {S : Nat → Prop} (h : Touch w w' S) {c : Nat} (cap : Nat) (buf : Array Value) (cl : Bool) (s r : Nat) (tm : Bool) (hc : S c) : Touch w (w'.setChan c cap buf cl s r tm) S := by
  refine ⟨h.os, h.tape, h.output, by simpa [World.setChan] using h.size, fun k hk hs => ?_⟩
  have hne : c ≠ k := by rintro rfl; exact hs hc
  rw [← h.block k hk hs]
  simp only [World.setChan]
  rw [Array.getElem?_setIfInBounds_ne hne]
theorem Touch.drew {w w' : World} {S : Nat → Prop} (h : Touch w w' S) : Touch w w'.drew S := ⟨h.os, h.tape, h.output, h.size, h.block⟩
theorem Touch.mono {w w' : World} {S S' : Nat → Prop} (h : Touch w w' S) (hs : ∀ k, S k → S' k) : Touch w w' S' := ⟨h.os, h.tape, h.output, h.size, fun k hk hn => h.block k hk fun x => hn (hs k x)⟩
theorem RowAt.touch {w w' : World} {S : Nat → Prop} {b : Nat} {c : Array Value} {t : TypeId} (h : RowAt w b c t) (ht : Touch w w' S) (hb : ¬ S b) : RowAt w' b c t := by
  have := ht.block b h.lt hb
  unfold RowAt at h ⊢
  rw [this]; exact h
theorem RowAt.setChan {w : World} {b : Nat} {c : Array Value} {t : TypeId} (h : RowAt w b c t) {C : Nat} (hne : b ≠ C) (cap : Nat) (buf : Array Value) (cl : Bool) (s r : Nat) (tm : Bool) : RowAt (w.setChan C cap buf cl s r tm) b c t := by
  unfold RowAt at h ⊢
  simp only [World.setChan]
  rw [Array.getElem?_setIfInBounds_ne (Ne.symm hne)]; exact h
theorem ChanAt.lt {w : World} {C cap : Nat} {l : List Int} (h : ChanAt w C cap l) : C < w.heap.size := by
  obtain ⟨s, r, h⟩ := h
  exact (Array.getElem?_eq_some_iff.1 h).1
theorem ChanAt.touch {w w' : World} {S : Nat → Prop} {C cap : Nat} {l : List Int} (h : ChanAt w C cap l) (ht : Touch w w' S) (hb : ¬ S C) : ChanAt w' C cap l := by
  have := ht.block C h.lt hb
  obtain ⟨s, r, h⟩ := h
  exact ⟨s, r, by rw [this]; exact h⟩
theorem ChanAt.setCell {w : World} {C cap : Nat} {l : List Int} (h : ChanAt w C cap l) (a : Addr) (v : Value) : ChanAt (w.setCell a v) C cap l := by
  obtain ⟨s, r, h⟩ := h
  refine ⟨s, r, ?_⟩
  simp only [World.setCell, Array.getElem?_modify]
  split <;> simp [h]
theorem ChanAt.new {w : World} {C : Nat} (hC : C < w.heap.size) (cap : Nat) (l : List Int) (buf : Array Value) (hb : buf = ints l) (s r : Nat) : ChanAt (w.setChan C cap buf false s r false) C cap l := by
  subst hb
  exact ⟨s, r, heap_setChan w C cap (ints l) false s r false hC⟩
theorem ints_pop (x : Int) (l : List Int) : (ints (x :: l)).extract 1 (ints (x :: l)).size = ints l := by
  unfold ints
  simp
  rw [List.take_of_length_le (by simp)]
theorem ints_push (l : List Int) (x : Int) : (ints l).push (.int .i64 x) = ints (l ++ [x]) := by
  unfold ints
  simp
theorem ints_size (l : List Int) : (ints l).size = l.length := by unfold ints; simp
theorem slotCells_set (C : Nat) (tk : List Bool) (many k : Nat) (b : Bool) (hk : k < tk.length) : (slotCells C tk many).setIfInBounds (1 + k) (.bool b) = slotCells C (tk.set k b) many := by
  unfold slotCells
  rw [List.setIfInBounds_toArray, Nat.add_comm, List.set_cons_succ, List.set_append_left _ _ (by simpa using hk), List.map_set]
def Own2 (B C : Nat) (k : Nat) : Prop := k = B ∨ k = C

theorem Take_none (w : World) (B C : Nat) (tk : List Bool) (many : Nat) (h : Slot w B C [] tk many) :
    Calls Tryd.prog 18 #[.pointer (some ⟨B, 0, none⟩)] w fun e w' => e = .returned (.tuple #[.int .i64 0, .bool false]) ∧ w = w' := by
  have c0 := h.free
  obtain ⟨s, r, hc⟩ := h.chan
  have hcc : w.heap[C]? = some (.chan many #[] false s r false) := hc
  go_enter Tryd.func18, Tryd.ntmps18
  iterate 30 (go_step)
  refine wp_region_comm (v := .tuple #[goInt (-1), .bool false, .int .i64 0]) (cases := #[rcase C (.int .i64 0)]) (blocking := false) (shape := .select) (w1 := w) (w2 := w) rfl (by simp [go_sem, execOp, rcase, Act.eval]) (fun fr cs es hs => step_lone_select_default hs hcc) ?_
  go_wp2
  go_returns
  exact ⟨rfl, rfl⟩

theorem Take_some (w : World) (B C : Nat) (k : Nat) (l : List Int) (tk : List Bool) (many : Nat) (hk : k < 8) (h : Slot w B C ((k : Int) :: l) tk many) :
    Calls Tryd.prog 18 #[.pointer (some ⟨B, 0, none⟩)] w fun e w' => e = .returned (.tuple #[.int .i64 (k : Int), .bool true]) ∧ Touch w w' (Own2 B C) ∧ Slot w' B C l (tk.set k true) many := by
  have c0 := h.free
  have hne := h.ne
  have hlen := h.len
  have hlt := h.chan.lt
  obtain ⟨b, hb⟩ : ∃ b, tk[k]? = some b := ⟨_, List.getElem?_eq_getElem (by omega)⟩
  obtain ⟨s, r, hc⟩ := h.chan
  obtain ⟨W, hW⟩ : ∃ W, w.setChan C many (ints l) false s (r + 1) false = W := ⟨_, rfl⟩
  have hrow : RowAt W B (slotCells C tk many) 77 := by rw [← hW]; exact h.row.setChan hne _ _ _ _ _ _
  have hch : ChanAt W C many l := by rw [← hW]; exact ChanAt.new hlt _ _ _ rfl _ _
  have hS : Slot W B C l tk many := ⟨hrow, hch, hlen⟩
  have htW : Touch w W (Own2 B C) := by rw [← hW]; exact (Touch.refl _ _).setChan _ _ _ _ _ _ (.inr rfl)
  have ck := hS.taken k b hb
  have fk := hrow.frozen (1 + k)
  have hp := ints_pop (k : Int) l
  go_enter Tryd.func18, Tryd.ntmps18
  iterate 30 (go_step)
  refine wp_region_comm (v := .tuple #[goInt 0, .bool true, .int .i64 (k : Int)]) (cases := #[rcase C (.int .i64 0)]) (blocking := false) (shape := .select) (w1 := w) (w2 := W) rfl (by simp [go_sem, execOp, rcase, Act.eval])
    (fun fr cs es hs => by have := step_lone_select_recv_buf hs hc (by simp [ints]); rw [hp, hW] at this; exact this) ?_
  go_wp2
  go_returns
  refine ⟨rfl, htW.setCell _ (.inl rfl), ?_, hch.setCell _ _, by rw [List.length_set]; exact hlen⟩
  rw [← slotCells_set _ _ _ _ _ (by omega)]
  exact hrow.set _ _

set_option maxHeartbeats 1000000 in
theorem Give_range (w : World) (B C : Nat) (x : Int) (l : List Int) (tk : List Bool) (many : Nat) (a : Addr) (h : Slot w B C l tk many) (hx : x < 0 ∨ (many : Int) ≤ x)
    (cR : w.cell? ⟨2, 0, none⟩ = some (.iface 98 (.pointer (some a)))) :
    Calls Tryd.prog 19 #[.pointer (some ⟨B, 0, none⟩), .int .i64 x] w fun e w' => e = .returned (.iface 98 (.pointer (some a))) ∧ w = w' := by
  have c9 := h.many
  rcases hx with hx | hx
  · go_enter Tryd.func19, Tryd.ntmps19
    go_wp2
    go_returns
    exact ⟨rfl, rfl⟩
  · by_cases h0 : x < 0
    · go_enter Tryd.func19, Tryd.ntmps19
      go_wp2
      go_returns
      exact ⟨rfl, rfl⟩
    · go_enter Tryd.func19, Tryd.ntmps19
      go_wp2
      go_returns
      exact ⟨rfl, rfl⟩
theorem Give_state (w : World) (B C : Nat) (k : Nat) (l : List Int) (tk : List Bool) (many : Nat) (a : Addr) (h : Slot w B C l tk many) (hk : k < many) (hm : many ≤ 8) (hb : tk[k]? = some false)
    (cR : w.cell? ⟨3, 0, none⟩ = some (.iface 98 (.pointer (some a)))) :
    Calls Tryd.prog 19 #[.pointer (some ⟨B, 0, none⟩), .int .i64 (k : Int)] w fun e w' => e = .returned (.iface 98 (.pointer (some a))) ∧ w = w' := by
  have c9 := h.many
  have ck := h.taken k false hb
  go_enter Tryd.func19, Tryd.ntmps19
  go_wp2
  go_returns
  exact ⟨rfl, rfl⟩

theorem Give_ok (w : World) (B C : Nat) (k : Nat) (l : List Int) (tk : List Bool) (many : Nat) (h : Slot w B C l tk many) (hk : k < many) (hm : many ≤ 8) (hb : tk[k]? = some true) (hroom : l.length < many) :
    Calls Tryd.prog 19 #[.pointer (some ⟨B, 0, none⟩), .int .i64 (k : Int)] w fun e w' => e = .returned .nilIface ∧ Touch w w' (Own2 B C) ∧ Slot w' B C (l ++ [(k : Int)]) (tk.set k false) many := by
  have c0 := h.free
  have c9 := h.many
  have ck := h.taken k true hb
  have hne := h.ne
  have hlen := h.len
  have hlt := h.chan.lt
  obtain ⟨s, r, hc⟩ := h.chan
  obtain ⟨W, hW⟩ : ∃ W, w.setChan C many (ints (l ++ [(k : Int)])) false (s + 1) r false = W := ⟨_, rfl⟩
  have hrow : RowAt W B (slotCells C tk many) 77 := by rw [← hW]; exact h.row.setChan hne _ _ _ _ _ _
  have hch : ChanAt W C many (l ++ [(k : Int)]) := by rw [← hW]; exact ChanAt.new hlt _ _ _ rfl _ _
  have hS : Slot W B C (l ++ [(k : Int)]) tk many := ⟨hrow, hch, hlen⟩
  have htW : Touch w W (Own2 B C) := by rw [← hW]; exact (Touch.refl _ _).setChan _ _ _ _ _ _ (.inr rfl)
  have ck2 := hS.taken k true hb
  have fk := hrow.frozen (1 + k)
  have hp := ints_push l (k : Int)
  go_enter Tryd.func19, Tryd.ntmps19
  iterate 100 (first | go_values | go_skip | go_guarded | go_step | go_upon | go_in | go_back)
  refine wp_region_comm (v := .tuple #[goInt 0, .bool false]) (cases := #[scase C (.int .i64 (k : Int)) (.int .i64 0)]) (blocking := false) (shape := .select) (w1 := w) (w2 := W) rfl (by simp [go_sem, execOp, scase, Act.eval])
    (fun fr cs es hs => by have := step_lone_select_send_room hs hc (by rw [ints_size]; exact hroom); rw [hp, hW] at this; exact this) ?_
  go_wp2
  go_returns
  refine ⟨rfl, htW.setCell _ (.inl rfl), ?_, hch.setCell _ _, by rw [List.length_set]; exact hlen⟩
  rw [← slotCells_set _ _ _ _ _ (by omega)]
  exact hrow.set _ _

theorem Free_any (w : World) (B C : Nat) (l : List Int) (tk : List Bool) (many : Nat) (h : Slot w B C l tk many) :
    Calls Tryd.prog 20 #[.pointer (some ⟨B, 0, none⟩)] w fun e w' => e = .returned (.int .i64 (l.length : Int)) ∧ w = w' := by
  have c0 := h.free
  obtain ⟨s, r, hc⟩ := h.chan
  have hlc := run_len_chan (P := Tryd.prog) 75 3 Tryd.underlying75 hc
  rw [ints_size] at hlc
  go_enter Tryd.func20, Tryd.ntmps20
  go_wp2
  go_returns
  exact ⟨rfl, rfl⟩

theorem eight {α : Type} (l : List α) (h : l.length = 8) : ∃ a0 a1 a2 a3 a4 a5 a6 a7, l = [a0, a1, a2, a3, a4, a5, a6, a7] := by
  match l, h with
  | [a0, a1, a2, a3, a4, a5, a6, a7], _ => exact ⟨a0, a1, a2, a3, a4, a5, a6, a7, rfl⟩
def icells (l : List Int) : List Value := l.map (Value.int .i64)
theorem icells_append (a b : List Int) : icells a ++ icells b = icells (a ++ b) := by simp [icells]
theorem icells_length (l : List Int) : (icells l).length = l.length := by simp [icells]
def IntRow (B : Nat) (l : List Int) (v : Value) (w : World) : Prop := w.ownsRow B 3 1 v l.length (icells l)
/-- The numbers below k at which the list says yes. -/
def tkL (tk : List Bool) : Nat → List Int
  | 0 => []
  | k + 1 => tkL tk k ++ if tk.getD k false = true then [(k : Int)] else []
theorem tkL_le (tk : List Bool) : ∀ k, (tkL tk k).length ≤ k
  | 0 => Nat.le_refl _
  | k + 1 => by
    have := tkL_le tk k
    unfold tkL
    split <;> simp <;> omega
theorem Tryd.info_i64 : (Tryd.prog.info? 3).map (fun i => (i.zero, i.size, i.bytes)) = some (some (.int .i64 0), 1, 8) := by kernel_rfl
set_option maxHeartbeats 2000000 in
set_option maxRecDepth 100000 in
theorem Taken_any (w : World) (B C : Nat) (l : List Int) (tk : List Bool) (many : Nat) (h : Slot w B C l tk many) :
    Calls Tryd.prog 21 #[.pointer (some ⟨B, 0, none⟩)] w fun e w' => ∃ v, e = .returned v ∧ IntRow w.heap.size (tkL tk 8) v w' ∧ Below w.heap.size w w' := by
  have hall : ∀ k (hk : k < 8), (tk.map Value.bool).toArray[k]? = some (.bool (tk.getD k false)) := by
    intro k hk
    have hl := h.len
    rw [List.getElem?_toArray, List.getElem?_map, List.getElem?_eq_getElem (by omega), List.getD_eq_getElem?_getD, List.getElem?_eq_getElem (by omega)]; rfl
  obtain ⟨i0, hi, hz0, hz1, hz2⟩ := info_parts Tryd.info_i64
  obtain ⟨ib, hib, hb0, hb1, hb2⟩ := info_parts Tryd.info_bool
  obtain ⟨TK, hTK⟩ : ∃ TK, tkL tk = TK := ⟨_, rfl⟩
  obtain ⟨TD, hTD⟩ : ∃ TD : Nat → Bool, (fun k => tk.getD k false) = TD := ⟨_, rfl⟩
  have hle : ∀ k, (TK k).length ≤ k := by rw [← hTK]; exact tkL_le tk
  have hT0 : TK 0 = [] := by rw [← hTK]; rfl
  have hTs : ∀ k, TK (k + 1) = TK k ++ if TD k = true then [(k : Int)] else [] := by rw [← hTK, ← hTD]; intro k; rfl
  have hall2 : ∀ k (hk : k < 8), (tk.map Value.bool).toArray[k]? = some (.bool (TD k)) := by rw [← hTD]; exact hall
  obtain ⟨b0, b1, b2, b3, b4, b5, b6, b7, rfl⟩ := eight tk h.len
  have c0 := h.taken 0 _ rfl
  have c1 := h.taken 1 _ rfl
  have c2 := h.taken 2 _ rfl
  have c3 := h.taken 3 _ rfl
  have c4 := h.taken 4 _ rfl
  have c5 := h.taken 5 _ rfl
  have c6 := h.taken 6 _ rfl
  have c7 := h.taken 7 _ rfl
  obtain ⟨A, hA⟩ : ∃ A, #[Value.bool b0, .bool b1, .bool b2, .bool b3, .bool b4, .bool b5, .bool b6, .bool b7] = A := ⟨_, rfl⟩
  have HA := Lib.hid (show ∀ k (hk : k < 8), A[k]? = some (.bool (TD k)) by rw [← hA]; exact hall2)
  have HLE := Lib.hid hle
  have HT0 := Lib.hid hT0
  have HTS := Lib.hid hTs
  rw [hTK]
  clear hall hall2 hle hT0 hTs hTK hTD
  go_enter Tryd.func21, Tryd.ntmps21
  go_wp2_with fail
  try rw [hA]
  go_loopw [3, 10] (fun v i wr => ∃ k : Nat, k ≤ 8 ∧ i = .int .i64 k ∧ IntRow w.heap.size (TK k) v wr ∧ Below w.heap.size w wr) (fun _ i _ => 8 - (intOf i).toNat)
  case atStart => exact ⟨0, by omega, rfl, by rw [HT0.out]; exact World.ownsRow_nil _ _ _ _, Below.refl _ _⟩
  case round =>
    obtain ⟨k, hk, rfl, HR, hbl⟩ := hrel
    clear c0 c1 c2 c3 c4 c5 c6 c7 hA h
    have hsz := hbl.size
    by_cases hlt : k < 8
    · obtain ⟨b, hb⟩ : ∃ b, TD k = b := ⟨_, rfl⟩
      have hAk := HA.out k hlt
      rw [hb] at hAk
      have hix : ∀ w, (Instr.index 42 (.agg A) (.int .i64 (k : Int))).run Tryd.prog w = .ok (.bool b) w := fun w => run_index_arr k Tryd.underlying42 hib hb1 (Tryd.isAgg_bool w) hlt hAk .i64
      clear hAk
      have HS := Lib.hid (HTS.out k)
      have hlek := HLE.out k
      cases b
      · have HR' : Hid (IntRow w.heap.size (TK (k + 1)) u3 wr) := by
          show IntRow _ _ _ _
          rw [HS.out, hb]
          simp only [Bool.false_eq_true, if_false, List.append_nil]
          exact HR
        clear HS hb HTS HA HLE HT0
        go_wp2
        go_roundw
        case rel => exact ⟨k + 1, by omega, by go_num, HR'.out, hbl⟩
        case measure => first | (simp [intOf]; done) | (simp [intOf]; omega)
      · have HS2 : Hid (TK (k + 1) = TK k ++ [(k : Int)]) := by
          show _ = _
          rw [HS.out, hb]; simp
        clear HS hb HTS
        unfold IntRow at HR
        go_wp2_with (at_builtin; refine wpList_append_own _ rfl (.tmp 15) (.tmp 17) 37 rfl w.heap.size 3 i0 (.int .i64 0) 1 8 Tryd.underlying37 hi hz0 hz1 hz2 rfl (by decide) _ _ _ rfl (World.ownsRow.alloc HR _) ⟨wr.heap.size, 0, none⟩ 1 1 [.int .i64 (k : Int)] rfl rfl (cell_one_new _ _ _) (by intro u hu; simp at hu; subst hu; rfl) (by unfold maxLen; omega) (by omega) (by simp; omega) ?_; intro v' w2 hown' hgrow _)
        have hbl' : Below w.heap.size w w2 := (hbl.alloc (by omega) _).grown hgrow (by simp; omega) (own_base HR)
        have HR' : Hid (IntRow w.heap.size (TK (k + 1)) v' w2) := by
          show IntRow _ _ _ _
          unfold IntRow
          rw [HS2.out, List.length_append, ← icells_append]
          exact hown'
        clear hown' hgrow HS2
        go_wp2
        go_roundw
        case rel => exact ⟨k + 1, by omega, by go_num, HR'.out, hbl'⟩
        case measure => first | (simp [intOf]; done) | (simp [intOf]; omega)
    · have hk8 : k = 8 := by omega
      subst hk8
      clear HA HLE HTS HT0
      go_wp2
      go_returns
      exact ⟨_, rfl, HR, hbl⟩

def upto : Nat → List Int
  | 0 => []
  | k + 1 => upto k ++ [(k : Int)]
theorem upto_length : ∀ k, (upto k).length = k
  | 0 => rfl
  | k + 1 => by simp [upto, upto_length k]
def noTk : List Bool := [false, false, false, false, false, false, false, false]
theorem mk_chan (many : Nat) (h8 : many ≤ 16) (w : World) : (Instr.makeChan 75 (.int .i64 (many : Int))).run Tryd.prog w = .ok (.chan (some w.heap.size)) (w.alloc (.chan many #[] false 0 0 false)) := by
  obtain ⟨i, hi, hz0, hz1, hb⟩ := info_parts Tryd.info_i64
  exact run_makeChan (P := Tryd.prog) (w := w) Tryd.underlying75 hi .i64 many (by omega) (by rw [hb]; omega)

set_option maxHeartbeats 2000000 in
set_option maxRecDepth 100000 in
theorem New_ok (many : Nat) (h1 : 1 ≤ many) (h8 : many ≤ 8) (w : World) :
    Calls Tryd.prog 17 #[.int .i64 (many : Int)] w fun e w' => e = .returned (.tuple #[.pointer (some ⟨w.heap.size + 1, 0, none⟩), .nilIface]) ∧ Below w.heap.size w w' ∧ Slot w' (w.heap.size + 1) w.heap.size (upto many) noTk many := by
  have hmc := mk_chan many (by omega)
  go_enter Tryd.func17, Tryd.ntmps17
  go_wp2_with fail
  go_loopw [5, 19] (fun v i wr => ∃ k : Nat, k ≤ many ∧ i = .int .i64 k ∧ Slot wr (w.heap.size + 1) w.heap.size (upto k) noTk many ∧ Below w.heap.size w wr) (fun _ i _ => many - (intOf i).toNat)
  case atStart =>
    refine ⟨0, by omega, rfl, ⟨?_, ?_, rfl⟩, ((Below.refl _ _).alloc (Nat.le_refl _) _).alloc (by simp) _⟩
    · have := RowAt.new (w.alloc (.chan many #[] false 0 0 false)) (slotCells w.heap.size noTk many) 77
      simp only [World.size_alloc] at this
      exact this
    · refine ⟨0, 0, ?_⟩
      show (((w.heap.push _).push _)[w.heap.size]? = _)
      rw [Array.getElem?_push_lt (by simp)]
      simp [upto, ints]
  case round =>
    obtain ⟨k, hk, rfl, hS, hbl⟩ := hrel
    by_cases hlt : k < many
    · have c0 := hS.free
      have hne := hS.ne
      have hlen := hS.len
      have hltC := hS.chan.lt
      obtain ⟨s, r, hc⟩ := hS.chan
      obtain ⟨W', hW'⟩ : ∃ W', wr.setChan w.heap.size many (ints (upto (k + 1))) false (s + 1) r false = W' := ⟨_, rfl⟩
      have hrow : RowAt W' (w.heap.size + 1) (slotCells w.heap.size noTk many) 77 := by rw [← hW']; exact hS.row.setChan hne _ _ _ _ _ _
      have hch : ChanAt W' w.heap.size many (upto (k + 1)) := by rw [← hW']; exact ChanAt.new hltC _ _ _ rfl _ _
      have hblW : Below w.heap.size w W' := by rw [← hW']; exact below_setChan hbl (Nat.le_refl _) _ _ _ _ _ _
      have hp := ints_push (upto k) (k : Int)
      have hul := upto_length k
      iterate 27 (go_step)
      refine Itm.region ?_
      show Itm _ _ _ [0, 1, 2, 3, 4, 5] _ _
      refine Itm.value (v := .pointer (some ⟨w.heap.size + 1, 0, none⟩)) (w' := wr) rfl rfl (by simp [go_sem, execOp, Act.eval]) ?_
      refine Itm.value (v := .pointer (some ⟨w.heap.size + 1, 0, none⟩)) (w' := wr) rfl rfl (by simp [go_sem, execOp, Act.eval, Act.put]) ?_
      refine Itm.value (v := .pointer (some ⟨w.heap.size + 1, 0, none⟩)) (w' := wr) rfl rfl (by simp [go_sem, execOp, Act.eval, Act.put]) ?_
      refine Itm.value (v := .chan (some w.heap.size)) (w' := wr) rfl rfl (by simp [go_sem, execOp, Act.eval, Act.put, c0]) ?_
      refine Itm.value (v := .int .i64 (k : Int)) (w' := wr) rfl rfl (by simp [go_sem, execOp, Act.eval, Act.put]) ?_
      refine Itm.comm (v := undef) (cases := #[scase w.heap.size (.int .i64 (k : Int)) (.tuple #[])]) (blocking := true) (shape := .send) (w1 := wr) (w2 := W') rfl rfl (by simp [go_sem, execOp, scase, Act.eval, Act.put])
        (fun fr cs es hs => by have := step_lone_send_room hs hc (by rw [ints_size, hul]; exact hlt); rw [hp] at this; rw [← hW']; exact this) ?_
      refine Itm.ofOps ?_
      simp only [wpOps, Act.put, List.getElem_toArray, List.getElem_cons_zero, List.getElem_cons_succ, List.setIfInBounds_toArray, List.set_cons_zero, List.set_cons_succ]
      go_wp2
      go_roundw
      case rel => exact ⟨k + 1, by omega, by go_num, ⟨hrow, hch, rfl⟩, hblW⟩
      case measure => first | (simp [intOf]; done) | (simp [intOf]; omega)
    · obtain rfl : k = many := by omega
      go_wp2
      go_returns
      exact ⟨rfl, hbl, hS⟩

end Go.Proofs.YtboebjmfchbgbaaDoor
