/-
  The walk of the statement SlotsOnce.
-/
import Derived.Test.YtboebjmfchbgbaaDoorAliveSlots
import Derived.Test.YtboebjmfchbgbaaDoorSlotsJ
import Derived.Test.YtboebjmfchbgbaaDoorInts
import Derived.Test.YtboebjmfchbgbaaDoorErrsSome
namespace Go.Proofs.YtboebjmfchbgbaaDoor
open Go Go.RowKit Go.Conc
set_option linter.unusedSimpArgs false
set_option linter.unusedVariables false

theorem once_many (many : Int) : ∃ M : Nat, 1 ≤ M ∧ M ≤ 8 ∧ wrap64 (1 + wrap64 ((IntKind.u64.wrap many).tmod 8)) = (M : Int) := by
  have h0 : 0 ≤ IntKind.u64.wrap many := by rw [IntKind.wrap_u64]; omega
  obtain ⟨u, hu⟩ := Int.eq_ofNat_of_zero_le h0
  rw [hu]
  have ht : ((u : Int)).tmod 8 = ((u % 8 : Nat) : Int) := by
    rw [Int.tmod_eq_emod_of_nonneg (by omega)]; omega
  rw [ht]
  refine ⟨1 + u % 8, by omega, by omega, ?_⟩
  have h1 : wrap64 ((u % 8 : Nat) : Int) = ((u % 8 : Nat) : Int) := by unfold wrap64; omega
  rw [h1]
  unfold wrap64; omega

def boolRow (tk : List Bool) : Array Value := (tk.map Value.bool).toArray
theorem boolRow_at {tk : List Bool} {j : Nat} {b : Bool} (h : tk[j]? = some b) : (boolRow tk)[j]? = some (.bool b) := by
  unfold boolRow
  rw [List.getElem?_toArray, List.getElem?_map, h]; rfl
theorem boolRow_set (tk : List Bool) (j : Nat) (b : Bool) : (boolRow tk).setIfInBounds j (.bool b) = boolRow (tk.set j b) := by
  unfold boolRow
  rw [List.setIfInBounds_toArray, List.map_set]
theorem Slot.other {w : World} {B C : Nat} {l : List Int} {tk : List Bool} {many : Nat} (h : Slot w B C l tk many) {a : Addr} (v : Value) (hne : a.block ≠ B) : Slot (w.setCell a v) B C l tk many :=
  ⟨h.row.other v hne, h.chan.setCell _ _, h.len⟩

theorem slice_bools (w : World) (T M : Nat) (h8 : M ≤ 8) : (Instr.sliceAt 42 (.pointer (some ⟨T, 0, none⟩)) none (some (.int .i64 (M : Int))) none).run Tryd.prog w = .ok (.slice (some ⟨T, 0, none⟩) M 8) w := by
  have hn : Tryd.prog.arrayLen 42 = 8 := by kernel_rfl
  have hu : Tryd.prog.underlying 42 = some (.array (Tryd.prog.arrayLen 42) (Tryd.prog.elem 42)) := by kernel_rfl
  have hs : (sizeOf (Tryd.prog.elem 42)).run Tryd.prog w = .ok 1 w := by kernel_rfl
  have h := run_sliceAt_array_h (P := Tryd.prog) (w := w) 42 ⟨T, 0, none⟩ hu .i64 (M : Int) (by omega) (by rw [hn]; omega)
  rw [h, hs, hn]
  simp [Result.andThen, slicedAt, Addr.add]

set_option maxHeartbeats 4000000 in
set_option maxRecDepth 100000 in
theorem SlotsOnce_walk (many : Int) (A : Option Addr) (n c : Nat) (xs : List Int) (W : World) (wm : (Lit.int .i64 many).wf = true) (hx : Ints W A n c xs) (zx : ∀ x ∈ xs, (Lit.int .i64 x).wf = true)
    (hE : ∃ aR aS, W.cell? ⟨2, 0, none⟩ = some (.iface 98 (.pointer (some aR))) ∧ W.cell? ⟨3, 0, none⟩ = some (.iface 98 (.pointer (some aS)))) :
    Calls Tryd.prog 5 #[.int .i64 many, .slice A n c] W fun e w' => e = .returned (.bool true) ∧ Below W.heap.size W w' := by
  obtain ⟨aR, aS, cR, cS⟩ := hE
  by_cases hbig : 100 < n
  · go_enter Tryd.func5, Tryd.ntmps5
    go_wp2_with (go_at_call 16; refine (alive30_any _).mono ?_; rintro e w1 ⟨rfl, hb⟩)
    go_returns
    exact ⟨rfl, hb⟩
  · obtain ⟨M, hM1, hM8, hM⟩ := once_many many
    go_enter Tryd.func5, Tryd.ntmps5
    go_wp2_with (first | (go_at_call 16; refine (alive30_any _).mono ?_; rintro e w1 ⟨rfl, hb1⟩) | (go_at_call 17; refine (New_ok M hM1 hM8 _).mono ?_; rintro e w2 ⟨rfl, hb2, hS⟩))
    have hTB : w2.heap.size ≠ w1.heap.size + 1 := by have := hS.row.lt; omega
    have hTC : w2.heap.size ≠ w1.heap.size := by have := hS.row.lt; omega
    have hW1 := hb1.size
    have hW2 : W.heap.size ≤ w2.heap.size := Nat.le_trans hW1 hb2.size
    have hbW2 : Below W.heap.size W w2 := hb1.trans (hb2.mono hW1)
    have hown : ∀ k, k < W.heap.size → ¬ Own2 (w1.heap.size + 1) w1.heap.size k := by intro k hk; unfold Own2; omega
    have hownT : ¬ Own2 (w1.heap.size + 1) w1.heap.size w2.heap.size := by unfold Own2; omega
    have hsl : ∀ w, (Instr.sliceAt 42 (.pointer (some ⟨w2.heap.size, 0, none⟩)) none (some (.int .i64 (M : Int))) none).run Tryd.prog w = .ok (.slice (some ⟨w2.heap.size, 0, none⟩) M 8) w := fun w => slice_bools w _ M hM8
    go_loopw [43] (fun i wr => ∃ (k : Nat) (l : List Int) (tk : List Bool), k ≤ n ∧ i = .int .i64 k ∧ Slot wr (w1.heap.size + 1) w1.heap.size l tk M ∧ RowAt wr w2.heap.size (boolRow tk) 42 ∧ J l tk M ∧ Below W.heap.size W wr) (fun i _ => n - (intOf i).toNat)
    case atStart =>
      exact ⟨0, _, noTk, Nat.zero_le _, rfl, ⟨hS.row.old _, hS.chan.touch (Touch.ofBelow (fun _ => False) ((Below.refl _ _).alloc (Nat.le_refl _) _)) (fun h => h), hS.len⟩, RowAt.new _ _ _, J.start hM1 hM8, hbW2.alloc hW2 _⟩
    case round =>
      obtain ⟨k, l, tk, hk, rfl, hSk, hT, hJ, hbl⟩ := hrel
      by_cases hlt : k < n
      · obtain ⟨a, x, rfl, hxk, ck⟩ := (hx.below hbl).at_ hlt
        have hwf := zx x (List.mem_of_getElem? hxk)
        have cRk := cell_later hbl cR
        have cSk := cell_later hbl cS
        by_cases hneg : x < 0
        · cases l with
          | nil =>
            have hwr : w2.heap.size < wr.heap.size := hT.lt
            go_wp2_with (go_at_call 18; refine (Take_none _ _ _ _ _ hSk).mono ?_; rintro e w' ⟨rfl, rfl⟩)
            go_roundw
            case rel => exact ⟨k + 1, [], tk, by omega, by go_num, hSk, hT, hJ, hbl⟩
            case measure => first | (simp [intOf]; done) | (simp [intOf]; omega)
          | cons y l =>
            obtain ⟨j, rfl, hjM, hjf, hJ'⟩ := hJ.take
            have hj8 : j < 8 := by have := hJ.le; omega
            go_wp2_with (go_at_call 18; refine (Take_some _ _ _ j _ _ _ hj8 hSk).mono ?_; rintro e w3 ⟨rfl, ht3, hS3⟩; have hT3 := hT.touch ht3 hownT; have d0 := hT3.cellIs j _ (boolRow_at hjf); have d1 := hT3.frozen j)
            go_roundw
            case rel =>
              refine ⟨k + 1, l, tk.set j true, by omega, by go_num, hS3.other _ (by exact hTB), ?_, hJ', (hbl.trans (ht3.below hbl.size hown)).setCell (by exact hW2) _⟩
              rw [← boolRow_set]; exact hT3.set _ _
            case measure => first | (simp [intOf]; done) | (simp [intOf]; omega)
        · obtain ⟨m, rfl⟩ := Int.eq_ofNat_of_zero_le (show 0 ≤ x by omega)
          by_cases hmM : m < M
          · obtain ⟨b, hb⟩ : ∃ b, tk[m]? = some b := ⟨_, List.getElem?_eq_getElem (by have := hJ.len; have := hJ.le; omega)⟩
            cases b
            · go_wp2_with (go_at_call 19; refine (Give_state _ _ _ m _ _ _ _ hSk hmM hM8 hb cSk).mono ?_; rintro e w' ⟨rfl, rfl⟩)
              go_roundw
              case rel => exact ⟨k + 1, l, tk, by omega, by go_num, hSk, hT, hJ, hbl⟩
              case measure => first | (simp [intOf]; done) | (simp [intOf]; omega)
            · obtain ⟨hroom, hJ'⟩ := hJ.give hmM hb
              go_wp2_with (go_at_call 19; refine (Give_ok _ _ _ m _ _ _ hSk hmM hM8 hb hroom).mono ?_; rintro e w3 ⟨rfl, ht3, hS3⟩; have hT3 := hT.touch ht3 hownT; have d0 := hT3.cellIs m _ (boolRow_at hb); have d1 := hT3.frozen m)
              go_roundw
              case rel =>
                refine ⟨k + 1, _, tk.set m false, by omega, by go_num, hS3.other _ (by exact hTB), ?_, hJ', (hbl.trans (ht3.below hbl.size hown)).setCell (by exact hW2) _⟩
                rw [← boolRow_set]; exact hT3.set _ _
              case measure => first | (simp [intOf]; done) | (simp [intOf]; omega)
          · have hmM' : (M : Int) ≤ (m : Int) := by omega
            go_wp2_with (go_at_call 19; refine (Give_range _ _ _ _ _ _ _ _ hSk (.inr hmM') cRk).mono ?_; rintro e w' ⟨rfl, rfl⟩)
            go_roundw
            case rel => exact ⟨k + 1, l, tk, by omega, by go_num, hSk, hT, hJ, hbl⟩
            case measure => first | (simp [intOf]; done) | (simp [intOf]; omega)
      · go_wp2_with fail
        go_loopw [12, 88] (fun v i w0 => ∃ m : Nat, m ≤ M ∧ i = .int .i64 m ∧ v = .int .i64 (freeN tk m : Int) ∧ w0 = wr) (fun _ i _ => M - (intOf i).toNat)
        case atStart => exact ⟨0, Nat.zero_le _, rfl, rfl, rfl⟩
        case round =>
          obtain ⟨m, hm, rfl, rfl, rfl⟩ := hrel
          by_cases hmlt : m < M
          · obtain ⟨b, hb⟩ : ∃ b, tk[m]? = some b := ⟨_, List.getElem?_eq_getElem (by have := hJ.len; omega)⟩
            have hfs := Lib.hid (freeN_succ hb)
            have hfl := freeN_le tk m
            have d0 := hT.cellIs m _ (boolRow_at hb)
            clear hb
            cases b
            · go_wp2_with fail
              go_roundw
              case rel => exact ⟨m + 1, by omega, by go_num, by rw [hfs.out]; simp, trivial⟩
              case measure => first | (simp [intOf]; done) | (simp [intOf]; omega)
            · go_wp2_with fail
              go_roundw
              case rel => exact ⟨m + 1, by omega, by go_num, by rw [hfs.out]; simp, trivial⟩
              case measure => first | (simp [intOf]; done) | (simp [intOf]; omega)
          · obtain rfl : m = M := by omega
            have hfree := hJ.free
            go_wp2_with (go_at_call 20; refine (Free_any _ _ _ _ _ _ hSk).mono ?_; rintro e w' ⟨rfl, rfl⟩)
            obtain ⟨L, hL⟩ : ∃ L, l.length = L := ⟨_, rfl⟩
            have hL8 : L ≤ 8 := by have := hJ.sum; omega
            rw [hL]
            go_loopw [102] (fun i w0 => ∃ (p : Nat) (l2 : List Int) (tk2 : List Bool), p ≤ L ∧ i = .int .i64 p ∧ l2.length + p = L ∧ Slot w0 (w1.heap.size + 1) w1.heap.size l2 tk2 m ∧ J l2 tk2 m ∧ Below W.heap.size W w0) (fun i _ => L - (intOf i).toNat)
            case atStart => exact ⟨0, l, tk, Nat.zero_le _, rfl, hL, hSk, hJ, hbl⟩
            case round =>
              obtain ⟨p, l2, tk2, hp, rfl, hlp, hS2, hJ2, hbl2⟩ := hrel
              by_cases hpL : p < L
              · cases l2 with
                | nil => simp at hlp; omega
                | cons y l3 =>
                  obtain ⟨j, rfl, hjM, hjf, hJ3⟩ := hJ2.take
                  have hj8 : j < 8 := by have := hJ2.le; omega
                  simp only [List.length_cons] at hlp
                  go_wp2_with (go_at_call 18; refine (Take_some _ _ _ j _ _ _ hj8 hS2).mono ?_; rintro e w3 ⟨rfl, ht3, hS3⟩)
                  go_roundw
                  case rel => exact ⟨p + 1, l3, tk2.set j true, by omega, by go_num, by omega, hS3, hJ3, hbl2.trans (ht3.below hbl2.size hown)⟩
                  case measure => first | (simp [intOf]; done) | (simp [intOf]; omega)
              · obtain rfl : l2 = [] := List.eq_nil_of_length_eq_zero (by omega)
                have hlt := tkL_count hJ2.len
                have hsum := hJ2.sum
                simp only [List.length_nil, Nat.zero_add] at hsum
                rw [hsum] at hlt
                clear hsum
                go_wp2_with (first | (go_at_call 18; refine (Take_none _ _ _ _ _ hS2).mono ?_; rintro e w' ⟨rfl, rfl⟩) | (go_at_call 21; refine (Taken_any _ _ _ _ _ _ hS2).mono ?_; rintro e w4 ⟨v, rfl, hrow, hb4⟩; obtain ⟨A2, c2, rfl⟩ := own_slice hrow))
                go_returns
                exact ⟨rfl, hbl2.trans (hb4.mono hbl2.size)⟩

theorem once_laid {W : World} (h : ∃ es : List Addr, es.length = 2 ∧ ∀ (i g : Nat) (a : Addr), [2, 3][i]? = some g → es[i]? = some a → W.cell? ⟨g, 0, none⟩ = some (errV a)) :
    ∃ aR aS, W.cell? ⟨2, 0, none⟩ = some (.iface 98 (.pointer (some aR))) ∧ W.cell? ⟨3, 0, none⟩ = some (.iface 98 (.pointer (some aS))) := by
  obtain ⟨es, hl, hc⟩ := h
  match es, hl with
  | [a, b], _ => exact ⟨a, b, hc 0 _ _ rfl rfl, hc 1 _ _ rfl rfl⟩

end Go.Proofs.YtboebjmfchbgbaaDoor
