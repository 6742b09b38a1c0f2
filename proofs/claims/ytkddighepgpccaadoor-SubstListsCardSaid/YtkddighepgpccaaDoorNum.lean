/-
  The walks of millwrightnum.all and Num.
-/
import Derived.Test.YtkddighepgpccaaDoorErrs
namespace Go.Proofs.YtkddighepgpccaaDoor
open Go Go.RowKit
set_option linter.unusedSimpArgs false
set_option linter.unusedVariables false

theorem eighteen {α : Type} (l : List α) (h : l.length = 18) : ∃ a0 a1 a2 a3 a4 a5 a6 a7 a8 a9 a10 a11 a12 a13 a14 a15 a16 a17, l = [a0, a1, a2, a3, a4, a5, a6, a7, a8, a9, a10, a11, a12, a13, a14, a15, a16, a17] := by
  match l, h with
  | [a0, a1, a2, a3, a4, a5, a6, a7, a8, a9, a10, a11, a12, a13, a14, a15, a16, a17], _ => exact ⟨a0, a1, a2, a3, a4, a5, a6, a7, a8, a9, a10, a11, a12, a13, a14, a15, a16, a17, rfl⟩

set_option maxHeartbeats 2000000 in
theorem all_any (es : List Addr) (w : World) (hE : Errs w es) :
    Calls Tryd.prog 36 #[] w fun e w' => e = .returned (.slice (some ⟨w.heap.size, 0, none⟩) 18 18) ∧ w' = w.alloc (.cells (es.map errV).toArray 27) := by
  have hc := hE.cell
  obtain ⟨a0, a1, a2, a3, a4, a5, a6, a7, a8, a9, a10, a11, a12, a13, a14, a15, a16, a17, rfl⟩ := eighteen es hE.len
  have c0 : w.cell? ⟨4, 0, none⟩ = some (.iface 123 (.pointer (some a0))) := hc 0 _ _ rfl rfl
  have c1 : w.cell? ⟨0, 0, none⟩ = some (.iface 123 (.pointer (some a1))) := hc 1 _ _ rfl rfl
  have c2 : w.cell? ⟨5, 0, none⟩ = some (.iface 123 (.pointer (some a2))) := hc 2 _ _ rfl rfl
  have c3 : w.cell? ⟨6, 0, none⟩ = some (.iface 123 (.pointer (some a3))) := hc 3 _ _ rfl rfl
  have c4 : w.cell? ⟨7, 0, none⟩ = some (.iface 123 (.pointer (some a4))) := hc 4 _ _ rfl rfl
  have c5 : w.cell? ⟨1, 0, none⟩ = some (.iface 123 (.pointer (some a5))) := hc 5 _ _ rfl rfl
  have c6 : w.cell? ⟨8, 0, none⟩ = some (.iface 123 (.pointer (some a6))) := hc 6 _ _ rfl rfl
  have c7 : w.cell? ⟨9, 0, none⟩ = some (.iface 123 (.pointer (some a7))) := hc 7 _ _ rfl rfl
  have c8 : w.cell? ⟨10, 0, none⟩ = some (.iface 123 (.pointer (some a8))) := hc 8 _ _ rfl rfl
  have c9 : w.cell? ⟨2, 0, none⟩ = some (.iface 123 (.pointer (some a9))) := hc 9 _ _ rfl rfl
  have c10 : w.cell? ⟨11, 0, none⟩ = some (.iface 123 (.pointer (some a10))) := hc 10 _ _ rfl rfl
  have c11 : w.cell? ⟨12, 0, none⟩ = some (.iface 123 (.pointer (some a11))) := hc 11 _ _ rfl rfl
  have c12 : w.cell? ⟨13, 0, none⟩ = some (.iface 123 (.pointer (some a12))) := hc 12 _ _ rfl rfl
  have c13 : w.cell? ⟨14, 0, none⟩ = some (.iface 123 (.pointer (some a13))) := hc 13 _ _ rfl rfl
  have c14 : w.cell? ⟨15, 0, none⟩ = some (.iface 123 (.pointer (some a14))) := hc 14 _ _ rfl rfl
  have c15 : w.cell? ⟨16, 0, none⟩ = some (.iface 123 (.pointer (some a15))) := hc 15 _ _ rfl rfl
  have c16 : w.cell? ⟨17, 0, none⟩ = some (.iface 123 (.pointer (some a16))) := hc 16 _ _ rfl rfl
  have c17 : w.cell? ⟨18, 0, none⟩ = some (.iface 123 (.pointer (some a17))) := hc 17 _ _ rfl rfl
  clear hc hE
  go_enter Tryd.func36, Tryd.ntmps36
  go_wp2
  go_ret
  exact ⟨rfl, rfl⟩

theorem Num_nil (w : World) :
    Calls Tryd.prog 14 #[.nilIface] w fun e w' => e = .returned (.int .i64 0) ∧ w = w' := by
  go_enter Tryd.func14, Tryd.ntmps14
  go_wp2
  go_ret
  exact ⟨rfl, rfl⟩

theorem errs_at {es : List Addr} {w : World} {k : Nat} {b : Addr} (hb : es[k]? = some b) :
    (w.alloc (.cells (es.map errV).toArray 27)).cell? ⟨w.heap.size, k, none⟩ = some (.iface 123 (.pointer (some b))) := by
  have : (es.map errV)[k]? = some (errV b) := by rw [List.getElem?_map, hb]; rfl
  rw [World.cell?_alloc_at _ _ _ _ rfl]
  simpa [errV] using this
theorem errs_row {es : List Addr} {w : World} {b : Addr} (h : ∃ c t, w.heap[b.block]? = some (.cells c t (0, 0))) (o : Obj) : ∃ c t, (w.alloc o).heap[b.block]? = some (.cells c t (0, 0)) := by
  obtain ⟨c, t, h⟩ := h
  exact ⟨c, t, by rw [((Below.refl w.heap.size w).alloc (Nat.le_refl _) o).block _ (Array.getElem?_eq_some_iff.1 h).1]; exact h⟩

set_option maxHeartbeats 2000000 in
theorem Num_err (es : List Addr) (j : Nat) (a : Addr) (hj : es[j]? = some a) (w : World) (hE : Errs w es) :
    Calls Tryd.prog 14 #[.iface 123 (.pointer (some a))] w fun e w' => e = .returned (.int .i64 ((j : Int) + 1)) ∧ Below w.heap.size w w' := by
  have hj18 : j < 18 := by have := (List.getElem?_eq_some_iff.1 hj).1; have := hE.len; omega
  obtain ⟨ca, ta, hra⟩ := errs_row (es := es) (hE.row a (List.mem_of_getElem? hj)) (.cells (es.map errV).toArray 27)
  have HJ := Lib.hid hj
  have HE := hE
  clear hj
  go_enter Tryd.func14, Tryd.ntmps14
  go_wp2_with (go_at_call 36; refine (all_any es _ hE).mono ?_; rintro e w' ⟨rfl, rfl⟩)
  go_loopw [9] (fun i wr => ∃ k : Nat, k ≤ j ∧ i = .int .i64 k ∧ wr = w.alloc (.cells (es.map errV).toArray 27)) (fun i _ => 18 - (intOf i).toNat)
  case atStart => exact ⟨0, Nat.zero_le _, rfl, rfl⟩
  case round =>
    obtain ⟨k, hk, rfl, rfl⟩ := hrel
    obtain ⟨b, hb⟩ : ∃ b, es[k]? = some b := ⟨_, List.getElem?_eq_getElem (by have := hE.len; omega)⟩
    have cb := errs_at (w := w) hb
    obtain ⟨cc, tb, hrb⟩ := errs_row (es := es) (hE.row b (List.mem_of_getElem? hb)) (.cells (es.map errV).toArray 27)
    by_cases hkj : k = j
    · subst hkj
      obtain rfl : a = b := Option.some.inj (HJ.out.symm.trans hb)
      clear HJ hb HE hE
      go_wp2_with (go_at_call 37; refine (is_same _ _).mono ?_; rintro e w' ⟨rfl, rfl⟩)
      go_ret
      exact ⟨rfl, (Below.refl _ _).alloc (Nat.le_refl _) _⟩
    · have hne : a ≠ b := by
        rintro rfl
        have h1 := List.getElem?_eq_some_iff.1 HJ.out
        have h2 := List.getElem?_eq_some_iff.1 hb
        obtain ⟨h1, e1⟩ := h1
        obtain ⟨h2, e2⟩ := h2
        exact hkj ((List.getElem_inj hE.nodup).1 (e2.trans e1.symm))
      clear HJ hb HE hE
      go_wp2_with (go_at_call 37; refine (is_other _ _ _ _ _ _ _ hne hra hrb).mono ?_; rintro e w' ⟨rfl, rfl⟩)
      go_roundw
      case rel => exact ⟨k + 1, by omega, by go_num, trivial⟩
      case measure => first | (simp [intOf]; done) | (simp [intOf]; omega)

end Go.Proofs.YtkddighepgpccaaDoor
