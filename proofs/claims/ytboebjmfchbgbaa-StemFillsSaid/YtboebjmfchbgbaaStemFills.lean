/-
  Walks of the reference's Fill, and of FillAll.
-/
import Derived.Test.YtboebjmfchbgbaaLong
import Derived.Test.YtboebjmfchbgbaaSameT
import Derived.Test.YtboebjmfchbgbaaCat
import Derived.Test.YtboebjmfchbgbaaRefStem
import Derived.Test.YtboebjmfchbgbaaAliveStem
namespace Go.Proofs.Ytboebjmfchbgbaa
open Go.RowKit
set_option linter.unusedSimpArgs false
set_option linter.unusedVariables false

set_option maxHeartbeats 1000000 in
theorem RefFill_any (m : Nat) : ∀ (p s : ByteArray) (w : World), p.size ≤ m → p.size ≤ 1000 → s.size ≤ 1000 →
    Calls Try.prog 29 #[.string p, .string s] w fun e w' => e = .returned (.string (fillS p s)) ∧ ∃ q, w' = w.drewN q := by
  induction m with
  | zero =>
    intro p s w h hp hs
    have h0 : wI p < 0 := by unfold wI; rw [if_neg (by have := wn_le p; omega)]; decide
    have HF := Lib.hid (fillS_none (s := s) h0)
    go_enter Try.func29, Try.ntmps29
    go_wp2_with (go_at_call 24; refine (RefWild_any _ _ (by unfold maxLen; omega)).mono ?_; rintro e w' ⟨rfl, rfl⟩)
    go_ret
    exact ⟨ret_str HF.out.symm, 0, rfl⟩
  | succ m ih =>
    intro p s w h hp hs
    obtain ⟨k, hk⟩ : ∃ k, wn p = k := ⟨_, rfl⟩
    by_cases hlt : k < p.size
    · have HI : Hid (wI p = k) := wI_yes hlt hk
      have HF := Lib.hid (fillS_split (s := s) hlt hk)
      obtain ⟨X, hX⟩ : ∃ X, p.extract 0 k = X := ⟨_, rfl⟩
      obtain ⟨R, hR⟩ : ∃ R, p.extract (k + 1) p.size = R := ⟨_, rfl⟩
      have zX : X.size ≤ 1000 := by rw [← hX, ByteArray.size_extract]; omega
      have zR : R.size ≤ m := by rw [← hR, ByteArray.size_extract]; omega
      have zR2 : R.size ≤ 1000 := by rw [← hR, ByteArray.size_extract]; omega
      obtain ⟨Y, hY⟩ : ∃ Y, X ++ s = Y := ⟨_, rfl⟩
      have zY : Y.size ≤ 2000 := by rw [← hY, ba_size, ba_append, List.length_append, ← ba_size, ← ba_size]; omega
      have zF := fillS_size zR2 hs
      have w3 : IntKind.i64.wrap ((k : Int) + 1) = (k : Int) + 1 := IntWalk.i64_in _ (by omega)
      have l0 : (0 : Int) ≤ k := by omega
      have l2 : (k : Int) ≤ p.size := by omega
      have l3 : (k : Int) + 1 ≤ p.size := by omega
      have l4 : (0 : Int) ≤ (k : Int) + 1 := by omega
      have l5 : ((k : Int) + 1).toNat = k + 1 := by omega
      have IH := Lib.hid ih
      clear ih hk
      go_enter Try.func29, Try.ntmps29
      go_wp2_with (go_at_call 24; refine (RefWild_any _ _ (by unfold maxLen; omega)).mono ?_; rintro e w' ⟨rfl, rfl⟩; rw [HI.out])
      go_quiet ((go_at_call 29; exact Calls.quiet_of (IH.out R s _ zR zR2 hs)))
      go_wp2
      go_ret
      exact ⟨ret_str (by rw [HF.out, hX, hR, hY]), _, rfl⟩
    · have h0 : wI p < 0 := by unfold wI; rw [if_neg (by omega)]; decide
      have HF := Lib.hid (fillS_none (s := s) h0)
      clear ih hk
      go_enter Try.func29, Try.ntmps29
      go_wp2_with (go_at_call 24; refine (RefWild_any _ _ (by unfold maxLen; omega)).mono ?_; rintro e w' ⟨rfl, rfl⟩)
      go_ret
      exact ⟨ret_str HF.out.symm, 0, rfl⟩

/-- The row that FillAll has gathered behind k texts. -/
def AllRow (B : Nat) (xs : List ByteArray) (s : ByteArray) (k : Nat) (v : Value) (w : World) : Prop :=
  w.ownsRow B 9 1 v k (txts ((xs.take k).map fun p => fillS p s))
set_option maxHeartbeats 1000000 in
theorem FillAll_any (A : Option Addr) (n c : Nat) (xs : List ByteArray) (s : ByteArray) (w : World) (hx : Txt w A n c xs) (hn : n ≤ 1000000) (hz : ∀ x ∈ xs, x.size ≤ 1000) (hs : s.size ≤ 1000) :
    Calls Try.prog 31 #[.slice A n c, .string s] w fun e w' => ∃ v, e = .returned v ∧ w'.ownsRow w.heap.size 9 1 v n (txts (xs.map fun p => fillS p s)) ∧ Below w.heap.size w w' := by
  obtain ⟨i0, hi, hz0, hz1, hz2⟩ := info_parts Try.info_str
  have HX := Lib.hid hx
  have HZ := Lib.hid hz
  clear hx hz
  go_enter Try.func31, Try.ntmps31
  go_wp2
  go_loopw [5, 10] (fun v i wr => ∃ k : Nat, k ≤ n ∧ i = .int .i64 k ∧ AllRow w.heap.size xs s k v wr ∧ Below w.heap.size w wr) (fun _ i _ => n - (intOf i).toNat)
  case atStart => exact ⟨0, Nat.zero_le _, rfl, World.ownsRow_nil _ _ _ _, Below.refl _ _⟩
  case round =>
    obtain ⟨k, hk, rfl, HR, hbl⟩ := hrel
    have hsz := hbl.size
    by_cases hlt : k < n
    · obtain ⟨a, x, rfl, hxk, hc⟩ := (HX.out.below hbl).at_ hlt
      have hxs := HZ.out x (List.mem_of_getElem? hxk)
      have HS := Lib.hid (map_take_snoc (f := fun p => fillS p s) hxk)
      have HK := Lib.hid hxk
      clear hxk
      go_wp2_with (first | (go_at_call 25; refine (Fill_any _ _ _ (by omega) (by omega)).mono ?_; rintro e w1 ⟨rfl, hb1⟩; have hs1 := hb1.size; have HR1 := own_below HR hb1; have hbl1 := below_then hbl hsz hb1) | (at_builtin; refine wpList_append_own _ rfl _ _ 44 rfl w.heap.size 9 i0 (.string ByteArray.empty) 1 16 Try.underlying44 hi hz0 hz1 hz2 rfl (by decide) _ _ _ rfl (HR1.alloc _) ⟨w1.heap.size, 0, none⟩ 1 1 [.string (fillS x s)] rfl rfl (cell_one_new _ _ _) (by intro u hu; simp at hu; subst hu; rfl) (by unfold maxLen; omega) (by omega) (by simp; omega) ?_; intro v' w2 hown' hgrow _))
      have hbl' : Below w.heap.size w w2 := (hbl1.alloc (by omega) _).grown hgrow (by simp; omega) (own_base HR1)
      have HR' : AllRow w.heap.size xs s (k + 1) v' w2 := by
        unfold AllRow
        rw [HS.out, ← txts_append]
        exact hown'
      clear hown' hgrow
      go_wp2
      go_roundw
      case rel => exact ⟨k + 1, by omega, by go_num, HR', hbl'⟩
      case measure => first | (simp [intOf]; done) | (simp [intOf]; omega)
    · go_wp2
      go_ret
      refine ⟨_, rfl, ?_, hbl⟩
      have hkn : k = n := by omega
      have := HR
      unfold AllRow at this
      rw [hkn, ← HX.out.len, List.take_length, HX.out.len] at this
      exact this

end Go.Proofs.Ytboebjmfchbgbaa
