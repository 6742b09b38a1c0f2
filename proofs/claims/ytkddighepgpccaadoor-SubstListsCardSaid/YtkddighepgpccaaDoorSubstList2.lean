/-
  The walks of subst.List and of the reference's List.
-/
import Derived.Test.YtkddighepgpccaaDoorSubstList
import Derived.Laws.OwnMore
import Derived.Handy
namespace Go.Proofs.YtkddighepgpccaaDoor
open Go.RowKit
set_option linter.unusedSimpArgs false
set_option linter.unusedVariables false

def WRow (B : Nat) (ws : List ByteArray) (v : Value) (w : World) : Prop := w.ownsRow B 9 1 v ws.length (txts ws)
theorem WRow.txt {B : Nat} {ws : List ByteArray} {v : Value} {w : World} (h : WRow B ws v w) : ∃ A c, v = .slice A ws.length c ∧ Txt w A ws.length c ws := Txt.of_own h
theorem words_len (xs : List ByteArray) (p t : ByteArray) : (wordsS xs p t).length = xs.length := by simp [wordsS]
theorem words_size {xs : List ByteArray} {p t : ByteArray} (hz : ∀ x ∈ xs, x.size ≤ 1000) (ht : t.size ≤ 1000) : ∀ y ∈ wordsS xs p t, y.size ≤ 10000000 := by
  intro y hy
  simp only [wordsS, List.mem_map] at hy
  obtain ⟨x, hx, rfl⟩ := hy
  exact Nat.le_trans (wordS_size (hz x hx) ht) (by decide)
theorem words_at {xs : List ByteArray} {p t : ByteArray} {k : Nat} {x : ByteArray} (h : xs[k]? = some x) : wordS x p t ∈ wordsS xs p t := by
  simp only [wordsS, List.mem_map]
  exact ⟨x, List.mem_of_getElem? h, rfl⟩

set_option maxHeartbeats 4000000 in
theorem List_no (A : Option Addr) (n c : Nat) (xs : List ByteArray) (p t : ByteArray) (w : World) (hx : Txt w A n c xs) (hn : n ≤ 1000) (hz : ∀ x ∈ xs, x.size ≤ 1000) (hp : p.size ≤ 1000) (ht : t.size ≤ 1000) (hw : ∀ y ∈ wordsS xs p t, y.size ≤ 120) :
    Calls Tryd.prog 10 #[.slice A n c, .string p, .string t] w fun e w' => ∃ v, e = .returned (.tuple #[v, .nilIface]) ∧ WRow w.heap.size (wordsS xs p t) v w' ∧ Below w.heap.size w w' := by
  obtain ⟨i0, hi, hz0, hz1, hz2⟩ := info_parts Tryd.info_str
  have HX := Lib.hid hx
  have HZ := Lib.hid hz
  have HW := Lib.hid hw
  have HWZ := Lib.hid (words_size (p := p) hz ht)
  clear hx hz hw
  go_enter Tryd.func10, Tryd.ntmps10
  go_wp2
  go_loopw [8, 14] (fun v i wr => ∃ k : Nat, k ≤ n ∧ i = .int .i64 k ∧ WRow w.heap.size (wordsS (xs.take k) p t) v wr ∧ Below w.heap.size w wr) (fun _ i _ => n - (intOf i).toNat)
  case atStart => exact ⟨0, Nat.zero_le _, rfl, World.ownsRow_nil _ _ _ _, Below.refl _ _⟩
  case round =>
    obtain ⟨k, hk, rfl, HR, hbl⟩ := hrel
    have hsz := hbl.size
    by_cases hlt : k < n
    · obtain ⟨a0, x, rfl, hxk, hc⟩ := (HX.out.below hbl).at_ hlt
      have hxs := HZ.out x (List.mem_of_getElem? hxk)
      have HS := Lib.hid (words_take (p := p) (t := t) hxk)
      have hlw : (wordsS (xs.take k) p t).length ≤ n := by rw [words_len, List.length_take]; omega
      clear hxk
      unfold WRow at HR
      go_wp2_with (first | (go_at_call 12; refine (Word_any _ _ _ _ (by omega) (by omega) (by omega)).mono ?_; rintro e w1 ⟨rfl, hb1⟩; have HR1 := own_below HR hb1; have hs1 := hb1.size) | (at_builtin; refine wpList_append_own _ rfl (.tmp 18) (.tmp 23) 22 rfl w.heap.size 9 i0 (.string ByteArray.empty) 1 16 Tryd.underlying22 hi hz0 hz1 hz2 rfl (by decide) _ _ _ rfl (World.ownsRow.alloc HR1 _) ⟨w1.heap.size, 0, none⟩ 1 1 [.string (wordS x p t)] rfl rfl (cell_one_new _ _ _) (by intro u hu; simp at hu; subst hu; rfl) (by unfold maxLen; omega) (by omega) (by simp; omega) ?_; intro v' w2 hown' hgrow _))
      have hbl1 := hbl.trans (hb1.mono hbl.size)
      have hbl' : Below w.heap.size w w2 := (hbl1.alloc (by omega) _).grown hgrow (by simp; omega) (own_base HR1)
      have HR' : Hid (WRow w.heap.size (wordsS (xs.take (k + 1)) p t) v' w2) := by
        show WRow _ _ _ _
        unfold WRow
        rw [HS.out, ← txts_append, List.length_append]
        exact hown'
      clear hown' hgrow HR HR1
      go_wp2
      go_roundw
      case rel => exact ⟨k + 1, by omega, by go_num, HR'.out, hbl'⟩
      case measure => first | (simp [intOf]; done) | (simp [intOf]; omega)
    · have hkn : k = xs.length := by rw [HX.out.len]; omega
      have HR2 : Hid (WRow w.heap.size (wordsS xs p t) u8 wr) := by
        have := HR
        rw [hkn, List.take_length] at this
        exact this
      clear HR hkn
      obtain ⟨A', c', rfl, hT⟩ := HR2.out.txt
      go_wp2_with (go_at_call 31; refine (Contains_no _ _ _ _ _ hT HW.out).mono ?_; rintro e w' ⟨rfl, rfl⟩)
      go_returns
      exact ⟨_, rfl, HR2.out, hbl⟩

set_option maxHeartbeats 4000000 in
theorem List_yes (A : Option Addr) (n c : Nat) (xs : List ByteArray) (p t : ByteArray) (w : World) (hx : Txt w A n c xs) (hn : n ≤ 1000) (hz : ∀ x ∈ xs, x.size ≤ 1000) (hp : p.size ≤ 1000) (ht : t.size ≤ 1000) (hw : ∃ y ∈ wordsS xs p t, 120 < y.size) (a : Addr) (cL : w.cell? ⟨0, 0, none⟩ = some (.iface 123 (.pointer (some a)))) :
    Calls Tryd.prog 10 #[.slice A n c, .string p, .string t] w fun e w' => e = .returned (.tuple #[.slice none 0 0, .iface 123 (.pointer (some a))]) ∧ Below w.heap.size w w' := by
  obtain ⟨i0, hi, hz0, hz1, hz2⟩ := info_parts Tryd.info_str
  have HX := Lib.hid hx
  have HZ := Lib.hid hz
  have HW := Lib.hid hw
  have HWZ := Lib.hid (words_size (p := p) hz ht)
  clear hx hz hw
  go_enter Tryd.func10, Tryd.ntmps10
  go_wp2
  go_loopw [8, 14] (fun v i wr => ∃ k : Nat, k ≤ n ∧ i = .int .i64 k ∧ WRow w.heap.size (wordsS (xs.take k) p t) v wr ∧ Below w.heap.size w wr) (fun _ i _ => n - (intOf i).toNat)
  case atStart => exact ⟨0, Nat.zero_le _, rfl, World.ownsRow_nil _ _ _ _, Below.refl _ _⟩
  case round =>
    obtain ⟨k, hk, rfl, HR, hbl⟩ := hrel
    have hsz := hbl.size
    by_cases hlt : k < n
    · obtain ⟨a0, x, rfl, hxk, hc⟩ := (HX.out.below hbl).at_ hlt
      have hxs := HZ.out x (List.mem_of_getElem? hxk)
      have HS := Lib.hid (words_take (p := p) (t := t) hxk)
      have hlw : (wordsS (xs.take k) p t).length ≤ n := by rw [words_len, List.length_take]; omega
      clear hxk
      unfold WRow at HR
      go_wp2_with (first | (go_at_call 12; refine (Word_any _ _ _ _ (by omega) (by omega) (by omega)).mono ?_; rintro e w1 ⟨rfl, hb1⟩; have HR1 := own_below HR hb1; have hs1 := hb1.size) | (at_builtin; refine wpList_append_own _ rfl (.tmp 18) (.tmp 23) 22 rfl w.heap.size 9 i0 (.string ByteArray.empty) 1 16 Tryd.underlying22 hi hz0 hz1 hz2 rfl (by decide) _ _ _ rfl (World.ownsRow.alloc HR1 _) ⟨w1.heap.size, 0, none⟩ 1 1 [.string (wordS x p t)] rfl rfl (cell_one_new _ _ _) (by intro u hu; simp at hu; subst hu; rfl) (by unfold maxLen; omega) (by omega) (by simp; omega) ?_; intro v' w2 hown' hgrow _))
      have hbl1 := hbl.trans (hb1.mono hbl.size)
      have hbl' : Below w.heap.size w w2 := (hbl1.alloc (by omega) _).grown hgrow (by simp; omega) (own_base HR1)
      have HR' : Hid (WRow w.heap.size (wordsS (xs.take (k + 1)) p t) v' w2) := by
        show WRow _ _ _ _
        unfold WRow
        rw [HS.out, ← txts_append, List.length_append]
        exact hown'
      clear hown' hgrow HR HR1
      go_wp2
      go_roundw
      case rel => exact ⟨k + 1, by omega, by go_num, HR'.out, hbl'⟩
      case measure => first | (simp [intOf]; done) | (simp [intOf]; omega)
    · have hkn : k = xs.length := by rw [HX.out.len]; omega
      have HR2 : Hid (WRow w.heap.size (wordsS xs p t) u8 wr) := by
        have := HR
        rw [hkn, List.take_length] at this
        exact this
      clear HR hkn
      obtain ⟨A', c', rfl, hT⟩ := HR2.out.txt
      have cLr := cell_later hbl cL
      go_wp2_with (go_at_call 31; refine (Contains_yes _ _ _ _ _ hT HWZ.out HW.out).mono ?_; rintro e w' ⟨rfl, rfl⟩)
      go_quiet (fail)
      go_wp2
      go_returns
      exact ⟨rfl, below_drewN hbl _⟩

set_option maxHeartbeats 4000000 in
set_option maxRecDepth 100000 in
theorem RefList_no (A : Option Addr) (n c : Nat) (xs : List ByteArray) (p t : ByteArray) (w : World) (hx : Txt w A n c xs) (hn : n ≤ 1000) (hz : ∀ x ∈ xs, x.size ≤ 1000) (hp : p.size ≤ 1000) (ht : t.size ≤ 1000) (hw : ∀ y ∈ wordsS xs p t, y.size ≤ 120) :
    Calls Tryd.prog 11 #[.slice A n c, .string p, .string t] w fun e w' => ∃ v, e = .returned (.tuple #[v, .int .i64 0]) ∧ WRow w.heap.size (wordsS xs p t) v w' ∧ Below w.heap.size w w' := by
  obtain ⟨i0, hi, hz0, hz1, hz2⟩ := info_parts Tryd.info_str
  have HX := Lib.hid hx
  have HZ := Lib.hid hz
  have HW := Lib.hid hw
  have HL := Lib.hid (World.ownsRow_lit (base := w.heap.size) (e := 9) (size := 1) w #[] 0 (Nat.le_refl _) (by decide) rfl)
  have HB0 := Lib.hid ((Below.refl w.heap.size w).alloc (Nat.le_refl _) (.cells #[] 9))
  clear hx hz hw
  go_enter Tryd.func11, Tryd.ntmps11
  go_wp2
  go_loopw [8, 15] (fun v i wr => ∃ k : Nat, k ≤ n ∧ i = .int .i64 k ∧ WRow w.heap.size (wordsS (xs.take k) p t) v wr ∧ Below w.heap.size w wr) (fun _ i _ => n - (intOf i).toNat)
  case atStart => exact ⟨0, Nat.zero_le _, rfl, HL.out, HB0.out⟩
  case round =>
    obtain ⟨k, hk, rfl, HR, hbl⟩ := hrel
    have hsz := hbl.size
    by_cases hlt : k < n
    · obtain ⟨a0, x, rfl, hxk, hc⟩ := (HX.out.below hbl).at_ hlt
      have hxs := HZ.out x (List.mem_of_getElem? hxk)
      have HS := Lib.hid (words_take (p := p) (t := t) hxk)
      have hws := wordS_size (x := x) (p := p) hxs ht
      have hlw : (wordsS (xs.take k) p t).length ≤ n := by rw [words_len, List.length_take]; omega
      unfold WRow at HR
      have hshort : ¬ 120 < (wordS x p t).size := by have := HW.out _ (words_at (p := p) (t := t) hxk); omega
      clear hxk
      go_wp2_with (first | (go_at_call 13; refine (RefWord_any _ _ _ _ (by omega) (by omega) (by omega)).mono ?_; rintro e w1 ⟨rfl, q, rfl⟩; have HR1 := own_below HR (drewN_below wr q)) | (at_builtin; refine wpList_append_own _ rfl (.tmp 26) (.tmp 28) 22 rfl w.heap.size 9 i0 (.string ByteArray.empty) 1 16 Tryd.underlying22 hi hz0 hz1 hz2 rfl (by decide) _ _ _ rfl (World.ownsRow.alloc HR1 _) ⟨wr.heap.size, 0, none⟩ 1 1 [.string (wordS x p t)] rfl rfl (cell_one_new (wr.drewN q) _ _) (by intro u hu; simp at hu; subst hu; rfl) (by unfold maxLen; omega) (by omega) (by simp; omega) ?_; intro v' w2 hown' hgrow _))
      have hbl1 := below_drewN hbl q
      have hbl' : Below w.heap.size w w2 := (hbl1.alloc (by exact hsz) _).grown hgrow (by simp; exact Nat.le_succ_of_le hsz) (own_base HR1)
      have HR' : Hid (WRow w.heap.size (wordsS (xs.take (k + 1)) p t) v' w2) := by
        show WRow _ _ _ _
        unfold WRow
        rw [HS.out, ← txts_append, List.length_append]
        exact hown'
      clear hown' hgrow HR HR1
      go_wp2
      go_roundw
      case rel => exact ⟨k + 1, by omega, by go_num, HR'.out, hbl'⟩
      case measure => first | (simp [intOf]; done) | (simp [intOf]; omega)
    · have hkn : k = xs.length := by rw [HX.out.len]; omega
      have HR2 : Hid (WRow w.heap.size (wordsS xs p t) u8 wr) := by
        have := HR
        rw [hkn, List.take_length] at this
        exact this
      clear HR hkn
      go_wp2
      go_returns
      exact ⟨_, rfl, HR2.out, hbl⟩

set_option maxHeartbeats 4000000 in
set_option maxRecDepth 100000 in
theorem RefList_yes (A : Option Addr) (n c : Nat) (xs : List ByteArray) (p t : ByteArray) (w : World) (hx : Txt w A n c xs) (hn : n ≤ 1000) (hz : ∀ x ∈ xs, x.size ≤ 1000) (hp : p.size ≤ 1000) (ht : t.size ≤ 1000) (hw : ∃ y ∈ wordsS xs p t, 120 < y.size) :
    Calls Tryd.prog 11 #[.slice A n c, .string p, .string t] w fun e w' => e = .returned (.tuple #[.slice none 0 0, .int .i64 2]) ∧ Below w.heap.size w w' := by
  obtain ⟨i0, hi, hz0, hz1, hz2⟩ := info_parts Tryd.info_str
  have HX := Lib.hid hx
  have HZ := Lib.hid hz
  have HW := Lib.hid hw
  have HL := Lib.hid (World.ownsRow_lit (base := w.heap.size) (e := 9) (size := 1) w #[] 0 (Nat.le_refl _) (by decide) rfl)
  have HB0 := Lib.hid ((Below.refl w.heap.size w).alloc (Nat.le_refl _) (.cells #[] 9))
  clear hx hz hw
  go_enter Tryd.func11, Tryd.ntmps11
  go_wp2
  go_loopw [8, 15] (fun v i wr => ∃ k : Nat, k ≤ n ∧ i = .int .i64 k ∧ WRow w.heap.size (wordsS (xs.take k) p t) v wr ∧ Below w.heap.size w wr ∧ Hid (∀ y ∈ wordsS (xs.take k) p t, ¬ 120 < y.size)) (fun _ i _ => n - (intOf i).toNat)
  case atStart => exact ⟨0, Nat.zero_le _, rfl, HL.out, HB0.out, (by show _; intro y hy; simp [wordsS] at hy)⟩
  case round =>
    obtain ⟨k, hk, rfl, HR, hbl, HK⟩ := hrel
    have hsz := hbl.size
    by_cases hlt : k < n
    · obtain ⟨a0, x, rfl, hxk, hc⟩ := (HX.out.below hbl).at_ hlt
      have hxs := HZ.out x (List.mem_of_getElem? hxk)
      have HS := Lib.hid (words_take (p := p) (t := t) hxk)
      have hws := wordS_size (x := x) (p := p) hxs ht
      have hlw : (wordsS (xs.take k) p t).length ≤ n := by rw [words_len, List.length_take]; omega
      unfold WRow at HR
      by_cases hlong : 120 < (wordS x p t).size
      · clear hxk HK
        go_wp2_with (go_at_call 13; refine (RefWord_any _ _ _ _ (by omega) (by omega) (by omega)).mono ?_; rintro e w1 ⟨rfl, q, rfl⟩; have HR1 := own_below HR (drewN_below wr q))
        go_returns
        exact ⟨rfl, below_drewN hbl _⟩
      · have HK' : Hid (∀ y ∈ wordsS (xs.take (k + 1)) p t, ¬ 120 < y.size) := by
          intro y hy
          rw [HS.out] at hy
          rcases List.mem_append.1 hy with hy | hy
          · exact HK.out y hy
          · simp at hy; subst hy; exact hlong
        clear hxk HK
        go_wp2_with (first | (go_at_call 13; refine (RefWord_any _ _ _ _ (by omega) (by omega) (by omega)).mono ?_; rintro e w1 ⟨rfl, q, rfl⟩; have HR1 := own_below HR (drewN_below wr q)) | (at_builtin; refine wpList_append_own _ rfl (.tmp 26) (.tmp 28) 22 rfl w.heap.size 9 i0 (.string ByteArray.empty) 1 16 Tryd.underlying22 hi hz0 hz1 hz2 rfl (by decide) _ _ _ rfl (World.ownsRow.alloc HR1 _) ⟨wr.heap.size, 0, none⟩ 1 1 [.string (wordS x p t)] rfl rfl (cell_one_new (wr.drewN q) _ _) (by intro u hu; simp at hu; subst hu; rfl) (by unfold maxLen; omega) (by omega) (by simp; omega) ?_; intro v' w2 hown' hgrow _))
        have hbl1 := below_drewN hbl q
        have hbl' : Below w.heap.size w w2 := (hbl1.alloc (by exact hsz) _).grown hgrow (by simp; exact Nat.le_succ_of_le hsz) (own_base HR1)
        have HR' : Hid (WRow w.heap.size (wordsS (xs.take (k + 1)) p t) v' w2) := by
          show WRow _ _ _ _
          unfold WRow
          rw [HS.out, ← txts_append, List.length_append]
          exact hown'
        clear hown' hgrow HR HR1
        go_wp2
        go_roundw
        case rel => exact ⟨k + 1, by omega, by go_num, HR'.out, hbl', HK'⟩
        case measure => first | (simp [intOf]; done) | (simp [intOf]; omega)
    · exfalso
      obtain ⟨y, hy, hyl⟩ := HW.out
      have : xs.take k = xs := List.take_of_length_le (by rw [HX.out.len]; omega)
      exact HK.out y (by rw [this]; exact hy) hyl

end Go.Proofs.YtkddighepgpccaaDoor
