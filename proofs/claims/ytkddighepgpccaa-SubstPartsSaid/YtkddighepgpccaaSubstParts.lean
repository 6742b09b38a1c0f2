/-
  The walk of the statement SubstParts: a list is its chosen ones and its others. No condition.
-/
import Derived.Test.YtkddighepgpccaaSubst
import Derived.Test.YtkddighepgpccaaRefStem
import Derived.Test.YtkddighepgpccaaLong
import Derived.Maps.AppendAt
namespace Go.Proofs.Ytkddighepgpccaa
open Go.RowKit
set_option linter.unusedSimpArgs false
set_option linter.unusedVariables false

theorem filter_take_step {f : ByteArray → Bool} {xs : List ByteArray} {k : Nat} {x : ByteArray} (h : xs[k]? = some x) : (xs.take (k + 1)).filter f = (xs.take k).filter f ++ if f x = true then [x] else [] := by
  have hk : k < xs.length := (List.getElem?_eq_some_iff.1 h).1
  rw [List.take_succ_eq_append_getElem hk, List.filter_append]
  rw [List.getElem?_eq_getElem hk] at h
  injection h with h
  rw [h]
  cases hf : f x <;> simp [hf]
theorem filter_at {f : ByteArray → Bool} {xs : List ByteArray} {k : Nat} {x : ByteArray} (h : xs[k]? = some x) (hf : f x = true) : (xs.filter f)[((xs.take k).filter f).length]? = some x := by
  have hsp : xs.filter f = (xs.take (k + 1)).filter f ++ (xs.drop (k + 1)).filter f := by rw [← List.filter_append, List.take_append_drop]
  rw [hsp, filter_take_step h, if_pos hf, List.append_assoc, List.getElem?_append_right (Nat.le_refl _), Nat.sub_self]
  rfl
def Apart (u v : Value) : Prop := ∀ k, u.ownBlock = some k → v.ownBlock ≠ some k
theorem Apart.symm {u v : Value} (h : Apart u v) : Apart v u := fun k hk hv => h k hv hk
theorem Apart.kept {u v : Value} (h : Apart u v) : u.ownBlock = none ∨ u.ownBlock ≠ v.ownBlock := by
  cases hu : u.ownBlock with
  | none => exact .inl rfl
  | some k => exact .inr fun e => h k hu e.symm
theorem own_lt {w : World} {base : Nat} {e : TypeId} {size n : Nat} {v : Value} {xs : List Value} (h : w.ownsRow base e size v n xs) (k : Nat) (hk : v.ownBlock = some k) : k < w.heap.size := by
  rcases h.2 with ⟨rfl, _⟩ | ⟨g, cap, cur, rfl, hb, hh, _⟩
  · simp [Value.ownBlock] at hk
  · have : g = k := by simpa [Value.ownBlock] using hk
    subst this
    exact (Array.getElem?_eq_some_iff.1 hh).1
theorem Apart.next {w W : World} {base : Nat} {e : TypeId} {size n : Nat} {u v v' : Value} {xs : List Value} (h : Apart u v) (hu : w.ownsRow base e size u n xs) (hW : w.heap.size ≤ W.heap.size) (hat : v'.ownBlock = v.ownBlock ∨ v'.ownBlock = some W.heap.size) : Apart u v' := by
  intro k hk hv
  rcases hat with e1 | e1
  · exact h k hk (e1 ▸ hv)
  · have := own_lt hu k hk
    rw [e1] at hv
    injection hv with hv
    omega

def cho (xs : List ByteArray) (p : ByteArray) : List ByteArray := xs.filter fun x => isM p x
def oth (xs : List ByteArray) (p : ByteArray) : List ByteArray := xs.filter fun x => !isM p x
def ChoRow (B : Nat) (xs : List ByteArray) (v : Value) (w : World) : Prop := w.ownsRow B 9 1 v xs.length (txts xs)

set_option maxHeartbeats 4000000 in
theorem split_any (A : Option Addr) (n c : Nat) (xs : List ByteArray) (p : ByteArray) (w : World) (hx : Txt w A n c xs) (hn : n ≤ 1000000) (hz : ∀ x ∈ xs, x.size ≤ 1000) (hp : p.size ≤ 1000) :
    Calls Try.prog 16 #[.slice A n c, .string p] w fun e w' => ∃ v u, e = .returned (.tuple #[v, u]) ∧ ChoRow w.heap.size (cho xs p) v w' ∧ ChoRow w.heap.size (oth xs p) u w' ∧ Below w.heap.size w w' := by
  obtain ⟨i0, hi, hz0, hz1, hz2⟩ := info_parts Try.info_str
  have HX := Lib.hid hx
  have HZ := Lib.hid hz
  clear hx hz
  go_enter Try.func16, Try.ntmps16
  go_wp2
  go_loopw [4, 5, 12] (fun v u i wr => ∃ k : Nat, k ≤ n ∧ i = .int .i64 k ∧ ChoRow w.heap.size (cho (xs.take k) p) v wr ∧ ChoRow w.heap.size (oth (xs.take k) p) u wr ∧ Apart v u ∧ Below w.heap.size w wr) (fun _ _ i _ => n - (intOf i).toNat)
  case atStart => exact ⟨0, Nat.zero_le _, rfl, World.ownsRow_nil _ _ _ _, World.ownsRow_nil _ _ _ _, fun k hk => by simp [Value.ownBlock] at hk, Below.refl _ _⟩
  case round =>
    obtain ⟨k, hk, rfl, HR, HO, hap, hbl⟩ := hrel
    have hsz := hbl.size
    by_cases hlt : k < n
    · obtain ⟨a, x, rfl, hxk, hc⟩ := (HX.out.below hbl).at_ hlt
      have hxs := HZ.out x (List.mem_of_getElem? hxk)
      have HC := Lib.hid (filter_take_step (f := fun x => isM p x) hxk)
      have HD := Lib.hid (filter_take_step (f := fun x => !isM p x) hxk)
      have hlc : (cho (xs.take k) p).length ≤ n := by
        refine Nat.le_trans (List.length_filter_le _ _) ?_
        rw [List.length_take]; omega
      have hlo : (oth (xs.take k) p).length ≤ n := by
        refine Nat.le_trans (List.length_filter_le _ _) ?_
        rw [List.length_take]; omega
      clear hxk
      obtain ⟨b, hb⟩ : ∃ b, isM p x = b := ⟨_, rfl⟩
      have HAP := Lib.hid hap
      clear hap
      cases b
      · have HC' : Hid (cho (xs.take (k + 1)) p = cho (xs.take k) p) := by show _ = _; unfold cho; rw [HC.out, hb]; simp
        have HD' : Hid (oth (xs.take (k + 1)) p = oth (xs.take k) p ++ [x]) := by show _ = _; unfold oth; rw [HD.out, hb]; rfl
        clear HC HD
        go_wp2_with (first | (go_at_call 14; refine (Match_any _ _ _ (by unfold maxLen; omega) (by unfold maxLen; omega)).mono ?_; rintro e w' ⟨rfl, rfl⟩; rw [hb]) | (at_builtin; refine wpList_append_own_at _ rfl (.tmp 27) (.tmp 29) 27 rfl w.heap.size 9 i0 (.string ByteArray.empty) 1 16 Try.underlying27 hi hz0 hz1 hz2 rfl (by decide) _ _ _ rfl (World.ownsRow.alloc HO _) ⟨wr.heap.size, 0, none⟩ 1 1 [.string x] rfl rfl (cell_one_new _ _ _) (by intro u hu; simp at hu; subst hu; rfl) (by unfold maxLen; omega) (by omega) (by simp; omega) ?_; intro v' w2 hown' hgrow hnil hat; clear hnil))
        have hbl' : Below w.heap.size w w2 := (hbl.alloc (by omega) _).grown hgrow (by simp; omega) (own_base HO)
        have HO' : ChoRow w.heap.size (oth (xs.take (k + 1)) p) v' w2 := by
          unfold ChoRow
          rw [HD'.out, ← txts_append, List.length_append]
          exact hown'
        have HR' : ChoRow w.heap.size (cho (xs.take (k + 1)) p) u4 w2 := by
          rw [HC'.out]
          exact (World.ownsRow.alloc HR _).kept hgrow HAP.out.kept
        have hap' : Hid (Apart u4 v') := HAP.out.next HR (by simp) hat
        clear hown' hgrow hat HR HO
        go_wp2
        go_roundw
        case rel => exact ⟨k + 1, by omega, by go_num, HR', HO', hap'.out, hbl'⟩
        case measure => first | (simp [intOf]; done) | (simp [intOf]; omega)
      · have HC' : Hid (cho (xs.take (k + 1)) p = cho (xs.take k) p ++ [x]) := by show _ = _; unfold cho; rw [HC.out, hb]; rfl
        have HD' : Hid (oth (xs.take (k + 1)) p = oth (xs.take k) p) := by show _ = _; unfold oth; rw [HD.out, hb]; simp
        clear HC HD
        go_wp2_with (first | (go_at_call 14; refine (Match_any _ _ _ (by unfold maxLen; omega) (by unfold maxLen; omega)).mono ?_; rintro e w' ⟨rfl, rfl⟩; rw [hb]) | (at_builtin; refine wpList_append_own_at _ rfl (.tmp 23) (.tmp 25) 27 rfl w.heap.size 9 i0 (.string ByteArray.empty) 1 16 Try.underlying27 hi hz0 hz1 hz2 rfl (by decide) _ _ _ rfl (World.ownsRow.alloc HR _) ⟨wr.heap.size, 0, none⟩ 1 1 [.string x] rfl rfl (cell_one_new _ _ _) (by intro u hu; simp at hu; subst hu; rfl) (by unfold maxLen; omega) (by omega) (by simp; omega) ?_; intro v' w2 hown' hgrow hnil hat; clear hnil))
        have hbl' : Below w.heap.size w w2 := (hbl.alloc (by omega) _).grown hgrow (by simp; omega) (own_base HR)
        have HR' : ChoRow w.heap.size (cho (xs.take (k + 1)) p) v' w2 := by
          unfold ChoRow
          rw [HC'.out, ← txts_append, List.length_append]
          exact hown'
        have HO' : ChoRow w.heap.size (oth (xs.take (k + 1)) p) u5 w2 := by
          rw [HD'.out]
          exact (World.ownsRow.alloc HO _).kept hgrow HAP.out.symm.kept
        have hap' : Hid (Apart v' u5) := (HAP.out.symm.next HO (by simp) hat).symm
        clear hown' hgrow hat HR HO
        go_wp2
        go_roundw
        case rel => exact ⟨k + 1, by omega, by go_num, HR', HO', hap'.out, hbl'⟩
        case measure => first | (simp [intOf]; done) | (simp [intOf]; omega)
    · have hkn : k = xs.length := by rw [HX.out.len]; omega
      have HR2 : Hid (ChoRow w.heap.size (cho xs p) u4 wr) := by
        have := HR
        rw [hkn, List.take_length] at this
        exact this
      have HO2 : Hid (ChoRow w.heap.size (oth xs p) u5 wr) := by
        have := HO
        rw [hkn, List.take_length] at this
        exact this
      clear HR HO hkn
      go_wp2
      go_ret2
      exact ⟨_, _, rfl, HR2.out, HO2.out, hbl⟩

theorem ChoRow.txt {B : Nat} {xs : List ByteArray} {v : Value} {w : World} (h : ChoRow B xs v w) : ∃ A c, v = .slice A xs.length c ∧ Txt w A xs.length c xs := Txt.of_own h
set_option maxHeartbeats 1000000 in
theorem Chosen_any (A : Option Addr) (n c : Nat) (xs : List ByteArray) (p : ByteArray) (w : World) (hx : Txt w A n c xs) (hn : n ≤ 1000000) (hz : ∀ x ∈ xs, x.size ≤ 1000) (hp : p.size ≤ 1000) :
    Calls Try.prog 10 #[.slice A n c, .string p] w fun e w' => ∃ B d, e = .returned (.slice B (cho xs p).length d) ∧ Txt w' B (cho xs p).length d (cho xs p) ∧ Below w.heap.size w w' := by
  have HX := Lib.hid hx
  have HZ := Lib.hid hz
  clear hx hz
  go_enter Try.func10, Try.ntmps10
  go_wp2_with (go_at_call 16; refine (split_any _ _ _ xs _ _ HX.out (by omega) HZ.out (by omega)).mono ?_; rintro e w1 ⟨v, u, rfl, hv, hu, hb⟩)
  go_ret
  obtain ⟨B, d, rfl, ht⟩ := hv.txt
  exact ⟨_, _, rfl, ht, hb⟩
set_option maxHeartbeats 1000000 in
theorem Others_any (A : Option Addr) (n c : Nat) (xs : List ByteArray) (p : ByteArray) (w : World) (hx : Txt w A n c xs) (hn : n ≤ 1000000) (hz : ∀ x ∈ xs, x.size ≤ 1000) (hp : p.size ≤ 1000) :
    Calls Try.prog 11 #[.slice A n c, .string p] w fun e w' => ∃ B d, e = .returned (.slice B (oth xs p).length d) ∧ Txt w' B (oth xs p).length d (oth xs p) ∧ Below w.heap.size w w' := by
  have HX := Lib.hid hx
  have HZ := Lib.hid hz
  clear hx hz
  go_enter Try.func11, Try.ntmps11
  go_wp2_with (go_at_call 16; refine (split_any _ _ _ xs _ _ HX.out (by omega) HZ.out (by omega)).mono ?_; rintro e w1 ⟨v, u, rfl, hv, hu, hb⟩)
  go_ret
  obtain ⟨B, d, rfl, ht⟩ := hu.txt
  exact ⟨_, _, rfl, ht, hb⟩

set_option maxHeartbeats 8000000 in
theorem substParts_walk (A : Option Addr) (n c : Nat) (xs : List ByteArray) (s : ByteArray) (w : World) (hx : Txt w A n c xs) (hz : ∀ x ∈ xs, x.size ≤ maxLen) (ws : s.size ≤ maxLen) :
    Calls Try.prog 4 #[.slice A n c, .string s] w fun e w' => e = .returned (.bool true) ∧ Below w.heap.size w w' := by
  unfold maxLen at ws
  have HX := Lib.hid hx
  have HZ := Lib.hid hz
  clear hx hz
  obtain ⟨lb, hlb⟩ : ∃ b, longB xs 30 100 = b := ⟨_, rfl⟩
  rcases (show lb = true ∨ (lb = false ∧ 60 < s.size) ∨ (lb = false ∧ s.size ≤ 60) from by cases lb <;> simp; omega) with rfl | ⟨rfl, h2⟩ | ⟨rfl, h2⟩
  · go_enter Try.func4, Try.ntmps4
    go_wp2_with (first | (go_at_call 5; refine (alive16_any _).mono ?_; rintro e w1 ⟨rfl, hb⟩) | (go_at_call 9; refine (Long_any _ _ _ xs 30 100 _ (HX.out.below hb) (by omega) (by omega) HZ.out).mono ?_; rintro e w' ⟨rfl, rfl⟩; rw [hlb]))
    go_ret
    exact ⟨rfl, hb⟩
  · go_enter Try.func4, Try.ntmps4
    go_wp2_with (first | (go_at_call 5; refine (alive16_any _).mono ?_; rintro e w1 ⟨rfl, hb⟩) | (go_at_call 9; refine (Long_any _ _ _ xs 30 100 _ (HX.out.below hb) (by omega) (by omega) HZ.out).mono ?_; rintro e w' ⟨rfl, rfl⟩; rw [hlb]))
    go_ret
    exact ⟨rfl, hb⟩
  · obtain ⟨hn, hzz⟩ := longB_no hlb
    rw [HX.out.len] at hn
    have HZZ : Hid (∀ x ∈ xs, x.size ≤ 1000) := fun x hx => Nat.le_trans (hzz x hx) (by decide)
    clear hzz
    obtain ⟨nc, hnc⟩ : ∃ m, (cho xs s).length = m := ⟨_, rfl⟩
    obtain ⟨no, hno⟩ : ∃ m, (oth xs s).length = m := ⟨_, rfl⟩
    have hnc2 : nc ≤ 30 := by rw [← hnc]; refine Nat.le_trans (List.length_filter_le _ _) ?_; rw [HX.out.len]; omega
    have hno2 : no ≤ 30 := by rw [← hno]; refine Nat.le_trans (List.length_filter_le _ _) ?_; rw [HX.out.len]; omega
    have HNC := Lib.hid hnc
    have HNO := Lib.hid hno
    clear hnc hno
    go_enter Try.func4, Try.ntmps4
    go_wp2_with (first | (go_at_call 5; refine (alive16_any _).mono ?_; rintro e w1 ⟨rfl, hb⟩) | (go_at_call 9; refine (Long_any _ _ _ xs 30 100 _ (HX.out.below hb) (by omega) (by omega) HZ.out).mono ?_; rintro e w' ⟨rfl, rfl⟩; rw [hlb]) | (go_at_call 10; refine (Chosen_any _ _ _ xs _ _ (HX.out.below hb) (by omega) HZZ.out (by omega)).mono ?_; rw [HNC.out]; rintro e w2 ⟨B, d, rfl, ht, hb2⟩; have hb0 := below_next hb hb2; have HT := Lib.hid ht; clear ht hb hb2) | (go_at_call 11; refine (Others_any _ _ _ xs _ _ (HX.out.below hb0) (by omega) HZZ.out (by omega)).mono ?_; rw [HNO.out]; rintro e w3 ⟨C, f, rfl, ht2, hb3⟩; have hb4 := below_next hb0 hb3; have HT2 := Lib.hid ht2; have HT1 := Lib.hid (HT.out.below hb3); clear ht2 hb0 hb3 HT))
    go_loopw [7, 8, 30] (fun a b i wr => ∃ k ka kb : Nat, k ≤ n ∧ ka ≤ nc ∧ kb ≤ no ∧ i = .int .i64 k ∧ a = .int .i64 ka ∧ b = .int .i64 kb ∧ Hid (ka = (cho (xs.take k) s).length) ∧ Hid (kb = (oth (xs.take k) s).length) ∧ ∃ q, wr = w3.drewN q) (fun _ _ i _ => n - (intOf i).toNat)
    case atStart => exact ⟨0, 0, 0, Nat.zero_le _, Nat.zero_le _, Nat.zero_le _, rfl, rfl, rfl, rfl, rfl, 0, rfl⟩
    case round =>
      obtain ⟨k, ka, kb, hk, hka, hkb, rfl, rfl, rfl, HA, HB, q, rfl⟩ := hrel
      by_cases hlt : k < n
      · obtain ⟨a, x, rfl, hxk, hc⟩ := (HX.out.below hb4).at_ hlt
        have hxs := HZZ.out x (List.mem_of_getElem? hxk)
        obtain ⟨b, hb⟩ : ∃ b, isM s x = b := ⟨_, rfl⟩
        have HC := Lib.hid (filter_take_step (f := fun x => isM s x) hxk)
        have HD := Lib.hid (filter_take_step (f := fun x => !isM s x) hxk)
        cases b
        · have hat := filter_at (f := fun x => !isM s x) hxk (by simp [hb])
          have hat' : (oth xs s)[kb]? = some x := by rw [HB.out]; exact hat
          have hkb2 : kb < no := by rw [← HNO.out]; exact (List.getElem?_eq_some_iff.1 hat').1
          obtain ⟨a2, y, rfl, hyk, hc2⟩ := HT2.out.at_ hkb2
          rw [hat'] at hyk
          injection hyk with hyk
          subst hyk
          have HA' : Hid (ka = (cho (xs.take (k + 1)) s).length) := by show _ = _; have := HA.out; unfold cho at this ⊢; rw [HC.out, hb]; simpa using this
          have HB' : Hid (kb + 1 = (oth (xs.take (k + 1)) s).length) := by show _ = _; unfold oth; rw [HD.out, hb, HB.out, List.length_append]; rfl
          clear hxk hat hat' HC HD HA HB
          go_wp2_with (go_at_call 12; refine (RefMatch_any _ _ _ (by omega) (by omega)).mono ?_; rintro e w' ⟨rfl, q2, rfl⟩; rw [hb])
          go_roundw
          case rel => exact ⟨k + 1, ka, kb + 1, by omega, by omega, by omega, by go_num, rfl, by go_num, HA', HB', _, rfl⟩
          case measure => first | (simp [intOf]; done) | (simp [intOf]; omega)
        · have hat := filter_at (f := fun x => isM s x) hxk (by simp [hb])
          have hat' : (cho xs s)[ka]? = some x := by rw [HA.out]; exact hat
          have hka2 : ka < nc := by rw [← HNC.out]; exact (List.getElem?_eq_some_iff.1 hat').1
          obtain ⟨a2, y, rfl, hyk, hc2⟩ := HT1.out.at_ hka2
          rw [hat'] at hyk
          injection hyk with hyk
          subst hyk
          have HA' : Hid (ka + 1 = (cho (xs.take (k + 1)) s).length) := by show _ = _; unfold cho; rw [HC.out, hb, HA.out, List.length_append]; rfl
          have HB' : Hid (kb = (oth (xs.take (k + 1)) s).length) := by show _ = _; have := HB.out; unfold oth at this ⊢; rw [HD.out, hb]; simpa using this
          clear hxk hat hat' HC HD HA HB
          go_wp2_with (go_at_call 12; refine (RefMatch_any _ _ _ (by omega) (by omega)).mono ?_; rintro e w' ⟨rfl, q2, rfl⟩; rw [hb])
          go_roundw
          case rel => exact ⟨k + 1, ka + 1, kb, by omega, by omega, by omega, by go_num, by go_num, rfl, HA', HB', _, rfl⟩
          case measure => first | (simp [intOf]; done) | (simp [intOf]; omega)
      · have hkn : k = xs.length := by rw [HX.out.len]; omega
        obtain rfl : ka = nc := by rw [HA.out, hkn, List.take_length]; exact HNC.out
        obtain rfl : kb = no := by rw [HB.out, hkn, List.take_length]; exact HNO.out
        clear HA HB hkn HNC HNO HT1 HT2
        go_wp2
        go_ret
        exact ⟨rfl, below_drewN hb4 _⟩

end Go.Proofs.Ytkddighepgpccaa
