/-
  The walk of attr.Parse (layer 18), and the chapter's example.
-/
import Derived.Test.YtboebjmfchbgbaaDoorAttr
namespace Go.Proofs.YtboebjmfchbgbaaDoor
open Go.RowKit
set_option linter.unusedSimpArgs false
set_option linter.unusedVariables false

def letters : List UInt8 := [68, 69, 78, 110, 81, 82, 85, 86]
inductive PRes where
  | ok (f : Int) (p : List UInt8)
  | bad
  | long
  deriving DecidableEq
def parseL : List UInt8 → Int → PRes
  | [], f => .ok f []
  | c :: l, f => if c = 80 then (if l = [] then .bad else if 120 < l.length then .long else .ok f l)
      else if Lib.indexByte letters c < 0 then .bad else parseL l (bits .or .i64 f (2 ^ (Lib.indexByte letters c).toNat))

theorem set_two (w : World) (o : Obj) (x y v : Value) (t : TypeId) (q : Nat) : (((w.alloc o).alloc (.cells #[x, y] t)).drewN q).setCell ⟨w.heap.size + 1, 0, none⟩ v = ((w.alloc o).alloc (.cells #[v, y] t)).drewN q := by
  have : ((w.alloc o).alloc (.cells #[x, y] t)).setCell ⟨w.heap.size + 1, 0, none⟩ v = (w.alloc o).alloc (.cells #[v, y] t) := by
    rw [World.setCell_alloc_at _ _ _ _ _ (by simp)]
    rfl
  rw [← this]; rfl
theorem parse_P {s : ByteArray} {k : Nat} {g f : Int} {p : List UInt8} (hlt : k < s.size) (hc : (((s[k].toNat : Nat) : Int) == 80) = true) (h : parseL (s.data.toList.drop k) g = .ok f p) :
    f = g ∧ p = s.data.toList.drop (k + 1) ∧ (s.extract (k + 1) s.size).toList.isEmpty = false ∧ s.size - (k + 1) ≤ 120 := by
  have hl : k < s.data.toList.length := by rw [← ba_size]; exact hlt
  rw [List.drop_eq_getElem_cons hl] at h
  have e : s.data.toList[k] = 80 := by
    have := (byte_int s[k] 80).symm.trans hc
    exact eq_of_beq this
  unfold parseL at h
  rw [if_pos e] at h
  split at h
  · cases h
  · rename_i hne
    split at h
    · cases h
    · rename_i hle
      injection h with h1 h2
      refine ⟨h1.symm, h2.symm, ?_, ?_⟩
      · rw [Lib.toList_data, extract_end]
        simpa using hne
      · rw [List.length_drop, ← ba_size] at hle; omega
theorem parse_letter {s : ByteArray} {k : Nat} {g f : Int} {p : List UInt8} (hlt : k < s.size) (hc : (((s[k].toNat : Nat) : Int) == 80) = false) (h : parseL (s.data.toList.drop k) g = .ok f p) :
    ∃ b : Nat, Lib.indexByte letters s[k] = b ∧ b < 8 ∧ parseL (s.data.toList.drop (k + 1)) (bits .or .i64 g (2 ^ b)) = .ok f p := by
  have hl : k < s.data.toList.length := by rw [← ba_size]; exact hlt
  rw [List.drop_eq_getElem_cons hl] at h
  have e : ¬ s.data.toList[k] = 80 := by
    intro he
    have := (byte_int s[k] 80).symm.trans hc
    have h2 : ¬ s[k] = 80 := by simpa using this
    exact h2 he
  unfold parseL at h
  rw [if_neg e] at h
  split at h
  · cases h
  · rename_i h0
    have e2 : s.data.toList[k] = s[k] := rfl
    rw [e2] at h h0
    obtain ⟨b, hb⟩ := Int.eq_ofNat_of_zero_le (show 0 ≤ Lib.indexByte letters s[k] by omega)
    refine ⟨b, hb, ?_, ?_⟩
    · obtain ⟨h1, _⟩ := Lib.indexByte_some hb
      have := (List.getElem?_eq_some_iff.1 h1).1
      exact this
    · rw [hb] at h; simpa using h

set_option maxHeartbeats 1000000 in
theorem Parse_ok (s : ByteArray) (w : World) (f : Int) (p : List UInt8) (hs : s.size ≤ maxLen) (h : parseL s.data.toList 0 = .ok f p) :
    Calls Tryd.prog 14 #[.string s] w fun e w' => e = .returned (.tuple #[.agg #[.int .i64 f, .string (str p)], .nilIface]) ∧ Below w.heap.size w w' := by
  unfold maxLen at hs
  have H := Lib.hid h
  clear h
  go_enter Tryd.func14, Tryd.ntmps14
  go_wp2_with fail
  go_loopw [9] (fun i wr => ∃ (k q : Nat) (g : Int), k ≤ s.size ∧ i = .int .i64 k ∧ Hid (parseL (s.data.toList.drop k) g = .ok f p) ∧ wr = ((w.alloc (.cells #[.int .i64 0, .string ByteArray.empty] 23)).alloc (.cells #[.int .i64 g, .string ByteArray.empty] 23)).drewN q) (fun i _ => s.size - (intOf i).toNat)
  case atStart => exact ⟨0, 0, 0, Nat.zero_le _, rfl, H, rfl⟩
  case round =>
    obtain ⟨k, q, g, hk, rfl, HK, rfl⟩ := hrel
    by_cases hlt : k < s.size
    · by_cases hc : (((s[k].toNat : Nat) : Int) == 80) = true
      · obtain ⟨rfl, rfl, he, hle⟩ := parse_P hlt hc HK.out
        clear HK H
        go_wp2
        go_returns
        refine ⟨?_, ?_⟩
        · rw [show s.extract (k + 1) s.size = str (s.data.toList.drop (k + 1)) from ba_ext (extract_end _ _)]
        · exact (((below_drewN (((Below.refl _ _).alloc (Nat.le_refl _) _).alloc (by simp) _) q).setCell (by simp) _).setCell (by simp) _).setCell (by simp) _
      · have hc' := Bool.eq_false_iff.2 hc
        clear hc
        obtain ⟨b, hb, hb8, hp⟩ := parse_letter hlt hc' HK.out
        have hw : wrap64 (2 ^ b) = 2 ^ b := by
          have : b = 0 ∨ b = 1 ∨ b = 2 ∨ b = 3 ∨ b = 4 ∨ b = 5 ∨ b = 6 ∨ b = 7 := by omega
          rcases this with rfl | rfl | rfl | rfl | rfl | rfl | rfl | rfl <;> (unfold wrap64; decide)
        rw [← hw] at hp
        have HP := Lib.hid hp
        clear hp HK H hw
        unfold letters at hb
        go_wp2_with (go_at_call 36; refine (Tryd.strings_IndexByte _ _ _).mono ?_; rintro e w' ⟨rfl, rfl⟩)
        go_region
        go_wp2
        go_roundw
        case rel => exact ⟨k + 1, q + 1, _, by omega, by go_num, HP, set_two _ _ _ _ _ _ _⟩
        case measure => first | (simp [intOf]; done) | (simp [intOf]; omega)
    · have hd : s.data.toList.drop k = [] := by rw [List.drop_eq_nil_iff, ← ba_size]; omega
      have hp := HK.out
      rw [hd] at hp
      unfold parseL at hp
      injection hp with h1 h2
      subst h1
      subst h2
      clear HK H
      go_wp2
      go_returns
      exact ⟨rfl, ((below_drewN (((Below.refl _ _).alloc (Nat.le_refl _) _).alloc (by simp) _) q).setCell (by simp) _).setCell (by simp) _⟩

theorem alive18_parse : parseL [86, 81] 0 = .ok 144 [] := by decide +kernel
set_option maxHeartbeats 1000000 in
theorem alive18_any (w : World) :
    Calls Tryd.prog 9 #[] w fun e w' => e = .returned (.bool true) ∧ Below w.heap.size w w' := by
  have h1 : hasB 144 128 = true := by decide +kernel
  have h2 : hasB 144 1 = false := by decide +kernel
  go_enter Tryd.func9, Tryd.ntmps9
  go_wp2_with (first | (go_at_call 14; refine (Parse_ok _ _ 144 [] (by decide) alive18_parse).mono ?_; rintro e w1 ⟨rfl, hb0⟩; have hb := hb0.alloc hb0.size (.cells #[.int .i64 144, .string (str [])] 23)) | (go_at_call 11; refine (Has_any _ _ _ _).mono ?_; rintro e w2 ⟨rfl, hb2⟩; obtain ⟨hc2, hf2⟩ := old_cells hb2; have hb := below_next hb hb2))
  go_ret
  exact ⟨rfl, hb⟩

end Go.Proofs.YtboebjmfchbgbaaDoor
