/-
  The walks of attr.Parse where it answers an error.
-/
import Derived.Test.YtboebjmfchbgbaaDoorAttrParse
namespace Go.Proofs.YtboebjmfchbgbaaDoor
open Go.RowKit
set_option linter.unusedSimpArgs false
set_option linter.unusedVariables false

theorem parse_P2 {s : ByteArray} {k : Nat} {g : Int} {r : PRes} (hlt : k < s.size) (hc : (((s[k].toNat : Nat) : Int) == 80) = true) (h : parseL (s.data.toList.drop k) g = r) :
    ((s.extract (k + 1) s.size).toList.isEmpty = true ∧ s.size - (k + 1) = 0 ∧ r = .bad) ∨ ((s.extract (k + 1) s.size).toList.isEmpty = false ∧ 120 < s.size - (k + 1) ∧ r = .long) ∨ ((s.extract (k + 1) s.size).toList.isEmpty = false ∧ s.size - (k + 1) ≤ 120 ∧ r = .ok g (s.data.toList.drop (k + 1))) := by
  have hl : k < s.data.toList.length := by rw [← ba_size]; exact hlt
  rw [List.drop_eq_getElem_cons hl] at h
  have e : s.data.toList[k] = 80 := by
    have := (byte_int s[k] 80).symm.trans hc
    exact eq_of_beq this
  unfold parseL at h
  rw [if_pos e] at h
  split at h
  · rename_i he
    refine .inl ⟨?_, ?_, h.symm⟩
    · rw [Lib.toList_data, extract_end]
      simpa using he
    · have := congrArg List.length he
      rw [List.length_drop, ← ba_size] at this; simpa using this
  · rename_i hne
    split at h
    · rename_i hle
      refine .inr (.inl ⟨?_, ?_, h.symm⟩)
      · rw [Lib.toList_data, extract_end]
        simpa using hne
      · rw [List.length_drop, ← ba_size] at hle; omega
    · rename_i hle
      refine .inr (.inr ⟨?_, ?_, h.symm⟩)
      · rw [Lib.toList_data, extract_end]
        simpa using hne
      · rw [List.length_drop, ← ba_size] at hle; omega
theorem parse_letter2 {s : ByteArray} {k : Nat} {g : Int} {r : PRes} (hlt : k < s.size) (hc : (((s[k].toNat : Nat) : Int) == 80) = false) (h : parseL (s.data.toList.drop k) g = r) :
    (Lib.indexByte letters s[k] < 0 ∧ r = .bad) ∨ ∃ b : Nat, Lib.indexByte letters s[k] = b ∧ b < 8 ∧ parseL (s.data.toList.drop (k + 1)) (bits .or .i64 g (2 ^ b)) = r := by
  have hl : k < s.data.toList.length := by rw [← ba_size]; exact hlt
  rw [List.drop_eq_getElem_cons hl] at h
  have e : ¬ s.data.toList[k] = 80 := by
    intro he
    have := (byte_int s[k] 80).symm.trans hc
    have h2 : ¬ s[k] = 80 := by simpa using this
    exact h2 he
  unfold parseL at h
  rw [if_neg e] at h
  have e2 : s.data.toList[k] = s[k] := rfl
  rw [e2] at h
  split at h
  · rename_i h0
    exact .inl ⟨h0, h.symm⟩
  · rename_i h0
    obtain ⟨b, hb⟩ := Int.eq_ofNat_of_zero_le (show 0 ≤ Lib.indexByte letters s[k] by omega)
    refine .inr ⟨b, hb, ?_, ?_⟩
    · obtain ⟨h1, _⟩ := Lib.indexByte_some hb
      have := (List.getElem?_eq_some_iff.1 h1).1
      exact this
    · rw [hb] at h; simpa using h

def PRes.err : PRes → Value → Value → Value
  | .ok .., _, _ => .nilIface
  | .bad, x, _ => x
  | .long, _, y => y
set_option maxHeartbeats 2000000 in
theorem Parse_err (s : ByteArray) (w : World) (aA aL : Addr) (r : PRes) (hr : r = .bad ∨ r = .long) (hs : s.size ≤ maxLen) (h : parseL s.data.toList 0 = r)
    (cA : w.cell? ⟨0, 0, none⟩ = some (.iface 98 (.pointer (some aA)))) (cL : w.cell? ⟨1, 0, none⟩ = some (.iface 98 (.pointer (some aL)))) :
    Calls Tryd.prog 14 #[.string s] w fun e w' => e = .returned (.tuple #[.agg #[.int .i64 0, .string ByteArray.empty], r.err (.iface 98 (.pointer (some aA))) (.iface 98 (.pointer (some aL)))]) ∧ Below w.heap.size w w' := by
  unfold maxLen at hs
  have old : ∀ {g : Nat} {v : Value}, w.cell? ⟨g, 0, none⟩ = some v → ¬ g = w.heap.size ∧ ¬ g = w.heap.size + 1 ∧ ¬ w.heap.size = g ∧ ¬ w.heap.size + 1 = g := by
    intro g v h
    have := World.block_lt_of_cell? w _ h
    simp only at this
    omega
  obtain ⟨nA1, nA2, nA3, nA4⟩ := old cA
  obtain ⟨nL1, nL2, nL3, nL4⟩ := old cL
  clear old
  have H := Lib.hid h
  have HR := Lib.hid hr
  clear h hr
  go_enter Tryd.func14, Tryd.ntmps14
  go_wp2_with fail
  go_loopw [9] (fun i wr => ∃ (k q : Nat) (g : Int), k ≤ s.size ∧ i = .int .i64 k ∧ Hid (parseL (s.data.toList.drop k) g = r) ∧ wr = ((w.alloc (.cells #[.int .i64 0, .string ByteArray.empty] 23)).alloc (.cells #[.int .i64 g, .string ByteArray.empty] 23)).drewN q) (fun i _ => s.size - (intOf i).toNat)
  case atStart => exact ⟨0, 0, 0, Nat.zero_le _, rfl, H, rfl⟩
  case round =>
    obtain ⟨k, q, g, hk, rfl, HK, rfl⟩ := hrel
    have hbs := below_drewN (((Below.refl w.heap.size w).alloc (Nat.le_refl _) (.cells #[.int .i64 0, .string ByteArray.empty] 23)).alloc (by simp) (.cells #[.int .i64 g, .string ByteArray.empty] 23)) q
    by_cases hlt : k < s.size
    · by_cases hc : (((s[k].toNat : Nat) : Int) == 80) = true
      · rcases parse_P2 hlt hc HK.out with ⟨he, hle, rfl⟩ | ⟨he, hle, rfl⟩ | ⟨_, _, rfl⟩
        · clear HK H HR
          have cA1 := cell_alloc cA (.cells #[.int .i64 0, .string ByteArray.empty] 23)
          have cA2 := cell_alloc cA1 (.cells #[.int .i64 g, .string ByteArray.empty] 23)
          have cA3 := cell_alloc cA1 (.cells #[.int .i64 g, .string (s.extract (k + 1) s.size)] 23)
          go_wp2
          go_region
          all_goals go_wp2
          all_goals go_returns
          all_goals (refine ⟨rfl, ?_⟩; repeat (first | exact hbs | exact hbs.drew | refine Below.drew ?_ | refine Below.setCell ?_ (by simp) _))
        · clear HK H HR
          have cL1 := cell_alloc cL (.cells #[.int .i64 0, .string ByteArray.empty] 23)
          have cL2 := cell_alloc cL1 (.cells #[.int .i64 g, .string ByteArray.empty] 23)
          have cL3 := cell_alloc cL1 (.cells #[.int .i64 g, .string (s.extract (k + 1) s.size)] 23)
          go_wp2
          go_region
          all_goals go_wp2
          all_goals go_returns
          all_goals (refine ⟨rfl, ?_⟩; repeat (first | exact hbs | exact hbs.drew | refine Below.drew ?_ | refine Below.setCell ?_ (by simp) _))
        · rcases HR.out with h | h <;> cases h
      · have hc' := Bool.eq_false_iff.2 hc
        clear hc
        rcases parse_letter2 hlt hc' HK.out with ⟨hb, rfl⟩ | ⟨b, hb, hb8, hp⟩
        · obtain ⟨v, hv⟩ : ∃ v, Lib.indexByte letters s[k] = v := ⟨_, rfl⟩
          rw [hv] at hb
          have hb' : decide (v < 0) = true := decide_eq_true hb
          have cA1 := cell_alloc cA (.cells #[.int .i64 0, .string ByteArray.empty] 23)
          have cA2 := cell_alloc cA1 (.cells #[.int .i64 g, .string ByteArray.empty] 23)
          have cA3 := cell_alloc cA1 (.cells #[.int .i64 g, .string (s.extract (k + 1) s.size)] 23)
          clear HK H HR
          unfold letters at hv
          go_wp2_with (go_at_call 36; refine (Tryd.strings_IndexByte _ _ _).mono ?_; rintro e w' ⟨rfl, rfl⟩)
          go_region
          all_goals go_wp2
          all_goals go_returns
          all_goals (refine ⟨rfl, ?_⟩; repeat (first | exact hbs | exact hbs.drew | refine Below.drew ?_ | refine Below.setCell ?_ (by simp) _))
        · have hw : wrap64 (2 ^ b) = 2 ^ b := by
            have : b = 0 ∨ b = 1 ∨ b = 2 ∨ b = 3 ∨ b = 4 ∨ b = 5 ∨ b = 6 ∨ b = 7 := by omega
            rcases this with rfl | rfl | rfl | rfl | rfl | rfl | rfl | rfl <;> (unfold wrap64; decide)
          rw [← hw] at hp
          have HP := Lib.hid hp
          clear hp HK H hw HR
          unfold letters at hb
          go_wp2_with (go_at_call 36; refine (Tryd.strings_IndexByte _ _ _).mono ?_; rintro e w' ⟨rfl, rfl⟩)
          go_region
          go_wp2
          go_roundw
          case rel => exact ⟨k + 1, q + 1, _, by omega, by go_num, HP, set_two _ _ _ _ _ _ _⟩
          case measure => first | (simp [intOf]; done) | (simp [intOf]; omega)
    · have hd : s.data.toList.drop k = [] := by rw [List.drop_eq_nil_iff, ← ba_size]; omega
      have hp := HK.out
      rw [hd] at hp
      unfold parseL at hp
      exfalso
      rcases HR.out with h | h <;> (rw [h] at hp; cases hp)

end Go.Proofs.YtboebjmfchbgbaaDoor
