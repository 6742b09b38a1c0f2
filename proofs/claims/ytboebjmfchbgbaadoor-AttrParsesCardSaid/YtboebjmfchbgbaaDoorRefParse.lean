/-
  The walk of the reference's Parse of layer 18.
-/
import Derived.Test.YtboebjmfchbgbaaDoorRefAttr
import Derived.Test.YtboebjmfchbgbaaDoorParseErr
import Derived.Test.YtboebjmfchbgbaaDoorRow
import Derived.Laws.Entries
namespace Go.Proofs.YtboebjmfchbgbaaDoor
open Go.RowKit
set_option linter.unusedSimpArgs false
set_option linter.unusedVariables false

def PRes.ref : PRes → Value
  | .ok f p => .tuple #[.agg #[.int .i64 f, .string (str p)], .int .i64 0]
  | .bad => .tuple #[.agg #[.int .i64 0, .string ByteArray.empty], .int .i64 7]
  | .long => .tuple #[.agg #[.int .i64 0, .string ByteArray.empty], .int .i64 2]
theorem or_val : ∀ f : Nat, f < 256 → ∀ k : Nat, k < 8 → bits .or .i64 (f : Int) (2 ^ k) = (if refHas (f : Int) (2 ^ k) = true then (f : Int) else f + 2 ^ k) ∧ 0 ≤ bits .or .i64 (f : Int) (2 ^ k) ∧ bits .or .i64 (f : Int) (2 ^ k) < 256 := by
  decide +kernel

set_option maxHeartbeats 4000000 in
theorem RefParse_any (s : ByteArray) (w : World) (hs : s.size ≤ maxLen) :
    Calls Tryd.prog 22 #[.string s] w fun e w' => e = .returned (parseL s.data.toList 0).ref ∧ Below w.heap.size w w' := by
  unfold maxLen at hs
  obtain ⟨r, hr⟩ : ∃ r, parseL s.data.toList 0 = r := ⟨_, rfl⟩
  rw [hr]
  have H := Lib.hid hr
  clear hr
  go_enter Tryd.func22, Tryd.ntmps22
  go_wp2_with fail
  go_loopw [0] (fun v wr => ∃ (z : ByteArray) (g : Int), v = .string z ∧ z.size ≤ s.size ∧ 0 ≤ g ∧ g < 256 ∧ Hid (parseL z.data.toList g = r) ∧ RowAt wr w.heap.size #[.int .i64 0, .string ByteArray.empty] 35 ∧ RowAt wr (w.heap.size + 1) #[.int .i64 g, .string ByteArray.empty] 35 ∧ Below w.heap.size w wr) (fun v _ => match v with | .string z => z.size | _ => 0)
  case atStart => exact ⟨s, 0, rfl, Nat.le_refl _, by omega, by omega, H, (RowAt.new _ _ _).old _, by have := RowAt.new (w.alloc (.cells #[.int .i64 0, .string ByteArray.empty] 35)) #[.int .i64 0, .string ByteArray.empty] 35; simp at this; exact this, ((Below.refl _ _).alloc (Nat.le_refl _) _).alloc (by simp) _⟩
  case round =>
    obtain ⟨z, g, rfl, hzs, hg0, hg1, HK, hN, hM, hbl⟩ := hrel
    have c0 := hN.cellIs 0 _ rfl
    have c1 := hN.cellIs 1 _ rfl
    have c2 := hM.cellIs 0 _ rfl
    have c3 := hM.cellIs 1 _ rfl
    have f0 := hN.frozen 0
    have f1 := hN.frozen 1
    have f2 := hM.frozen 0
    have f3 := hM.frozen 1
    have e0 : ∀ v, (wr.setCell ⟨w.heap.size, 0, none⟩ v).cell? ⟨w.heap.size, 0, none⟩ = some v := fun v => (hN.set 0 v).cellIs 0 _ rfl
    have e1 : ∀ u v, ((wr.setCell ⟨w.heap.size, 0, none⟩ u).setCell ⟨w.heap.size, 1, none⟩ v).cell? ⟨w.heap.size, 1, none⟩ = some v := fun u v => ((hN.set 0 u).set 1 v).cellIs 1 _ rfl
    have e2 : ∀ v, (wr.setCell ⟨w.heap.size + 1, 1, none⟩ v).cell? ⟨w.heap.size + 1, 1, none⟩ = some v := fun v => (hM.set 1 v).cellIs 1 _ rfl
    have e3 : ∀ x u, ((wr.setCell ⟨w.heap.size + 1, 1, none⟩ x).setCell ⟨w.heap.size, 0, none⟩ u).cell? ⟨w.heap.size, 0, none⟩ = some u := fun x u => ((hN.other x (by simp)).set 0 u).cellIs 0 _ rfl
    have e4 : ∀ x u v, (((wr.setCell ⟨w.heap.size + 1, 1, none⟩ x).setCell ⟨w.heap.size, 0, none⟩ u).setCell ⟨w.heap.size, 1, none⟩ v).cell? ⟨w.heap.size, 1, none⟩ = some v := fun x u v => (((hN.other x (by simp)).set 0 u).set 1 v).cellIs 1 _ rfl
    by_cases hlt : 0 < z.size
    · have HK0 : parseL (z.data.toList.drop 0) g = r := HK.out
      by_cases hc : (((z[0].toNat : Nat) : Int) == 80) = true
      · rcases parse_P2 hlt hc HK0 with ⟨he, hle, rfl⟩ | ⟨he, hle, rfl⟩ | ⟨he, hle, rfl⟩
        · have hz : z.size = 1 := by omega
          clear HK HK0 H he hle
          go_wp2
          (try simp only [Exit.inBlock, Exit.then])
          refine bodyPost_ret (by simp [results, Tryd.results22, go_sem, e0, e1, e3, e4]; try rfl) rfl ?_
          exact ⟨rfl, (hbl.setCell (by simp) _).setCell (by simp) _⟩
        · have h1 : (((z.size : Nat) : Int) == 1) = false := by simp; omega
          have h2 : 121 < z.size := by omega
          clear HK HK0 H he hle
          go_wp2
          (try simp only [Exit.inBlock, Exit.then])
          refine bodyPost_ret (by simp [results, Tryd.results22, go_sem, e0, e1, e3, e4]; try rfl) rfl ?_
          exact ⟨rfl, (hbl.setCell (by simp) _).setCell (by simp) _⟩
        · have h1 : (((z.size : Nat) : Int) == 1) = false := by
            simp only [beq_eq_false_iff_ne, ne_eq]
            intro h
            have hz : z.size = 1 := by omega
            rw [Lib.toList_data, extract_end] at he
            have hd : z.data.toList.drop (0 + 1) = [] := by rw [List.drop_eq_nil_iff, ← ba_size]; omega
            rw [hd] at he; cases he
          have h2 : z.size ≤ 121 := by omega
          clear HK HK0 H he hle
          go_wp2
          (try simp only [Exit.inBlock, Exit.then])
          refine bodyPost_ret (by simp [results, Tryd.results22, go_sem, e0, e1, e3, e4]; try rfl) rfl ?_
          refine ⟨?_, ((hbl.setCell (by simp) _).setCell (by simp) _).setCell (by simp) _⟩
          rw [show z.extract 1 z.size = str (z.data.toList.drop (0 + 1)) from ba_ext (extract_end _ _)]
          rfl
      · have hc' := Bool.eq_false_iff.2 hc
        clear hc
        obtain ⟨V, hV⟩ : ∃ V, valI z[0] = V := ⟨_, rfl⟩
        rcases parse_letter2 hlt hc' HK0 with ⟨hb, rfl⟩ | ⟨b, hb, hb8, hp⟩
        · have hV0 : V = 0 := by rw [← hV]; unfold valI; rw [if_pos hb]
          subst hV0
          clear HK HK0 H hb
          go_wp2_with (go_at_call 38; refine (value_any _ _).mono ?_; rintro e w' ⟨rfl, rfl⟩; rw [hV])
          (try simp only [Exit.inBlock, Exit.then])
          refine bodyPost_ret (by simp [results, Tryd.results22, go_sem, e0, e1, e3, e4]; try rfl) rfl ?_
          exact ⟨rfl, (hbl.setCell (by simp) _).setCell (by simp) _⟩
        · have hV2 : V = 2 ^ b := by
            rw [← hV]; unfold valI; rw [hb, if_neg (by omega)]; rfl
          obtain ⟨hv1, hv2⟩ := pow_range hb8
          rw [← hV2] at hv1 hv2
          obtain ⟨n, rfl⟩ := Int.eq_ofNat_of_zero_le hg0
          obtain ⟨ho, ho0, ho1⟩ := or_val n (by omega) b hb8
          rw [← hV2] at hp ho ho0 ho1
          obtain ⟨bb, hbb⟩ : ∃ bb, refHas (n : Int) V = bb := ⟨_, rfl⟩
          rw [hbb] at ho
          have hv0 : (V == 0) = false := by simp; omega
          have HP : Hid (parseL (z.extract 1 z.size).data.toList (if bb = true then (n : Int) else n + V) = r) := by
            show _ = _
            rw [← ho, extract_end]
            exact hp
          have HO1 : Hid (0 ≤ (if bb = true then (n : Int) else n + V)) := by show _ ≤ _; rw [← ho]; exact ho0
          have HO2 : Hid ((if bb = true then (n : Int) else n + V) < 256) := by show _ < _; rw [← ho]; exact ho1
          clear HK HK0 H hb hp ho ho0 ho1 hV2 hb8
          have hng : (0 : Int) ≤ (n : Int) := hg0
          have hng2 : (n : Int) ≤ 100000 := by omega
          have hlw := hM.lt
          cases bb
          · go_wp2_with (first | (go_at_call 38; refine (value_any _ _).mono ?_; rintro e w' ⟨rfl, rfl⟩; rw [hV]) | (go_at_call 37; refine (RefHas_any _ _ _ _ hng hng2 hv1 (by omega)).mono ?_; rw [hbb]; rintro e w2 ⟨rfl, hbx⟩; have hN2 := hN.later hbx hN.lt; have hM2 := hM.later hbx hM.lt; have d2 := hM2.cellIs 0 _ rfl; have g2 := hM2.frozen 0))
            go_roundw
            case rel => exact ⟨_, _, rfl, by rw [ba_size, extract_end, List.length_drop, ← ba_size]; omega, HO1.out, HO2.out, HP, hN2.other _ (by simp), hM2.set 0 _, (hbl.trans (hbx.mono (by omega))).setCell (by simp) _⟩
            case measure =>
              show (z.extract 1 z.size).size < z.size
              rw [ba_size, extract_end, List.length_drop, ← ba_size]; omega
          · go_wp2_with (first | (go_at_call 38; refine (value_any _ _).mono ?_; rintro e w' ⟨rfl, rfl⟩; rw [hV]) | (go_at_call 37; refine (RefHas_any _ _ _ _ hng hng2 hv1 (by omega)).mono ?_; rw [hbb]; rintro e w2 ⟨rfl, hbx⟩; have hN2 := hN.later hbx hN.lt; have hM2 := hM.later hbx hM.lt))
            go_roundw
            case rel => exact ⟨_, _, rfl, by rw [ba_size, extract_end, List.length_drop, ← ba_size]; omega, HO1.out, HO2.out, HP, hN2, hM2, hbl.trans (hbx.mono (by omega))⟩
            case measure =>
              show (z.extract 1 z.size).size < z.size
              rw [ba_size, extract_end, List.length_drop, ← ba_size]; omega
    · have hz0 : z.size = 0 := by omega
      have hd : z.data.toList = [] := List.eq_nil_of_length_eq_zero (by rw [← ba_size]; exact hz0)
      have hp := HK.out
      rw [hd] at hp
      unfold parseL at hp
      subst hp
      clear HK H hd
      have e5 : ∀ u, (wr.setCell ⟨w.heap.size, 0, none⟩ u).cell? ⟨w.heap.size, 0, none⟩ = some u := e0
      go_wp2
      (try simp only [Exit.inBlock, Exit.then])
      refine bodyPost_ret (by simp [results, Tryd.results22, go_sem, e0, e1, e3, e4]; try rfl) rfl ?_
      exact ⟨rfl, (hbl.setCell (by simp) _).setCell (by simp) _⟩

end Go.Proofs.YtboebjmfchbgbaaDoor
