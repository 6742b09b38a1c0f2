/-
  The walk of the statement RexSame; ahead of it the table of the kinds' names, and the walk of rex.Word.
-/
import Derived.Test.YtkddighepgpccaaDoorRexZ
import Derived.Test.YtkddighepgpccaaDoorRexV
import Derived.Test.YtkddighepgpccaaDoorRefP
import Derived.Test.YtkddighepgpccaaDoorRefQ
import Derived.Lib.LaidTab
import Derived.Deep.RegionHeld3
namespace Go.Proofs.YtkddighepgpccaaDoor
open Go Go.RowKit
set_option linter.unusedSimpArgs false
set_option linter.unusedVariables false

theorem some_of_row (ns : List String) (gs : List Nat) (l : List (String × DataW Unit)) (hp : (l.all fun x => x.2.handleName?.isNone) = true) (he : (ns.zip (l.map fun x => textOf x.2)).map mkSent = l) (hl : (l.map fun x => textOf x.2).length = ns.length) (hgl : gs.length = ns.length)
    (hk : ((ns.zip gs).all fun x => Tryd.prog.globalNamed x.1 == some x.2 && (Tryd.prog.globals[x.2]?).map (·.type) == some 27) = true) {w : World} (h : laidMetH Tryd.prog l w) :
    ∃ es : List Addr, es.length = ns.length ∧ ∀ (i g : Nat) (a : Addr), gs[i]? = some g → es[i]? = some a → w.cell? ⟨g, 0, none⟩ = some (errV a) := by
  rw [MakeChecks.laidMetH_plain _ _ _ hp] at h
  rw [← he] at h
  obtain ⟨ps, hv, hnd, hrows⟩ := h
  have key : ∀ (i : Nat) (n : String) (g : Nat), ns[i]? = some n → gs[i]? = some g → Tryd.prog.globalNamed n = some g ∧ (Tryd.prog.globals[g]?).map (·.type) = some 27 := by
    intro i n g hn hg
    have hz : (ns.zip gs)[i]? = some (n, g) := by rw [List.getElem?_zip_eq_some]; exact ⟨hn, hg⟩
    have := List.all_eq_true.1 hk _ (List.mem_of_getElem? hz)
    rw [Bool.and_eq_true] at this
    exact ⟨eq_of_beq this.1, eq_of_beq this.2⟩
  obtain ⟨es, h1, h2, h3, h4⟩ := sents_of Tryd.underlying27 Tryd.rowE Tryd.underlying123 Tryd.underlying148 rfl rfl Tryd.underlying9 Tryd.cellsE Tryd.cellsS _ ps hv (fun x hx => by
    obtain ⟨i, hi⟩ := List.getElem?_of_mem (List.of_mem_zip hx).1
    have hlt := (List.getElem?_eq_some_iff.1 hi).1
    have hig : gs[i]? = some gs[i] := List.getElem?_eq_getElem (by omega)
    exact ⟨_, (key i _ _ hi hig).1, (key i _ _ hi hig).2⟩) hrows hnd
  rw [List.length_zip, hl, Nat.min_self] at h1
  refine ⟨es, h1, fun i g a hg ha => ?_⟩
  have hi : i < es.length := (List.getElem?_eq_some_iff.1 ha).1
  have hin : i < ns.length := by omega
  have hit : i < (l.map fun x => textOf x.2).length := by omega
  have h5 := h4 i (ns[i], (l.map fun x => textOf x.2)[i]) a (by rw [List.getElem?_zip_eq_some]; exact ⟨List.getElem?_eq_getElem hin, List.getElem?_eq_getElem hit⟩) ha
  have := World.var?_cell (key i _ g (List.getElem?_eq_getElem hin) hg).1 h5 0
  simpa [errV] using this


/-- An array of texts that reads as a list of texts holds them, cell for cell. -/
theorem cells_of_texts {H : Type} {enc : TypeId × Value → H} {P : Program} {w : World} {base : Nat} {sp : Nat → Bool} {held : Bool} {fuel : Nat} {t e : TypeId} {n : Nat} {cs : List Value} {zs : List (List UInt8)} {p : List MemPlace}
    (ht : P.underlying t = some (.array n e)) (he : P.underlying e = some .string) (hce : P.cellsOf e = 1) (hct : P.cellsOf t = n)
    (h : DataW.trod enc P w base sp held fuel t cs = some (.agg (zs.map fun z => .lit (.string z)), p)) : cs = zs.map fun z => Value.string ⟨z.toArray⟩ := by
  cases fuel with
  | zero => simp [DataW.trod] at h
  | succ fuel =>
    simp only [DataW.trod, ht, hce, hct, Nat.mul_one] at h
    split at h
    · rename_i hl
      obtain ⟨xs, hm, hx⟩ := Option.map_eq_some_iff.1 h
      have hxs : xs.map (·.1) = zs.map fun z => (DataW.lit (.string z) : DataW H) := by
        have := congrArg Prod.fst hx
        simpa using this
      have hxl : xs.length = n := by simpa using Lib.mapM_length hm
      have hzl : zs.length = n := by
        have := congrArg List.length hxs
        simp at this
        omega
      apply List.ext_getElem?
      intro i
      by_cases hi : i < n
      · obtain ⟨b, hb, hf⟩ := Lib.mapM_at hm i i (by simp [hi])
        obtain ⟨s, hc, rfl, _⟩ := DataW.trod_string he hf
        have h1 : cs[i]? = some (.string s) := by
          have := congrArg (·[0]?) hc
          simpa [List.getElem?_take, List.getElem?_drop] using this
        have h2 : (xs.map (·.1))[i]? = some (DataW.lit (.string s.data.toList) : DataW H) := by simp [hb]
        rw [hxs] at h2
        simp only [List.getElem?_map, Option.map_eq_some_iff, DataW.lit.injEq, Lit.string.injEq] at h2
        obtain ⟨z', hz', hz2⟩ := h2
        rw [List.getElem?_map, hz', h1, hz2]
        rfl
      · rw [List.getElem?_eq_none (by omega), List.getElem?_eq_none (by simp; omega)]
    · cases h
theorem laidVars_split {P : Program} {W : World} : ∀ (l1 l2 : List (String × DataW Unit)) (ps : List MemPlace), DataW.LaidVars P W (l1 ++ l2) ps → ∃ p1 p2, ps = p1 ++ p2 ∧ DataW.LaidVars P W l1 p1 ∧ DataW.LaidVars P W l2 p2
  | [], l2, ps, h => ⟨[], ps, rfl, rfl, h⟩
  | (n, d) :: l1, l2, ps, h => by
    obtain ⟨g, t, cs, fuel, p, q, h1, h2, h3, h4, h5, rfl⟩ := h
    obtain ⟨p1, p2, rfl, h6, h7⟩ := laidVars_split l1 l2 q h5
    exact ⟨MemPlace.row ⟨g, 0, none⟩ cs.size ++ p ++ p1, p2, by simp, ⟨g, t, cs, fuel, p, p1, h1, h2, h3, h4, h6, rfl⟩, h7⟩
theorem laidMet_split {P : Program} {W : World} (l1 l2 : List (String × DataW Unit)) (h : laidMet P (l1 ++ l2) W) : laidMet P l1 W ∧ laidMet P l2 W := by
  obtain ⟨ps, hv, hnd, hr⟩ := h
  obtain ⟨p1, p2, rfl, h1, h2⟩ := laidVars_split l1 l2 ps hv
  rw [List.nodup_append] at hnd
  exact ⟨⟨p1, h1, hnd.1, fun b off hm => hr b off (List.mem_append_left _ hm)⟩, ⟨p2, h2, hnd.2.1, fun b off hm => hr b off (List.mem_append_right _ hm)⟩⟩
/-- The kinds' names. -/
def wordL : List (List UInt8) := [[101, 109, 112, 116, 121], [111, 110, 101], [99, 97, 116], [97, 108, 116], [115, 116, 97, 114], [112, 108, 117, 115], [109, 97, 121, 98, 101], [103, 114, 111, 117, 112], [98, 101, 103, 105, 110], [101, 110, 100]]
def wordB (k : Nat) : ByteArray := ⟨(wordL.getD k []).toArray⟩
def WordsAt (W : World) : Prop := ∀ k, k < 10 → W.cell? ⟨3, k, none⟩ = some (.string (wordB k))
theorem WordsAt.later {w w' : World} (h : WordsAt w) (hb : Below w.heap.size w w') : WordsAt w' := fun k hk => cell_later hb (h k hk)
theorem Tryd.cellsWords : Tryd.prog.cellsOf 79 = 10 := by kernel_rfl
theorem words_of {W : World} (h : laidMet Tryd.prog [("millwright/rex.words", .agg (wordL.map fun z => .lit (.string z)))] W) : WordsAt W := by
  obtain ⟨ps, ⟨g, t, cs, fuel, p, q, hg, ht, hvar, hd, _, _⟩, _⟩ := h
  have hg0 : Tryd.prog.globalNamed "millwright/rex.words" = some 3 := by kernel_rfl
  have ht0 : (Tryd.prog.globals[3]?).map (·.type) = some 79 := by kernel_rfl
  obtain rfl := Option.some.inj (hg0.symm.trans hg)
  obtain rfl := Option.some.inj (ht0.symm.trans ht)
  have hcs := cells_of_texts Tryd.underlying79 Tryd.underlying9 Tryd.cellsS Tryd.cellsWords hd
  intro k hk
  have := World.var?_cell hg0 hvar k
  rw [this]
  have e : cs = (wordL.map fun z => Value.string ⟨z.toArray⟩).toArray := by rw [← hcs]
  rw [e]
  have hk' : k < wordL.length := hk
  simp [wordB, List.getD, hk']
theorem same_laid (l : List (String × DataW Unit)) (hp : (l.all fun x => x.2.handleName?.isNone) = true) (hp3 : ((l.take 3).all fun x => x.2.handleName?.isNone) = true)
    (hsp : l = l.take 3 ++ [("millwright/rex.words", .agg (wordL.map fun z => .lit (.string z)))])
    (he : (["millwright/api.ErrLong", "millwright/api.ErrRegex", "millwright/api.ErrFull"].zip ((l.take 3).map fun x => textOf x.2)).map mkSent = l.take 3) (hlen : ((l.take 3).map fun x => textOf x.2).length = 3) {W : World} (h : laidMetH Tryd.prog l W) : (∃ aL aR aF, Errs3 W aL aR aF) ∧ WordsAt W := by
  rw [MakeChecks.laidMetH_plain _ _ _ hp] at h
  rw [hsp] at h
  obtain ⟨h1, h2⟩ := laidMet_split _ _ h
  have h3 : laidMetH Tryd.prog (l.take 3) W := by
    rw [MakeChecks.laidMetH_plain _ _ _ hp3]; exact h1
  refine ⟨?_, words_of h2⟩
  obtain ⟨es, hl, hc⟩ := some_of_row ["millwright/api.ErrLong", "millwright/api.ErrRegex", "millwright/api.ErrFull"] [0, 1, 2] (l.take 3) hp3 he hlen rfl (by kernel_rfl) h3
  match es, hl with
  | [a, b, c], _ => exact ⟨a, b, c, hc 0 _ _ rfl rfl, hc 1 _ _ rfl rfl, hc 2 _ _ rfl rfl⟩
/-- A kind's name. -/
def wordV (kind : Int) : Value := if 0 ≤ kind ∧ kind ≤ 9 then .string (wordB kind.toNat) else .string ByteArray.empty

set_option maxHeartbeats 2000000 in
theorem Word_any (kind : Int) (w : World) (hW : WordsAt w) :
    Calls Tryd.prog 22 #[.int .i64 kind] w fun e w' => e = .returned (wordV kind) ∧ w' = w := by
  by_cases h0 : kind < 0
  · have hd : decide (kind < 0) = true := decide_eq_true h0
    have hv : wordV kind = .string ByteArray.empty := by unfold wordV; rw [if_neg (by omega)]
    rw [hv]
    go_enter Tryd.func22, Tryd.ntmps22
    go_wp2
    go_ret
    exact ⟨rfl, rfl⟩
  · have hd : decide (kind < 0) = false := decide_eq_false h0
    by_cases h9 : 9 < kind
    · have hd9 : decide (9 < kind) = true := decide_eq_true h9
      have hv : wordV kind = .string ByteArray.empty := by unfold wordV; rw [if_neg (by omega)]
      rw [hv]
      go_enter Tryd.func22, Tryd.ntmps22
      go_wp2
      go_ret
      exact ⟨rfl, rfl⟩
    · obtain ⟨k, rfl⟩ : ∃ k : Nat, kind = (k : Int) := ⟨kind.toNat, by omega⟩
      have hk : k < 10 := by omega
      have hd9 : decide (9 < (k : Int)) = false := decide_eq_false (by omega)
      have hv : wordV (k : Int) = .string (wordB k) := by unfold wordV; rw [if_pos (by omega)]; rfl
      have hc := hW k hk
      rw [hv]
      clear h0 h9 hv
      go_enter Tryd.func22, Tryd.ntmps22
      go_wp2
      go_ret
      exact ⟨rfl, rfl⟩

/-! ### the statement -/

theorem node_held {w : World} {b k i : Nat} {s : S4} {sl : Value} {t : TypeId} (h : RowAt w b (nodeC k i s sl) t) : ∀ w', Below w.heap.size w w' →
    (w'.cell? ⟨b, 0, none⟩ = some (.int .i64 (k : Int)) ∧ w'.cell? ⟨b, 1, none⟩ = some (.int .i64 (i : Int)) ∧ w'.cell? ⟨b, 2, none⟩ = some (.int .u64 (s.a0 : Int)) ∧ w'.cell? ⟨b, 3, none⟩ = some (.int .u64 (s.a1 : Int)) ∧
      w'.cell? ⟨b, 4, none⟩ = some (.int .u64 (s.a2 : Int)) ∧ w'.cell? ⟨b, 5, none⟩ = some (.int .u64 (s.a3 : Int)) ∧ w'.cell? ⟨b, 6, none⟩ = some sl) := fun w' hb => row7 (h.later hb h.lt)

set_option maxHeartbeats 8000000 in
set_option maxRecDepth 100000 in
theorem RexSame_walk (s t : ByteArray) (kind : Int) (w : World) (ws : s.size ≤ maxLen) (wt : t.size ≤ maxLen) (wk : (Lit.int .i64 kind).wf = true) (hL : (∃ aL aR aF, Errs3 w aL aR aF) ∧ WordsAt w) :
    Calls Tryd.prog 4 #[.string s, .string t, .int .i64 kind] w fun e w' => e = .returned (.bool true) ∧ Below w.heap.size w w' := by
  unfold maxLen at ws wt
  obtain ⟨⟨aL, aR, aF, hE3⟩, hWD⟩ := hL
  have HAL := Lib.hid (alive07_any aL aR aF w hE3)
  clear wk
  by_cases h100 : 100 < s.size
  · have hd : decide (100 < s.size) = true := decide_eq_true h100
    clear hE3 hWD
    go_enter Tryd.func4, Tryd.ntmps4
    go_wp2_with (go_at_call 17; refine HAL.out.mono ?_; rintro e w1 ⟨rfl, hb1⟩)
    go_ret
    exact ⟨rfl, hb1⟩
  · have hd : decide (100 < s.size) = false := decide_eq_false h100
    by_cases h100t : 100 < t.size
    · have hdt : decide (100 < t.size) = true := decide_eq_true h100t
      clear hE3 hWD
      go_enter Tryd.func4, Tryd.ntmps4
      go_wp2_with (go_at_call 17; refine HAL.out.mono ?_; rintro e w1 ⟨rfl, hb1⟩)
      go_ret
      exact ⟨rfl, hb1⟩
    · have hdt : decide (100 < t.size) = false := decide_eq_false h100t
      have hszs := prs_size s
      have hszt := prs_size t
      have HPS := Lib.hid (fun W hW => Parse_any aL aR aF s W (by omega) hW)
      have HPT := Lib.hid (fun W hW => Parse_any aL aR aF t W (by omega) hW)
      have HRS := Lib.hid (fun W => RefParse_any s W (by omega))
      have HRT := Lib.hid (fun W => RefParse_any t W (by omega))
      unfold ParsePost at HPS HPT
      unfold RefParsePost at HRS HRT
      obtain ⟨e1, he1⟩ : ∃ e, errOf aL aR aF (prs s).1 = e := ⟨_, rfl⟩
      obtain ⟨e2, he2⟩ : ∃ e, errOf aL aR aF (prs t).1 = e := ⟨_, rfl⟩
      obtain ⟨n1, hn1⟩ : ∃ e, (prs s).1 = e := ⟨_, rfl⟩
      obtain ⟨n2, hn2⟩ : ∃ e, (prs t).1 = e := ⟨_, rfl⟩
      obtain ⟨ta, hta⟩ : ∃ e, (prs s).2 = e := ⟨_, rfl⟩
      obtain ⟨tb, htb⟩ : ∃ e, (prs t).2 = e := ⟨_, rfl⟩
      rw [he1, hta] at HPS
      rw [he2, htb] at HPT
      rw [hn1, hta] at HRS
      rw [hn2, htb] at HRT
      rw [hta] at hszs
      rw [htb] at hszt
      have HE3 := Lib.hid hE3
      have HWD := Lib.hid hWD
      have HSS := Lib.hid hszs
      have HST := Lib.hid hszt
      clear he1 he2 hn1 hn2 hta htb hE3 hWD hszs hszt
      go_enter Tryd.func4, Tryd.ntmps4
      go_wp2_with (go_at_call 17; refine HAL.out.mono ?_; rintro e w1 ⟨rfl, hb1⟩)
      have HB0 := Lib.hid hb1
      clear hb1
      refine (HPS.out w1 (HE3.out.later HB0.out)).mono ?_
      rintro e v1 ⟨cs, rfl, hta, hb⟩
      try dsimp only
      obtain ⟨k1, i1, S1, ks1, A1, c1, hT, rfl, hS⟩ := hta.form
      obtain ⟨V1, hV⟩ : ∃ V, v1.alloc (.cells #[.int .i64 (k1 : Int), .int .i64 (i1 : Int), .int .u64 (S1.a0 : Int), .int .u64 (S1.a1 : Int), .int .u64 (S1.a2 : Int), .int .u64 (S1.a3 : Int), .slice A1 ks1.length c1] 41) = V := ⟨_, rfl⟩
      have bV : Below v1.heap.size v1 V1 := by rw [← hV]; exact (Below.refl _ _).alloc (Nat.le_refl _) _
      have bW : Below w1.heap.size w1 V1 := hb.trans (bV.mono hb.size)
      have HB1 := Lib.hid (HB0.out.trans (bW.mono HB0.out.size))
      obtain ⟨X1, hX⟩ : ∃ X, v1.heap.size = X := ⟨_, rfl⟩
      have R1 : Hid (RowAt V1 X1 (nodeC k1 i1 S1 (.slice A1 ks1.length c1)) 41) := Lib.hid (by rw [← hV, ← hX]; exact RowAt.new _ _ _)
      have T1 : Hid (TreeAt (fun _ => True) V1 ta (nodeC k1 i1 S1 (.slice A1 ks1.length c1))) := Lib.hid ((hta.below bV).mono (fun _ _ => trivial))
      have HV := Lib.hid hV
      have HX := Lib.hid hX
      unfold nodeC
      clear hV hX bV bW hta hT hS hb
      go_upto_region 6 with (fail)
      have hV := HV.out
      have hX := HX.out
      simp only [hV, hX]
      clear hV HV hX HX
      go_wp2_with fail

      refine (HPT.out V1 (HE3.out.later HB1.out)).mono ?_
      rintro e v2 ⟨cs, rfl, hta, hb⟩
      try dsimp only
      obtain ⟨k2, i2, S2, ks2, A2, c2, hT, rfl, hS⟩ := hta.form
      obtain ⟨V2, hV⟩ : ∃ V, v2.alloc (.cells #[.int .i64 (k2 : Int), .int .i64 (i2 : Int), .int .u64 (S2.a0 : Int), .int .u64 (S2.a1 : Int), .int .u64 (S2.a2 : Int), .int .u64 (S2.a3 : Int), .slice A2 ks2.length c2] 41) = V := ⟨_, rfl⟩
      have bV : Below v2.heap.size v2 V2 := by rw [← hV]; exact (Below.refl _ _).alloc (Nat.le_refl _) _
      have bW : Below V1.heap.size V1 V2 := hb.trans (bV.mono hb.size)
      have HB2 := Lib.hid (HB1.out.trans (bW.mono HB1.out.size))
      obtain ⟨X2, hX⟩ : ∃ X, v2.heap.size = X := ⟨_, rfl⟩
      have R2 : Hid (RowAt V2 X2 (nodeC k2 i2 S2 (.slice A2 ks2.length c2)) 41) := Lib.hid (by rw [← hV, ← hX]; exact RowAt.new _ _ _)
      have T2 : Hid (TreeAt (fun _ => True) V2 tb (nodeC k2 i2 S2 (.slice A2 ks2.length c2))) := Lib.hid ((hta.below bV).mono (fun _ _ => trivial))
      have R1 := Lib.hid (R1.out.later bW R1.out.lt)
      have T1 := Lib.hid (T1.out.below bW)
      have HV := Lib.hid hV
      have HX := Lib.hid hX
      unfold nodeC
      clear hV hX bV bW hta hT hS hb
      go_upto_region 7 with (fail)
      have hV := HV.out
      have hX := HX.out
      simp only [hV, hX]
      clear hV HV hX HX
      go_wp2_with fail

      refine (HRS.out V2).mono ?_
      rintro e v3 ⟨cs, rfl, hta, hb⟩
      try dsimp only
      obtain ⟨k3, i3, S3, ks3, A3, c3, hT, rfl, hS⟩ := hta.form
      obtain ⟨V3, hV⟩ : ∃ V, v3.alloc (.cells #[.int .i64 (k3 : Int), .int .i64 (i3 : Int), .int .u64 (S3.a0 : Int), .int .u64 (S3.a1 : Int), .int .u64 (S3.a2 : Int), .int .u64 (S3.a3 : Int), .slice A3 ks3.length c3] 46) = V := ⟨_, rfl⟩
      have bV : Below v3.heap.size v3 V3 := by rw [← hV]; exact (Below.refl _ _).alloc (Nat.le_refl _) _
      have bW : Below V2.heap.size V2 V3 := hb.trans (bV.mono hb.size)
      have HB3 := Lib.hid (HB2.out.trans (bW.mono HB2.out.size))
      obtain ⟨X3, hX⟩ : ∃ X, v3.heap.size = X := ⟨_, rfl⟩
      have R3 : Hid (RowAt V3 X3 (nodeC k3 i3 S3 (.slice A3 ks3.length c3)) 46) := Lib.hid (by rw [← hV, ← hX]; exact RowAt.new _ _ _)
      have T3 : Hid (TreeAt (fun _ => True) V3 ta (nodeC k3 i3 S3 (.slice A3 ks3.length c3))) := Lib.hid ((hta.below bV).mono (fun _ _ => trivial))
      have R1 := Lib.hid (R1.out.later bW R1.out.lt)
      have T1 := Lib.hid (T1.out.below bW)
      have R2 := Lib.hid (R2.out.later bW R2.out.lt)
      have T2 := Lib.hid (T2.out.below bW)
      have HV := Lib.hid hV
      have HX := Lib.hid hX
      unfold nodeC
      clear hV hX bV bW hta hT hS hb
      go_upto_region 8 with (fail)
      have hV := HV.out
      have hX := HX.out
      simp only [hV, hX]
      clear hV HV hX HX
      go_wp2_with fail

      refine (HRT.out V3).mono ?_
      rintro e v4 ⟨cs, rfl, hta, hb⟩
      try dsimp only
      obtain ⟨k4, i4, S4, ks4, A4, c4, hT, rfl, hS⟩ := hta.form
      obtain ⟨V4, hV⟩ : ∃ V, v4.alloc (.cells #[.int .i64 (k4 : Int), .int .i64 (i4 : Int), .int .u64 (S4.a0 : Int), .int .u64 (S4.a1 : Int), .int .u64 (S4.a2 : Int), .int .u64 (S4.a3 : Int), .slice A4 ks4.length c4] 46) = V := ⟨_, rfl⟩
      have bV : Below v4.heap.size v4 V4 := by rw [← hV]; exact (Below.refl _ _).alloc (Nat.le_refl _) _
      have bW : Below V3.heap.size V3 V4 := hb.trans (bV.mono hb.size)
      have HB4 := Lib.hid (HB3.out.trans (bW.mono HB3.out.size))
      obtain ⟨X4, hX⟩ : ∃ X, v4.heap.size = X := ⟨_, rfl⟩
      have R4 : Hid (RowAt V4 X4 (nodeC k4 i4 S4 (.slice A4 ks4.length c4)) 46) := Lib.hid (by rw [← hV, ← hX]; exact RowAt.new _ _ _)
      have T4 : Hid (TreeAt (fun _ => True) V4 tb (nodeC k4 i4 S4 (.slice A4 ks4.length c4))) := Lib.hid ((hta.below bV).mono (fun _ _ => trivial))
      have R1 := Lib.hid (R1.out.later bW R1.out.lt)
      have T1 := Lib.hid (T1.out.below bW)
      have R2 := Lib.hid (R2.out.later bW R2.out.lt)
      have T2 := Lib.hid (T2.out.below bW)
      have R3 := Lib.hid (R3.out.later bW R3.out.lt)
      have T3 := Lib.hid (T3.out.below bW)
      have HV := Lib.hid hV
      have HX := Lib.hid hX
      unfold nodeC
      clear hV hX bV bW hta hT hS hb
      go_upto_region 9 with (fail)
      have hV := HV.out
      have hX := HX.out
      simp only [hV, hX]
      clear hV HV hX HX
      clear HPS HPT HRS HRT HE3
      obtain ⟨z, hz⟩ : ∃ z, wordV kind = .string z := by unfold wordV; split <;> exact ⟨_, rfl⟩
      have HZ := Lib.hid hz
      clear hz
      go_upto_region 10 with (fail)
      go_cut [51] (fun v wx => v = .bool (decide (0 ≤ kind ∧ kind ≤ 9)) ∧ wx = V4)
      case first =>
        by_cases hlo : 0 ≤ kind
        · have d0 : decide (0 ≤ kind) = true := decide_eq_true hlo
          by_cases hhi : kind ≤ 9
          · have d1 : decide (kind ≤ 9) = true := decide_eq_true hhi
            have hr : decide (0 ≤ kind ∧ kind ≤ 9) = true := decide_eq_true ⟨hlo, hhi⟩
            have HR := Lib.hid hr
            clear hr
            go_wp2_with fail
            go_meet
            case rel => exact ⟨by rw [HR.out], rfl⟩
          · have d1 : decide (kind ≤ 9) = false := decide_eq_false hhi
            have hr : decide (0 ≤ kind ∧ kind ≤ 9) = false := decide_eq_false (fun h => hhi h.2)
            have HR := Lib.hid hr
            clear hr
            go_wp2_with fail
            go_meet
            case rel => exact ⟨by rw [HR.out], rfl⟩
        · have d0 : decide (0 ≤ kind) = false := decide_eq_false hlo
          have hr : decide (0 ≤ kind ∧ kind ≤ 9) = false := decide_eq_false (fun h => hlo h.1)
          have HR := Lib.hid hr
          clear hr
          go_wp2_with fail
          go_meet
          case rel => exact ⟨by rw [HR.out], rfl⟩
      case rest =>
        obtain ⟨rfl, hw⟩ := hcut
        obtain rfl := hw.symm
        go_step
        go_cut [15] (fun v wx => v = .string z ∧ Hid (Below V4.heap.size V4 wx))
        case first =>
          by_cases hin : 0 ≤ kind ∧ kind ≤ 9
          · have hr : decide (0 ≤ kind ∧ kind ≤ 9) = true := decide_eq_true hin
            rw [hr]
            have hkk : kind = 0 ∨ kind = 1 ∨ kind = 2 ∨ kind = 3 ∨ kind = 4 ∨ kind = 5 ∨ kind = 6 ∨ kind = 7 ∨ kind = 8 ∨ kind = 9 := by omega
            clear hin hr
            rcases hkk with rfl | rfl | rfl | rfl | rfl | rfl | rfl | rfl | rfl | rfl
            all_goals (
              go_wp2_with fail
              go_meet
              case rel => exact ⟨by rw [← HZ.out]; rfl, Lib.hid ((Below.refl _ _).alloc (Nat.le_refl _) _)⟩)
          · have hr : decide (0 ≤ kind ∧ kind ≤ 9) = false := decide_eq_false hin
            rw [hr]
            have hz2 := HZ.out
            unfold wordV at hz2
            rw [if_neg hin] at hz2
            have HZ2 := Lib.hid hz2
            clear hin hr hz2
            go_wp2_with fail
            go_meet
            case rel => exact ⟨by rw [← HZ2.out]; rfl, Lib.hid (Below.refl _ _)⟩
        case rest =>
          obtain ⟨rfl, HW⟩ := hcut
          have hR1 := R1.out.later HW.out R1.out.lt
          have hR2 := R2.out.later HW.out R2.out.lt
          have hR3 := R3.out.later HW.out R3.out.lt
          have hR4 := R4.out.later HW.out R4.out.lt
          have HBW := Lib.hid (HB4.out.trans (HW.out.mono HB4.out.size))
          have f1 := node_held hR1
          have f2 := node_held hR2
          have f3 := node_held hR3
          have f4 := node_held hR4
          obtain ⟨b, hb⟩ : ∃ b, sameT ta tb = b := ⟨_, rfl⟩
          have g1 : TreeAt (fun _ => True) wc ta _ := T1.out.below HW.out
          have g2 : TreeAt (fun _ => True) wc tb _ := T2.out.below HW.out
          have g3 : TreeAt (fun _ => True) wc ta _ := T3.out.below HW.out
          have g4 : TreeAt (fun _ => True) wc tb _ := T4.out.below HW.out
          have gW := HWD.out.later HBW.out
          have HS1 : Hid (∀ W, Below wc.heap.size wc W → Calls Tryd.prog 20 #[.agg (nodeC k1 i1 S1 (.slice A1 ks1.length c1)), .agg (nodeC k2 i2 S2 (.slice A2 ks2.length c2))] W fun e w' => e = .returned (.bool b) ∧ Below W.heap.size W w') := Lib.hid (fun W hW => by
            have := Same_any (fun _ => True) W ta tb _ _ (by have := HSS.out; omega) (g1.below hW) (g2.below hW)
            rw [hb] at this; exact this)
          have HS2 : Hid (∀ W, Below wc.heap.size wc W → Calls Tryd.prog 20 #[.agg (nodeC k1 i1 S1 (.slice A1 ks1.length c1)), .agg (nodeC k1 i1 S1 (.slice A1 ks1.length c1))] W fun e w' => e = .returned (.bool true) ∧ Below W.heap.size W w') := Lib.hid (fun W hW => by
            have := Same_any (fun _ => True) W ta ta _ _ (by have := HSS.out; omega) (g1.below hW) (g1.below hW)
            rw [sameT_refl] at this; exact this)
          have HR0 : Hid (∀ W, Below wc.heap.size wc W → Calls Tryd.prog 21 #[.agg (nodeC k3 i3 S3 (.slice A3 ks3.length c3)), .agg (nodeC k4 i4 S4 (.slice A4 ks4.length c4))] W fun e w' => e = .returned (.bool b) ∧ Below W.heap.size W w') := Lib.hid (fun W hW => by
            have := RSame_any (fun _ => True) W ta tb _ _ (by have := HSS.out; omega) (g3.below hW) (g4.below hW)
            rw [hb] at this; exact this)
          have HWO : Hid (∀ W, Below wc.heap.size wc W → Calls Tryd.prog 22 #[.int .i64 kind] W fun e w' => e = .returned (.string z) ∧ Below W.heap.size W w') := Lib.hid (fun W hW => (Word_any kind W (gW.later hW)).mono (by
            rintro e w' ⟨rfl, rfl⟩
            exact ⟨by rw [HZ.out], Below.refl _ _⟩))
          unfold nodeC at HS1 HS2 HR0
          clear g1 g2 g3 g4 gW hb hR1 hR2 hR3 hR4 R1 R2 R3 R4 T1 T2 T3 T4 HW HWD HZ
          go_upto_region 12 with (fail)
          go_region_held3 (fun w' : World => Below wc.heap.size wc w') (first | assumption | exact below_step hb9 (by assumption) | exact Below.drew (by assumption) | exact (Below.refl _ _).drew) (first | (go_at_call 20; have := hm1; refine (HS2.out _ ?_).mono ?_; assumption; rintro e w9 ⟨rfl, hb9⟩) | (go_at_call 20; refine (HS1.out _ ?_).mono ?_; assumption; rintro e w9 ⟨rfl, hb9⟩; have hm1 := True.intro) | (go_at_call 21; refine (HR0.out _ ?_).mono ?_; assumption; rintro e w9 ⟨rfl, hb9⟩) | (go_at_call 22; refine (HWO.out _ ?_).mono ?_; assumption; rintro e w9 ⟨rfl, hb9⟩))
          all_goals (
            have hfin := Lib.hid (HBW.out.trans ((by first | assumption | exact below_step hb9 (by assumption) : Below wc.heap.size wc _).mono HBW.out.size))
            go_wp2_with fail
            go_ret
            exact ⟨rfl, hfin.out⟩)

end Go.Proofs.YtkddighepgpccaaDoor
