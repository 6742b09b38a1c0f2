/-
  The walk of the reference's expression, and the recursion closed.
-/
import Derived.Test.YtkddighepgpccaaDoorRefB
import Derived.Deep.RegionWith
import Derived.Deep.DeepCutAuto
namespace Go.Proofs.YtkddighepgpccaaDoor
open Go Go.RowKit
set_option linter.unusedSimpArgs false
set_option linter.unusedVariables false

def isBar : Tok → Bool
  | .mark c => c == 124
  | .set _ => false
theorem markN_bar (t : Tok) : ((markN t : Int) == 124) = isBar t := by
  cases t with
  | mark c =>
    rw [Bool.eq_iff_iff]
    simp only [markN, isBar, beq_iff_eq]
    constructor
    · intro h; exact UInt8.toNat_inj.1 (by simpa using Int.ofNat_inj.1 h)
    · rintro rfl; rfl
  | set S => rfl
theorem goE_open (E : List Tok → Nat → Option T) {t : Tok} (h : isOpen t = true) (r b : List Tok) (p d : Nat) (k : List T) : goE E (t :: r) b p d k = goE E r (b ++ [t]) p (d + 1) k := by
  cases t with
  | mark c =>
    obtain rfl : c = 40 := by simpa [isOpen] using h
    simp [goE]
  | set S => cases h
theorem goE_close (E : List Tok → Nat → Option T) {t : Tok} (h : isClose t = true) (r b : List Tok) (p d : Nat) (k : List T) : goE E (t :: r) b p (d + 1) k = goE E r (b ++ [t]) p d k := by
  cases t with
  | mark c =>
    obtain rfl : c = 41 := by simpa [isClose] using h
    simp [goE]
  | set S => cases h
theorem goE_close0 (E : List Tok → Nat → Option T) {t : Tok} (h : isClose t = true) (r b : List Tok) (p : Nat) (k : List T) : goE E (t :: r) b p 0 k = none := by
  cases t with
  | mark c =>
    obtain rfl : c = 41 := by simpa [isClose] using h
    simp [goE]
  | set S => cases h
theorem goE_bar (E : List Tok → Nat → Option T) {t : Tok} (h : isBar t = true) (r b : List Tok) (p : Nat) (k : List T) : goE E (t :: r) b p 0 k = match goB E b p [] with | none => none | some n => goE E r [] (p + opn b) 0 (k ++ [n]) := by
  cases t with
  | mark c =>
    obtain rfl : c = 124 := by simpa [isBar] using h
    simp only [goE]
    rw [if_neg (by decide), if_neg (by decide), if_pos ⟨trivial, trivial⟩]
    cases goB E b p [] <;> rfl
  | set S => cases h
theorem goE_other (E : List Tok → Nat → Option T) {t : Tok} (h1 : isOpen t = false) (h2 : isClose t = false) (r b : List Tok) (p d : Nat) (h3 : isBar t = false ∨ d ≠ 0) (k : List T) : goE E (t :: r) b p d k = goE E r (b ++ [t]) p d k := by
  cases t with
  | mark c =>
    have e1 : c ≠ 40 := by simpa [isOpen] using h1
    have e2 : c ≠ 41 := by simpa [isClose] using h2
    have e3 : ¬ (c = 124 ∧ d = 0) := by
      rintro ⟨rfl, h⟩
      rcases h3 with h3 | h3
      · cases h3
      · exact h3 h
    simp only [goE]
    rw [if_neg e1, if_neg e2, if_neg e3]
  | set S => rfl
theorem part_snoc {l : List Tok} {k f : Nat} {t : Tok} (ht : l[k]? = some t) (hf : f ≤ k) : (l.take (k + 1)).drop f = (l.take k).drop f ++ [t] := by
  have hk : k < l.length := (List.getElem?_eq_some_iff.1 ht).1
  rw [takeS ht, List.drop_append_of_le_length (by rw [List.length_take]; omega)]
/-- How far the loop has come. -/
structure ESt (w : World) (l : List Tok) (a n : Nat) (wr : World) (v : Value) (f k d : Nat) (kids : List T) : Prop where
  row : NRow 46 (w.heap.size + 1) wr v kids
  res : RowAt wr w.heap.size #[.int .i64 0, .int .i64 0, .int .u64 0, .int .u64 0, .int .u64 0, .int .u64 0, .slice none 0 0] 46
  bel : Below w.heap.size w wr
  len : kids.length ≤ k
  fk : f ≤ k
  dk : d ≤ k
  kn : k ≤ n + 1
  eq_ : k ≤ n → RefE l a = goE RefE (l.drop k) ((l.take k).drop f) (a + opn (l.take f)) d kids
  end_ : k = n + 1 → RefE l a = some (joinT 3 kids)
theorem ESt.step {w wr : World} {l : List Tok} {a n f k d d' : Nat} {v : Value} {kids : List T} (h : ESt w l a n wr v f k d kids) {t : Tok} (ht : l[k]? = some t) (hn : k < n) (hd : d' ≤ k + 1) (he : ∀ r b p k, goE RefE (t :: r) b p d k = goE RefE r (b ++ [t]) p d' k) : ESt w l a n wr v f (k + 1) d' kids :=
  ⟨h.row, h.res, h.bel, by have := h.len; omega, by have := h.fk; omega, hd, by omega, fun _ => by rw [h.eq_ (by omega), dropS ht, he, part_snoc ht h.fk], fun e => by omega⟩
theorem opn_parts (l : List Tok) (f k : Nat) (hf : f ≤ k) : opn (l.take f) + opn ((l.take k).drop f) = opn (l.take k) := by
  rw [← opn_append]
  congr 1
  have := List.take_append_drop f (l.take k)
  rw [List.take_take, Nat.min_eq_left hf] at this
  exact this
theorem ESt.bar {w wr w3 : World} {l : List Tok} {a n f k : Nat} {v v' : Value} {kids : List T} (h : ESt w l a n wr v f k 0 kids) {t : Tok} (ht : l[k]? = some t) (hb : isBar t = true) (h1 : isOpen t = false) (hn : k < n) {x : T} (hx : goB RefE ((l.take k).drop f) (a + opn (l.take f)) [] = some x)
    (hrow : NRow 46 (w.heap.size + 1) w3 v' (kids ++ [x])) (hres : RowAt w3 w.heap.size #[.int .i64 0, .int .i64 0, .int .u64 0, .int .u64 0, .int .u64 0, .int .u64 0, .slice none 0 0] 46) (hbl : Below w.heap.size w w3) : ESt w l a n w3 v' (k + 1) (k + 1) 0 (kids ++ [x]) :=
  ⟨hrow, hres, hbl, by have := h.len; simp; omega, Nat.le_refl _, Nat.zero_le _, by omega, fun _ => by
    rw [h.eq_ (by omega), dropS ht, goE_bar RefE hb, hx]
    simp only
    rw [takeS ht, opn_snoc, opn_one, h1, ← opn_parts l f k h.fk]
    have e : (l.take k ++ [t]).drop (k + 1) = [] := by apply List.drop_eq_nil_of_le; simp; omega
    rw [e]
    congr 1
    simp; omega, fun e => by omega⟩
theorem ESt.bar_none {w wr : World} {l : List Tok} {a n f k : Nat} {v : Value} {kids : List T} (h : ESt w l a n wr v f k 0 kids) {t : Tok} (ht : l[k]? = some t) (hb : isBar t = true) (hn : k < n) (hx : goB RefE ((l.take k).drop f) (a + opn (l.take f)) [] = none) : RefE l a = none := by
  rw [h.eq_ (by omega), dropS ht, goE_bar RefE hb, hx]
theorem ESt.fin {w wr w3 : World} {l : List Tok} {a n f k d : Nat} {v v' : Value} {kids : List T} (h : ESt w l a n wr v f k d kids) (hl : l.length = n) (hn : k = n) {x : T} (hx : goB RefE ((l.take k).drop f) (a + opn (l.take f)) [] = some x)
    (hrow : NRow 46 (w.heap.size + 1) w3 v' (kids ++ [x])) (hres : RowAt w3 w.heap.size #[.int .i64 0, .int .i64 0, .int .u64 0, .int .u64 0, .int .u64 0, .int .u64 0, .slice none 0 0] 46) (hbl : Below w.heap.size w w3) : ESt w l a n w3 v' (k + 1) (k + 1) d (kids ++ [x]) :=
  ⟨hrow, hres, hbl, by have := h.len; simp; omega, Nat.le_refl _, by have := h.dk; omega, by omega, fun e => by omega, fun _ => by
    rw [h.eq_ (by omega), List.drop_eq_nil_of_le (by omega), goE, hx]; rfl⟩
theorem ESt.fin_none {w wr : World} {l : List Tok} {a n f k d : Nat} {v : Value} {kids : List T} (h : ESt w l a n wr v f k d kids) (hl : l.length = n) (hn : k = n) (hx : goB RefE ((l.take k).drop f) (a + opn (l.take f)) [] = none) : RefE l a = none := by
  rw [h.eq_ (by omega), List.drop_eq_nil_of_le (by omega), goE, hx]; rfl
theorem ESt.bad {w wr : World} {l : List Tok} {a n f k : Nat} {v : Value} {kids : List T} (h : ESt w l a n wr v f k 0 kids) {t : Tok} (ht : l[k]? = some t) (hb : isClose t = true) (hn : k < n) : RefE l a = none := by
  rw [h.eq_ (by omega), dropS ht, goE_close0 RefE hb]
theorem not_bar (t : Tok) (h : isOpen t = true ∨ isClose t = true) : isBar t = false := by
  cases t with
  | mark c =>
    rcases h with h | h
    · obtain rfl : c = 40 := by simpa [isOpen] using h
      rfl
    · obtain rfl : c = 41 := by simpa [isClose] using h
      rfl
  | set S => rfl
theorem not_open (t : Tok) (h : isBar t = true ∨ isClose t = true) : isOpen t = false := by
  cases t with
  | mark c =>
    rcases h with h | h
    · obtain rfl : c = 124 := by simpa [isBar] using h
      rfl
    · obtain rfl : c = 41 := by simpa [isClose] using h
      rfl
  | set S => rfl
theorem bar_not_close (t : Tok) (h : isBar t = true) : isClose t = false := by
  cases t with
  | mark c =>
    obtain rfl : c = 124 := by simpa [isBar] using h
    rfl
  | set S => rfl

set_option maxHeartbeats 8000000 in
set_option maxRecDepth 100000 in
theorem refexpr_step (NN : Nat) (hBR : BraC (NN + 1)) : ExpC (NN + 1) := by
  intro w A n c l a hS hok hN ha
  obtain ⟨g, o, rfl, -⟩ := hS.at_
  have hlen := hS.len
  have hmax := hS.max
  have hnc : n ≤ c := hS.cap
  have H := Lib.hid hS
  have HL := Lib.hid hlen
  have HK := Lib.hid hok
  have HN := Lib.hid hN
  have HBR := Lib.hid hBR
  have haN : a + n ≤ 2000 := by omega
  obtain ⟨V, hV⟩ : ∃ V, (w.alloc (.cells #[.int .i64 0, .int .i64 0, .int .u64 0, .int .u64 0, .int .u64 0, .int .u64 0, .slice none 0 0] 46)).alloc (.cells #[] 46) = V := ⟨_, rfl⟩
  have v1 : ESt w l a n V (.slice (some ⟨w.heap.size + 1, 0, none⟩) 0 0) 0 0 0 [] := by
    rw [← hV]
    refine ⟨?_, RowAt.old (RowAt.new _ _ _) _, ((Below.refl _ _).alloc (Nat.le_refl _) _).alloc (by simp) _, Nat.zero_le _, Nat.zero_le _, Nat.zero_le _, Nat.zero_le _, fun _ => RefE_eq l a, fun e => by omega⟩
    have := NRow.empty (e := 46) (w.alloc (.cells #[.int .i64 0, .int .i64 0, .int .u64 0, .int .u64 0, .int .u64 0, .int .u64 0, .slice none 0 0] 46)) (B := w.heap.size + 1) (by simp)
    simp only [World.size_alloc] at this
    exact this
  have HV := Lib.hid hV
  have H1 := Lib.hid v1
  clear hV v1 hS hok hN hBR hlen ha
  go_enter Tryd.func40, Tryd.ntmps40
  go_wp2_with fail
  have hV := HV.out
  simp only [hV]
  clear hV HV
  go_loopw [6, 7, 8, 9] (fun v f d i wr => ∃ (k f' d' : Nat) (kids : List T), i = .int .i64 (k : Int) ∧ f = .int .i64 (f' : Int) ∧ d = .int .i64 (d' : Int) ∧ Hid (ESt w l a n wr v f' k d' kids)) (fun _ _ _ i _ => n + 1 - (intOf i).toNat)
  case atStart => exact ⟨0, 0, 0, [], rfl, rfl, rfl, H1⟩
  case round =>
    clear H1
    obtain ⟨k, f, d, kids, rfl, rfl, rfl, B⟩ := hrel
    have hkn := B.out.kn
    have hfk := B.out.fk
    have hdk := B.out.dk
    have hcl := B.out.len
    have hRlt : w.heap.size < wr.heap.size := B.out.res.lt
    rcases Nat.lt_or_ge n k with hgt | hle
    · have hd : decide ((k : Int) ≤ (n : Int)) = false := decide_eq_false (by omega)
      obtain rfl : k = n + 1 := by omega
      have HR : Hid (RefE l a = some (joinT 3 kids)) := Lib.hid (B.out.end_ rfl)
      obtain ⟨C, cc, rfl, -, -⟩ := B.out.row.slice
      go_wp2_with fail
      refine (One3 _ kids (w.heap.size + 1) wr hRlt B.out.row).mono ?_
      rintro e w2 ⟨cs, rfl, ht, hb2⟩
      try dsimp only
      obtain ⟨k1, i1, S, ks, A1, c1, hT, rfl, hSok⟩ := ht.form
      have HTT := Lib.hid ht
      have r2 := RowAt.later B.out.res hb2 hRlt
      have HB2 := Lib.hid (B.out.bel.trans (hb2.mono B.out.bel.size))
      unfold nodeC
      clear ht hT hb2
      obtain ⟨⟨n0, n1, n2, n3, n4, n5, n6⟩, m0, m1, m2, m3, m4, m5, m6⟩ := node_facts (k := 0) (i := 0) (s := S4.zero) (sl := .slice none 0 0) r2
      go_wp2_with fail
      obtain ⟨z0, z1, z2, z3, z4, z5, z6⟩ := row7 (RowAt.seven r2 (.int .i64 (k1 : Int)) (.int .i64 (i1 : Int)) (.int .u64 (S.a0 : Int)) (.int .u64 (S.a1 : Int)) (.int .u64 (S.a2 : Int)) (.int .u64 (S.a3 : Int)) (.slice A1 ks.length c1))
      refine bodyPost_ret (v := .tuple #[.agg (nodeC k1 i1 S (.slice A1 ks.length c1)), .bool true]) (by simp [results, Tryd.results40, go_sem, nodeC, z0, z1, z2, z3, z4, z5, z6]) rfl ?_
      have tq := touch_putN (Touch.refl w2 (· = w.heap.size)) (.inl rfl) k1 i1 S (.slice A1 ks.length c1)
      unfold RefPost
      rw [HR.out]
      exact ⟨_, rfl, HTT.out.touch tq (fun b hb => (by omega)) (fun b hb => (by omega)), below_putN HB2.out (Nat.le_refl _) k1 i1 S (.slice A1 ks.length c1)⟩
    · have hd : decide ((k : Int) ≤ (n : Int)) = true := decide_eq_true (by omega)
      have hd0 : decide ((d : Int) < 0) = false := decide_eq_false (by omega)
      rcases Nat.lt_or_ge k n with hlt | hge
      · have hdl : decide ((k : Int) < (n : Int)) = true := decide_eq_true (by omega)
        have hkl : ((k : Int) == (n : Int)) = false := by simp; omega
        obtain ⟨t, ht⟩ : ∃ t, l[k]? = some t := ⟨_, List.getElem?_eq_getElem (by rw [HL.out]; exact hlt)⟩
        obtain ⟨c0, -, -, -, -⟩ := (H.out.later (B.out.bel)).six ht
        have m40 := markN_open t
        have m41 := markN_close t
        have m124 := markN_bar t
        obtain ⟨M, hM⟩ : ∃ M, markN t = M := ⟨_, rfl⟩
        rw [hM] at c0 m40 m41 m124
        have HT := Lib.hid ht
        clear ht hM
        cases ho : isOpen t with
        | true =>
          have HO := Lib.hid ho
          rw [ho] at m40
          rw [not_both t ho] at m41
          rw [not_bar t (.inl ho)] at m124
          have hd1 : decide ((d : Int) + 1 < 0) = false := decide_eq_false (by omega)
          have hd2 : (((d : Int) + 1) == 0) = false := by simp; omega
          clear ho
          have FF := Lib.hid (B.out.step HT.out hlt (by omega) (fun r b p kk => goE_open RefE HO.out r b p d kk))
          go_wp2_with fail
          go_roundw
          case rel => exact ⟨k + 1, f, d + 1, kids, by go_num, rfl, by go_num, FF⟩
          case measure => simp [intOf]; omega
        | false =>
          have HO := Lib.hid ho
          rw [ho] at m40
          cases hc : isClose t with
          | true =>
            have HC := Lib.hid hc
            rw [hc] at m41
            rw [not_bar t (.inr hc)] at m124
            clear ho hc
            cases d with
            | zero =>
              have HR : Hid (RefE l a = none) := Lib.hid (B.out.bad HT.out HC.out hlt)
              have rz := B.out.res

              obtain ⟨⟨n0, n1, n2, n3, n4, n5, n6⟩, m0, m1, m2, m3, m4, m5, m6⟩ := node_facts (k := 0) (i := 0) (s := S4.zero) (sl := .slice none 0 0) rz
              go_wp2_with fail
              obtain ⟨z0, z1, z2, z3, z4, z5, z6⟩ := row7 (RowAt.seven rz (.int .i64 0) (.int .i64 0) (.int .u64 0) (.int .u64 0) (.int .u64 0) (.int .u64 0) (.slice none 0 0))
              refine bodyPost_ret (v := .tuple #[.agg (nodeC 0 0 S4.zero (.slice none 0 0)), .bool false]) (by simp [results, Tryd.results40, go_sem, nodeC, S4.zero, z0, z1, z2, z3, z4, z5, z6]) rfl ?_
              unfold RefPost
              rw [HR.out]
              exact ⟨_, rfl, TreeAt.leaf _ _ 0 0 S4.zero_ok, below_putN B.out.bel (Nat.le_refl _) 0 0 S4.zero (.slice none 0 0)⟩
            | succ d =>
              have hd2 : decide ((d : Int) < 0) = false := decide_eq_false (by omega)
              have hde : ((d + 1 : Nat) : Int) - 1 = (d : Int) := by omega
              cases hz : ((d : Int) == 0) with
              | true =>
                have FF := Lib.hid (B.out.step HT.out hlt (by omega) (fun r b p kk => goE_close RefE HC.out r b p d kk))
                go_wp2_with fail
                go_roundw
                case rel => exact ⟨k + 1, f, d, kids, by go_num, rfl, by go_num, FF⟩
                case measure => simp [intOf]; omega
              | false =>
                have FF := Lib.hid (B.out.step HT.out hlt (by omega) (fun r b p kk => goE_close RefE HC.out r b p d kk))
                go_wp2_with fail
                go_roundw
                case rel => exact ⟨k + 1, f, d, kids, by go_num, rfl, by go_num, FF⟩
                case measure => simp [intOf]; omega
          | false =>
            have HC := Lib.hid hc
            rw [hc] at m41
            cases hb : isBar t with
            | true =>
              have HB := Lib.hid hb
              rw [hb] at m124
              clear ho hc hb
              cases d with
              | zero =>
                have hfn : f ≤ n := by omega
                have hkn2 : k ≤ n := by omega
                have hz : (((0 : Nat) : Int) == 0) = true := rfl

                obtain ⟨P, hP⟩ : ∃ P, opn (l.take f) = P := ⟨_, rfl⟩
                have hPf : P ≤ f := by have := opn_le (l.take f); rw [List.length_take] at this; omega
                obtain ⟨R, hR⟩ : ∃ R, goB RefE ((l.take k).drop f) (a + P) [] = R := ⟨_, rfl⟩
                have HOP : Hid (∀ W', Below wr.heap.size wr W' → Calls Tryd.prog 41 #[.slice (some ⟨g, o, none⟩) f c] W' (fun e w' => e = .returned (.int .i64 (P : Int)) ∧ Below W'.heap.size W' w')) := Lib.hid (fun W' hb => by
                  have h1 := Opened_any W' _ f c (l.take f) (((H.out.later B.out.bel).later hb).front (by omega))
                  rw [hP] at h1
                  exact h1)
                have HCB : Hid (∀ W', Below wr.heap.size wr W' → Calls Tryd.prog 63 #[.slice (if c = f then some ⟨g, o, none⟩ else some ⟨g, o + f * 5, none⟩) (k - f) (c - f), .int .i64 (IntKind.i64.wrap ((a : Int) + (P : Int)))] W' (RefPost R W')) := Lib.hid (fun W' hb => by
                  have hs := (((H.out.later B.out.bel).later hb).part f k hfk (by omega)).cast (A' := if c = f then some ⟨g, o, none⟩ else some ⟨g, o + f * 5, none⟩) (by simp [addr_off]) rfl rfl rfl
                  have hln : ((l.take k).drop f).length = k - f := by have := HL.out; rw [List.length_drop, List.length_take]; omega
                  have h1 := HBR.out W' _ (k - f) (c - f) ((l.take k).drop f) (a + P) hs (fun t ht => HK.out t (List.mem_of_mem_take (List.mem_of_mem_drop ht))) (by have := HN.out; rw [HL.out] at this; omega) (by omega)
                  rw [hR, show ((a + P : Nat) : Int) = IntKind.i64.wrap ((a : Int) + (P : Int)) by rw [IntWalk.i64_in _ (by omega)]; omega] at h1
                  exact h1)
                have HP := Lib.hid hP
                have HRR := Lib.hid hR
                have hkc : k ≤ c := by omega
                have hfc : f ≤ c := by omega
                clear hP hR
                obtain ⟨C, cc, rfl, -, -⟩ := B.out.row.slice
                go_upto_region 13 with (fail)
                go_cut [10, 11] (fun v10 v11 wx => ∃ U cs, v10 = .pointer (some ⟨U, 0, none⟩) ∧ v11 = .bool R.isSome ∧ RowAt wx U cs 46 ∧ TreeAt (fun b => wr.heap.size ≤ b ∧ b ≠ U) wx (R.getD noneT) cs ∧ wr.heap.size ≤ U ∧ Below wr.heap.size wr wx)
                case first =>
                  by_cases hcf : c = f
                  · subst hcf
                    have hkf : k - c = 0 := by omega
                    simp only [if_true, Nat.sub_self, hkf] at HCB
                    clear hkf
                    go_region_with (first | (go_at_call 41; refine (HOP.out _ ?_).mono ?_; (first | with_reducible exact (Below.refl _ _).drew | with_reducible exact ((Below.refl _ _).alloc (Nat.le_refl _) _).drew | with_reducible exact (Below.refl _ _).drew.alloc (Nat.le_refl _) _); rintro e w9 ⟨rfl, hb9⟩; (try (have hrow9 : RowAt w9 wr.heap.size #[.int .i64 0, .int .i64 0, .int .u64 0, .int .u64 0, .int .u64 0, .int .u64 0, .slice none 0 0] 46 := by (with_reducible exact RowAt.later (RowAt.drew (RowAt.new wr #[.int .i64 0, .int .i64 0, .int .u64 0, .int .u64 0, .int .u64 0, .int .u64 0, .slice none 0 0] 46)) hb9 (RowAt.drew (RowAt.new wr #[.int .i64 0, .int .i64 0, .int .u64 0, .int .u64 0, .int .u64 0, .int .u64 0, .slice none 0 0] 46)).lt))); have hb12 : Below wr.heap.size wr w9 := below_step hb9 (by first | with_reducible exact (Below.refl _ _).drew | with_reducible exact ((Below.refl _ _).alloc (Nat.le_refl _) _).drew | with_reducible exact (Below.refl _ _).drew.alloc (Nat.le_refl _) _)) | (go_at_call 63; refine (HCB.out _ ?_).mono ?_; (first | with_reducible exact hb12 | with_reducible exact hb12.alloc hb12.size _); rintro e w10 ⟨cs, rfl, ht, hb10⟩; obtain ⟨k1, i1, S1, ks, A1, c1, hT, rfl, hS1⟩ := ht.form; unfold nodeC; have hb11 := below_step hb10 (show Below wr.heap.size wr _ from by first | with_reducible exact hb12 | with_reducible exact hb12.alloc hb12.size _); (try (have hrow10 : RowAt w10 w9.heap.size #[.int .i64 0, .int .i64 0, .int .u64 0, .int .u64 0, .int .u64 0, .int .u64 0, .slice none 0 0] 46 := (by with_reducible exact RowAt.later (RowAt.new w9 #[.int .i64 0, .int .i64 0, .int .u64 0, .int .u64 0, .int .u64 0, .int .u64 0, .slice none 0 0] 46) hb10 (RowAt.new w9 #[.int .i64 0, .int .i64 0, .int .u64 0, .int .u64 0, .int .u64 0, .int .u64 0, .slice none 0 0] 46).lt); obtain ⟨⟨n0, n1, n2, n3, n4, n5, n6⟩, m0, m1, m2, m3, m4, m5, m6⟩ := node_facts (k := 0) (i := 0) (s := S4.zero) (sl := .slice none 0 0) hrow10)); (try (have hrow10 : RowAt w10 wr.heap.size #[.int .i64 0, .int .i64 0, .int .u64 0, .int .u64 0, .int .u64 0, .int .u64 0, .slice none 0 0] 46 := (by with_reducible exact RowAt.later hrow9 hb10 (RowAt.lt hrow9)); obtain ⟨⟨n0, n1, n2, n3, n4, n5, n6⟩, m0, m1, m2, m3, m4, m5, m6⟩ := node_facts (k := 0) (i := 0) (s := S4.zero) (sl := .slice none 0 0) hrow10)); skip))
                    · go_wp2_with fail
                      go_meet
                      case rel => exact ⟨_, _, rfl, rfl, RowAt.new w10 (nodeC k1 i1 S1 (.slice A1 ks.length c1)) 46, TreeAt.turn (by simp) (fun b hb hlt => ⟨⟨by have := hb12.size; omega, by omega⟩, ((Below.refl w10.heap.size w10).alloc (Nat.le_refl _) _).block b hlt⟩) _ _ ht, hb11.size, hb11.alloc hb11.size _⟩
                    · go_wp2_with fail
                      go_meet
                      case rel =>
                        have hq := hb12.size
                        exact ⟨_, _, rfl, rfl, RowAt.putN (k0 := 0) (i0 := 0) (s0 := S4.zero) (sl0 := .slice none 0 0) hrow10 k1 i1 S1 (.slice A1 ks.length c1), ht.touch (touch_putN (Touch.refl w10 (· = w9.heap.size)) (.inl rfl) k1 i1 S1 (.slice A1 ks.length c1)) (fun b hb => by simp at hb; omega) (fun b hb => by simp at hb; omega), hq, below_putN hb11 hq k1 i1 S1 (.slice A1 ks.length c1)⟩
                    · go_wp2_with fail
                      go_meet
                      case rel =>
                        have hq := hrow9.lt
                        exact ⟨_, _, rfl, rfl, RowAt.putN (k0 := 0) (i0 := 0) (s0 := S4.zero) (sl0 := .slice none 0 0) hrow10 k1 i1 S1 (.slice A1 ks.length c1), ht.touch (touch_putN (Touch.refl w10 (· = wr.heap.size)) (.inl rfl) k1 i1 S1 (.slice A1 ks.length c1)) (fun b hb => by omega) (fun b hb => by omega), Nat.le_refl _, below_putN hb11 (Nat.le_refl _) k1 i1 S1 (.slice A1 ks.length c1)⟩
                  · simp only [if_neg hcf] at HCB
                    go_region_with (first | (go_at_call 41; refine (HOP.out _ ?_).mono ?_; (first | with_reducible exact (Below.refl _ _).drew | with_reducible exact ((Below.refl _ _).alloc (Nat.le_refl _) _).drew | with_reducible exact (Below.refl _ _).drew.alloc (Nat.le_refl _) _); rintro e w9 ⟨rfl, hb9⟩; (try (have hrow9 : RowAt w9 wr.heap.size #[.int .i64 0, .int .i64 0, .int .u64 0, .int .u64 0, .int .u64 0, .int .u64 0, .slice none 0 0] 46 := by (with_reducible exact RowAt.later (RowAt.drew (RowAt.new wr #[.int .i64 0, .int .i64 0, .int .u64 0, .int .u64 0, .int .u64 0, .int .u64 0, .slice none 0 0] 46)) hb9 (RowAt.drew (RowAt.new wr #[.int .i64 0, .int .i64 0, .int .u64 0, .int .u64 0, .int .u64 0, .int .u64 0, .slice none 0 0] 46)).lt))); have hb12 : Below wr.heap.size wr w9 := below_step hb9 (by first | with_reducible exact (Below.refl _ _).drew | with_reducible exact ((Below.refl _ _).alloc (Nat.le_refl _) _).drew | with_reducible exact (Below.refl _ _).drew.alloc (Nat.le_refl _) _)) | (go_at_call 63; refine (HCB.out _ ?_).mono ?_; (first | with_reducible exact hb12 | with_reducible exact hb12.alloc hb12.size _); rintro e w10 ⟨cs, rfl, ht, hb10⟩; obtain ⟨k1, i1, S1, ks, A1, c1, hT, rfl, hS1⟩ := ht.form; unfold nodeC; have hb11 := below_step hb10 (show Below wr.heap.size wr _ from by first | with_reducible exact hb12 | with_reducible exact hb12.alloc hb12.size _); (try (have hrow10 : RowAt w10 w9.heap.size #[.int .i64 0, .int .i64 0, .int .u64 0, .int .u64 0, .int .u64 0, .int .u64 0, .slice none 0 0] 46 := (by with_reducible exact RowAt.later (RowAt.new w9 #[.int .i64 0, .int .i64 0, .int .u64 0, .int .u64 0, .int .u64 0, .int .u64 0, .slice none 0 0] 46) hb10 (RowAt.new w9 #[.int .i64 0, .int .i64 0, .int .u64 0, .int .u64 0, .int .u64 0, .int .u64 0, .slice none 0 0] 46).lt); obtain ⟨⟨n0, n1, n2, n3, n4, n5, n6⟩, m0, m1, m2, m3, m4, m5, m6⟩ := node_facts (k := 0) (i := 0) (s := S4.zero) (sl := .slice none 0 0) hrow10)); (try (have hrow10 : RowAt w10 wr.heap.size #[.int .i64 0, .int .i64 0, .int .u64 0, .int .u64 0, .int .u64 0, .int .u64 0, .slice none 0 0] 46 := (by with_reducible exact RowAt.later hrow9 hb10 (RowAt.lt hrow9)); obtain ⟨⟨n0, n1, n2, n3, n4, n5, n6⟩, m0, m1, m2, m3, m4, m5, m6⟩ := node_facts (k := 0) (i := 0) (s := S4.zero) (sl := .slice none 0 0) hrow10)); skip))
                    · go_wp2_with fail
                      go_meet
                      case rel => exact ⟨_, _, rfl, rfl, RowAt.new w10 (nodeC k1 i1 S1 (.slice A1 ks.length c1)) 46, TreeAt.turn (by simp) (fun b hb hlt => ⟨⟨by have := hb12.size; omega, by omega⟩, ((Below.refl w10.heap.size w10).alloc (Nat.le_refl _) _).block b hlt⟩) _ _ ht, hb11.size, hb11.alloc hb11.size _⟩
                    · go_wp2_with fail
                      go_meet
                      case rel =>
                        have hq := hb12.size
                        exact ⟨_, _, rfl, rfl, RowAt.putN (k0 := 0) (i0 := 0) (s0 := S4.zero) (sl0 := .slice none 0 0) hrow10 k1 i1 S1 (.slice A1 ks.length c1), ht.touch (touch_putN (Touch.refl w10 (· = w9.heap.size)) (.inl rfl) k1 i1 S1 (.slice A1 ks.length c1)) (fun b hb => by simp at hb; omega) (fun b hb => by simp at hb; omega), hq, below_putN hb11 hq k1 i1 S1 (.slice A1 ks.length c1)⟩
                    · go_wp2_with fail
                      go_meet
                      case rel =>
                        have hq := hrow9.lt
                        exact ⟨_, _, rfl, rfl, RowAt.putN (k0 := 0) (i0 := 0) (s0 := S4.zero) (sl0 := .slice none 0 0) hrow10 k1 i1 S1 (.slice A1 ks.length c1), ht.touch (touch_putN (Touch.refl w10 (· = wr.heap.size)) (.inl rfl) k1 i1 S1 (.slice A1 ks.length c1)) (fun b hb => by omega) (fun b hb => by omega), Nat.le_refl _, below_putN hb11 (Nat.le_refl _) k1 i1 S1 (.slice A1 ks.length c1)⟩
                case rest =>
                  obtain ⟨U, cs, rfl, rfl, y0, y1, y2, y3⟩ := hcut
                  obtain ⟨k1, i1, S1, ks, A1, c1, hT, rfl, hS1⟩ := y1.form
                  obtain ⟨d0, d1, d2, d3, d4, d5, d6⟩ := row7 y0
                  have rz := B.out.res.later y3 hRlt
                  have hUl := y0.lt
                  have hBW : Below w.heap.size w wc := B.out.bel.trans (y3.mono B.out.bel.size)
                  have HY1 := Lib.hid y1
                  have HY3 := Lib.hid y3
                  have HBW := Lib.hid hBW
                  clear y0 y1 y3 hBW HOP HCB
                  cases R with
                  | none =>
                    have HR : Hid (RefE l a = none) := Lib.hid (B.out.bar_none HT.out HB.out hlt (by rw [HP.out]; exact HRR.out))
                    clear d0 d1 d2 d3 d4 d5 d6 hT
                    obtain ⟨⟨n0, n1, n2, n3, n4, n5, n6⟩, m0, m1, m2, m3, m4, m5, m6⟩ := node_facts (k := 0) (i := 0) (s := S4.zero) (sl := .slice none 0 0) rz
                    go_wp2_with fail
                    obtain ⟨z0, z1, z2, z3, z4, z5, z6⟩ := row7 (RowAt.seven rz (.int .i64 0) (.int .i64 0) (.int .u64 0) (.int .u64 0) (.int .u64 0) (.int .u64 0) (.slice none 0 0))
                    refine bodyPost_ret (v := .tuple #[.agg (nodeC 0 0 S4.zero (.slice none 0 0)), .bool false]) (by simp [results, Tryd.results40, go_sem, nodeC, S4.zero, z0, z1, z2, z3, z4, z5, z6]) rfl ?_
                    unfold RefPost
                    rw [HR.out]
                    exact ⟨_, rfl, TreeAt.leaf _ _ 0 0 S4.zero_ok, below_putN HBW.out (Nat.le_refl _) 0 0 S4.zero (.slice none 0 0)⟩
                  | some x =>
                    have hT : x = .mk k1 i1 S1 ks := hT
                    subst hT
                    obtain ⟨V4, hV4⟩ : ∃ V4, wc.alloc (.cells #[.int .i64 (k1 : Int), .int .i64 (i1 : Int), .int .u64 (S1.a0 : Int), .int .u64 (S1.a1 : Int), .int .u64 (S1.a2 : Int), .int .u64 (S1.a3 : Int), .slice A1 ks.length c1] 46) = V4 := ⟨_, rfl⟩
                    have hb4 : Below wc.heap.size wc V4 := by rw [← hV4]; exact (Below.refl _ _).alloc (Nat.le_refl _) _
                    have q4 : RowAt V4 wc.heap.size (nodeC k1 i1 S1 (.slice A1 ks.length c1)) 46 := by rw [← hV4]; exact RowAt.new _ _ _
                    have hws := HY3.out.size
                    have q3 : NRow 46 (w.heap.size + 1) V4 (.slice C kids.length cc) kids := (B.out.row.below HY3.out).below hb4
                    have hone : ∀ b, wr.heap.size ≤ b → some b ≠ (Value.slice C kids.length cc).ownBlock := fun b hb hc => by
                      have := (B.out.row.own_ge b hc.symm).2
                      omega
                    have q5 : TreeAt (fun b => w.heap.size + 1 ≤ b ∧ some b ≠ (Value.slice C kids.length cc).ownBlock) V4 (.mk k1 i1 S1 ks) (nodeC k1 i1 S1 (.slice A1 ks.length c1)) := (HY1.out.below hb4).mono (fun b hb => ⟨by have := hb.1; omega, hone b hb.1⟩)
                    have q7 : w.heap.size + 1 ≤ V4.heap.size := by have := hb4.size; omega
                    have q2 := rz.later hb4 rz.lt
                    have q6 : Below w.heap.size w V4 := HBW.out.trans (hb4.mono HBW.out.size)
                    have hown := Lib.hid (fun k hk => (B.out.row.own_ge k hk).1)
                    have HV4 := Lib.hid hV4
                    clear hV4 hb4 hone
                    go_wp2_with (at_builtin; have hV4 := HV4.out; simp only [hV4]; refine wpList_append_node rfl (.tmp 83) (.tmp 85) 44 rfl 46 Tryd.underlying44 Tryd.info_refNode (w.heap.size + 1) (.slice C kids.length cc) kids (by rfl) q3 (.mk k1 i1 S1 ks) _ wc.heap.size (by rfl) q4 q5 (by omega) q7 ?_; intro v' w3 hrow3 hgrow)
                    have z2 := RowAt.grown q2 hgrow (fun hc => by have := hown.out _ hc.symm; omega)
                    have z3 := q6.grown hgrow (by omega) (fun k hk => by have := hown.out k hk; omega)
                    have F := Lib.hid (B.out.bar HT.out HB.out HO.out hlt (by rw [HP.out]; exact HRR.out) hrow3 z2 z3)
                    clear q2 q3 q4 q5 q6 q7 hgrow hrow3 z2 z3
                    go_wp2_with fail
                    go_roundw
                    case rel => exact ⟨k + 1, k + 1, 0, _, by go_num, by go_num, rfl, F⟩
                    case measure => simp [intOf]; omega
              | succ d =>
                have hz : (((d + 1 : Nat) : Int) == 0) = false := by simp; omega
                have hz2 : (((d : Int) + 1) == 0) = false := by simp; omega
                have hd3 : decide ((d : Int) + 1 < 0) = false := decide_eq_false (by omega)

                have FF := Lib.hid (B.out.step HT.out hlt (by omega) (fun r b p kk => goE_other RefE HO.out HC.out r b p (d + 1) (.inr (by omega)) kk))
                go_wp2_with fail
                go_roundw
                case rel => exact ⟨k + 1, f, d + 1, kids, by go_num, rfl, by go_num, FF⟩
                case measure => simp [intOf]; omega
            | false =>
              have HB := Lib.hid hb
              rw [hb] at m124
              clear ho hc hb
              cases hz : ((d : Int) == 0) with
              | true =>
                have FF := Lib.hid (B.out.step HT.out hlt (by omega) (fun r b p kk => goE_other RefE HO.out HC.out r b p d (.inl HB.out) kk))
                go_wp2_with fail
                go_roundw
                case rel => exact ⟨k + 1, f, d, kids, by go_num, rfl, by go_num, FF⟩
                case measure => simp [intOf]; omega
              | false =>
                have FF := Lib.hid (B.out.step HT.out hlt (by omega) (fun r b p kk => goE_other RefE HO.out HC.out r b p d (.inl HB.out) kk))
                go_wp2_with fail
                go_roundw
                case rel => exact ⟨k + 1, f, d, kids, by go_num, rfl, by go_num, FF⟩
                case measure => simp [intOf]; omega
      · have hdl : decide ((k : Int) < (n : Int)) = false := decide_eq_false (by omega)
        have HKN : Hid (k = n) := Lib.hid (by omega)
        have hfn : f ≤ n := by have := HKN.out; omega
        have hkn2 : k ≤ n := by have := HKN.out; omega
        have hkl : ((k : Int) == (n : Int)) = true := by have := HKN.out; simp; omega

        obtain ⟨P, hP⟩ : ∃ P, opn (l.take f) = P := ⟨_, rfl⟩
        have hPf : P ≤ f := by have := opn_le (l.take f); rw [List.length_take] at this; omega
        obtain ⟨R, hR⟩ : ∃ R, goB RefE ((l.take k).drop f) (a + P) [] = R := ⟨_, rfl⟩
        have HOP : Hid (∀ W', Below wr.heap.size wr W' → Calls Tryd.prog 41 #[.slice (some ⟨g, o, none⟩) f c] W' (fun e w' => e = .returned (.int .i64 (P : Int)) ∧ Below W'.heap.size W' w')) := Lib.hid (fun W' hb => by
          have h1 := Opened_any W' _ f c (l.take f) (((H.out.later B.out.bel).later hb).front (by omega))
          rw [hP] at h1
          exact h1)
        have HCB : Hid (∀ W', Below wr.heap.size wr W' → Calls Tryd.prog 63 #[.slice (if c = f then some ⟨g, o, none⟩ else some ⟨g, o + f * 5, none⟩) (k - f) (c - f), .int .i64 (IntKind.i64.wrap ((a : Int) + (P : Int)))] W' (RefPost R W')) := Lib.hid (fun W' hb => by
          have hs := (((H.out.later B.out.bel).later hb).part f k hfk (by omega)).cast (A' := if c = f then some ⟨g, o, none⟩ else some ⟨g, o + f * 5, none⟩) (by simp [addr_off]) rfl rfl rfl
          have hln : ((l.take k).drop f).length = k - f := by have := HL.out; rw [List.length_drop, List.length_take]; omega
          have h1 := HBR.out W' _ (k - f) (c - f) ((l.take k).drop f) (a + P) hs (fun t ht => HK.out t (List.mem_of_mem_take (List.mem_of_mem_drop ht))) (by have := HN.out; rw [HL.out] at this; omega) (by omega)
          rw [hR, show ((a + P : Nat) : Int) = IntKind.i64.wrap ((a : Int) + (P : Int)) by rw [IntWalk.i64_in _ (by omega)]; omega] at h1
          exact h1)
        have HP := Lib.hid hP
        have HRR := Lib.hid hR
        have hkc : k ≤ c := by omega
        have hfc : f ≤ c := by omega
        clear hP hR
        obtain ⟨C, cc, rfl, -, -⟩ := B.out.row.slice
        go_upto_region 13 with (fail)
        go_cut [10, 11] (fun v10 v11 wx => ∃ U cs, v10 = .pointer (some ⟨U, 0, none⟩) ∧ v11 = .bool R.isSome ∧ RowAt wx U cs 46 ∧ TreeAt (fun b => wr.heap.size ≤ b ∧ b ≠ U) wx (R.getD noneT) cs ∧ wr.heap.size ≤ U ∧ Below wr.heap.size wr wx)
        case first =>
          by_cases hcf : c = f
          · subst hcf
            have hkf : k - c = 0 := by omega
            simp only [if_true, Nat.sub_self, hkf] at HCB
            clear hkf
            go_region_with (first | (go_at_call 41; refine (HOP.out _ ?_).mono ?_; (first | with_reducible exact (Below.refl _ _).drew | with_reducible exact ((Below.refl _ _).alloc (Nat.le_refl _) _).drew | with_reducible exact (Below.refl _ _).drew.alloc (Nat.le_refl _) _); rintro e w9 ⟨rfl, hb9⟩; (try (have hrow9 : RowAt w9 wr.heap.size #[.int .i64 0, .int .i64 0, .int .u64 0, .int .u64 0, .int .u64 0, .int .u64 0, .slice none 0 0] 46 := by (with_reducible exact RowAt.later (RowAt.drew (RowAt.new wr #[.int .i64 0, .int .i64 0, .int .u64 0, .int .u64 0, .int .u64 0, .int .u64 0, .slice none 0 0] 46)) hb9 (RowAt.drew (RowAt.new wr #[.int .i64 0, .int .i64 0, .int .u64 0, .int .u64 0, .int .u64 0, .int .u64 0, .slice none 0 0] 46)).lt))); have hb12 : Below wr.heap.size wr w9 := below_step hb9 (by first | with_reducible exact (Below.refl _ _).drew | with_reducible exact ((Below.refl _ _).alloc (Nat.le_refl _) _).drew | with_reducible exact (Below.refl _ _).drew.alloc (Nat.le_refl _) _)) | (go_at_call 63; refine (HCB.out _ ?_).mono ?_; (first | with_reducible exact hb12 | with_reducible exact hb12.alloc hb12.size _); rintro e w10 ⟨cs, rfl, ht, hb10⟩; obtain ⟨k1, i1, S1, ks, A1, c1, hT, rfl, hS1⟩ := ht.form; unfold nodeC; have hb11 := below_step hb10 (show Below wr.heap.size wr _ from by first | with_reducible exact hb12 | with_reducible exact hb12.alloc hb12.size _); (try (have hrow10 : RowAt w10 w9.heap.size #[.int .i64 0, .int .i64 0, .int .u64 0, .int .u64 0, .int .u64 0, .int .u64 0, .slice none 0 0] 46 := (by with_reducible exact RowAt.later (RowAt.new w9 #[.int .i64 0, .int .i64 0, .int .u64 0, .int .u64 0, .int .u64 0, .int .u64 0, .slice none 0 0] 46) hb10 (RowAt.new w9 #[.int .i64 0, .int .i64 0, .int .u64 0, .int .u64 0, .int .u64 0, .int .u64 0, .slice none 0 0] 46).lt); obtain ⟨⟨n0, n1, n2, n3, n4, n5, n6⟩, m0, m1, m2, m3, m4, m5, m6⟩ := node_facts (k := 0) (i := 0) (s := S4.zero) (sl := .slice none 0 0) hrow10)); (try (have hrow10 : RowAt w10 wr.heap.size #[.int .i64 0, .int .i64 0, .int .u64 0, .int .u64 0, .int .u64 0, .int .u64 0, .slice none 0 0] 46 := (by with_reducible exact RowAt.later hrow9 hb10 (RowAt.lt hrow9)); obtain ⟨⟨n0, n1, n2, n3, n4, n5, n6⟩, m0, m1, m2, m3, m4, m5, m6⟩ := node_facts (k := 0) (i := 0) (s := S4.zero) (sl := .slice none 0 0) hrow10)); skip))
            · go_wp2_with fail
              go_meet
              case rel => exact ⟨_, _, rfl, rfl, RowAt.new w10 (nodeC k1 i1 S1 (.slice A1 ks.length c1)) 46, TreeAt.turn (by simp) (fun b hb hlt => ⟨⟨by have := hb12.size; omega, by omega⟩, ((Below.refl w10.heap.size w10).alloc (Nat.le_refl _) _).block b hlt⟩) _ _ ht, hb11.size, hb11.alloc hb11.size _⟩
            · go_wp2_with fail
              go_meet
              case rel =>
                have hq := hb12.size
                exact ⟨_, _, rfl, rfl, RowAt.putN (k0 := 0) (i0 := 0) (s0 := S4.zero) (sl0 := .slice none 0 0) hrow10 k1 i1 S1 (.slice A1 ks.length c1), ht.touch (touch_putN (Touch.refl w10 (· = w9.heap.size)) (.inl rfl) k1 i1 S1 (.slice A1 ks.length c1)) (fun b hb => by simp at hb; omega) (fun b hb => by simp at hb; omega), hq, below_putN hb11 hq k1 i1 S1 (.slice A1 ks.length c1)⟩
            · go_wp2_with fail
              go_meet
              case rel =>
                have hq := hrow9.lt
                exact ⟨_, _, rfl, rfl, RowAt.putN (k0 := 0) (i0 := 0) (s0 := S4.zero) (sl0 := .slice none 0 0) hrow10 k1 i1 S1 (.slice A1 ks.length c1), ht.touch (touch_putN (Touch.refl w10 (· = wr.heap.size)) (.inl rfl) k1 i1 S1 (.slice A1 ks.length c1)) (fun b hb => by omega) (fun b hb => by omega), Nat.le_refl _, below_putN hb11 (Nat.le_refl _) k1 i1 S1 (.slice A1 ks.length c1)⟩
          · simp only [if_neg hcf] at HCB
            go_region_with (first | (go_at_call 41; refine (HOP.out _ ?_).mono ?_; (first | with_reducible exact (Below.refl _ _).drew | with_reducible exact ((Below.refl _ _).alloc (Nat.le_refl _) _).drew | with_reducible exact (Below.refl _ _).drew.alloc (Nat.le_refl _) _); rintro e w9 ⟨rfl, hb9⟩; (try (have hrow9 : RowAt w9 wr.heap.size #[.int .i64 0, .int .i64 0, .int .u64 0, .int .u64 0, .int .u64 0, .int .u64 0, .slice none 0 0] 46 := by (with_reducible exact RowAt.later (RowAt.drew (RowAt.new wr #[.int .i64 0, .int .i64 0, .int .u64 0, .int .u64 0, .int .u64 0, .int .u64 0, .slice none 0 0] 46)) hb9 (RowAt.drew (RowAt.new wr #[.int .i64 0, .int .i64 0, .int .u64 0, .int .u64 0, .int .u64 0, .int .u64 0, .slice none 0 0] 46)).lt))); have hb12 : Below wr.heap.size wr w9 := below_step hb9 (by first | with_reducible exact (Below.refl _ _).drew | with_reducible exact ((Below.refl _ _).alloc (Nat.le_refl _) _).drew | with_reducible exact (Below.refl _ _).drew.alloc (Nat.le_refl _) _)) | (go_at_call 63; refine (HCB.out _ ?_).mono ?_; (first | with_reducible exact hb12 | with_reducible exact hb12.alloc hb12.size _); rintro e w10 ⟨cs, rfl, ht, hb10⟩; obtain ⟨k1, i1, S1, ks, A1, c1, hT, rfl, hS1⟩ := ht.form; unfold nodeC; have hb11 := below_step hb10 (show Below wr.heap.size wr _ from by first | with_reducible exact hb12 | with_reducible exact hb12.alloc hb12.size _); (try (have hrow10 : RowAt w10 w9.heap.size #[.int .i64 0, .int .i64 0, .int .u64 0, .int .u64 0, .int .u64 0, .int .u64 0, .slice none 0 0] 46 := (by with_reducible exact RowAt.later (RowAt.new w9 #[.int .i64 0, .int .i64 0, .int .u64 0, .int .u64 0, .int .u64 0, .int .u64 0, .slice none 0 0] 46) hb10 (RowAt.new w9 #[.int .i64 0, .int .i64 0, .int .u64 0, .int .u64 0, .int .u64 0, .int .u64 0, .slice none 0 0] 46).lt); obtain ⟨⟨n0, n1, n2, n3, n4, n5, n6⟩, m0, m1, m2, m3, m4, m5, m6⟩ := node_facts (k := 0) (i := 0) (s := S4.zero) (sl := .slice none 0 0) hrow10)); (try (have hrow10 : RowAt w10 wr.heap.size #[.int .i64 0, .int .i64 0, .int .u64 0, .int .u64 0, .int .u64 0, .int .u64 0, .slice none 0 0] 46 := (by with_reducible exact RowAt.later hrow9 hb10 (RowAt.lt hrow9)); obtain ⟨⟨n0, n1, n2, n3, n4, n5, n6⟩, m0, m1, m2, m3, m4, m5, m6⟩ := node_facts (k := 0) (i := 0) (s := S4.zero) (sl := .slice none 0 0) hrow10)); skip))
            · go_wp2_with fail
              go_meet
              case rel => exact ⟨_, _, rfl, rfl, RowAt.new w10 (nodeC k1 i1 S1 (.slice A1 ks.length c1)) 46, TreeAt.turn (by simp) (fun b hb hlt => ⟨⟨by have := hb12.size; omega, by omega⟩, ((Below.refl w10.heap.size w10).alloc (Nat.le_refl _) _).block b hlt⟩) _ _ ht, hb11.size, hb11.alloc hb11.size _⟩
            · go_wp2_with fail
              go_meet
              case rel =>
                have hq := hb12.size
                exact ⟨_, _, rfl, rfl, RowAt.putN (k0 := 0) (i0 := 0) (s0 := S4.zero) (sl0 := .slice none 0 0) hrow10 k1 i1 S1 (.slice A1 ks.length c1), ht.touch (touch_putN (Touch.refl w10 (· = w9.heap.size)) (.inl rfl) k1 i1 S1 (.slice A1 ks.length c1)) (fun b hb => by simp at hb; omega) (fun b hb => by simp at hb; omega), hq, below_putN hb11 hq k1 i1 S1 (.slice A1 ks.length c1)⟩
            · go_wp2_with fail
              go_meet
              case rel =>
                have hq := hrow9.lt
                exact ⟨_, _, rfl, rfl, RowAt.putN (k0 := 0) (i0 := 0) (s0 := S4.zero) (sl0 := .slice none 0 0) hrow10 k1 i1 S1 (.slice A1 ks.length c1), ht.touch (touch_putN (Touch.refl w10 (· = wr.heap.size)) (.inl rfl) k1 i1 S1 (.slice A1 ks.length c1)) (fun b hb => by omega) (fun b hb => by omega), Nat.le_refl _, below_putN hb11 (Nat.le_refl _) k1 i1 S1 (.slice A1 ks.length c1)⟩
        case rest =>
          obtain ⟨U, cs, rfl, rfl, y0, y1, y2, y3⟩ := hcut
          obtain ⟨k1, i1, S1, ks, A1, c1, hT, rfl, hS1⟩ := y1.form
          obtain ⟨d0, d1, d2, d3, d4, d5, d6⟩ := row7 y0
          have rz := B.out.res.later y3 hRlt
          have hUl := y0.lt
          have hBW : Below w.heap.size w wc := B.out.bel.trans (y3.mono B.out.bel.size)
          have HY1 := Lib.hid y1
          have HY3 := Lib.hid y3
          have HBW := Lib.hid hBW
          clear y0 y1 y3 hBW HOP HCB
          cases R with
          | none =>
            have HR : Hid (RefE l a = none) := Lib.hid (B.out.fin_none HL.out HKN.out (by rw [HP.out]; exact HRR.out))
            clear d0 d1 d2 d3 d4 d5 d6 hT
            obtain ⟨⟨n0, n1, n2, n3, n4, n5, n6⟩, m0, m1, m2, m3, m4, m5, m6⟩ := node_facts (k := 0) (i := 0) (s := S4.zero) (sl := .slice none 0 0) rz
            go_wp2_with fail
            obtain ⟨z0, z1, z2, z3, z4, z5, z6⟩ := row7 (RowAt.seven rz (.int .i64 0) (.int .i64 0) (.int .u64 0) (.int .u64 0) (.int .u64 0) (.int .u64 0) (.slice none 0 0))
            refine bodyPost_ret (v := .tuple #[.agg (nodeC 0 0 S4.zero (.slice none 0 0)), .bool false]) (by simp [results, Tryd.results40, go_sem, nodeC, S4.zero, z0, z1, z2, z3, z4, z5, z6]) rfl ?_
            unfold RefPost
            rw [HR.out]
            exact ⟨_, rfl, TreeAt.leaf _ _ 0 0 S4.zero_ok, below_putN HBW.out (Nat.le_refl _) 0 0 S4.zero (.slice none 0 0)⟩
          | some x =>
            have hT : x = .mk k1 i1 S1 ks := hT
            subst hT
            obtain ⟨V4, hV4⟩ : ∃ V4, wc.alloc (.cells #[.int .i64 (k1 : Int), .int .i64 (i1 : Int), .int .u64 (S1.a0 : Int), .int .u64 (S1.a1 : Int), .int .u64 (S1.a2 : Int), .int .u64 (S1.a3 : Int), .slice A1 ks.length c1] 46) = V4 := ⟨_, rfl⟩
            have hb4 : Below wc.heap.size wc V4 := by rw [← hV4]; exact (Below.refl _ _).alloc (Nat.le_refl _) _
            have q4 : RowAt V4 wc.heap.size (nodeC k1 i1 S1 (.slice A1 ks.length c1)) 46 := by rw [← hV4]; exact RowAt.new _ _ _
            have hws := HY3.out.size
            have q3 : NRow 46 (w.heap.size + 1) V4 (.slice C kids.length cc) kids := (B.out.row.below HY3.out).below hb4
            have hone : ∀ b, wr.heap.size ≤ b → some b ≠ (Value.slice C kids.length cc).ownBlock := fun b hb hc => by
              have := (B.out.row.own_ge b hc.symm).2
              omega
            have q5 : TreeAt (fun b => w.heap.size + 1 ≤ b ∧ some b ≠ (Value.slice C kids.length cc).ownBlock) V4 (.mk k1 i1 S1 ks) (nodeC k1 i1 S1 (.slice A1 ks.length c1)) := (HY1.out.below hb4).mono (fun b hb => ⟨by have := hb.1; omega, hone b hb.1⟩)
            have q7 : w.heap.size + 1 ≤ V4.heap.size := by have := hb4.size; omega
            have q2 := rz.later hb4 rz.lt
            have q6 : Below w.heap.size w V4 := HBW.out.trans (hb4.mono HBW.out.size)
            have hown := Lib.hid (fun k hk => (B.out.row.own_ge k hk).1)
            have HV4 := Lib.hid hV4
            clear hV4 hb4 hone
            go_wp2_with (at_builtin; have hV4 := HV4.out; simp only [hV4]; refine wpList_append_node rfl (.tmp 83) (.tmp 85) 44 rfl 46 Tryd.underlying44 Tryd.info_refNode (w.heap.size + 1) (.slice C kids.length cc) kids (by rfl) q3 (.mk k1 i1 S1 ks) _ wc.heap.size (by rfl) q4 q5 (by omega) q7 ?_; intro v' w3 hrow3 hgrow)
            have z2 := RowAt.grown q2 hgrow (fun hc => by have := hown.out _ hc.symm; omega)
            have z3 := q6.grown hgrow (by omega) (fun k hk => by have := hown.out k hk; omega)
            have F := Lib.hid (B.out.fin HL.out HKN.out (by rw [HP.out]; exact HRR.out) hrow3 z2 z3)
            clear q2 q3 q4 q5 q6 q7 hgrow hrow3 z2 z3
            go_wp2_with fail
            go_roundw
            case rel => exact ⟨k + 1, k + 1, d, _, by go_num, by go_num, rfl, F⟩
            case measure => simp [intOf]; omega

theorem refexpr_all : ∀ n, ExpC n
  | 0 => fun w A m c l a h hok hn => absurd hn (Nat.not_lt_zero _)
  | n + 1 => refexpr_step n (branch_step n (refexpr_all n))
theorem RefExpr_any (w : World) (A : Option Addr) (m c : Nat) (l : List Tok) (a : Nat) (h : Signs w A m c l) (hok : ∀ t ∈ l, tokOk t) (ha : a + l.length ≤ 2000) :
    Calls Tryd.prog 40 #[.slice A m c, .int .i64 (a : Int)] w (RefPost (RefE l a) w) := refexpr_all (l.length + 1) w A m c l a h hok (Nat.lt_succ_self _) ha


end Go.Proofs.YtkddighepgpccaaDoor
