/-
  The walk of the reference's branch.
-/
import Derived.Test.YtkddighepgpccaaDoorRefN
namespace Go.Proofs.YtkddighepgpccaaDoor
open Go Go.RowKit
set_option linter.unusedSimpArgs false
set_option linter.unusedVariables false

theorem goB_set (E : List Tok → Nat → Option T) (S : S4) (l : List Tok) (q : Nat) (k : List T) : goB E (.set S :: l) q k = goB E l q (k ++ [leaf 1 S]) := by rw [goB]
theorem goB_begin (E : List Tok → Nat → Option T) (l : List Tok) (q : Nat) (k : List T) : goB E (.mark 94 :: l) q k = goB E l q (k ++ [leaf 8 S4.zero]) := by rw [goB]; rfl
theorem goB_stop (E : List Tok → Nat → Option T) (l : List Tok) (q : Nat) (k : List T) : goB E (.mark 36 :: l) q k = goB E l q (k ++ [leaf 9 S4.zero]) := by rw [goB]; rfl
theorem goB_op (E : List Tok → Nat → Option T) {c : UInt8} (hc : isOp c = true) (l : List Tok) (q : Nat) (k : List T) (x : T) : goB E (.mark c :: l) q (k ++ [x]) = goB E l q (k ++ [.mk (opKind c) 0 S4.zero [x]]) := by
  have hn : c ≠ 94 ∧ c ≠ 36 := by refine ⟨?_, ?_⟩ <;> (rintro rfl; revert hc; decide)
  rw [goB, if_neg hn.1, if_neg hn.2, if_pos hc]
  simp
theorem goB_op_none (E : List Tok → Nat → Option T) {c : UInt8} (hc : isOp c = true) (l : List Tok) (q : Nat) : goB E (.mark c :: l) q [] = none := by
  have hn : c ≠ 94 ∧ c ≠ 36 := by refine ⟨?_, ?_⟩ <;> (rintro rfl; revert hc; decide)
  rw [goB, if_neg hn.1, if_neg hn.2, if_pos hc]
  rfl
theorem goB_open_none {E : List Tok → Nat → Option T} {l : List Tok} {q : Nat} {k : List T} (hc : closeT l 1 = none) : goB E (.mark 40 :: l) q k = none := by
  rw [goB, if_neg (by decide), if_neg (by decide), if_neg (by decide), if_pos rfl]
  split
  · rfl
  · rename_i e; rw [hc] at e; cases e
theorem goB_group_none {E : List Tok → Nat → Option T} {l i a : List Tok} {q : Nat} {k : List T} (hc : closeT l 1 = some (i, a)) (ht : E i (q + 1) = none) : goB E (.mark 40 :: l) q k = none := by
  rw [goB, if_neg (by decide), if_neg (by decide), if_neg (by decide), if_pos rfl]
  split
  · rfl
  · rename_i i' a' e
    rw [hc] at e
    simp only [Option.some.injEq, Prod.mk.injEq] at e
    obtain ⟨rfl, rfl⟩ := e
    rw [ht]
theorem goB_else (E : List Tok → Nat → Option T) {c : UInt8} (h1 : c ≠ 94) (h2 : c ≠ 36) (h3 : isOp c = false) (h4 : c ≠ 40) (l : List Tok) (q : Nat) (k : List T) : goB E (.mark c :: l) q k = none := by
  rw [goB, if_neg h1, if_neg h2, if_neg (by simp [h3]), if_neg h4]
theorem One2 (v : Value) (ts : List T) (B : Nat) (w : World) (hB : B ≤ w.heap.size) (h : NRow 46 B w v ts) :
    Calls Tryd.prog 64 #[.int .i64 2, v] w (TreePost B (joinT 2 ts) w) := One_any 2 (by decide) v ts B w hB h
theorem One3 (v : Value) (ts : List T) (B : Nat) (w : World) (hB : B ≤ w.heap.size) (h : NRow 46 B w v ts) :
    Calls Tryd.prog 64 #[.int .i64 3, v] w (TreePost B (joinT 3 ts) w) := One_any 3 (by decide) v ts B w hB h
theorem NRow.empty {e : TypeId} (w : World) {B : Nat} (hB : B ≤ w.heap.size) : NRow e B (w.alloc (.cells #[] e)) (.slice (some ⟨w.heap.size, 0, none⟩) 0 0) [] :=
  ⟨[], World.ownsRow_lit (base := B) (e := e) (size := 7) w #[] 0 hB (by decide) rfl, rfl⟩
theorem opn_snoc (l : List Tok) (t : Tok) : opn (l ++ [t]) = opn l + opn [t] := opn_append l [t]
theorem putAt_alloc {w : World} {g : Nat} (hg : g < w.heap.size) (ob : Obj) (o k i : Nat) (s : S4) (sl : Value) : putAt (w.alloc ob) g o k i s sl = (putAt w g o k i s sl).alloc ob := by
  have hs : ∀ (W : World) (a : Addr) (v : Value), (W.setCell a v).heap.size = W.heap.size := fun W a v => by simp [World.setCell]
  unfold putAt
  rw [World.setCell_alloc_past _ _ _ _ hg]
  rw [World.setCell_alloc_past _ _ _ _ (by simpa only [hs] using hg)]
  rw [World.setCell_alloc_past _ _ _ _ (by simpa only [hs] using hg)]
  rw [World.setCell_alloc_past _ _ _ _ (by simpa only [hs] using hg)]
  rw [World.setCell_alloc_past _ _ _ _ (by simpa only [hs] using hg)]
  rw [World.setCell_alloc_past _ _ _ _ (by simpa only [hs] using hg)]
  rw [World.setCell_alloc_past _ _ _ _ (by simpa only [hs] using hg)]
/-- How far the loop has come. -/
structure BSt (w : World) (l : List Tok) (a n : Nat) (wr : World) (v : Value) (k : Nat) (cur : List T) : Prop where
  kn : k ≤ n
  row : NRow 46 (w.heap.size + 1) wr v cur
  res : RowAt wr w.heap.size #[.int .i64 0, .int .i64 0, .int .u64 0, .int .u64 0, .int .u64 0, .int .u64 0, .slice none 0 0] 46
  bel : Below w.heap.size w wr
  len : cur.length ≤ k
  eq_ : goB RefE l a [] = goB RefE (l.drop k) (a + opn (l.take k)) cur
theorem BSt.next {w wr w3 : World} {l : List Tok} {a n k : Nat} {v v' : Value} {cur : List T} (h : BSt w l a n wr v k cur) {t : Tok} (ht : l[k]? = some t) (h0 : isOpen t = false) (hn : k < n) {x : T} (hrow : NRow 46 (w.heap.size + 1) w3 v' (cur ++ [x])) (hres : RowAt w3 w.heap.size #[.int .i64 0, .int .i64 0, .int .u64 0, .int .u64 0, .int .u64 0, .int .u64 0, .slice none 0 0] 46)
    (hb : Below w.heap.size w w3) (he : ∀ r q, goB RefE (t :: r) q cur = goB RefE r q (cur ++ [x])) : BSt w l a n w3 v' (k + 1) (cur ++ [x]) :=
  ⟨hn, hrow, hres, hb, by have := h.len; simp; omega, by
    rw [h.eq_, dropS ht, he, takeS ht, opn_snoc, opn_one, h0]; rfl⟩
theorem BSt.op {w wr w3 : World} {l : List Tok} {a n k : Nat} {v v' : Value} {cur : List T} {x : T} (h : BSt w l a n wr v k (cur ++ [x])) {c : UInt8} (ht : l[k]? = some (.mark c)) (hc : isOp c = true) (hn : k < n)
    (hrow : NRow 46 (w.heap.size + 1) w3 v' (cur ++ [.mk (opKind c) 0 S4.zero [x]])) (hres : RowAt w3 w.heap.size #[.int .i64 0, .int .i64 0, .int .u64 0, .int .u64 0, .int .u64 0, .int .u64 0, .slice none 0 0] 46) (hb : Below w.heap.size w w3) : BSt w l a n w3 v' (k + 1) (cur ++ [.mk (opKind c) 0 S4.zero [x]]) :=
  ⟨hn, hrow, hres, hb, by have := h.len; simp at this ⊢; omega, by
    have h40 : isOpen (.mark c) = false := by
      simp only [isOpen, beq_eq_false_iff_ne, ne_eq]
      rintro rfl; exact absurd hc (by decide)
    rw [h.eq_, dropS ht, goB_op RefE hc, takeS ht, opn_snoc, opn_one, h40]; rfl⟩
theorem Signs.front {w : World} {g o n c : Nat} {l : List Tok} (h : Signs w (some ⟨g, o, none⟩) n c l) {k : Nat} (hk : k ≤ n) : Signs w (some ⟨g, o, none⟩) k c (l.take k) :=
  (h.part 0 k (Nat.zero_le _) hk).cast (by by_cases e : c = 0 <;> simp [e, addr_off]) (by omega) (by omega) rfl
theorem Signs.mid {w : World} {g o n c : Nat} {l : List Tok} (h : Signs w (some ⟨g, o, none⟩) n c l) {a b : Nat} (hab : a ≤ b) (hb : b ≤ n) (hc : ¬ c = a) : Signs w (some ⟨g, o + a * 5, none⟩) (b - a) (c - a) ((l.take b).drop a) :=
  (h.part a b hab hb).cast (by rw [if_neg hc]; simp [addr_off]) rfl rfl rfl
theorem take_group {l i r : List Tok} {k : Nat} (ht : l[k]? = some (.mark 40)) (hct : closeT (l.drop (k + 1)) 1 = some (i, r)) : l.take (k + 1 + i.length + 1) = l.take k ++ .mark 40 :: (i ++ [.mark 41]) ∧ l.drop (k + 1 + i.length + 1) = r := by
  have h1 := closeT_eq _ _ _ _ hct
  have h2 := dropS ht
  rw [h1] at h2
  have hk : k ≤ l.length := by have := (List.getElem?_eq_some_iff.1 ht).1; omega
  obtain ⟨P, hP⟩ : ∃ P, l.take k = P := ⟨_, rfl⟩
  have hPl : P.length = k := by rw [← hP, List.length_take]; omega
  have h3 : l = (P ++ Tok.mark 40 :: (i ++ [Tok.mark 41])) ++ r := by
    have h5 := List.take_append_drop k l
    rw [h2, hP] at h5
    rw [← h5]
    simp
  have h4 : (P ++ Tok.mark 40 :: (i ++ [Tok.mark 41])).length = k + 1 + i.length + 1 := by simp; omega
  rw [hP]
  clear h1 h2 hP ht hct hk
  subst h3
  constructor
  · rw [← h4, List.take_left]
  · rw [← h4, List.drop_left]
theorem BSt.group {w wr w3 : World} {l : List Tok} {a n k e : Nat} {v v' : Value} {cur : List T} (h : BSt w l a n wr v k cur) (ht : l[k]? = some (.mark 40)) {i r : List Tok} (hct : closeT (l.drop (k + 1)) 1 = some (i, r)) (he : k + 1 + i.length = e) (hn : e < n)
    {t : T} (hre : RefE i (a + opn (l.take k) + 1) = some t) (hrow : NRow 46 (w.heap.size + 1) w3 v' (cur ++ [.mk 7 (a + opn (l.take k) + 1) S4.zero [t]])) (hres : RowAt w3 w.heap.size #[.int .i64 0, .int .i64 0, .int .u64 0, .int .u64 0, .int .u64 0, .int .u64 0, .slice none 0 0] 46) (hb : Below w.heap.size w w3) :
    BSt w l a n w3 v' (e + 1) (cur ++ [.mk 7 (a + opn (l.take k) + 1) S4.zero [t]]) := by
  obtain ⟨h1, h2⟩ := take_group ht hct
  rw [he] at h1 h2
  refine ⟨hn, hrow, hres, hb, by have := h.len; simp; omega, ?_⟩
  rw [h.eq_, dropS ht, goB_group hct hre, h1, h2]
  congr 1
  simp only [opn_append, opn]
  rw [if_pos trivial, if_neg (by decide)]
  omega
theorem BSt.group_none {w wr : World} {l : List Tok} {a n k : Nat} {v : Value} {cur : List T} (h : BSt w l a n wr v k cur) (ht : l[k]? = some (.mark 40)) {i r : List Tok} (hct : closeT (l.drop (k + 1)) 1 = some (i, r))
    (hre : RefE i (a + opn (l.take k) + 1) = none) : goB RefE l a [] = none := by
  rw [h.eq_, dropS ht, goB_group_none hct hre]

set_option maxHeartbeats 8000000 in
set_option maxRecDepth 100000 in
theorem branch_step (N : Nat) (hE : ExpC N) : BraC (N + 1) := by
  intro w A n c l a hS hok hN ha
  obtain ⟨g, o, rfl, -⟩ := hS.at_
  have hlen := hS.len
  have hmax := hS.max
  have H := Lib.hid hS
  have HL := Lib.hid hlen
  have HK := Lib.hid hok
  have HN := Lib.hid hN
  have HE := Lib.hid hE
  have haN : a + n ≤ 2000 := by omega
  obtain ⟨V, hV⟩ : ∃ V, (w.alloc (.cells #[.int .i64 0, .int .i64 0, .int .u64 0, .int .u64 0, .int .u64 0, .int .u64 0, .slice none 0 0] 46)).alloc (.cells #[] 46) = V := ⟨_, rfl⟩
  have v1 : BSt w l a n V (.slice (some ⟨w.heap.size + 1, 0, none⟩) 0 0) 0 [] := by
    rw [← hV]
    refine ⟨Nat.zero_le _, ?_, RowAt.old (RowAt.new _ _ _) _, ((Below.refl _ _).alloc (Nat.le_refl _) _).alloc (by simp) _, Nat.zero_le _, rfl⟩
    have := NRow.empty (e := 46) (w.alloc (.cells #[.int .i64 0, .int .i64 0, .int .u64 0, .int .u64 0, .int .u64 0, .int .u64 0, .slice none 0 0] 46)) (B := w.heap.size + 1) (by simp)
    simp only [World.size_alloc] at this
    exact this
  have HV := Lib.hid hV
  have H1 := Lib.hid v1
  clear hV v1 hS hok hN hE hlen ha
  go_enter Tryd.func63, Tryd.ntmps63
  go_wp2_with fail
  have hV := HV.out
  simp only [hV]
  clear hV HV
  go_loopw [6, 7] (fun v i wr => ∃ (k : Nat) (cur : List T), i = .int .i64 (k : Int) ∧ Hid (BSt w l a n wr v k cur)) (fun _ i _ => n - (intOf i).toNat)
  case atStart => exact ⟨0, [], rfl, H1⟩
  case round =>
    clear H1
    obtain ⟨k, cur, rfl, B⟩ := hrel
    have hkn := B.out.kn
    have hRlt : w.heap.size < wr.heap.size := B.out.res.lt
    rcases Nat.lt_or_ge k n with hlt | hge
    · have hd : decide ((k : Int) < (n : Int)) = true := decide_eq_true (by omega)
      obtain ⟨t, ht⟩ : ∃ t, l[k]? = some t := ⟨_, List.getElem?_eq_getElem (by rw [HL.out]; exact hlt)⟩
      obtain ⟨c0, c1, c2, c3, c4⟩ := (H.out.later (B.out.bel)).six ht
      obtain ⟨M, hM⟩ : ∃ M, markN t = M := ⟨_, rfl⟩
      obtain ⟨s0, hs0⟩ : ∃ s, (setN t).a0 = s := ⟨_, rfl⟩
      obtain ⟨s1, hs1⟩ : ∃ s, (setN t).a1 = s := ⟨_, rfl⟩
      obtain ⟨s2, hs2⟩ : ∃ s, (setN t).a2 = s := ⟨_, rfl⟩
      obtain ⟨s3, hs3⟩ : ∃ s, (setN t).a3 = s := ⟨_, rfl⟩
      rw [hM] at c0
      rw [hs0] at c1
      rw [hs1] at c2
      rw [hs2] at c3
      rw [hs3] at c4
      obtain ⟨W, hW⟩ : ∃ W, wr.alloc (.cells #[.int .u8 (M : Int), .int .u64 (s0 : Int), .int .u64 (s1 : Int), .int .u64 (s2 : Int), .int .u64 (s3 : Int)] 93) = W := ⟨_, rfl⟩
      have hWs : W.heap.size = wr.heap.size + 1 := by rw [← hW]; simp
      have r1 : RowAt W wr.heap.size #[.int .u8 (M : Int), .int .u64 (s0 : Int), .int .u64 (s1 : Int), .int .u64 (s2 : Int), .int .u64 (s3 : Int)] 93 := by rw [← hW]; exact RowAt.new _ _ _
      have hbW : Below wr.heap.size wr W := by rw [← hW]; exact (Below.refl _ _).alloc (Nat.le_refl _) _
      have B1 : BSt w l a n W u6 k cur := ⟨B.out.kn, B.out.row.below hbW, B.out.res.later hbW B.out.res.lt, B.out.bel.trans (hbW.mono B.out.bel.size), B.out.len, B.out.eq_⟩
      obtain ⟨C, cc, rfl, -, -⟩ := B1.row.slice
      have hcl := B1.len
      have HB := Lib.hid B1
      have HW := Lib.hid hW
      have HWs := Lib.hid hWs
      have x0 : W.cell? ⟨wr.heap.size, 0, none⟩ = some (.int .u8 (M : Int)) := r1.cellIs 0 _ rfl
      have x1 : W.cell? ⟨wr.heap.size, 1, none⟩ = some (.int .u64 (s0 : Int)) := r1.cellIs 1 _ rfl
      have x2 : W.cell? ⟨wr.heap.size, 2, none⟩ = some (.int .u64 (s1 : Int)) := r1.cellIs 2 _ rfl
      have x3 : W.cell? ⟨wr.heap.size, 3, none⟩ = some (.int .u64 (s2 : Int)) := r1.cellIs 3 _ rfl
      have x4 : W.cell? ⟨wr.heap.size, 4, none⟩ = some (.int .u64 (s3 : Int)) := r1.cellIs 4 _ rfl
      have HT := Lib.hid ht
      have HM := Lib.hid hM
      have HS0 := Lib.hid hs0
      have HS1 := Lib.hid hs1
      have HS2 := Lib.hid hs2
      have HS3 := Lib.hid hs3
      clear hW B B1 hbW r1 hM hs0 hs1 hs2 hs3 hWs ht
      go_upto_region 6 with (fail)
      have hW := HW.out
      simp only [hW]
      clear hW HW c0 c1 c2 c3 c4
      cases t with
      | set S =>
        obtain rfl : M = 0 := HM.out.symm
        obtain rfl : s0 = S.a0 := HS0.out.symm
        obtain rfl : s1 = S.a1 := HS1.out.symm
        obtain rfl : s2 = S.a2 := HS2.out.symm
        obtain rfl : s3 = S.a3 := HS3.out.symm
        have HSok : Hid S.ok := Lib.hid (HK.out _ (List.mem_of_getElem? HT.out))
        have x0 : W.cell? ⟨wr.heap.size, 0, none⟩ = some (.int .u8 0) := x0
        obtain ⟨V, hV⟩ : ∃ V, W.alloc (.cells #[.int .i64 1, .int .i64 0, .int .u64 (S.a0 : Int), .int .u64 (S.a1 : Int), .int .u64 (S.a2 : Int), .int .u64 (S.a3 : Int), .slice none 0 0] 46) = V := ⟨_, rfl⟩
        have hbV : Below W.heap.size W V := by rw [← hV]; exact (Below.refl _ _).alloc (Nat.le_refl _) _
        have q3 : NRow 46 (w.heap.size + 1) V (.slice C cur.length cc) cur := HB.out.row.below hbV
        have q4 : RowAt V W.heap.size #[.int .i64 1, .int .i64 0, .int .u64 (S.a0 : Int), .int .u64 (S.a1 : Int), .int .u64 (S.a2 : Int), .int .u64 (S.a3 : Int), .slice none 0 0] 46 := by rw [← hV]; exact RowAt.new _ _ _
        have q5 : TreeAt (fun b => w.heap.size + 1 ≤ b ∧ some b ≠ (Value.slice C cur.length cc).ownBlock) V (leaf 1 S) #[.int .i64 1, .int .i64 0, .int .u64 (S.a0 : Int), .int .u64 (S.a1 : Int), .int .u64 (S.a2 : Int), .int .u64 (S.a3 : Int), .slice none 0 0] := TreeAt.leaf _ _ _ _ HSok.out
        have q7 : w.heap.size + 1 ≤ V.heap.size := by have := hbV.size; have := HWs.out; omega
        have q2 := HB.out.res.later hbV HB.out.res.lt
        have q6 : Below w.heap.size w V := HB.out.bel.trans (hbV.mono HB.out.bel.size)
        have hown := Lib.hid (fun k hk => (HB.out.row.own_ge k hk).1)
        have HV := Lib.hid hV
        clear hV hbV
        go_wp2_with (at_builtin; have hV := HV.out; simp only [hV]; refine wpList_append_node rfl (.tmp 34) (.tmp 38) 44 rfl 46 Tryd.underlying44 Tryd.info_refNode (w.heap.size + 1) (.slice C cur.length cc) cur (by rfl) q3 (leaf 1 S) _ W.heap.size (by rfl) q4 q5 (by omega) q7 ?_; intro v' w3 hrow3 hgrow)
        have z2 := RowAt.grown q2 hgrow (fun hc => by have := hown.out _ hc.symm; omega)
        have z3 := q6.grown hgrow (by omega) (fun k hk => by have := hown.out k hk; omega)
        have F := Lib.hid (HB.out.next HT.out rfl hlt hrow3 z2 z3 (fun r q => goB_set RefE S r q cur))
        clear q2 q3 q4 q5 q6 q7 hgrow hrow3 z2 z3
        go_wp2_with fail
        go_roundw
        case rel => exact ⟨k + 1, _, by go_num, F⟩
        case measure => simp [intOf]; omega
      | mark c =>
        clear x1 x2 x3 x4 HS0 HS1 HS2 HS3
        by_cases h94 : c = 94
        · subst h94
          obtain rfl : M = 94 := HM.out.symm
          have x0 : W.cell? ⟨wr.heap.size, 0, none⟩ = some (.int .u8 94) := x0
          obtain ⟨V, hV⟩ : ∃ V, W.alloc (.cells #[.int .i64 8, .int .i64 0, .int .u64 0, .int .u64 0, .int .u64 0, .int .u64 0, .slice none 0 0] 46) = V := ⟨_, rfl⟩
          have hbV : Below W.heap.size W V := by rw [← hV]; exact (Below.refl _ _).alloc (Nat.le_refl _) _
          have q3 : NRow 46 (w.heap.size + 1) V (.slice C cur.length cc) cur := HB.out.row.below hbV
          have q4 : RowAt V W.heap.size #[.int .i64 8, .int .i64 0, .int .u64 0, .int .u64 0, .int .u64 0, .int .u64 0, .slice none 0 0] 46 := by rw [← hV]; exact RowAt.new _ _ _
          have q5 : TreeAt (fun b => w.heap.size + 1 ≤ b ∧ some b ≠ (Value.slice C cur.length cc).ownBlock) V (leaf 8 S4.zero) #[.int .i64 8, .int .i64 0, .int .u64 0, .int .u64 0, .int .u64 0, .int .u64 0, .slice none 0 0] := TreeAt.leaf _ _ _ _ S4.zero_ok
          have q7 : w.heap.size + 1 ≤ V.heap.size := by have := hbV.size; have := HWs.out; omega
          have q2 := HB.out.res.later hbV HB.out.res.lt
          have q6 : Below w.heap.size w V := HB.out.bel.trans (hbV.mono HB.out.bel.size)
          have hown := Lib.hid (fun k hk => (HB.out.row.own_ge k hk).1)
          have HV := Lib.hid hV
          clear hV hbV
          go_wp2_with (at_builtin; have hV := HV.out; simp only [hV]; refine wpList_append_node rfl (.tmp 42) (.tmp 44) 44 rfl 46 Tryd.underlying44 Tryd.info_refNode (w.heap.size + 1) (.slice C cur.length cc) cur (by rfl) q3 (leaf 8 S4.zero) _ W.heap.size (by rfl) q4 q5 (by omega) q7 ?_; intro v' w3 hrow3 hgrow)
          have z2 := RowAt.grown q2 hgrow (fun hc => by have := hown.out _ hc.symm; omega)
          have z3 := q6.grown hgrow (by omega) (fun k hk => by have := hown.out k hk; omega)
          have F := Lib.hid (HB.out.next HT.out rfl hlt hrow3 z2 z3 (fun r q => goB_begin RefE r q cur))
          clear q2 q3 q4 q5 q6 q7 hgrow hrow3 z2 z3
          go_wp2_with fail
          go_roundw
          case rel => exact ⟨k + 1, _, by go_num, F⟩
          case measure => simp [intOf]; omega
        ·
          by_cases h36 : c = 36
          · subst h36
            obtain rfl : M = 36 := HM.out.symm
            have x0 : W.cell? ⟨wr.heap.size, 0, none⟩ = some (.int .u8 36) := x0
            obtain ⟨V, hV⟩ : ∃ V, W.alloc (.cells #[.int .i64 9, .int .i64 0, .int .u64 0, .int .u64 0, .int .u64 0, .int .u64 0, .slice none 0 0] 46) = V := ⟨_, rfl⟩
            have hbV : Below W.heap.size W V := by rw [← hV]; exact (Below.refl _ _).alloc (Nat.le_refl _) _
            have q3 : NRow 46 (w.heap.size + 1) V (.slice C cur.length cc) cur := HB.out.row.below hbV
            have q4 : RowAt V W.heap.size #[.int .i64 9, .int .i64 0, .int .u64 0, .int .u64 0, .int .u64 0, .int .u64 0, .slice none 0 0] 46 := by rw [← hV]; exact RowAt.new _ _ _
            have q5 : TreeAt (fun b => w.heap.size + 1 ≤ b ∧ some b ≠ (Value.slice C cur.length cc).ownBlock) V (leaf 9 S4.zero) #[.int .i64 9, .int .i64 0, .int .u64 0, .int .u64 0, .int .u64 0, .int .u64 0, .slice none 0 0] := TreeAt.leaf _ _ _ _ S4.zero_ok
            have q7 : w.heap.size + 1 ≤ V.heap.size := by have := hbV.size; have := HWs.out; omega
            have q2 := HB.out.res.later hbV HB.out.res.lt
            have q6 : Below w.heap.size w V := HB.out.bel.trans (hbV.mono HB.out.bel.size)
            have hown := Lib.hid (fun k hk => (HB.out.row.own_ge k hk).1)
            have HV := Lib.hid hV
            clear hV hbV
            go_wp2_with (at_builtin; have hV := HV.out; simp only [hV]; refine wpList_append_node rfl (.tmp 48) (.tmp 50) 44 rfl 46 Tryd.underlying44 Tryd.info_refNode (w.heap.size + 1) (.slice C cur.length cc) cur (by rfl) q3 (leaf 9 S4.zero) _ W.heap.size (by rfl) q4 q5 (by omega) q7 ?_; intro v' w3 hrow3 hgrow)
            have z2 := RowAt.grown q2 hgrow (fun hc => by have := hown.out _ hc.symm; omega)
            have z3 := q6.grown hgrow (by omega) (fun k hk => by have := hown.out k hk; omega)
            have F := Lib.hid (HB.out.next HT.out rfl hlt hrow3 z2 z3 (fun r q => goB_stop RefE r q cur))
            clear q2 q3 q4 q5 q6 q7 hgrow hrow3 z2 z3
            go_wp2_with fail
            go_roundw
            case rel => exact ⟨k + 1, _, by go_num, F⟩
            case measure => simp [intOf]; omega
          ·
            by_cases h42 : c = 42
            · subst h42
              obtain rfl : M = 42 := HM.out.symm
              have x0 : W.cell? ⟨wr.heap.size, 0, none⟩ = some (.int .u8 42) := x0
              rcases List.eq_nil_or_concat cur with rfl | ⟨cur', x, rfl⟩
              ·
                have HR : Hid (goB RefE l a [] = none) := Lib.hid (by rw [HB.out.eq_, dropS HT.out]; exact goB_op_none RefE (by decide) _ _)
                have rz := HB.out.res
                simp only [List.length_nil] at HB ⊢
                obtain ⟨⟨n0, n1, n2, n3, n4, n5, n6⟩, m0, m1, m2, m3, m4, m5, m6⟩ := node_facts (k := 0) (i := 0) (s := S4.zero) (sl := .slice none 0 0) rz
                go_wp2_with fail
                obtain ⟨z0, z1, z2, z3, z4, z5, z6⟩ := row7 (RowAt.seven rz (.int .i64 0) (.int .i64 0) (.int .u64 0) (.int .u64 0) (.int .u64 0) (.int .u64 0) (.slice none 0 0))
                refine bodyPost_ret (v := .tuple #[.agg (nodeC 0 0 S4.zero (.slice none 0 0)), .bool false]) (by simp [results, Tryd.results63, go_sem, nodeC, S4.zero, z0, z1, z2, z3, z4, z5, z6]) rfl ?_
                unfold RefPost
                rw [HR.out]
                exact ⟨_, rfl, TreeAt.leaf _ _ 0 0 S4.zero_ok, below_putN HB.out.bel (Nat.le_refl _) 0 0 S4.zero (.slice none 0 0)⟩

              ·
                simp only [List.concat_eq_append, List.length_append, List.length_singleton] at HB hcl ⊢
                obtain ⟨G, c2, cs, hv, hGB, hGs, htx, hcs, hfr⟩ := HB.out.row.last
                injection hv with e1 e2 e3
                subst e1 e3
                obtain ⟨m, hm⟩ : ∃ m, cur'.length = m := ⟨_, rfl⟩
                obtain ⟨k1, i1, S1, ks, A1, c1, hx, rfl, hS1⟩ := htx.form
                have hcs' := fun j u hj => hcs j u hj
                rw [hm] at hcs'
                obtain ⟨d0, d1, d2, d3, d4, d5, d6⟩ := node_cells hcs'
                have f0 := hfr (m * 7)
                have f1 := hfr (m * 7 + 1)
                have f2 := hfr (m * 7 + 2)
                have f3 := hfr (m * 7 + 3)
                have f4 := hfr (m * 7 + 4)
                have f5 := hfr (m * 7 + 5)
                have f6 := hfr (m * 7 + 6)
                have hGW : G ≠ W.heap.size := by omega
                have HX := Lib.hid htx
                have HM2 := Lib.hid hm
                have hml : m + 1 ≤ k := by omega
                simp only [hm]
                simp only [Nat.add_zero] at d0
                clear hcs hcs' hfr hx htx hm hcl
                obtain ⟨V, hV⟩ : ∃ V, W.alloc (.cells #[.int .i64 (k1 : Int), .int .i64 (i1 : Int), .int .u64 (S1.a0 : Int), .int .u64 (S1.a1 : Int), .int .u64 (S1.a2 : Int), .int .u64 (S1.a3 : Int), .slice A1 ks.length c1] 46) = V := ⟨_, rfl⟩
                have hbV : Below W.heap.size W V := by rw [← hV]; exact (Below.refl _ _).alloc (Nat.le_refl _) _
                have q4 : RowAt V W.heap.size (nodeC k1 i1 S1 (.slice A1 ks.length c1)) 46 := by rw [← hV]; exact RowAt.new _ _ _
                have q3 := HB.out.row.below hbV
                have q5 : TreeAt (fun b => w.heap.size + 1 ≤ b ∧ b ≠ G) V _ (nodeC 4 0 S4.zero (.slice (some ⟨W.heap.size, 0, none⟩) 1 1)) := TreeAt.one (HX.out.below hbV) q4 ⟨by have := HWs.out; omega, hGW.symm⟩ 1 4 0 S4.zero_ok
                have q6 := NRow.setLast q3 4 0 S4.zero (.slice (some ⟨W.heap.size, 0, none⟩) 1 1) q5
                rw [HM2.out] at q6
                have F := Lib.hid (BSt.op HB.out HT.out (by decide) hlt q6 ((HB.out.res.later hbV HB.out.res.lt).putAt_other (m * 7) 4 0 S4.zero (.slice (some ⟨W.heap.size, 0, none⟩) 1 1) (by omega)) (below_putAt (HB.out.bel.trans (hbV.mono HB.out.bel.size)) (by omega) (m * 7) 4 0 S4.zero (.slice (some ⟨W.heap.size, 0, none⟩) 1 1)))
                rw [← hV, putAt_alloc hGs] at F
                clear hV hbV q3 q4 q5 q6
                go_wp2_with fail
                go_roundw
                case rel => exact ⟨k + 1, _, by go_num, F⟩
                case measure => simp [intOf]; omega
            ·
              by_cases h43 : c = 43
              · subst h43
                obtain rfl : M = 43 := HM.out.symm
                have x0 : W.cell? ⟨wr.heap.size, 0, none⟩ = some (.int .u8 43) := x0
                rcases List.eq_nil_or_concat cur with rfl | ⟨cur', x, rfl⟩
                ·
                  have HR : Hid (goB RefE l a [] = none) := Lib.hid (by rw [HB.out.eq_, dropS HT.out]; exact goB_op_none RefE (by decide) _ _)
                  have rz := HB.out.res
                  simp only [List.length_nil] at HB ⊢
                  obtain ⟨⟨n0, n1, n2, n3, n4, n5, n6⟩, m0, m1, m2, m3, m4, m5, m6⟩ := node_facts (k := 0) (i := 0) (s := S4.zero) (sl := .slice none 0 0) rz
                  go_wp2_with fail
                  obtain ⟨z0, z1, z2, z3, z4, z5, z6⟩ := row7 (RowAt.seven rz (.int .i64 0) (.int .i64 0) (.int .u64 0) (.int .u64 0) (.int .u64 0) (.int .u64 0) (.slice none 0 0))
                  refine bodyPost_ret (v := .tuple #[.agg (nodeC 0 0 S4.zero (.slice none 0 0)), .bool false]) (by simp [results, Tryd.results63, go_sem, nodeC, S4.zero, z0, z1, z2, z3, z4, z5, z6]) rfl ?_
                  unfold RefPost
                  rw [HR.out]
                  exact ⟨_, rfl, TreeAt.leaf _ _ 0 0 S4.zero_ok, below_putN HB.out.bel (Nat.le_refl _) 0 0 S4.zero (.slice none 0 0)⟩

                ·
                  simp only [List.concat_eq_append, List.length_append, List.length_singleton] at HB hcl ⊢
                  obtain ⟨G, c2, cs, hv, hGB, hGs, htx, hcs, hfr⟩ := HB.out.row.last
                  injection hv with e1 e2 e3
                  subst e1 e3
                  obtain ⟨m, hm⟩ : ∃ m, cur'.length = m := ⟨_, rfl⟩
                  obtain ⟨k1, i1, S1, ks, A1, c1, hx, rfl, hS1⟩ := htx.form
                  have hcs' := fun j u hj => hcs j u hj
                  rw [hm] at hcs'
                  obtain ⟨d0, d1, d2, d3, d4, d5, d6⟩ := node_cells hcs'
                  have f0 := hfr (m * 7)
                  have f1 := hfr (m * 7 + 1)
                  have f2 := hfr (m * 7 + 2)
                  have f3 := hfr (m * 7 + 3)
                  have f4 := hfr (m * 7 + 4)
                  have f5 := hfr (m * 7 + 5)
                  have f6 := hfr (m * 7 + 6)
                  have hGW : G ≠ W.heap.size := by omega
                  have HX := Lib.hid htx
                  have HM2 := Lib.hid hm
                  have hml : m + 1 ≤ k := by omega
                  simp only [hm]
                  simp only [Nat.add_zero] at d0
                  clear hcs hcs' hfr hx htx hm hcl
                  obtain ⟨V, hV⟩ : ∃ V, W.alloc (.cells #[.int .i64 (k1 : Int), .int .i64 (i1 : Int), .int .u64 (S1.a0 : Int), .int .u64 (S1.a1 : Int), .int .u64 (S1.a2 : Int), .int .u64 (S1.a3 : Int), .slice A1 ks.length c1] 46) = V := ⟨_, rfl⟩
                  have hbV : Below W.heap.size W V := by rw [← hV]; exact (Below.refl _ _).alloc (Nat.le_refl _) _
                  have q4 : RowAt V W.heap.size (nodeC k1 i1 S1 (.slice A1 ks.length c1)) 46 := by rw [← hV]; exact RowAt.new _ _ _
                  have q3 := HB.out.row.below hbV
                  have q5 : TreeAt (fun b => w.heap.size + 1 ≤ b ∧ b ≠ G) V _ (nodeC 5 0 S4.zero (.slice (some ⟨W.heap.size, 0, none⟩) 1 1)) := TreeAt.one (HX.out.below hbV) q4 ⟨by have := HWs.out; omega, hGW.symm⟩ 1 5 0 S4.zero_ok
                  have q6 := NRow.setLast q3 5 0 S4.zero (.slice (some ⟨W.heap.size, 0, none⟩) 1 1) q5
                  rw [HM2.out] at q6
                  have F := Lib.hid (BSt.op HB.out HT.out (by decide) hlt q6 ((HB.out.res.later hbV HB.out.res.lt).putAt_other (m * 7) 5 0 S4.zero (.slice (some ⟨W.heap.size, 0, none⟩) 1 1) (by omega)) (below_putAt (HB.out.bel.trans (hbV.mono HB.out.bel.size)) (by omega) (m * 7) 5 0 S4.zero (.slice (some ⟨W.heap.size, 0, none⟩) 1 1)))
                  rw [← hV, putAt_alloc hGs] at F
                  clear hV hbV q3 q4 q5 q6
                  go_wp2_with fail
                  go_roundw
                  case rel => exact ⟨k + 1, _, by go_num, F⟩
                  case measure => simp [intOf]; omega
              ·
                by_cases h63 : c = 63
                · subst h63
                  obtain rfl : M = 63 := HM.out.symm
                  have x0 : W.cell? ⟨wr.heap.size, 0, none⟩ = some (.int .u8 63) := x0
                  rcases List.eq_nil_or_concat cur with rfl | ⟨cur', x, rfl⟩
                  ·
                    have HR : Hid (goB RefE l a [] = none) := Lib.hid (by rw [HB.out.eq_, dropS HT.out]; exact goB_op_none RefE (by decide) _ _)
                    have rz := HB.out.res
                    simp only [List.length_nil] at HB ⊢
                    obtain ⟨⟨n0, n1, n2, n3, n4, n5, n6⟩, m0, m1, m2, m3, m4, m5, m6⟩ := node_facts (k := 0) (i := 0) (s := S4.zero) (sl := .slice none 0 0) rz
                    go_wp2_with fail
                    obtain ⟨z0, z1, z2, z3, z4, z5, z6⟩ := row7 (RowAt.seven rz (.int .i64 0) (.int .i64 0) (.int .u64 0) (.int .u64 0) (.int .u64 0) (.int .u64 0) (.slice none 0 0))
                    refine bodyPost_ret (v := .tuple #[.agg (nodeC 0 0 S4.zero (.slice none 0 0)), .bool false]) (by simp [results, Tryd.results63, go_sem, nodeC, S4.zero, z0, z1, z2, z3, z4, z5, z6]) rfl ?_
                    unfold RefPost
                    rw [HR.out]
                    exact ⟨_, rfl, TreeAt.leaf _ _ 0 0 S4.zero_ok, below_putN HB.out.bel (Nat.le_refl _) 0 0 S4.zero (.slice none 0 0)⟩

                  ·
                    simp only [List.concat_eq_append, List.length_append, List.length_singleton] at HB hcl ⊢
                    obtain ⟨G, c2, cs, hv, hGB, hGs, htx, hcs, hfr⟩ := HB.out.row.last
                    injection hv with e1 e2 e3
                    subst e1 e3
                    obtain ⟨m, hm⟩ : ∃ m, cur'.length = m := ⟨_, rfl⟩
                    obtain ⟨k1, i1, S1, ks, A1, c1, hx, rfl, hS1⟩ := htx.form
                    have hcs' := fun j u hj => hcs j u hj
                    rw [hm] at hcs'
                    obtain ⟨d0, d1, d2, d3, d4, d5, d6⟩ := node_cells hcs'
                    have f0 := hfr (m * 7)
                    have f1 := hfr (m * 7 + 1)
                    have f2 := hfr (m * 7 + 2)
                    have f3 := hfr (m * 7 + 3)
                    have f4 := hfr (m * 7 + 4)
                    have f5 := hfr (m * 7 + 5)
                    have f6 := hfr (m * 7 + 6)
                    have hGW : G ≠ W.heap.size := by omega
                    have HX := Lib.hid htx
                    have HM2 := Lib.hid hm
                    have hml : m + 1 ≤ k := by omega
                    simp only [hm]
                    simp only [Nat.add_zero] at d0
                    clear hcs hcs' hfr hx htx hm hcl
                    obtain ⟨V, hV⟩ : ∃ V, W.alloc (.cells #[.int .i64 (k1 : Int), .int .i64 (i1 : Int), .int .u64 (S1.a0 : Int), .int .u64 (S1.a1 : Int), .int .u64 (S1.a2 : Int), .int .u64 (S1.a3 : Int), .slice A1 ks.length c1] 46) = V := ⟨_, rfl⟩
                    have hbV : Below W.heap.size W V := by rw [← hV]; exact (Below.refl _ _).alloc (Nat.le_refl _) _
                    have q4 : RowAt V W.heap.size (nodeC k1 i1 S1 (.slice A1 ks.length c1)) 46 := by rw [← hV]; exact RowAt.new _ _ _
                    have q3 := HB.out.row.below hbV
                    have q5 : TreeAt (fun b => w.heap.size + 1 ≤ b ∧ b ≠ G) V _ (nodeC 6 0 S4.zero (.slice (some ⟨W.heap.size, 0, none⟩) 1 1)) := TreeAt.one (HX.out.below hbV) q4 ⟨by have := HWs.out; omega, hGW.symm⟩ 1 6 0 S4.zero_ok
                    have q6 := NRow.setLast q3 6 0 S4.zero (.slice (some ⟨W.heap.size, 0, none⟩) 1 1) q5
                    rw [HM2.out] at q6
                    have F := Lib.hid (BSt.op HB.out HT.out (by decide) hlt q6 ((HB.out.res.later hbV HB.out.res.lt).putAt_other (m * 7) 6 0 S4.zero (.slice (some ⟨W.heap.size, 0, none⟩) 1 1) (by omega)) (below_putAt (HB.out.bel.trans (hbV.mono HB.out.bel.size)) (by omega) (m * 7) 6 0 S4.zero (.slice (some ⟨W.heap.size, 0, none⟩) 1 1)))
                    rw [← hV, putAt_alloc hGs] at F
                    clear hV hbV q3 q4 q5 q6
                    go_wp2_with fail
                    go_roundw
                    case rel => exact ⟨k + 1, _, by go_num, F⟩
                    case measure => simp [intOf]; omega
                ·
                  by_cases h40 : c = 40
                  · subst h40
                    obtain rfl : M = 40 := HM.out.symm
                    have x0 : W.cell? ⟨wr.heap.size, 0, none⟩ = some (.int .u8 40) := x0
                    have hcl0 : closeI (l.drop k) k 0 = (closeT (l.drop (k + 1)) 1).map fun x => k + 1 + x.1.length := by
                      rw [dropS HT.out]
                      exact closeI_eq (l.drop (k + 1)) (k + 1) 1 (Nat.le_refl _)
                    have HSW := Lib.hid (H.out.later HB.out.bel)
                    have HC0 := Lib.hid (Closing_any W _ n c l HSW.out k (.mark 40) HT.out rfl)
                    cases hct : closeT (l.drop (k + 1)) 1 with
                    | none =>
                      rw [hct] at hcl0
                      have HC := Lib.hid hcl0
                      have HR : Hid (goB RefE l a [] = none) := Lib.hid (by rw [HB.out.eq_, dropS HT.out]; exact goB_open_none hct)
                      have rz := HB.out.res
                      clear hct hcl0
                      go_wp2_with fail
                      refine HC0.out.mono ?_
                      rintro e w1 ⟨he, hw1⟩
                      rw [HC.out] at he
                      obtain rfl := he
                      obtain rfl := hw1.symm
                      try dsimp only [closeV, Option.map_none]
                      obtain ⟨⟨n0, n1, n2, n3, n4, n5, n6⟩, m0, m1, m2, m3, m4, m5, m6⟩ := node_facts (k := 0) (i := 0) (s := S4.zero) (sl := .slice none 0 0) rz
                      go_wp2_with fail
                      obtain ⟨z0, z1, z2, z3, z4, z5, z6⟩ := row7 (RowAt.seven rz (.int .i64 0) (.int .i64 0) (.int .u64 0) (.int .u64 0) (.int .u64 0) (.int .u64 0) (.slice none 0 0))
                      refine bodyPost_ret (v := .tuple #[.agg (nodeC 0 0 S4.zero (.slice none 0 0)), .bool false]) (by simp [results, Tryd.results63, go_sem, nodeC, S4.zero, z0, z1, z2, z3, z4, z5, z6]) rfl ?_
                      unfold RefPost
                      rw [HR.out]
                      exact ⟨_, rfl, TreeAt.leaf _ _ 0 0 S4.zero_ok, below_putN HB.out.bel (Nat.le_refl _) 0 0 S4.zero (.slice none 0 0)⟩

                    | some x =>
                      obtain ⟨i, r⟩ := x
                      rw [hct] at hcl0
                      have hlt2 := closeT_lt hct
                      have heq := closeT_eq _ _ _ _ hct
                      obtain ⟨e, he⟩ : ∃ e, k + 1 + i.length = e := ⟨_, rfl⟩
                      have hen : e < n := by have h1 := hlt2.1; rw [List.length_drop, HL.out] at h1; omega
                      have hke : k + 1 ≤ e := by omega
                      have HC : Hid (closeI (l.drop k) k 0 = some e) := Lib.hid (by rw [hcl0, ← he]; rfl)
                      have hin : i = (l.take e).drop (k + 1) := by
                        rw [List.drop_take, heq, ← he, Nat.add_sub_cancel_left, List.take_left]
                      have hrd : r = l.drop (e + 1) := by
                        have h1 : l.drop (e + 1) = (l.drop (k + 1)).drop (i.length + 1) := by rw [List.drop_drop, show k + 1 + (i.length + 1) = e + 1 by omega]
                        rw [h1, heq]; simp
                      have HIN := Lib.hid hin
                      have HCT := Lib.hid hct
                      have HRD := Lib.hid hrd
                      have HEE := Lib.hid he
                      have he0 : decide ((e : Int) < 0) = false := decide_eq_false (by omega)
                      have hnc : n ≤ c := H.out.cap
                      have hck : ¬ c = k + 1 := by omega
                      obtain ⟨p, hp⟩ : ∃ p, opn (l.take k) = p := ⟨_, rfl⟩
                      have hpk : p ≤ k := by have := opn_le (l.take k); rw [List.length_take] at this; omega
                      have hil : i.length = e - (k + 1) := by omega
                      have HOP := Lib.hid (Opened_any W _ k c (l.take k) (HSW.out.front hkn))
                      rw [hp] at HOP
                      have HEX : Hid (∀ W1, Below W.heap.size W W1 → Calls Tryd.prog 40 #[.slice (some ⟨g, o + (k + 1) * 5, none⟩) (e - (k + 1)) (c - (k + 1)), .int .i64 ((a : Int) + (p : Int) + 1)] W1 (RefPost (RefE i (a + p + 1)) W1)) := Lib.hid (fun W1 hb1 => by
                        have h1 := HE.out W1 _ (e - (k + 1)) (c - (k + 1)) i (a + p + 1) (((HSW.out.later hb1).mid hke (by omega) hck).cast rfl rfl rfl hin) (fun t ht => HK.out t (by rw [hin] at ht; exact List.mem_of_mem_take (List.mem_of_mem_drop ht))) (by have := HN.out; rw [HL.out] at this; omega) (by omega)
                        rw [show ((a + p + 1 : Nat) : Int) = (a : Int) + (p : Int) + 1 by omega] at h1
                        exact h1)
                      have HP := Lib.hid hp
                      clear hct hcl0 hlt2 heq he hin hrd hp hil
                      go_wp2_with fail
                      refine HC0.out.mono ?_
                      rintro e1 w1 ⟨he, hw1⟩
                      rw [HC.out] at he
                      obtain rfl := he
                      obtain rfl := hw1.symm
                      try dsimp only [closeV]
                      go_wp2_with fail
                      refine HOP.out.mono ?_
                      rintro e1 w1 ⟨rfl, hb1⟩
                      try dsimp only
                      obtain ⟨R1, hR1⟩ : ∃ R, RefE i (a + p + 1) = R := ⟨_, rfl⟩
                      have HX := HEX.out w1 hb1
                      rw [hR1] at HX
                      have HXX := Lib.hid HX
                      have HR1 := Lib.hid hR1
                      have HB1 := Lib.hid hb1
                      clear HX hR1 hb1 HEX HOP HC0
                      go_wp2_with fail
                      refine HXX.out.mono ?_
                      rintro e2 w2 ⟨cs, rfl, ht2, hb2⟩
                      try dsimp only
                      obtain ⟨k1, i1, S1, ks, A1, c1, hT, rfl, hS1⟩ := ht2.form
                      obtain ⟨V, hV⟩ : ∃ V, w2.alloc (.cells #[.int .i64 (k1 : Int), .int .i64 (i1 : Int), .int .u64 (S1.a0 : Int), .int .u64 (S1.a1 : Int), .int .u64 (S1.a2 : Int), .int .u64 (S1.a3 : Int), .slice A1 ks.length c1] 46) = V := ⟨_, rfl⟩
                      have b2V : Below w2.heap.size w2 V := by rw [← hV]; exact (Below.refl _ _).alloc (Nat.le_refl _) _
                      have hbV : Below W.heap.size W V := by
                        have h1 := HB1.out
                        have h2 := h1.trans (hb2.mono h1.size)
                        exact h2.trans (b2V.mono h2.size)
                      have yr : RowAt V w2.heap.size (nodeC k1 i1 S1 (.slice A1 ks.length c1)) 46 := by rw [← hV]; exact RowAt.new _ _ _
                      have ht3 := ht2.below b2V
                      have hs1 : W.heap.size ≤ w1.heap.size := HB1.out.size
                      have hs2 : w1.heap.size ≤ w2.heap.size := hb2.size
                      have rz := HB.out.res.later hbV HB.out.res.lt
                      obtain ⟨y0, y1, y2, y3, y4, y5, y6⟩ := row7 yr
                      have HBV := Lib.hid hbV
                      have HV := Lib.hid hV
                      have HT3 := Lib.hid ht3
                      have HYR := Lib.hid yr.lt
                      unfold nodeC
                      clear ht2 ht3 hV hbV b2V hb2 HXX yr
                      cases R1 with
                      | none =>
                        have HR : Hid (goB RefE l a [] = none) := Lib.hid (HB.out.group_none HT.out HCT.out (by rw [HP.out]; exact HR1.out))
                        go_upto_region 32 with (fail)
                        have hV := HV.out
                        simp only [hV]
                        clear hV HV HT3 HYR y0 y1 y2 y3 y4 y5 y6 hT
                        obtain ⟨⟨n0, n1, n2, n3, n4, n5, n6⟩, m0, m1, m2, m3, m4, m5, m6⟩ := node_facts (k := 0) (i := 0) (s := S4.zero) (sl := .slice none 0 0) rz
                        go_wp2_with fail
                        obtain ⟨z0, z1, z2, z3, z4, z5, z6⟩ := row7 (RowAt.seven rz (.int .i64 0) (.int .i64 0) (.int .u64 0) (.int .u64 0) (.int .u64 0) (.int .u64 0) (.slice none 0 0))
                        refine bodyPost_ret (v := .tuple #[.agg (nodeC 0 0 S4.zero (.slice none 0 0)), .bool false]) (by simp [results, Tryd.results63, go_sem, nodeC, S4.zero, z0, z1, z2, z3, z4, z5, z6]) rfl ?_
                        unfold RefPost
                        rw [HR.out]
                        exact ⟨_, rfl, TreeAt.leaf _ _ 0 0 S4.zero_ok, below_putN (HB.out.bel.trans (HBV.out.mono HB.out.bel.size)) (Nat.le_refl _) 0 0 S4.zero (.slice none 0 0)⟩

                      | some t1 =>
                        have hT : t1 = .mk k1 i1 S1 ks := hT
                        go_upto_region 32 with (fail)
                        have hV := HV.out
                        simp only [hV]
                        clear hV HV
                        subst hT
                        obtain ⟨V4, hV4⟩ : ∃ V4, (V.alloc (.cells #[.int .i64 (k1 : Int), .int .i64 (i1 : Int), .int .u64 (S1.a0 : Int), .int .u64 (S1.a1 : Int), .int .u64 (S1.a2 : Int), .int .u64 (S1.a3 : Int), .slice A1 ks.length c1] 46)).alloc (.cells #[.int .i64 7, .int .i64 ((a : Int) + (p : Int) + 1), .int .u64 0, .int .u64 0, .int .u64 0, .int .u64 0, .slice (some ⟨V.heap.size, 0, none⟩) 1 1] 46) = V4 := ⟨_, rfl⟩
                        have hb4 : Below V.heap.size V V4 := by rw [← hV4]; exact ((Below.refl _ _).alloc (Nat.le_refl _) _).alloc (by simp) _
                        have hvs : V4.heap.size = V.heap.size + 2 := by rw [← hV4]; simp
                        have u1 : RowAt V4 V.heap.size (nodeC k1 i1 S1 (.slice A1 ks.length c1)) 46 := by rw [← hV4]; exact RowAt.old (RowAt.new _ _ _) _
                        have q4 : RowAt V4 (V.heap.size + 1) (nodeC 7 (a + p + 1) S4.zero (.slice (some ⟨V.heap.size, 0, none⟩) 1 1)) 46 := by
                          rw [← hV4]; exact RowAt.new' _ _ _ (by simp)
                        have hWV := HBV.out.size
                        have q3 : NRow 46 (w.heap.size + 1) V4 (.slice C cur.length cc) cur := (HB.out.row.below HBV.out).below hb4
                        have hone : ∀ b, W.heap.size ≤ b → some b ≠ (Value.slice C cur.length cc).ownBlock := fun b hb hc => by
                          have := (HB.out.row.own_ge b hc.symm).2
                          omega
                        have q5 : TreeAt (fun b => w.heap.size + 1 ≤ b ∧ some b ≠ (Value.slice C cur.length cc).ownBlock) V4 (.mk 7 (a + p + 1) S4.zero [.mk k1 i1 S1 ks]) (nodeC 7 (a + p + 1) S4.zero (.slice (some ⟨V.heap.size, 0, none⟩) 1 1)) :=
                          TreeAt.one ((HT3.out.below hb4).mono (fun b hb => ⟨by have := HWs.out; omega, hone b (by omega)⟩)) u1 ⟨by have := HWs.out; omega, hone _ (by omega)⟩ 1 7 (a + p + 1) S4.zero_ok
                        have q7 : w.heap.size + 1 ≤ V4.heap.size := by have := HWs.out; omega
                        have q2 := rz.later hb4 rz.lt
                        have q6 : Below w.heap.size w V4 := (HB.out.bel.trans (HBV.out.mono HB.out.bel.size)).trans (hb4.mono (by have := HWs.out; omega))
                        have hown := Lib.hid (fun k hk => (HB.out.row.own_ge k hk).1)
                        have HV4 := Lib.hid hV4
                        have HR1' := HR1
                        clear hV4 hb4 u1 hone hvs
                        go_wp2_with (at_builtin; have hV4 := HV4.out; simp only [hV4]; refine wpList_append_node rfl (.tmp 103) (.tmp 108) 44 rfl 46 Tryd.underlying44 Tryd.info_refNode (w.heap.size + 1) (.slice C cur.length cc) cur (by rfl) q3 (.mk 7 (a + p + 1) S4.zero [.mk k1 i1 S1 ks]) _ (V.heap.size + 1) (by rfl) q4 q5 (by omega) q7 ?_; intro v' w3 hrow3 hgrow)
                        have z2 := RowAt.grown q2 hgrow (fun hc => by have := hown.out _ hc.symm; omega)
                        have z3 := q6.grown hgrow (by omega) (fun k hk => by have := hown.out k hk; omega)
                        have hp := HP.out
                        subst hp
                        have F := Lib.hid (HB.out.group HT.out HCT.out HEE.out hen HR1'.out hrow3 z2 z3)
                        clear q2 q3 q4 q5 q6 q7 hgrow hrow3 z2 z3
                        go_wp2_with fail
                        go_roundw
                        case rel => exact ⟨e + 1, _, by go_num, F⟩
                        case measure => simp [intOf]; omega
                  ·
                    have HR : Hid (goB RefE l a [] = none) := Lib.hid (by
                      rw [HB.out.eq_, dropS HT.out]
                      exact goB_else RefE h94 h36 (by simp [isOp, h42, h43, h63]) h40 _ _ _)
                    have hc0 : c ≠ 0 := HK.out _ (List.mem_of_getElem? HT.out)
                    obtain rfl : M = c.toNat := HM.out.symm
                    have hb0 : ((c.toNat : Int) == 0) = false := by
                      have : c.toNat ≠ 0 := fun h => hc0 (UInt8.toNat_inj.1 h)
                      simp; omega
                    have hb94 : ((c.toNat : Int) == 94) = false := by
                      have : c.toNat ≠ 94 := fun h => h94 (UInt8.toNat_inj.1 h)
                      simp; omega
                    have hb36 : ((c.toNat : Int) == 36) = false := by
                      have : c.toNat ≠ 36 := fun h => h36 (UInt8.toNat_inj.1 h)
                      simp; omega
                    have hb42 : ((c.toNat : Int) == 42) = false := by
                      have : c.toNat ≠ 42 := fun h => h42 (UInt8.toNat_inj.1 h)
                      simp; omega
                    have hb43 : ((c.toNat : Int) == 43) = false := by
                      have : c.toNat ≠ 43 := fun h => h43 (UInt8.toNat_inj.1 h)
                      simp; omega
                    have hb63 : ((c.toNat : Int) == 63) = false := by
                      have : c.toNat ≠ 63 := fun h => h63 (UInt8.toNat_inj.1 h)
                      simp; omega
                    have hb40 : ((c.toNat : Int) == 40) = false := by
                      have : c.toNat ≠ 40 := fun h => h40 (UInt8.toNat_inj.1 h)
                      simp; omega
                    have rz := HB.out.res
                    clear h94 h36 h42 h43 h63 h40 hc0

                    obtain ⟨⟨n0, n1, n2, n3, n4, n5, n6⟩, m0, m1, m2, m3, m4, m5, m6⟩ := node_facts (k := 0) (i := 0) (s := S4.zero) (sl := .slice none 0 0) rz
                    go_wp2_with fail
                    obtain ⟨z0, z1, z2, z3, z4, z5, z6⟩ := row7 (RowAt.seven rz (.int .i64 0) (.int .i64 0) (.int .u64 0) (.int .u64 0) (.int .u64 0) (.int .u64 0) (.slice none 0 0))
                    refine bodyPost_ret (v := .tuple #[.agg (nodeC 0 0 S4.zero (.slice none 0 0)), .bool false]) (by simp [results, Tryd.results63, go_sem, nodeC, S4.zero, z0, z1, z2, z3, z4, z5, z6]) rfl ?_
                    unfold RefPost
                    rw [HR.out]
                    exact ⟨_, rfl, TreeAt.leaf _ _ 0 0 S4.zero_ok, below_putN HB.out.bel (Nat.le_refl _) 0 0 S4.zero (.slice none 0 0)⟩
    · have hd : decide ((k : Int) < (n : Int)) = false := decide_eq_false (by omega)
      have HR : Hid (goB RefE l a [] = some (joinT 2 cur)) := Lib.hid (by rw [B.out.eq_, List.drop_eq_nil_of_le (by rw [HL.out]; omega), goB])
      have hcl := B.out.len
      obtain ⟨C, cc, rfl, -, -⟩ := B.out.row.slice
      go_wp2_with fail
      refine (One2 _ cur (w.heap.size + 1) wr hRlt B.out.row).mono ?_
      rintro e w2 ⟨cs, rfl, ht, hb2⟩
      try dsimp only
      obtain ⟨k1, i1, S, ks, A1, c1, hT, rfl, hSok⟩ := ht.form
      have HTT := Lib.hid ht
      have r2 := RowAt.later B.out.res hb2 hRlt
      have HB2 := Lib.hid (B.out.bel.trans (hb2.mono B.out.bel.size))
      unfold nodeC
      clear ht hT hb2
      obtain ⟨⟨n0, n1, n2, n3, n4, n5, n6⟩, m0, m1, m2, m3, m4, m5, m6⟩ := node_facts (k := 0) (i := 0) (s := S4.zero) (sl := .slice none 0 0) r2
      go_wp2_with fail
      obtain ⟨z0, z1, z2, z3, z4, z5, z6⟩ := row7 (RowAt.seven r2 (.int .i64 (k1 : Int)) (.int .i64 (i1 : Int)) (.int .u64 (S.a0 : Int)) (.int .u64 (S.a1 : Int)) (.int .u64 (S.a2 : Int)) (.int .u64 (S.a3 : Int)) (.slice A1 ks.length c1))
      refine bodyPost_ret (v := .tuple #[.agg (nodeC k1 i1 S (.slice A1 ks.length c1)), .bool true]) (by simp [results, Tryd.results63, go_sem, nodeC, z0, z1, z2, z3, z4, z5, z6]) rfl ?_
      have tq := touch_putN (Touch.refl w2 (· = w.heap.size)) (.inl rfl) k1 i1 S (.slice A1 ks.length c1)
      unfold RefPost
      rw [HR.out]
      exact ⟨_, rfl, HTT.out.touch tq (fun b hb => (by omega)) (fun b hb => (by omega)), below_putN HB2.out (Nat.le_refl _) k1 i1 S (.slice A1 ks.length c1)⟩

end Go.Proofs.YtkddighepgpccaaDoor
