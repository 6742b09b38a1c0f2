/-
  Plain facts on patterns with one wild sign: what fills them, and what fits them.
-/
import Derived.Test.YtkddighepgpccaaDoorFill
namespace Go.Proofs.YtkddighepgpccaaDoor
open Go.RowKit
set_option linter.unusedSimpArgs false
set_option linter.unusedVariables false

theorem noWild {a : ByteArray} (h : wI a < 0) : ∀ c ∈ a.data.toList, wildB c = false := by
  unfold wI at h
  by_cases h1 : wn a < a.size
  · rw [if_pos h1] at h; omega
  · have : List.findIdx wildB a.data.toList = a.data.toList.length := by
      have := wn_le a
      rw [← ba_size]; show wn a = _; omega
    simpa using List.findIdx_eq_length.1 this
def cat3 (a : ByteArray) (c : UInt8) (b : ByteArray) : ByteArray := a ++ ⟨#[c]⟩ ++ b
theorem cat3_data (a b : ByteArray) (c : UInt8) : (cat3 a c b).data.toList = a.data.toList ++ [c] ++ b.data.toList := by
  unfold cat3; rw [ba_append, ba_append]
theorem cat3_size (a b : ByteArray) (c : UInt8) : (cat3 a c b).size = a.size + 1 + b.size := by
  rw [ba_size, cat3_data]; simp only [List.length_append, List.length_cons, List.length_nil, ← ba_size]
theorem cat3_wn {a b : ByteArray} {c : UInt8} (h : ∀ x ∈ a.data.toList, wildB x = false) (hc : wildB c = true) : wn (cat3 a c b) = a.size := by
  unfold wn
  rw [cat3_data, List.append_assoc, List.findIdx_append]
  have e : List.findIdx wildB a.data.toList = a.data.toList.length := List.findIdx_eq_length.2 (by simpa using h)
  rw [if_neg (by omega), List.singleton_append, List.findIdx_cons, hc, ← ba_size]
  simp
theorem cat3_wI {a b : ByteArray} {c : UInt8} (h : ∀ x ∈ a.data.toList, wildB x = false) (hc : wildB c = true) : wI (cat3 a c b) = a.size := by
  unfold wI; rw [cat3_wn h hc, cat3_size, if_pos (by omega)]
theorem fillL_none {l s : List UInt8} (h : ∀ c ∈ l, wildB c = false) : fillL l s = l := by
  induction l with
  | nil => rfl
  | cons c l ih =>
    have : fillL (c :: l) s = (if wildB c then s else [c]) ++ fillL l s := by simp [fillL]
    rw [this, h c List.mem_cons_self, ih fun x hx => h x (List.mem_cons_of_mem _ hx)]; rfl
theorem cat3_fill {a b s : ByteArray} {c : UInt8} (h : ∀ x ∈ a.data.toList, wildB x = false) (h' : ∀ x ∈ b.data.toList, wildB x = false) (hc : wildB c = true) : fillS (cat3 a c b) s = a ++ s ++ b := by
  apply ba_ext
  unfold fillS
  rw [str_data, cat3_data, ba_append, ba_append]
  have : ∀ x y z : List UInt8, fillL (x ++ y) z = fillL x z ++ fillL y z := by intro x y z; simp [fillL]
  rw [this, this, fillL_none h, fillL_none h']
  have : fillL [c] s.data.toList = s.data.toList := by simp [fillL, hc]
  rw [this]
theorem cat3_pre {a b : ByteArray} {c : UInt8} (h : ∀ x ∈ a.data.toList, wildB x = false) (hc : wildB c = true) : pre (cat3 a c b) = a := by
  apply ba_ext
  unfold pre
  rw [cat3_wn h hc, Lib.extract_data, cat3_data, ba_size]
  simp
theorem cat3_suf {a b : ByteArray} {c : UInt8} (h : ∀ x ∈ a.data.toList, wildB x = false) (hc : wildB c = true) : suf (cat3 a c b) = b := by
  apply ba_ext
  unfold suf
  rw [cat3_wn h hc, Lib.extract_data, cat3_data, cat3_size, ba_size a, ba_size b]
  rw [show a.data.toList.length + 1 = (a.data.toList ++ [c]).length by simp, List.drop_left]
  rw [List.take_of_length_le (by omega)]
theorem cat3_byte {a b : ByteArray} {c : UInt8} (h : ∀ x ∈ a.data.toList, wildB x = false) (hc : wildB c = true) : byteAt (cat3 a c b) (wn (cat3 a c b)) = c := by
  unfold byteAt
  rw [cat3_wn h hc, cat3_data, ba_size, List.append_assoc, List.getD_eq_getElem?_getD, List.getElem?_append_right (Nat.le_refl _)]
  simp
theorem match_cat {a b T : ByteArray} {c : UInt8} (h : ∀ x ∈ a.data.toList, wildB x = false) (hc : wildB c = true) :
    matchM (cat3 a c b) T = if (hasP T a && hasS (trimP T a) b && !(c == 38 && !narrowS (trimS (trimP T a) b))) = true then some (trimS (trimP T a) b) else none := by
  unfold matchM
  rw [if_pos (by rw [cat3_wn h hc, cat3_size]; omega)]
  unfold mid
  rw [cat3_pre h hc, cat3_suf h hc, cat3_byte h hc]
theorem hasP_cat (a b : ByteArray) : hasP (a ++ b) a = true := by
  unfold hasP Lib.hasPrefix; rw [ba_append]; exact List.isPrefixOf_iff_prefix.2 ⟨_, rfl⟩
theorem trimP_cat (a b : ByteArray) : trimP (a ++ b) a = b := by
  apply ba_ext
  unfold trimP Lib.trimPrefix
  have := hasP_cat a b
  unfold hasP at this
  rw [str_data, if_pos this, ba_append, List.drop_left]
theorem hasS_cat (a b : ByteArray) : hasS (a ++ b) b = true := by
  unfold hasS Lib.hasSuffix; rw [ba_append]; exact List.isSuffixOf_iff_suffix.2 ⟨_, rfl⟩
theorem trimS_cat (a b : ByteArray) : trimS (a ++ b) b = a := by
  apply ba_ext
  unfold trimS Lib.trimSuffix
  have := hasS_cat a b
  unfold hasS at this
  rw [str_data, if_pos this, ba_append, List.length_append, Nat.add_sub_cancel, List.take_left]
theorem match_back {a b s : ByteArray} {c : UInt8} (h : ∀ x ∈ a.data.toList, wildB x = false) (hc : wildB c = true) :
    matchM (cat3 a c b) (a ++ s ++ b) = if (c == 38 && !narrowS s) = true then none else some s := by
  rw [match_cat h hc, ba_assoc, hasP_cat, trimP_cat, hasS_cat, trimS_cat]
  cases (c == 38 && !narrowS s) <;> simp
theorem hasP_split {T a : ByteArray} (h : hasP T a = true) : a ++ trimP T a = T := by
  apply ba_ext
  unfold hasP at h
  rw [ba_append]
  unfold trimP Lib.trimPrefix
  rw [str_data, if_pos h]
  obtain ⟨t, ht⟩ := List.isPrefixOf_iff_prefix.1 h
  rw [← ht, List.drop_left]
theorem hasS_split {T b : ByteArray} (h : hasS T b = true) : trimS T b ++ b = T := by
  apply ba_ext
  unfold hasS at h
  rw [ba_append]
  unfold trimS Lib.trimSuffix
  rw [str_data, if_pos h]
  obtain ⟨t, ht⟩ := List.isSuffixOf_iff_suffix.1 h
  rw [← ht, List.length_append, Nat.add_sub_cancel, List.take_left]
theorem match_there {a b s x : ByteArray} {c : UInt8} (h : ∀ y ∈ a.data.toList, wildB y = false) (hc : wildB c = true) (hm : matchM (cat3 a c b) s = some x) : a ++ x ++ b = s := by
  rw [match_cat h hc] at hm
  split at hm
  · rename_i hh
    simp only [Bool.and_eq_true] at hh
    obtain ⟨⟨h1, h2⟩, _⟩ := hh
    injection hm with hm
    rw [← hm, ba_assoc, hasS_split h2, hasP_split h1]
  · cases hm

theorem fillS_none {p s : ByteArray} (h : wI p < 0) : fillS p s = p := by
  apply ba_ext
  unfold fillS
  rw [str_data, fillL_none (noWild h)]
theorem fillL_app (x y z : List UInt8) : fillL (x ++ y) z = fillL x z ++ fillL y z := by simp [fillL]
theorem fillS_split {p s : ByteArray} {k : Nat} (hk : k < p.size) (h : wn p = k) : fillS p s = p.extract 0 k ++ s ++ fillS (p.extract (k + 1) p.size) s := by
  have hl : k < p.data.toList.length := by rw [← ba_size]; exact hk
  have hsp : p.data.toList = p.data.toList.take k ++ (p.data.toList[k] :: p.data.toList.drop (k + 1)) := by
    rw [← List.drop_eq_getElem_cons hl, List.take_append_drop]
  have hw : wildB p.data.toList[k] = true := by
    have := List.findIdx_getElem (p := wildB) (xs := p.data.toList) (w := by show wn p < _; rw [h]; exact hl)
    have e : List.findIdx wildB p.data.toList = k := h
    simpa only [e] using this
  have hn : ∀ c ∈ p.data.toList.take k, wildB c = false := by
    intro c hc
    obtain ⟨i, hi, rfl⟩ := List.mem_iff_getElem.1 hc
    rw [List.length_take] at hi
    rw [List.getElem_take]
    have := List.not_of_lt_findIdx (p := wildB) (xs := p.data.toList) (i := i) (by show i < wn p; omega)
    simpa using this
  apply ba_ext
  rw [ba_append, ba_append, Lib.extract_data]
  unfold fillS
  rw [str_data, str_data, extract_end]
  conv => lhs; rw [hsp]
  rw [fillL_app, fillL_none hn]
  have : ∀ (c : UInt8) (l z : List UInt8), fillL (c :: l) z = (if wildB c then z else [c]) ++ fillL l z := by intro c l z; simp [fillL]
  rw [this, hw]
  simp
theorem fillS_size {p s : ByteArray} (hp : p.size ≤ 1000) (hs : s.size ≤ 1000) : (fillS p s).size ≤ 1001000 := by
  unfold fillS
  rw [str_size]
  refine Nat.le_trans (fillL_le _ _) ?_
  rw [← ba_size, ← ba_size]
  exact Nat.le_trans (Nat.mul_le_mul hp (Nat.add_le_add_right hs 1)) (by decide)


end Go.Proofs.YtkddighepgpccaaDoor
