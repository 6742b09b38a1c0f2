/-
  The row and the tied card of the statement SubstLists, out of its walk: for every input the call returns true, and what came in reads as it did.
-/
import Derived.Test.YtkddighepgpccaaDoorRows
import Derived.Test.YtkddighepgpccaaDoorCards
import Derived.Test.YtkddighepgpccaaDoorTie
import Derived.Test.YtkddighepgpccaaDoorSubstLists
import Derived.Test.YtkddighepgpccaaDoorOpenTexts
import Derived.ProofKit
import Derived.OpenShut
import Derived.ShutString
import Derived.ChangeOld
import Derived.Below
import Derived.SizedLaws
import Derived.LaidMore
import Derived.Stop.Joined
import Derived.SevenTiedAt
namespace Go.Proofs.YtkddighepgpccaaDoor.substLists
open Go.ChangeShapes Go.WideShapes Go.ChangeAt Go.RowKit
open Go.ChangeMaps (open_string shut_string)
set_option linter.unusedVariables false
theorem own : ownKnob Tryd.prog.godebug = none := by kernel_rfl
theorem laidOut : laidOutB Tryd.prog = true := by kernel_rfl
noncomputable def laidV : List (String × DataW Unit) := [("millwright/api.ErrRange", Rows.laid_millwright_api_ErrRange), ("millwright/api.ErrLong", Rows.laid_millwright_api_ErrLong), ("millwright/api.ErrForm", Rows.laid_millwright_api_ErrForm), ("millwright/api.ErrName", Rows.laid_millwright_api_ErrName), ("millwright/api.ErrQuote", Rows.laid_millwright_api_ErrQuote), ("millwright/api.ErrRegex", Rows.laid_millwright_api_ErrRegex), ("millwright/api.ErrAttr", Rows.laid_millwright_api_ErrAttr), ("millwright/api.ErrNone", Rows.laid_millwright_api_ErrNone), ("millwright/api.ErrDup", Rows.laid_millwright_api_ErrDup), ("millwright/api.ErrFull", Rows.laid_millwright_api_ErrFull), ("millwright/api.ErrDepth", Rows.laid_millwright_api_ErrDepth), ("millwright/api.ErrCycle", Rows.laid_millwright_api_ErrCycle), ("millwright/api.ErrAmbig", Rows.laid_millwright_api_ErrAmbig), ("millwright/api.ErrState", Rows.laid_millwright_api_ErrState), ("millwright/api.ErrFail", Rows.laid_millwright_api_ErrFail), ("millwright/api.ErrFlag", Rows.laid_millwright_api_ErrFlag), ("millwright/api.ErrKind", Rows.laid_millwright_api_ErrKind), ("millwright/api.ErrLost", Rows.laid_millwright_api_ErrLost)]
theorem door_met (os : Os) (args : Array Value) : laidMetH Tryd.prog laidV ((World.doorLaid Tryd.prog 356 os).forCall (fun _ _ => 0) ⟨#[], args, []⟩).memory :=
  laidMetH_of_parts3 (fuel := 8) (laidMet_of_run' 8 (by kernel_rfl) (by kernel_rfl)) (by kernel_rfl) (by kernel_rfl)
set_option maxHeartbeats 2000000 in
set_option maxRecDepth 100000 in
theorem lifted (os : Os) (started : os.Started) (H : Type) (enc : TypeId × Value → H) :
    ReturnsInHanded {} Tryd.checked os 3 .any (fun w args => (Rows.substListsSpec.pre enc Tryd.prog Tryd.f3 [] false w args ∧ laidMetH Tryd.prog laidV w) ∧ sizedMet enc Tryd.prog Tryd.f3 (OpenSpec.ofChange Rows.substListsSpec) false w args)
      (Rows.substListsSpec.post enc Tryd.prog Tryd.f3 false true false false) := by
  refine returnsInHanded_of_change_and (C := Tryd.checked) (X := fun w _ => laidMetH Tryd.prog laidV w) (fun _ _ _ hh h => h.of_heap hh) own started (by kernel_rfl) Tryd.func3
    (ChangeSpec.witness_shaped (enc := enc) (C := Tryd.checked) (os := os) (X := fun w _ => laidMetH Tryd.prog laidV w) false (World.doorLaid Tryd.prog 356 os) #[.slice none 0 0, .string ByteArray.empty, .string ByteArray.empty] 8 rfl (World.shaped_of_RefB (by kernel_rfl) (by kernel_rfl)) (by kernel_rfl) (by kernel_rfl) (by kernel_rfl) (door_met os _)) ?_
  intro W base args ds gs before hval0 hW _ _ hL _
  have hval : ∀ (j : Nat) t v, Tryd.f3.params[j]? = some t → args[j]? = some v → Value.okWide Tryd.prog W .any base t v := hval0
  have hW' := hW
  obtain ⟨p, q, hA0, hV, rfl, hfz, hnd⟩ := hW
  have hA : DataW.TrodAll enc Tryd.prog W 0 (fun _ => true) true Tryd.f3.params.toList args.toList ds p := hA0
  rw [Tryd.params3] at hA hval
  obtain ⟨v0, vs0, d0, ds0, p0, q0, hargs, rfl, rfl, h0, r0⟩ := trodAll_cons hA
  obtain ⟨v1, vs1, d1, ds1, p1, q1, rfl, rfl, rfl, h1, r1⟩ := trodAll_cons r0
  obtain ⟨v2, vs2, d2, ds2, p2, q2, rfl, rfl, rfl, h2, r2⟩ := trodAll_cons r1
  obtain ⟨rfl, rfl, rfl⟩ := trodAll_nil r2
  obtain rfl : args = #[v0, v1, v2] := by cases args; simp_all
  obtain ⟨rfl, rfl⟩ := trodVars_none hV
  have k0 := h0
  have lt0 : ∀ x ∈ p0, x.block < W.heap.size := by obtain ⟨m, hm⟩ := k0; exact DataW.trod_lt m _ _ _ hm
  obtain ⟨A0, n0, c0, rfl⟩ := okWide_slice Tryd.underlying22 (hval 0 22 v0 rfl rfl)
  obtain ⟨xs0, w0, z0⟩ : ∃ xs, Txt W A0 n0 c0 xs ∧ ∀ x ∈ xs, x.size ≤ maxLen := by
    obtain ⟨fuel, hf⟩ := h0
    exact open_texts Tryd.underlying22 Tryd.underlying9 (by kernel_rfl) hf
  obtain ⟨a1, rfl, rfl, rfl, w1⟩ := open_string Tryd.underlying9 (hval 1 9 v1 rfl rfl) h1
  obtain ⟨a2, rfl, rfl, rfl, w2⟩ := open_string Tryd.underlying9 (hval 2 9 v2 rfl rfl) h2
  clear hA0 hval0
  simp only [List.append_nil] at hW'
  refine (SubstLists_walk A0 n0 c0 xs0 a1 a2 W w0 z0 w1 w2 (errs_of_row laidV (by rfl) (by rfl) (by rfl) hL)).mono fun e W' ⟨he, bel⟩ => ?_
  subst he
  exact ⟨_, rfl, _, _, _, [], _, [], hW', trodAll_mk1 (shut_bool Tryd.underlying4 _), (trodAll_cons_mk (Below.trod laidOut (by kernel_rfl) (of_decide_eq_true (by kernel_rfl)) k0 bel lt0) (trodAll_cons_mk (shut_string Tryd.underlying9 w1) (trodAll_cons_mk (shut_string Tryd.underlying9 w2) trodAll_mk0))), rfl, bel.frame _, fun h => by cases h⟩
theorem over : Rows.substListsRow.holds Tryd.pinned (OpenSpec.ofChange Rows.substListsSpec) :=
  OpenClaim.holds_of_wide 3 Tryd.f3 rfl rfl rfl rfl rfl rfl rfl ⟨rfl, rfl, rfl, rfl, rfl⟩ rfl rfl rfl rfl rfl (by kernel_rfl) Tryd.func3 (by kernel_rfl)
    (of_decide_eq_true (by kernel_rfl)) (by unfold Func.isWrapper; first | (rw [if_pos (by decide +kernel)]; kernel_rfl) | (rw [if_neg (by decide +kernel)]; exact ⟨rfl, rfl⟩))
    (fun os started H enc _ => lifted os started H enc)
theorem proved : Rows.SubstListsCardSaid :=
  Claim7.holds_tied_plain_at .later [] [.sentinel, .sentinel, .sentinel, .sentinel, .sentinel, .sentinel, .sentinel, .sentinel, .sentinel, .sentinel, .sentinel, .sentinel, .sentinel, .sentinel, .sentinel, .sentinel, .sentinel, .sentinel] true (true, "b162888418b59da24e3127cff9c6e477cd229bcee0706e868529a0d5a1d5877e") true
    over (fun _ h => by cases h) (by kernel_rfl) (fun _ h => by cases h) substLists_row_tie rfl ⟨rfl, rfl⟩ (by kernel_rfl) rfl
    (fun f fn hf hfn => by
      obtain rfl : f = 3 := Option.some.inj ((show Tryd.prog.funcNamed "millwright/millwrightlaw16.SubstLists" = some 3 by kernel_rfl).symm.trans hf) |>.symm
      obtain rfl : fn = Tryd.f3 := (Option.some.inj (Tryd.func3.symm.trans hfn)).symm
      exact ⟨by kernel_rfl, fun j t ht => by
        rw [Tryd.params3] at ht
        have hm : t ∈ [22, 9, 9] := by simpa using Array.mem_of_getElem? ht
        have hall : ([22, 9, 9].all fun u => !Tryd.prog.wantsStandIn u) = true := by kernel_rfl
        exact (show Tryd.prog.wantsStandIn t = false by simpa using List.all_eq_true.1 hall t hm)⟩)
    (by kernel_rfl)
#print axioms proved
end Go.Proofs.YtkddighepgpccaaDoor.substLists
