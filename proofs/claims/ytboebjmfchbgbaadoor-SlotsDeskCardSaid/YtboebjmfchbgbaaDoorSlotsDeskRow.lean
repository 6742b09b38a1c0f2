/-
  The row and the tied card of the statement SlotsDesk, out of its walk: for every input the call returns true, and what came in reads as it did.
-/
import Derived.Test.YtboebjmfchbgbaaDoorRows
import Derived.Test.YtboebjmfchbgbaaDoorCards
import Derived.Test.YtboebjmfchbgbaaDoorTie
import Derived.Test.YtboebjmfchbgbaaDoorSlotsDesk
import Derived.Test.YtboebjmfchbgbaaDoorInts
import Derived.ProofKit
import Derived.OpenShut
import Derived.ShutString
import Derived.ChangeOld
import Derived.Below
import Derived.SizedLaws
import Derived.LaidMore
import Derived.Stop.Joined
import Derived.SevenTiedAt
namespace Go.Proofs.YtboebjmfchbgbaaDoor.slotsDesk
open Go.ChangeShapes Go.WideShapes Go.ChangeAt Go.RowKit
open Go.ChangeMaps (open_string shut_string)
set_option linter.unusedVariables false
theorem own : ownKnob Tryd.prog.godebug = none := by kernel_rfl
theorem laidOut : laidOutB Tryd.prog = true := by kernel_rfl
noncomputable def laidV : List (String × DataW Unit) := [("millwright/api.ErrRange", Rows.laid_millwright_api_ErrRange), ("millwright/api.ErrLong", Rows.laid_millwright_api_ErrLong), ("millwright/api.ErrForm", Rows.laid_millwright_api_ErrForm), ("millwright/api.ErrName", Rows.laid_millwright_api_ErrName), ("millwright/api.ErrQuote", Rows.laid_millwright_api_ErrQuote), ("millwright/api.ErrRegex", Rows.laid_millwright_api_ErrRegex), ("millwright/api.ErrAttr", Rows.laid_millwright_api_ErrAttr), ("millwright/api.ErrNone", Rows.laid_millwright_api_ErrNone), ("millwright/api.ErrDup", Rows.laid_millwright_api_ErrDup), ("millwright/api.ErrFull", Rows.laid_millwright_api_ErrFull), ("millwright/api.ErrDepth", Rows.laid_millwright_api_ErrDepth), ("millwright/api.ErrCycle", Rows.laid_millwright_api_ErrCycle), ("millwright/api.ErrAmbig", Rows.laid_millwright_api_ErrAmbig), ("millwright/api.ErrState", Rows.laid_millwright_api_ErrState), ("millwright/api.ErrFail", Rows.laid_millwright_api_ErrFail), ("millwright/api.ErrFlag", Rows.laid_millwright_api_ErrFlag), ("millwright/api.ErrKind", Rows.laid_millwright_api_ErrKind), ("millwright/api.ErrLost", Rows.laid_millwright_api_ErrLost)]
theorem door_met (os : Os) (args : Array Value) : laidMetH Tryd.prog laidV ((World.doorLaid Tryd.prog 351 os).forCall (fun _ _ => 0) ⟨#[], args, []⟩).memory :=
  laidMetH_of_parts3 (fuel := 8) (laidMet_of_run' 8 (by kernel_rfl) (by kernel_rfl)) (by kernel_rfl) (by kernel_rfl)
set_option maxHeartbeats 2000000 in
set_option maxRecDepth 100000 in
theorem lifted (os : Os) (started : os.Started) (H : Type) (enc : TypeId × Value → H) :
    ReturnsInHanded {} Tryd.checked os 8 .any (fun w args => (Rows.slotsDeskSpec.pre enc Tryd.prog Tryd.f8 [] false w args ∧ laidMetH Tryd.prog laidV w) ∧ sizedMet enc Tryd.prog Tryd.f8 (OpenSpec.ofChange Rows.slotsDeskSpec) false w args)
      (Rows.slotsDeskSpec.post enc Tryd.prog Tryd.f8 false true false false) := by
  refine returnsInHanded_of_change_and (C := Tryd.checked) (X := fun w _ => laidMetH Tryd.prog laidV w) (fun _ _ _ hh h => h.of_heap hh) own started (by kernel_rfl) Tryd.func8
    (ChangeSpec.witness_shaped (enc := enc) (C := Tryd.checked) (os := os) (X := fun w _ => laidMetH Tryd.prog laidV w) false (World.doorLaid Tryd.prog 351 os) #[.slice none 0 0] 8 rfl (World.shaped_of_RefB (by kernel_rfl) (by kernel_rfl)) (by kernel_rfl) (by kernel_rfl) (by kernel_rfl) (door_met os _)) ?_
  intro W base args ds gs before hval0 hW _ _ hL _
  have hval : ∀ (j : Nat) t v, Tryd.f8.params[j]? = some t → args[j]? = some v → Value.okWide Tryd.prog W .any base t v := hval0
  have hW' := hW
  obtain ⟨p, q, hA0, hV, rfl, hfz, hnd⟩ := hW
  have hA : DataW.TrodAll enc Tryd.prog W 0 (fun _ => true) true Tryd.f8.params.toList args.toList ds p := hA0
  rw [Tryd.params8] at hA hval
  obtain ⟨v0, vs0, d0, ds0, p0, q0, hargs, rfl, rfl, h0, r0⟩ := trodAll_cons hA
  obtain ⟨rfl, rfl, rfl⟩ := trodAll_nil r0
  obtain rfl : args = #[v0] := by cases args; simp_all
  obtain ⟨rfl, rfl⟩ := trodVars_none hV
  have k0 := h0
  have lt0 : ∀ x ∈ p0, x.block < W.heap.size := by obtain ⟨m, hm⟩ := k0; exact DataW.trod_lt m _ _ _ hm
  obtain ⟨A0, n0, c0, rfl⟩ := okWide_slice Tryd.underlying37 (hval 0 37 v0 rfl rfl)
  obtain ⟨xs0, w0, z0⟩ : ∃ xs, Ints W A0 n0 c0 xs ∧ ∀ x ∈ xs, (Lit.int .i64 x).wf = true := by
    obtain ⟨fuel, hf⟩ := h0
    exact open_ints_row Tryd.underlying37 Tryd.underlying3 (by kernel_rfl) hf
  clear hA0 hval0
  simp only [List.append_nil] at hW'
  refine (SlotsDesk_walk A0 n0 c0 xs0 W w0 z0 (errs_of_row laidV (by rfl) (by rfl) (by rfl) hL)).mono fun e W' ⟨he, bel⟩ => ?_
  subst he
  exact ⟨_, rfl, _, _, _, [], _, [], hW', trodAll_mk1 (shut_bool Tryd.underlying4 _), (trodAll_cons_mk (Below.trod laidOut (by kernel_rfl) (of_decide_eq_true (by kernel_rfl)) k0 bel lt0) trodAll_mk0), rfl, bel.frame _, fun h => by cases h⟩
theorem over : Rows.slotsDeskRow.holds Tryd.pinned (OpenSpec.ofChange Rows.slotsDeskSpec) :=
  OpenClaim.holds_of_wide 8 Tryd.f8 rfl rfl rfl rfl rfl rfl rfl ⟨rfl, rfl, rfl, rfl, rfl⟩ rfl rfl rfl rfl rfl (by kernel_rfl) Tryd.func8 (by kernel_rfl)
    (of_decide_eq_true (by kernel_rfl)) (by unfold Func.isWrapper; first | (rw [if_pos (by decide +kernel)]; kernel_rfl) | (rw [if_neg (by decide +kernel)]; exact ⟨rfl, rfl⟩))
    (fun os started H enc _ => lifted os started H enc)
theorem proved : Rows.SlotsDeskCardSaid :=
  Claim7.holds_tied_plain_at .later [] [.sentinel, .sentinel, .sentinel, .sentinel, .sentinel, .sentinel, .sentinel, .sentinel, .sentinel, .sentinel, .sentinel, .sentinel, .sentinel, .sentinel, .sentinel, .sentinel, .sentinel, .sentinel] true (true, "ce55d0b425744a79a43f2f7ca181d20fdbd5fc3ba607fd8af9fdb545be6920d6") true
    over (fun _ h => by cases h) (by kernel_rfl) (fun _ h => by cases h) slotsDesk_row_tie rfl ⟨rfl, rfl⟩ (by kernel_rfl) rfl
    (fun f fn hf hfn => by
      obtain rfl : f = 8 := Option.some.inj ((show Tryd.prog.funcNamed "millwright/millwrightlaw30.SlotsDesk" = some 8 by kernel_rfl).symm.trans hf) |>.symm
      obtain rfl : fn = Tryd.f8 := (Option.some.inj (Tryd.func8.symm.trans hfn)).symm
      exact ⟨by kernel_rfl, fun j t ht => by
        rw [Tryd.params8] at ht
        have hm : t ∈ [37] := by simpa using Array.mem_of_getElem? ht
        have hall : ([37].all fun u => !Tryd.prog.wantsStandIn u) = true := by kernel_rfl
        exact (show Tryd.prog.wantsStandIn t = false by simpa using List.all_eq_true.1 hall t hm)⟩)
    (by kernel_rfl)
#print axioms proved
end Go.Proofs.YtboebjmfchbgbaaDoor.slotsDesk
