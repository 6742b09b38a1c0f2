/-
  DERIVED. GIVEN WITH THE SEED: THE PROGRAM's TIES (one call each: nine closed facts by the kernel) AND EACH ROW's TIE, after the 31st guide's Derived/Test/Toyas{Tie, Card}.lean. No idea stands in it: it is a product of the set-up. Laid BY PROGRAM, IN A SANDBOX (cutbox-door.mjs). By AI agents, Wed Nov 11 2026. No macro, syntax, notation, axiom, sorry.
-/
import Derived.Test.YtboebjmfchbgbaaDoorRows
import Derived.LaidByTextLater
import Derived.SevenTiedAt
import Derived.LaidSub
import Derived.LaidOnce
namespace Go.Proofs.YtboebjmfchbgbaaDoor
open Go
set_option maxRecDepth 100000
theorem seatTie1 : Tryd.prog.laidByTextLater [("millwright/api.ErrRange", Rows.laid_millwright_api_ErrRange), ("millwright/api.ErrLong", Rows.laid_millwright_api_ErrLong), ("millwright/api.ErrForm", Rows.laid_millwright_api_ErrForm), ("millwright/api.ErrName", Rows.laid_millwright_api_ErrName), ("millwright/api.ErrQuote", Rows.laid_millwright_api_ErrQuote), ("millwright/api.ErrRegex", Rows.laid_millwright_api_ErrRegex), ("millwright/api.ErrAttr", Rows.laid_millwright_api_ErrAttr), ("millwright/api.ErrNone", Rows.laid_millwright_api_ErrNone), ("millwright/api.ErrDup", Rows.laid_millwright_api_ErrDup), ("millwright/api.ErrFull", Rows.laid_millwright_api_ErrFull), ("millwright/api.ErrDepth", Rows.laid_millwright_api_ErrDepth), ("millwright/api.ErrCycle", Rows.laid_millwright_api_ErrCycle), ("millwright/api.ErrAmbig", Rows.laid_millwright_api_ErrAmbig), ("millwright/api.ErrState", Rows.laid_millwright_api_ErrState), ("millwright/api.ErrFail", Rows.laid_millwright_api_ErrFail), ("millwright/api.ErrFlag", Rows.laid_millwright_api_ErrFlag), ("millwright/api.ErrKind", Rows.laid_millwright_api_ErrKind), ("millwright/api.ErrLost", Rows.laid_millwright_api_ErrLost)] [.sentinel, .sentinel, .sentinel, .sentinel, .sentinel, .sentinel, .sentinel, .sentinel, .sentinel, .sentinel, .sentinel, .sentinel, .sentinel, .sentinel, .sentinel, .sentinel, .sentinel, .sentinel] true :=
  Program.laidByTextLater_by_one 351 8 2 (by kernel_rfl) (by kernel_rfl) (by kernel_rfl) (by kernel_rfl) (by kernel_rfl) (by kernel_rfl) (fun _ _ => by kernel_rfl)
theorem noOwnUnsafe : Tryd.pinned.checked.prog.headLifts.contains "ownunsafe" = false := by kernel_rfl
theorem tie : Tryd.prog.laidByTextLater [("millwright/api.ErrLong", Rows.laid_millwright_api_ErrLong), ("millwright/api.ErrAttr", Rows.laid_millwright_api_ErrAttr)] [.sentinel, .sentinel] true :=
  Program.laidByTextLater.sub seatTie1 ["millwright/api.ErrLong", "millwright/api.ErrAttr"] (by kernel_rfl) (by kernel_rfl)
theorem attrMerges_row_tie : Rows.attrMergesRow.laidByTextAt .later Tryd.pinned [.sentinel, .sentinel] true :=
  OpenClaim.laidByTextAt_later rfl rfl tie noOwnUnsafe
theorem attrTexts_row_tie : Rows.attrTextsRow.laidByTextAt .later Tryd.pinned [.sentinel, .sentinel] true :=
  OpenClaim.laidByTextAt_later rfl rfl tie noOwnUnsafe
theorem tie2 : Tryd.prog.laidByTextLater [("millwright/api.ErrRange", Rows.laid_millwright_api_ErrRange), ("millwright/api.ErrState", Rows.laid_millwright_api_ErrState)] [.sentinel, .sentinel] true :=
  Program.laidByTextLater.sub seatTie1 ["millwright/api.ErrRange", "millwright/api.ErrState"] (by kernel_rfl) (by kernel_rfl)
theorem slotsOnce_row_tie : Rows.slotsOnceRow.laidByTextAt .later Tryd.pinned [.sentinel, .sentinel] true :=
  OpenClaim.laidByTextAt_later rfl rfl tie2 noOwnUnsafe
theorem tie3 : Tryd.prog.laidByTextLater [("millwright/api.ErrRange", Rows.laid_millwright_api_ErrRange), ("millwright/api.ErrLong", Rows.laid_millwright_api_ErrLong), ("millwright/api.ErrForm", Rows.laid_millwright_api_ErrForm), ("millwright/api.ErrName", Rows.laid_millwright_api_ErrName), ("millwright/api.ErrQuote", Rows.laid_millwright_api_ErrQuote), ("millwright/api.ErrRegex", Rows.laid_millwright_api_ErrRegex), ("millwright/api.ErrAttr", Rows.laid_millwright_api_ErrAttr), ("millwright/api.ErrNone", Rows.laid_millwright_api_ErrNone), ("millwright/api.ErrDup", Rows.laid_millwright_api_ErrDup), ("millwright/api.ErrFull", Rows.laid_millwright_api_ErrFull), ("millwright/api.ErrDepth", Rows.laid_millwright_api_ErrDepth), ("millwright/api.ErrCycle", Rows.laid_millwright_api_ErrCycle), ("millwright/api.ErrAmbig", Rows.laid_millwright_api_ErrAmbig), ("millwright/api.ErrState", Rows.laid_millwright_api_ErrState), ("millwright/api.ErrFail", Rows.laid_millwright_api_ErrFail), ("millwright/api.ErrFlag", Rows.laid_millwright_api_ErrFlag), ("millwright/api.ErrKind", Rows.laid_millwright_api_ErrKind), ("millwright/api.ErrLost", Rows.laid_millwright_api_ErrLost)] [.sentinel, .sentinel, .sentinel, .sentinel, .sentinel, .sentinel, .sentinel, .sentinel, .sentinel, .sentinel, .sentinel, .sentinel, .sentinel, .sentinel, .sentinel, .sentinel, .sentinel, .sentinel] true :=
  Program.laidByTextLater.sub seatTie1 ["millwright/api.ErrRange", "millwright/api.ErrLong", "millwright/api.ErrForm", "millwright/api.ErrName", "millwright/api.ErrQuote", "millwright/api.ErrRegex", "millwright/api.ErrAttr", "millwright/api.ErrNone", "millwright/api.ErrDup", "millwright/api.ErrFull", "millwright/api.ErrDepth", "millwright/api.ErrCycle", "millwright/api.ErrAmbig", "millwright/api.ErrState", "millwright/api.ErrFail", "millwright/api.ErrFlag", "millwright/api.ErrKind", "millwright/api.ErrLost"] (by kernel_rfl) (by kernel_rfl)
theorem attrParses_row_tie : Rows.attrParsesRow.laidByTextAt .later Tryd.pinned [.sentinel, .sentinel, .sentinel, .sentinel, .sentinel, .sentinel, .sentinel, .sentinel, .sentinel, .sentinel, .sentinel, .sentinel, .sentinel, .sentinel, .sentinel, .sentinel, .sentinel, .sentinel] true :=
  OpenClaim.laidByTextAt_later rfl rfl tie3 noOwnUnsafe
theorem slotsPlays_row_tie : Rows.slotsPlaysRow.laidByTextAt .later Tryd.pinned [.sentinel, .sentinel, .sentinel, .sentinel, .sentinel, .sentinel, .sentinel, .sentinel, .sentinel, .sentinel, .sentinel, .sentinel, .sentinel, .sentinel, .sentinel, .sentinel, .sentinel, .sentinel] true :=
  OpenClaim.laidByTextAt_later rfl rfl tie3 noOwnUnsafe
theorem slotsDesk_row_tie : Rows.slotsDeskRow.laidByTextAt .later Tryd.pinned [.sentinel, .sentinel, .sentinel, .sentinel, .sentinel, .sentinel, .sentinel, .sentinel, .sentinel, .sentinel, .sentinel, .sentinel, .sentinel, .sentinel, .sentinel, .sentinel, .sentinel, .sentinel] true :=
  OpenClaim.laidByTextAt_later rfl rfl tie3 noOwnUnsafe
theorem attrMergesUpto_row_tie : Rows.attrMergesUptoRow.laidByTextAt .later Tryd.pinned [.sentinel, .sentinel] true :=
  OpenClaim.laidByTextAt_later rfl rfl tie noOwnUnsafe
theorem attrTextsUpto_row_tie : Rows.attrTextsUptoRow.laidByTextAt .later Tryd.pinned [.sentinel, .sentinel] true :=
  OpenClaim.laidByTextAt_later rfl rfl tie noOwnUnsafe
theorem slotsOnceUpto_row_tie : Rows.slotsOnceUptoRow.laidByTextAt .later Tryd.pinned [.sentinel, .sentinel] true :=
  OpenClaim.laidByTextAt_later rfl rfl tie2 noOwnUnsafe
theorem attrParsesUpto_row_tie : Rows.attrParsesUptoRow.laidByTextAt .later Tryd.pinned [.sentinel, .sentinel, .sentinel, .sentinel, .sentinel, .sentinel, .sentinel, .sentinel, .sentinel, .sentinel, .sentinel, .sentinel, .sentinel, .sentinel, .sentinel, .sentinel, .sentinel, .sentinel] true :=
  OpenClaim.laidByTextAt_later rfl rfl tie3 noOwnUnsafe
theorem slotsPlaysUpto_row_tie : Rows.slotsPlaysUptoRow.laidByTextAt .later Tryd.pinned [.sentinel, .sentinel, .sentinel, .sentinel, .sentinel, .sentinel, .sentinel, .sentinel, .sentinel, .sentinel, .sentinel, .sentinel, .sentinel, .sentinel, .sentinel, .sentinel, .sentinel, .sentinel] true :=
  OpenClaim.laidByTextAt_later rfl rfl tie3 noOwnUnsafe
theorem slotsDeskUpto_row_tie : Rows.slotsDeskUptoRow.laidByTextAt .later Tryd.pinned [.sentinel, .sentinel, .sentinel, .sentinel, .sentinel, .sentinel, .sentinel, .sentinel, .sentinel, .sentinel, .sentinel, .sentinel, .sentinel, .sentinel, .sentinel, .sentinel, .sentinel, .sentinel] true :=
  OpenClaim.laidByTextAt_later rfl rfl tie3 noOwnUnsafe
end Go.Proofs.YtboebjmfchbgbaaDoor
