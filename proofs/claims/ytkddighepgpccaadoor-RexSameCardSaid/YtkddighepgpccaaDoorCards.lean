/-
  DERIVED. GIVEN WITH THE SEED: THE CARDS: each row of YtkddighepgpccaaDoorRows.lean that lists a variable, with what it lists TIED to the program's text (the seventh form; the later family's looks); each row that meets fmt, with fmt's text TOLD by the authors' own Lean function (tested against real Go, not proved from fmt's source: count such statements apart). THE CARD IS WHAT COUNTS. Prove the row's statement (the work); the ties are given (YtkddighepgpccaaDoorTie.lean); close each card by the builder's one call (the guide's Derived/Test/ToyasCard.lean, 'card_holds'). Laid BY PROGRAM, IN A SANDBOX (cutbox-door.mjs). By AI agents, Wed Nov 11 2026. No macro, syntax, notation, axiom, sorry.
-/
import Derived.Test.YtkddighepgpccaaDoorRows
import GoSem.ClaimSeven
namespace Go.Proofs.YtkddighepgpccaaDoor
namespace Rows

/-- THE TIED CARD OF 'millwrightlaw16.SubstLists'. -/
def substListsCard : Claim7 := { stood := { row := substListsRow, standIns := [], harness := (true, "b162888418b59da24e3127cff9c6e477cd229bcee0706e868529a0d5a1d5877e"), looks := true }, kinds := [], alts := [], laidByText := true, laidKinds := [.sentinel, .sentinel, .sentinel, .sentinel, .sentinel, .sentinel, .sentinel, .sentinel, .sentinel, .sentinel, .sentinel, .sentinel, .sentinel, .sentinel, .sentinel, .sentinel, .sentinel, .sentinel], laidTests := true, laidLooks := .later }
def SubstListsCardSaid : Prop := Claim7.holds Tryd.pinned (.plain (OpenSpec.ofChange substListsSpec)) substListsCard

/-- THE TIED CARD OF 'millwrightlaw07.RexSame'. -/
def rexSameCard : Claim7 := { stood := { row := rexSameRow, standIns := [], harness := (true, "b162888418b59da24e3127cff9c6e477cd229bcee0706e868529a0d5a1d5877e"), looks := true }, kinds := [], alts := [], laidByText := true, laidKinds := [.sentinel, .sentinel, .sentinel, .data], laidTests := true, laidLooks := .later }
def RexSameCardSaid : Prop := Claim7.holds Tryd.pinned (.plain (OpenSpec.ofChange rexSameSpec)) rexSameCard

/-- THE TIED CARD OF 'millwrightlaw07.RexParses'. -/
def rexParsesCard : Claim7 := { stood := { row := rexParsesRow, standIns := [], harness := (true, "b162888418b59da24e3127cff9c6e477cd229bcee0706e868529a0d5a1d5877e"), looks := true }, kinds := [], alts := [], laidByText := true, laidKinds := [.sentinel, .sentinel, .sentinel, .sentinel, .sentinel, .sentinel, .sentinel, .sentinel, .sentinel, .sentinel, .sentinel, .sentinel, .sentinel, .sentinel, .sentinel, .sentinel, .sentinel, .sentinel], laidTests := true, laidLooks := .later }
def RexParsesCardSaid : Prop := Claim7.holds Tryd.pinned (.plain (OpenSpec.ofChange rexParsesSpec)) rexParsesCard

/-- THE TIED CARD OF 'millwrightlaw07.RexLiteral'. -/
def rexLiteralCard : Claim7 := { stood := { row := rexLiteralRow, standIns := [], harness := (true, "b162888418b59da24e3127cff9c6e477cd229bcee0706e868529a0d5a1d5877e"), looks := true }, kinds := [], alts := [], laidByText := true, laidKinds := [.sentinel, .sentinel, .sentinel], laidTests := true, laidLooks := .later }
def RexLiteralCardSaid : Prop := Claim7.holds Tryd.pinned (.plain (OpenSpec.ofChange rexLiteralSpec)) rexLiteralCard

/-- THE SECOND FORM's CARD OF 'millwrightlaw16.SubstLists'. -/
def substListsUptoCard : Claim7 := { stood := { row := substListsUptoRow, standIns := [], harness := (true, "b162888418b59da24e3127cff9c6e477cd229bcee0706e868529a0d5a1d5877e"), looks := true }, kinds := [], alts := [], laidByText := true, laidKinds := [.sentinel, .sentinel, .sentinel, .sentinel, .sentinel, .sentinel, .sentinel, .sentinel, .sentinel, .sentinel, .sentinel, .sentinel, .sentinel, .sentinel, .sentinel, .sentinel, .sentinel, .sentinel], laidTests := true, laidLooks := .later }
def SubstListsUptoCardSaid : Prop := Claim7.holds Tryd.pinned (.plain (OpenSpec.upto substListsSpec)) substListsUptoCard

/-- THE SECOND FORM's CARD OF 'millwrightlaw07.RexSame'. -/
def rexSameUptoCard : Claim7 := { stood := { row := rexSameUptoRow, standIns := [], harness := (true, "b162888418b59da24e3127cff9c6e477cd229bcee0706e868529a0d5a1d5877e"), looks := true }, kinds := [], alts := [], laidByText := true, laidKinds := [.sentinel, .sentinel, .sentinel, .data], laidTests := true, laidLooks := .later }
def RexSameUptoCardSaid : Prop := Claim7.holds Tryd.pinned (.plain (OpenSpec.upto rexSameSpec)) rexSameUptoCard

/-- THE SECOND FORM's CARD OF 'millwrightlaw07.RexParses'. -/
def rexParsesUptoCard : Claim7 := { stood := { row := rexParsesUptoRow, standIns := [], harness := (true, "b162888418b59da24e3127cff9c6e477cd229bcee0706e868529a0d5a1d5877e"), looks := true }, kinds := [], alts := [], laidByText := true, laidKinds := [.sentinel, .sentinel, .sentinel, .sentinel, .sentinel, .sentinel, .sentinel, .sentinel, .sentinel, .sentinel, .sentinel, .sentinel, .sentinel, .sentinel, .sentinel, .sentinel, .sentinel, .sentinel], laidTests := true, laidLooks := .later }
def RexParsesUptoCardSaid : Prop := Claim7.holds Tryd.pinned (.plain (OpenSpec.upto rexParsesSpec)) rexParsesUptoCard

/-- THE SECOND FORM's CARD OF 'millwrightlaw07.RexLiteral'. -/
def rexLiteralUptoCard : Claim7 := { stood := { row := rexLiteralUptoRow, standIns := [], harness := (true, "b162888418b59da24e3127cff9c6e477cd229bcee0706e868529a0d5a1d5877e"), looks := true }, kinds := [], alts := [], laidByText := true, laidKinds := [.sentinel, .sentinel, .sentinel], laidTests := true, laidLooks := .later }
def RexLiteralUptoCardSaid : Prop := Claim7.holds Tryd.pinned (.plain (OpenSpec.upto rexLiteralSpec)) rexLiteralUptoCard
end Rows
end Go.Proofs.YtkddighepgpccaaDoor
