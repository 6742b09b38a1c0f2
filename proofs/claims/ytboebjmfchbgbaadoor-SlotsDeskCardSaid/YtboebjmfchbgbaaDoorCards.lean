/-
  DERIVED. GIVEN WITH THE SEED: THE CARDS: each row of YtboebjmfchbgbaaDoorRows.lean that lists a variable, with what it lists TIED to the program's text (the seventh form; the later family's looks); each row that meets fmt, with fmt's text TOLD by the authors' own Lean function (tested against real Go, not proved from fmt's source: count such statements apart). THE CARD IS WHAT COUNTS. Prove the row's statement (the work); the ties are given (YtboebjmfchbgbaaDoorTie.lean); close each card by the builder's one call (the guide's Derived/Test/ToyasCard.lean, 'card_holds'). Laid BY PROGRAM, IN A SANDBOX (cutbox-door.mjs). By AI agents, Wed Nov 11 2026. No macro, syntax, notation, axiom, sorry.
-/
import Derived.Test.YtboebjmfchbgbaaDoorRows
import GoSem.ClaimSeven
namespace Go.Proofs.YtboebjmfchbgbaaDoor
namespace Rows

/-- THE TIED CARD OF 'millwrightlaw18.AttrMerges'. -/
def attrMergesCard : Claim7 := { stood := { row := attrMergesRow, standIns := [], harness := (true, "ce55d0b425744a79a43f2f7ca181d20fdbd5fc3ba607fd8af9fdb545be6920d6"), looks := true }, kinds := [], alts := [], laidByText := true, laidKinds := [.sentinel, .sentinel], laidTests := true, laidLooks := .later }
def AttrMergesCardSaid : Prop := Claim7.holds Tryd.pinned (.plain (OpenSpec.ofChange attrMergesSpec)) attrMergesCard

/-- THE TIED CARD OF 'millwrightlaw18.AttrTexts'. -/
def attrTextsCard : Claim7 := { stood := { row := attrTextsRow, standIns := [], harness := (true, "ce55d0b425744a79a43f2f7ca181d20fdbd5fc3ba607fd8af9fdb545be6920d6"), looks := true }, kinds := [], alts := [], laidByText := true, laidKinds := [.sentinel, .sentinel], laidTests := true, laidLooks := .later }
def AttrTextsCardSaid : Prop := Claim7.holds Tryd.pinned (.plain (OpenSpec.ofChange attrTextsSpec)) attrTextsCard

/-- THE TIED CARD OF 'millwrightlaw30.SlotsOnce'. -/
def slotsOnceCard : Claim7 := { stood := { row := slotsOnceRow, standIns := [], harness := (true, "ce55d0b425744a79a43f2f7ca181d20fdbd5fc3ba607fd8af9fdb545be6920d6"), looks := true }, kinds := [], alts := [], laidByText := true, laidKinds := [.sentinel, .sentinel], laidTests := true, laidLooks := .later }
def SlotsOnceCardSaid : Prop := Claim7.holds Tryd.pinned (.plain (OpenSpec.ofChange slotsOnceSpec)) slotsOnceCard

/-- THE TIED CARD OF 'millwrightlaw18.AttrParses'. -/
def attrParsesCard : Claim7 := { stood := { row := attrParsesRow, standIns := [], harness := (true, "ce55d0b425744a79a43f2f7ca181d20fdbd5fc3ba607fd8af9fdb545be6920d6"), looks := true }, kinds := [], alts := [], laidByText := true, laidKinds := [.sentinel, .sentinel, .sentinel, .sentinel, .sentinel, .sentinel, .sentinel, .sentinel, .sentinel, .sentinel, .sentinel, .sentinel, .sentinel, .sentinel, .sentinel, .sentinel, .sentinel, .sentinel], laidTests := true, laidLooks := .later }
def AttrParsesCardSaid : Prop := Claim7.holds Tryd.pinned (.plain (OpenSpec.ofChange attrParsesSpec)) attrParsesCard

/-- THE TIED CARD OF 'millwrightlaw30.SlotsPlays'. -/
def slotsPlaysCard : Claim7 := { stood := { row := slotsPlaysRow, standIns := [], harness := (true, "ce55d0b425744a79a43f2f7ca181d20fdbd5fc3ba607fd8af9fdb545be6920d6"), looks := true }, kinds := [], alts := [], laidByText := true, laidKinds := [.sentinel, .sentinel, .sentinel, .sentinel, .sentinel, .sentinel, .sentinel, .sentinel, .sentinel, .sentinel, .sentinel, .sentinel, .sentinel, .sentinel, .sentinel, .sentinel, .sentinel, .sentinel], laidTests := true, laidLooks := .later }
def SlotsPlaysCardSaid : Prop := Claim7.holds Tryd.pinned (.plain (OpenSpec.ofChange slotsPlaysSpec)) slotsPlaysCard

/-- THE TIED CARD OF 'millwrightlaw30.SlotsDesk'. -/
def slotsDeskCard : Claim7 := { stood := { row := slotsDeskRow, standIns := [], harness := (true, "ce55d0b425744a79a43f2f7ca181d20fdbd5fc3ba607fd8af9fdb545be6920d6"), looks := true }, kinds := [], alts := [], laidByText := true, laidKinds := [.sentinel, .sentinel, .sentinel, .sentinel, .sentinel, .sentinel, .sentinel, .sentinel, .sentinel, .sentinel, .sentinel, .sentinel, .sentinel, .sentinel, .sentinel, .sentinel, .sentinel, .sentinel], laidTests := true, laidLooks := .later }
def SlotsDeskCardSaid : Prop := Claim7.holds Tryd.pinned (.plain (OpenSpec.ofChange slotsDeskSpec)) slotsDeskCard

/-- THE SECOND FORM's CARD OF 'millwrightlaw18.AttrMerges'. -/
def attrMergesUptoCard : Claim7 := { stood := { row := attrMergesUptoRow, standIns := [], harness := (true, "ce55d0b425744a79a43f2f7ca181d20fdbd5fc3ba607fd8af9fdb545be6920d6"), looks := true }, kinds := [], alts := [], laidByText := true, laidKinds := [.sentinel, .sentinel], laidTests := true, laidLooks := .later }
def AttrMergesUptoCardSaid : Prop := Claim7.holds Tryd.pinned (.plain (OpenSpec.upto attrMergesSpec)) attrMergesUptoCard

/-- THE SECOND FORM's CARD OF 'millwrightlaw18.AttrTexts'. -/
def attrTextsUptoCard : Claim7 := { stood := { row := attrTextsUptoRow, standIns := [], harness := (true, "ce55d0b425744a79a43f2f7ca181d20fdbd5fc3ba607fd8af9fdb545be6920d6"), looks := true }, kinds := [], alts := [], laidByText := true, laidKinds := [.sentinel, .sentinel], laidTests := true, laidLooks := .later }
def AttrTextsUptoCardSaid : Prop := Claim7.holds Tryd.pinned (.plain (OpenSpec.upto attrTextsSpec)) attrTextsUptoCard

/-- THE SECOND FORM's CARD OF 'millwrightlaw30.SlotsOnce'. -/
def slotsOnceUptoCard : Claim7 := { stood := { row := slotsOnceUptoRow, standIns := [], harness := (true, "ce55d0b425744a79a43f2f7ca181d20fdbd5fc3ba607fd8af9fdb545be6920d6"), looks := true }, kinds := [], alts := [], laidByText := true, laidKinds := [.sentinel, .sentinel], laidTests := true, laidLooks := .later }
def SlotsOnceUptoCardSaid : Prop := Claim7.holds Tryd.pinned (.plain (OpenSpec.upto slotsOnceSpec)) slotsOnceUptoCard

/-- THE SECOND FORM's CARD OF 'millwrightlaw18.AttrParses'. -/
def attrParsesUptoCard : Claim7 := { stood := { row := attrParsesUptoRow, standIns := [], harness := (true, "ce55d0b425744a79a43f2f7ca181d20fdbd5fc3ba607fd8af9fdb545be6920d6"), looks := true }, kinds := [], alts := [], laidByText := true, laidKinds := [.sentinel, .sentinel, .sentinel, .sentinel, .sentinel, .sentinel, .sentinel, .sentinel, .sentinel, .sentinel, .sentinel, .sentinel, .sentinel, .sentinel, .sentinel, .sentinel, .sentinel, .sentinel], laidTests := true, laidLooks := .later }
def AttrParsesUptoCardSaid : Prop := Claim7.holds Tryd.pinned (.plain (OpenSpec.upto attrParsesSpec)) attrParsesUptoCard

/-- THE SECOND FORM's CARD OF 'millwrightlaw30.SlotsPlays'. -/
def slotsPlaysUptoCard : Claim7 := { stood := { row := slotsPlaysUptoRow, standIns := [], harness := (true, "ce55d0b425744a79a43f2f7ca181d20fdbd5fc3ba607fd8af9fdb545be6920d6"), looks := true }, kinds := [], alts := [], laidByText := true, laidKinds := [.sentinel, .sentinel, .sentinel, .sentinel, .sentinel, .sentinel, .sentinel, .sentinel, .sentinel, .sentinel, .sentinel, .sentinel, .sentinel, .sentinel, .sentinel, .sentinel, .sentinel, .sentinel], laidTests := true, laidLooks := .later }
def SlotsPlaysUptoCardSaid : Prop := Claim7.holds Tryd.pinned (.plain (OpenSpec.upto slotsPlaysSpec)) slotsPlaysUptoCard

/-- THE SECOND FORM's CARD OF 'millwrightlaw30.SlotsDesk'. -/
def slotsDeskUptoCard : Claim7 := { stood := { row := slotsDeskUptoRow, standIns := [], harness := (true, "ce55d0b425744a79a43f2f7ca181d20fdbd5fc3ba607fd8af9fdb545be6920d6"), looks := true }, kinds := [], alts := [], laidByText := true, laidKinds := [.sentinel, .sentinel, .sentinel, .sentinel, .sentinel, .sentinel, .sentinel, .sentinel, .sentinel, .sentinel, .sentinel, .sentinel, .sentinel, .sentinel, .sentinel, .sentinel, .sentinel, .sentinel], laidTests := true, laidLooks := .later }
def SlotsDeskUptoCardSaid : Prop := Claim7.holds Tryd.pinned (.plain (OpenSpec.upto slotsDeskSpec)) slotsDeskUptoCard
end Rows
end Go.Proofs.YtboebjmfchbgbaaDoor
