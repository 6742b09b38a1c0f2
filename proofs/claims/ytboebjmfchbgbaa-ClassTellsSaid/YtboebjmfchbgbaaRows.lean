/-
  No cell of these rows narrows 'for every input' (looked for: loops, veiled, ifaces, maps, wideKeys, modest, calm, conditions, laid).
  DERIVED. THE GIVEN ROWS OF THIS SEAT. 6 by the template 'for every input the law returns true; each argument reads behind the call as it read before'; 0 by the template 'total and deterministic' (their statements: YtboebjmfchbgbaaTotals.lean).
  GIVEN WITH THE SEED: the statements are not yours to turn. If you find one false, say at which input.
  Laid BY PROGRAM, IN A SANDBOX (cutbox-rows.mjs): the forced cells as the released guide's own fill.sh prints them over the translation 5c4ae3eb42753e6d… (all of the seat's roots in one cut). By AI agents, Wed Nov 11 2026. No macro, syntax, notation, axiom, sorry.
-/
import Derived.Test.YtboebjmfchbgbaaChecked
import GoSem.Claim
import GoSem.ClaimJoined
import GoSem.ClaimMapViews
import Derived.JoinedTies
import Derived.KernelRfl
namespace Go.Proofs.Ytboebjmfchbgbaa
/- THE CELL 'sum', in the pinned program and in every row, IS THE sha256 OF THE DUMP (.gsa) THAT YtboebjmfchbgbaaProg.lean LOADS. Nothing in Lean hashes anything: it is a label: what it is worth is what the hold of that sum in a sandbox is worth. -/
noncomputable def Try.pinned : Pinned := { name := "ytboebjmfchbgbaa", sum := "5c4ae3eb42753e6dbc4e6bfc8991791b5c08a67ca0866c7971c265de3a2266bc", checked := Try.checked }
namespace Rows
def none {H : Type} : Left H := { results := [], args := [] }

/-- 'millwrightlaw06.ClassSets': WHATEVER THE INPUT: true; the input reads as it did. -/
def classSetsSpec : ChangeSpec := { name := "classSets", fn := fun _ => fun
  | [d1, d2, d3] => { results := [.lit (.bool true)], args := [d1, d2, d3] }
  | _ => none }
def classSetsRow : OpenClaim := { program := "ytboebjmfchbgbaa", sum := "5c4ae3eb42753e6dbc4e6bfc8991791b5c08a67ca0866c7971c265de3a2266bc", func := "millwright/millwrightlaw06.ClassSets", spec := "classSets", apart := false }
def ClassSetsSaid : Prop := classSetsRow.holds Try.pinned (OpenSpec.ofChange classSetsSpec)

/-- ITS FALSE NEIGHBOUR: 'it returns false'. Refute it at one input. -/
def classSetsWrong : ChangeSpec := { name := "classSets", fn := fun _ => fun
  | [d1, d2, d3] => { results := [.lit (.bool false)], args := [d1, d2, d3] }
  | _ => none }
def ClassSetsWrongFalsely : Prop := classSetsRow.holds Try.pinned (OpenSpec.ofChange classSetsWrong)

/-- 'millwrightlaw06.ClassAlgebra': WHATEVER THE INPUT: true; the input reads as it did. -/
def classAlgebraSpec : ChangeSpec := { name := "classAlgebra", fn := fun _ => fun
  | [d1, d2, d3] => { results := [.lit (.bool true)], args := [d1, d2, d3] }
  | _ => none }
def classAlgebraRow : OpenClaim := { program := "ytboebjmfchbgbaa", sum := "5c4ae3eb42753e6dbc4e6bfc8991791b5c08a67ca0866c7971c265de3a2266bc", func := "millwright/millwrightlaw06.ClassAlgebra", spec := "classAlgebra", unfollowed := true, recurses := true, apart := false }
def ClassAlgebraSaid : Prop := classAlgebraRow.holds Try.pinned (OpenSpec.ofChange classAlgebraSpec)

/-- ITS FALSE NEIGHBOUR: 'it returns false'. Refute it at one input. -/
def classAlgebraWrong : ChangeSpec := { name := "classAlgebra", fn := fun _ => fun
  | [d1, d2, d3] => { results := [.lit (.bool false)], args := [d1, d2, d3] }
  | _ => none }
def ClassAlgebraWrongFalsely : Prop := classAlgebraRow.holds Try.pinned (OpenSpec.ofChange classAlgebraWrong)

/-- 'millwrightlaw15.StemMatches': WHATEVER THE INPUT: true; the input reads as it did. -/
def stemMatchesSpec : ChangeSpec := { name := "stemMatches", fn := fun _ => fun
  | [d1, d2] => { results := [.lit (.bool true)], args := [d1, d2] }
  | _ => none }
def stemMatchesRow : OpenClaim := { program := "ytboebjmfchbgbaa", sum := "5c4ae3eb42753e6dbc4e6bfc8991791b5c08a67ca0866c7971c265de3a2266bc", func := "millwright/millwrightlaw15.StemMatches", spec := "stemMatches", inPlace := ["internal/bytealg.IndexByteString"], apart := false }
def StemMatchesSaid : Prop := stemMatchesRow.holds Try.pinned (OpenSpec.ofChange stemMatchesSpec)

/-- ITS FALSE NEIGHBOUR: 'it returns false'. Refute it at one input. -/
def stemMatchesWrong : ChangeSpec := { name := "stemMatches", fn := fun _ => fun
  | [d1, d2] => { results := [.lit (.bool false)], args := [d1, d2] }
  | _ => none }
def StemMatchesWrongFalsely : Prop := stemMatchesRow.holds Try.pinned (OpenSpec.ofChange stemMatchesWrong)

/-- 'millwrightlaw15.StemBack': WHATEVER THE INPUT: true; the input reads as it did. -/
def stemBackSpec : ChangeSpec := { name := "stemBack", fn := fun _ => fun
  | [d1, d2, d3] => { results := [.lit (.bool true)], args := [d1, d2, d3] }
  | _ => none }
def stemBackRow : OpenClaim := { program := "ytboebjmfchbgbaa", sum := "5c4ae3eb42753e6dbc4e6bfc8991791b5c08a67ca0866c7971c265de3a2266bc", func := "millwright/millwrightlaw15.StemBack", spec := "stemBack", inPlace := ["internal/bytealg.IndexByteString"], apart := false }
def StemBackSaid : Prop := stemBackRow.holds Try.pinned (OpenSpec.ofChange stemBackSpec)

/-- ITS FALSE NEIGHBOUR: 'it returns false'. Refute it at one input. -/
def stemBackWrong : ChangeSpec := { name := "stemBack", fn := fun _ => fun
  | [d1, d2, d3] => { results := [.lit (.bool false)], args := [d1, d2, d3] }
  | _ => none }
def StemBackWrongFalsely : Prop := stemBackRow.holds Try.pinned (OpenSpec.ofChange stemBackWrong)

/-- 'millwrightlaw15.StemFills': WHATEVER THE INPUT: true; the input reads as it did. -/
def stemFillsSpec : ChangeSpec := { name := "stemFills", fn := fun _ => fun
  | [d1, d2] => { results := [.lit (.bool true)], args := [d1, d2] }
  | _ => none }
def stemFillsRow : OpenClaim := { program := "ytboebjmfchbgbaa", sum := "5c4ae3eb42753e6dbc4e6bfc8991791b5c08a67ca0866c7971c265de3a2266bc", func := "millwright/millwrightlaw15.StemFills", spec := "stemFills", inPlace := ["internal/bytealg.IndexByteString"], recurses := true, apart := false }
def StemFillsSaid : Prop := stemFillsRow.holds Try.pinned (OpenSpec.ofChange stemFillsSpec)

/-- ITS FALSE NEIGHBOUR: 'it returns false'. Refute it at one input. -/
def stemFillsWrong : ChangeSpec := { name := "stemFills", fn := fun _ => fun
  | [d1, d2] => { results := [.lit (.bool false)], args := [d1, d2] }
  | _ => none }
def StemFillsWrongFalsely : Prop := stemFillsRow.holds Try.pinned (OpenSpec.ofChange stemFillsWrong)

/-- 'millwrightlaw06.ClassTells': WHATEVER THE INPUT: true; the input reads as it did. -/
def classTellsSpec : ChangeSpec := { name := "classTells", fn := fun _ => fun
  | [d1, d2] => { results := [.lit (.bool true)], args := [d1, d2] }
  | _ => none }
def classTellsRow : OpenClaim := { program := "ytboebjmfchbgbaa", sum := "5c4ae3eb42753e6dbc4e6bfc8991791b5c08a67ca0866c7971c265de3a2266bc", func := "millwright/millwrightlaw06.ClassTells", spec := "classTells", unfollowed := true, recurses := true, apart := false }
def ClassTellsSaid : Prop := classTellsRow.holds Try.pinned (OpenSpec.ofChange classTellsSpec)

/-- ITS FALSE NEIGHBOUR: 'it returns false'. Refute it at one input. -/
def classTellsWrong : ChangeSpec := { name := "classTells", fn := fun _ => fun
  | [d1, d2] => { results := [.lit (.bool false)], args := [d1, d2] }
  | _ => none }
def ClassTellsWrongFalsely : Prop := classTellsRow.holds Try.pinned (OpenSpec.ofChange classTellsWrong)

/- THE SECOND FORM. 'bulk': how many values and letters a reading holds, each counted each time it is reached (what is shared counts as often as it is met; a slice's spare places count too). A statement '..UptoSaid' is the law's where the arguments, and the package variables that the reading takes, are together of bulk at most 1048576: NARROWER than '..Said'. Prove '..Said' where nothing that the law and all that it calls make is longer than what came in: it says more and counts as full. Else prove '..UptoSaid'. A law counts once. -/
mutual
def uptoBulk {H : Type} : DataW H → Nat
  | .lit (.string bytes) => bytes.length + 1
  | .lit _ => 1
  | .nil => 1
  | .ptr d => uptoBulk d + 1
  | .slice elems spare => uptoBulkAll elems + uptoBulkAll spare + 1
  | .agg parts => uptoBulkAll parts + 1
  | .iface _ d => uptoBulk d + 1
  | .map entries => uptoBulkEntries entries + 1
  | .held _ => 1
def uptoBulkAll {H : Type} : List (DataW H) → Nat
  | [] => 0
  | d :: r => uptoBulk d + uptoBulkAll r
def uptoBulkEntries {H : Type} : List (Lit × DataW H) → Nat
  | [] => 0
  | x :: r => uptoBulkEntry x + uptoBulkEntries r
def uptoBulkEntry {H : Type} : Lit × DataW H → Nat
  | (.string bytes, d) => bytes.length + uptoBulk d + 1
  | (_, d) => uptoBulk d + 1
 end
def uptoSmall : (H : Type) → List (DataW H) → Bool := fun _ ds => decide (uptoBulkAll ds ≤ 1048576)
def OpenSpec.upto (s : _root_.Go.ChangeSpec) : _root_.Go.OpenSpec := { _root_.Go.OpenSpec.ofChange s with cond := some uptoSmall }

/-- 'millwrightlaw06.ClassSets', WHERE WHAT IT READS IS OF BULK AT MOST 1048576: true; the input reads as it did. -/
def classSetsUptoRow : OpenClaim := { program := "ytboebjmfchbgbaa", sum := "5c4ae3eb42753e6dbc4e6bfc8991791b5c08a67ca0866c7971c265de3a2266bc", func := "millwright/millwrightlaw06.ClassSets", spec := "classSets", apart := false, narrowed := true }
def ClassSetsUptoSaid : Prop := classSetsUptoRow.holds Try.pinned (OpenSpec.upto classSetsSpec)

/-- 'millwrightlaw06.ClassAlgebra', WHERE WHAT IT READS IS OF BULK AT MOST 1048576: true; the input reads as it did. -/
def classAlgebraUptoRow : OpenClaim := { program := "ytboebjmfchbgbaa", sum := "5c4ae3eb42753e6dbc4e6bfc8991791b5c08a67ca0866c7971c265de3a2266bc", func := "millwright/millwrightlaw06.ClassAlgebra", spec := "classAlgebra", unfollowed := true, recurses := true, apart := false, narrowed := true }
def ClassAlgebraUptoSaid : Prop := classAlgebraUptoRow.holds Try.pinned (OpenSpec.upto classAlgebraSpec)

/-- 'millwrightlaw15.StemMatches', WHERE WHAT IT READS IS OF BULK AT MOST 1048576: true; the input reads as it did. -/
def stemMatchesUptoRow : OpenClaim := { program := "ytboebjmfchbgbaa", sum := "5c4ae3eb42753e6dbc4e6bfc8991791b5c08a67ca0866c7971c265de3a2266bc", func := "millwright/millwrightlaw15.StemMatches", spec := "stemMatches", inPlace := ["internal/bytealg.IndexByteString"], apart := false, narrowed := true }
def StemMatchesUptoSaid : Prop := stemMatchesUptoRow.holds Try.pinned (OpenSpec.upto stemMatchesSpec)

/-- 'millwrightlaw15.StemBack', WHERE WHAT IT READS IS OF BULK AT MOST 1048576: true; the input reads as it did. -/
def stemBackUptoRow : OpenClaim := { program := "ytboebjmfchbgbaa", sum := "5c4ae3eb42753e6dbc4e6bfc8991791b5c08a67ca0866c7971c265de3a2266bc", func := "millwright/millwrightlaw15.StemBack", spec := "stemBack", inPlace := ["internal/bytealg.IndexByteString"], apart := false, narrowed := true }
def StemBackUptoSaid : Prop := stemBackUptoRow.holds Try.pinned (OpenSpec.upto stemBackSpec)

/-- 'millwrightlaw15.StemFills', WHERE WHAT IT READS IS OF BULK AT MOST 1048576: true; the input reads as it did. -/
def stemFillsUptoRow : OpenClaim := { program := "ytboebjmfchbgbaa", sum := "5c4ae3eb42753e6dbc4e6bfc8991791b5c08a67ca0866c7971c265de3a2266bc", func := "millwright/millwrightlaw15.StemFills", spec := "stemFills", inPlace := ["internal/bytealg.IndexByteString"], recurses := true, apart := false, narrowed := true }
def StemFillsUptoSaid : Prop := stemFillsUptoRow.holds Try.pinned (OpenSpec.upto stemFillsSpec)

/-- 'millwrightlaw06.ClassTells', WHERE WHAT IT READS IS OF BULK AT MOST 1048576: true; the input reads as it did. -/
def classTellsUptoRow : OpenClaim := { program := "ytboebjmfchbgbaa", sum := "5c4ae3eb42753e6dbc4e6bfc8991791b5c08a67ca0866c7971c265de3a2266bc", func := "millwright/millwrightlaw06.ClassTells", spec := "classTells", unfollowed := true, recurses := true, apart := false, narrowed := true }
def ClassTellsUptoSaid : Prop := classTellsUptoRow.holds Try.pinned (OpenSpec.upto classTellsSpec)

end Rows
end Go.Proofs.Ytboebjmfchbgbaa
