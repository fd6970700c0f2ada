/-
  No cell of these rows narrows 'for every input' (looked for: loops, veiled, ifaces, maps, wideKeys, modest, calm, conditions, laid).
  DERIVED. THE GIVEN ROWS OF THIS SEAT. 18 by the template 'for every input the law returns true; each argument reads behind the call as it read before'; 0 by the template 'total and deterministic' (their statements: YtbmlkomfelkckaaTotals.lean).
  GIVEN WITH THE SEED: the statements are not yours to turn. If you find one false, say at which input.
  Laid BY PROGRAM, IN A SANDBOX (cutbox-rows.mjs): the forced cells as the released guide's own fill.sh prints them over the translation 88fb555ba6e20297… (all of the seat's roots in one cut). By AI agents, Wed Nov 11 2026. No macro, syntax, notation, axiom, sorry.
-/
import Derived.Test.YtbmlkomfelkckaaChecked
import GoSem.Claim
import GoSem.ClaimJoined
import GoSem.ClaimMapViews
import Derived.JoinedTies
import Derived.KernelRfl
namespace Go.Proofs.Ytbmlkomfelkckaa
/- THE CELL 'sum', in the pinned program and in every row, IS THE sha256 OF THE DUMP (.gsa) THAT YtbmlkomfelkckaaProg.lean LOADS. Nothing in Lean hashes anything: it is a label: what it is worth is what the hold of that sum in a sandbox is worth. -/
noncomputable def Try.pinned : Pinned := { name := "ytbmlkomfelkckaa", sum := "88fb555ba6e2029751d27381972cdb1bc1d38d69e5f35108c81f4f641e21b3e3", checked := Try.checked }
namespace Rows
def none {H : Type} : Left H := { results := [], args := [] }

/-- 'siglumlaw20.TreeParses': WHATEVER THE INPUT: true; the input reads as it did. -/
def treeParsesSpec : ChangeSpec := { name := "treeParses", fn := fun _ => fun
  | [d1, d2] => { results := [.lit (.bool true)], args := [d1, d2] }
  | _ => none }
def treeParsesRow : OpenClaim := { program := "ytbmlkomfelkckaa", sum := "88fb555ba6e2029751d27381972cdb1bc1d38d69e5f35108c81f4f641e21b3e3", func := "siglum/siglumlaw20.TreeParses", spec := "treeParses", recurses := true, apart := false }
def TreeParsesSaid : Prop := treeParsesRow.holds Try.pinned (OpenSpec.ofChange treeParsesSpec)

/-- ITS FALSE NEIGHBOUR: 'it returns false'. Refute it at one input. -/
def treeParsesWrong : ChangeSpec := { name := "treeParses", fn := fun _ => fun
  | [d1, d2] => { results := [.lit (.bool false)], args := [d1, d2] }
  | _ => none }
def TreeParsesWrongFalsely : Prop := treeParsesRow.holds Try.pinned (OpenSpec.ofChange treeParsesWrong)

/-- 'siglumlaw22.StemmaBest': WHATEVER THE INPUT: true; the input reads as it did. -/
def stemmaBestSpec : ChangeSpec := { name := "stemmaBest", fn := fun _ => fun
  | [d] => { results := [.lit (.bool true)], args := [d] }
  | _ => none }
def stemmaBestRow : OpenClaim := { program := "ytbmlkomfelkckaa", sum := "88fb555ba6e2029751d27381972cdb1bc1d38d69e5f35108c81f4f641e21b3e3", func := "siglum/siglumlaw22.StemmaBest", spec := "stemmaBest", unfollowed := true, recurses := true, apart := false }
def StemmaBestSaid : Prop := stemmaBestRow.holds Try.pinned (OpenSpec.ofChange stemmaBestSpec)

/-- ITS FALSE NEIGHBOUR: 'it returns false'. Refute it at one input. -/
def stemmaBestWrong : ChangeSpec := { name := "stemmaBest", fn := fun _ => fun
  | [d] => { results := [.lit (.bool false)], args := [d] }
  | _ => none }
def StemmaBestWrongFalsely : Prop := stemmaBestRow.holds Try.pinned (OpenSpec.ofChange stemmaBestWrong)

/-- 'siglumlaw22.StemmaLeast': WHATEVER THE INPUT: true; the input reads as it did. -/
def stemmaLeastSpec : ChangeSpec := { name := "stemmaLeast", fn := fun _ => fun
  | [d] => { results := [.lit (.bool true)], args := [d] }
  | _ => none }
def stemmaLeastRow : OpenClaim := { program := "ytbmlkomfelkckaa", sum := "88fb555ba6e2029751d27381972cdb1bc1d38d69e5f35108c81f4f641e21b3e3", func := "siglum/siglumlaw22.StemmaLeast", spec := "stemmaLeast", unfollowed := true, recurses := true, apart := false }
def StemmaLeastSaid : Prop := stemmaLeastRow.holds Try.pinned (OpenSpec.ofChange stemmaLeastSpec)

/-- ITS FALSE NEIGHBOUR: 'it returns false'. Refute it at one input. -/
def stemmaLeastWrong : ChangeSpec := { name := "stemmaLeast", fn := fun _ => fun
  | [d] => { results := [.lit (.bool false)], args := [d] }
  | _ => none }
def StemmaLeastWrongFalsely : Prop := stemmaLeastRow.holds Try.pinned (OpenSpec.ofChange stemmaLeastWrong)

/-- 'siglumlaw22.StemmaTurned': WHATEVER THE INPUT: true; the input reads as it did. -/
def stemmaTurnedSpec : ChangeSpec := { name := "stemmaTurned", fn := fun _ => fun
  | [d1, d2, d3] => { results := [.lit (.bool true)], args := [d1, d2, d3] }
  | _ => none }
def stemmaTurnedRow : OpenClaim := { program := "ytbmlkomfelkckaa", sum := "88fb555ba6e2029751d27381972cdb1bc1d38d69e5f35108c81f4f641e21b3e3", func := "siglum/siglumlaw22.StemmaTurned", spec := "stemmaTurned", unfollowed := true, recurses := true, apart := false }
def StemmaTurnedSaid : Prop := stemmaTurnedRow.holds Try.pinned (OpenSpec.ofChange stemmaTurnedSpec)

/-- ITS FALSE NEIGHBOUR: 'it returns false'. Refute it at one input. -/
def stemmaTurnedWrong : ChangeSpec := { name := "stemmaTurned", fn := fun _ => fun
  | [d1, d2, d3] => { results := [.lit (.bool false)], args := [d1, d2, d3] }
  | _ => none }
def StemmaTurnedWrongFalsely : Prop := stemmaTurnedRow.holds Try.pinned (OpenSpec.ofChange stemmaTurnedWrong)

/-- 'siglumlaw20.TreePrints': WHATEVER THE INPUT: true; the input reads as it did. -/
def treePrintsSpec : ChangeSpec := { name := "treePrints", fn := fun _ => fun
  | [d1, d2] => { results := [.lit (.bool true)], args := [d1, d2] }
  | _ => none }
def treePrintsRow : OpenClaim := { program := "ytbmlkomfelkckaa", sum := "88fb555ba6e2029751d27381972cdb1bc1d38d69e5f35108c81f4f641e21b3e3", func := "siglum/siglumlaw20.TreePrints", spec := "treePrints", recurses := true, apart := false }
def TreePrintsSaid : Prop := treePrintsRow.holds Try.pinned (OpenSpec.ofChange treePrintsSpec)

/-- ITS FALSE NEIGHBOUR: 'it returns false'. Refute it at one input. -/
def treePrintsWrong : ChangeSpec := { name := "treePrints", fn := fun _ => fun
  | [d1, d2] => { results := [.lit (.bool false)], args := [d1, d2] }
  | _ => none }
def TreePrintsWrongFalsely : Prop := treePrintsRow.holds Try.pinned (OpenSpec.ofChange treePrintsWrong)

/-- 'siglumlaw20.TreeBack': WHATEVER THE INPUT: true; the input reads as it did. -/
def treeBackSpec : ChangeSpec := { name := "treeBack", fn := fun _ => fun
  | [d1, d2] => { results := [.lit (.bool true)], args := [d1, d2] }
  | _ => none }
def treeBackRow : OpenClaim := { program := "ytbmlkomfelkckaa", sum := "88fb555ba6e2029751d27381972cdb1bc1d38d69e5f35108c81f4f641e21b3e3", func := "siglum/siglumlaw20.TreeBack", spec := "treeBack", recurses := true, apart := false }
def TreeBackSaid : Prop := treeBackRow.holds Try.pinned (OpenSpec.ofChange treeBackSpec)

/-- ITS FALSE NEIGHBOUR: 'it returns false'. Refute it at one input. -/
def treeBackWrong : ChangeSpec := { name := "treeBack", fn := fun _ => fun
  | [d1, d2] => { results := [.lit (.bool false)], args := [d1, d2] }
  | _ => none }
def TreeBackWrongFalsely : Prop := treeBackRow.holds Try.pinned (OpenSpec.ofChange treeBackWrong)

/-- 'siglumlaw20.TreeAll': WHATEVER THE INPUT: true; the input reads as it did. -/
def treeAllSpec : ChangeSpec := { name := "treeAll", fn := fun _ => fun
  | [d1, d2] => { results := [.lit (.bool true)], args := [d1, d2] }
  | _ => none }
def treeAllRow : OpenClaim := { program := "ytbmlkomfelkckaa", sum := "88fb555ba6e2029751d27381972cdb1bc1d38d69e5f35108c81f4f641e21b3e3", func := "siglum/siglumlaw20.TreeAll", spec := "treeAll", unfollowed := true, recurses := true, apart := false }
def TreeAllSaid : Prop := treeAllRow.holds Try.pinned (OpenSpec.ofChange treeAllSpec)

/-- ITS FALSE NEIGHBOUR: 'it returns false'. Refute it at one input. -/
def treeAllWrong : ChangeSpec := { name := "treeAll", fn := fun _ => fun
  | [d1, d2] => { results := [.lit (.bool false)], args := [d1, d2] }
  | _ => none }
def TreeAllWrongFalsely : Prop := treeAllRow.holds Try.pinned (OpenSpec.ofChange treeAllWrong)

/-- 'siglumlaw20.TreeCounts': WHATEVER THE INPUT: true; the input reads as it did. -/
def treeCountsSpec : ChangeSpec := { name := "treeCounts", fn := fun _ => fun
  | [d] => { results := [.lit (.bool true)], args := [d] }
  | _ => none }
def treeCountsRow : OpenClaim := { program := "ytbmlkomfelkckaa", sum := "88fb555ba6e2029751d27381972cdb1bc1d38d69e5f35108c81f4f641e21b3e3", func := "siglum/siglumlaw20.TreeCounts", spec := "treeCounts", unfollowed := true, recurses := true, apart := false }
def TreeCountsSaid : Prop := treeCountsRow.holds Try.pinned (OpenSpec.ofChange treeCountsSpec)

/-- ITS FALSE NEIGHBOUR: 'it returns false'. Refute it at one input. -/
def treeCountsWrong : ChangeSpec := { name := "treeCounts", fn := fun _ => fun
  | [d] => { results := [.lit (.bool false)], args := [d] }
  | _ => none }
def TreeCountsWrongFalsely : Prop := treeCountsRow.holds Try.pinned (OpenSpec.ofChange treeCountsWrong)

/-- 'siglumlaw23.BoundLows': WHATEVER THE INPUT: true; the input reads as it did. -/
def boundLowsSpec : ChangeSpec := { name := "boundLows", fn := fun _ => fun
  | [d] => { results := [.lit (.bool true)], args := [d] }
  | _ => none }
def boundLowsRow : OpenClaim := { program := "ytbmlkomfelkckaa", sum := "88fb555ba6e2029751d27381972cdb1bc1d38d69e5f35108c81f4f641e21b3e3", func := "siglum/siglumlaw23.BoundLows", spec := "boundLows", recurses := true, apart := false }
def BoundLowsSaid : Prop := boundLowsRow.holds Try.pinned (OpenSpec.ofChange boundLowsSpec)

/-- ITS FALSE NEIGHBOUR: 'it returns false'. Refute it at one input. -/
def boundLowsWrong : ChangeSpec := { name := "boundLows", fn := fun _ => fun
  | [d] => { results := [.lit (.bool false)], args := [d] }
  | _ => none }
def BoundLowsWrongFalsely : Prop := boundLowsRow.holds Try.pinned (OpenSpec.ofChange boundLowsWrong)

/-- 'siglumlaw23.BoundGrows': WHATEVER THE INPUT: true; the input reads as it did. -/
def boundGrowsSpec : ChangeSpec := { name := "boundGrows", fn := fun _ => fun
  | [d] => { results := [.lit (.bool true)], args := [d] }
  | _ => none }
def boundGrowsRow : OpenClaim := { program := "ytbmlkomfelkckaa", sum := "88fb555ba6e2029751d27381972cdb1bc1d38d69e5f35108c81f4f641e21b3e3", func := "siglum/siglumlaw23.BoundGrows", spec := "boundGrows", recurses := true, apart := false }
def BoundGrowsSaid : Prop := boundGrowsRow.holds Try.pinned (OpenSpec.ofChange boundGrowsSpec)

/-- ITS FALSE NEIGHBOUR: 'it returns false'. Refute it at one input. -/
def boundGrowsWrong : ChangeSpec := { name := "boundGrows", fn := fun _ => fun
  | [d] => { results := [.lit (.bool false)], args := [d] }
  | _ => none }
def BoundGrowsWrongFalsely : Prop := boundGrowsRow.holds Try.pinned (OpenSpec.ofChange boundGrowsWrong)

/-- 'siglumlaw23.BoundSums': WHATEVER THE INPUT: true; the input reads as it did. -/
def boundSumsSpec : ChangeSpec := { name := "boundSums", fn := fun _ => fun
  | [d1, d2, d3] => { results := [.lit (.bool true)], args := [d1, d2, d3] }
  | _ => none }
def boundSumsRow : OpenClaim := { program := "ytbmlkomfelkckaa", sum := "88fb555ba6e2029751d27381972cdb1bc1d38d69e5f35108c81f4f641e21b3e3", func := "siglum/siglumlaw23.BoundSums", spec := "boundSums", recurses := true, apart := false }
def BoundSumsSaid : Prop := boundSumsRow.holds Try.pinned (OpenSpec.ofChange boundSumsSpec)

/-- ITS FALSE NEIGHBOUR: 'it returns false'. Refute it at one input. -/
def boundSumsWrong : ChangeSpec := { name := "boundSums", fn := fun _ => fun
  | [d1, d2, d3] => { results := [.lit (.bool false)], args := [d1, d2, d3] }
  | _ => none }
def BoundSumsWrongFalsely : Prop := boundSumsRow.holds Try.pinned (OpenSpec.ofChange boundSumsWrong)

/-- 'siglumlaw23.BoundBetters': WHATEVER THE INPUT: true; the input reads as it did. -/
def boundBettersSpec : ChangeSpec := { name := "boundBetters", fn := fun _ => fun
  | [d1, d2] => { results := [.lit (.bool true)], args := [d1, d2] }
  | _ => none }
def boundBettersRow : OpenClaim := { program := "ytbmlkomfelkckaa", sum := "88fb555ba6e2029751d27381972cdb1bc1d38d69e5f35108c81f4f641e21b3e3", func := "siglum/siglumlaw23.BoundBetters", spec := "boundBetters", unfollowed := true, recurses := true, apart := false }
def BoundBettersSaid : Prop := boundBettersRow.holds Try.pinned (OpenSpec.ofChange boundBettersSpec)

/-- ITS FALSE NEIGHBOUR: 'it returns false'. Refute it at one input. -/
def boundBettersWrong : ChangeSpec := { name := "boundBetters", fn := fun _ => fun
  | [d1, d2] => { results := [.lit (.bool false)], args := [d1, d2] }
  | _ => none }
def BoundBettersWrongFalsely : Prop := boundBettersRow.holds Try.pinned (OpenSpec.ofChange boundBettersWrong)

/-- 'siglumlaw23.BoundHolds': WHATEVER THE INPUT: true; the input reads as it did. -/
def boundHoldsSpec : ChangeSpec := { name := "boundHolds", fn := fun _ => fun
  | [d1, d2] => { results := [.lit (.bool true)], args := [d1, d2] }
  | _ => none }
def boundHoldsRow : OpenClaim := { program := "ytbmlkomfelkckaa", sum := "88fb555ba6e2029751d27381972cdb1bc1d38d69e5f35108c81f4f641e21b3e3", func := "siglum/siglumlaw23.BoundHolds", spec := "boundHolds", unfollowed := true, recurses := true, apart := false }
def BoundHoldsSaid : Prop := boundHoldsRow.holds Try.pinned (OpenSpec.ofChange boundHoldsSpec)

/-- ITS FALSE NEIGHBOUR: 'it returns false'. Refute it at one input. -/
def boundHoldsWrong : ChangeSpec := { name := "boundHolds", fn := fun _ => fun
  | [d1, d2] => { results := [.lit (.bool false)], args := [d1, d2] }
  | _ => none }
def BoundHoldsWrongFalsely : Prop := boundHoldsRow.holds Try.pinned (OpenSpec.ofChange boundHoldsWrong)

/-- 'siglumlaw23.BoundBest': WHATEVER THE INPUT: true; the input reads as it did. -/
def boundBestSpec : ChangeSpec := { name := "boundBest", fn := fun _ => fun
  | [d] => { results := [.lit (.bool true)], args := [d] }
  | _ => none }
def boundBestRow : OpenClaim := { program := "ytbmlkomfelkckaa", sum := "88fb555ba6e2029751d27381972cdb1bc1d38d69e5f35108c81f4f641e21b3e3", func := "siglum/siglumlaw23.BoundBest", spec := "boundBest", unfollowed := true, recurses := true, apart := false }
def BoundBestSaid : Prop := boundBestRow.holds Try.pinned (OpenSpec.ofChange boundBestSpec)

/-- ITS FALSE NEIGHBOUR: 'it returns false'. Refute it at one input. -/
def boundBestWrong : ChangeSpec := { name := "boundBest", fn := fun _ => fun
  | [d] => { results := [.lit (.bool false)], args := [d] }
  | _ => none }
def BoundBestWrongFalsely : Prop := boundBestRow.holds Try.pinned (OpenSpec.ofChange boundBestWrong)

/-- 'siglumlaw20.TreeNests': WHATEVER THE INPUT: true; the input reads as it did. -/
def treeNestsSpec : ChangeSpec := { name := "treeNests", fn := fun _ => fun
  | [d1, d2] => { results := [.lit (.bool true)], args := [d1, d2] }
  | _ => none }
def treeNestsRow : OpenClaim := { program := "ytbmlkomfelkckaa", sum := "88fb555ba6e2029751d27381972cdb1bc1d38d69e5f35108c81f4f641e21b3e3", func := "siglum/siglumlaw20.TreeNests", spec := "treeNests", recurses := true, apart := false }
def TreeNestsSaid : Prop := treeNestsRow.holds Try.pinned (OpenSpec.ofChange treeNestsSpec)

/-- ITS FALSE NEIGHBOUR: 'it returns false'. Refute it at one input. -/
def treeNestsWrong : ChangeSpec := { name := "treeNests", fn := fun _ => fun
  | [d1, d2] => { results := [.lit (.bool false)], args := [d1, d2] }
  | _ => none }
def TreeNestsWrongFalsely : Prop := treeNestsRow.holds Try.pinned (OpenSpec.ofChange treeNestsWrong)

/-- 'siglumlaw20.TreeForms': WHATEVER THE INPUT: true; the input reads as it did. -/
def treeFormsSpec : ChangeSpec := { name := "treeForms", fn := fun _ => fun
  | [d1, d2] => { results := [.lit (.bool true)], args := [d1, d2] }
  | _ => none }
def treeFormsRow : OpenClaim := { program := "ytbmlkomfelkckaa", sum := "88fb555ba6e2029751d27381972cdb1bc1d38d69e5f35108c81f4f641e21b3e3", func := "siglum/siglumlaw20.TreeForms", spec := "treeForms", recurses := true, apart := false }
def TreeFormsSaid : Prop := treeFormsRow.holds Try.pinned (OpenSpec.ofChange treeFormsSpec)

/-- ITS FALSE NEIGHBOUR: 'it returns false'. Refute it at one input. -/
def treeFormsWrong : ChangeSpec := { name := "treeForms", fn := fun _ => fun
  | [d1, d2] => { results := [.lit (.bool false)], args := [d1, d2] }
  | _ => none }
def TreeFormsWrongFalsely : Prop := treeFormsRow.holds Try.pinned (OpenSpec.ofChange treeFormsWrong)

/-- 'siglumlaw22.StemmaAgreed': WHATEVER THE INPUT: true; the input reads as it did. -/
def stemmaAgreedSpec : ChangeSpec := { name := "stemmaAgreed", fn := fun _ => fun
  | [d1, d2] => { results := [.lit (.bool true)], args := [d1, d2] }
  | _ => none }
def stemmaAgreedRow : OpenClaim := { program := "ytbmlkomfelkckaa", sum := "88fb555ba6e2029751d27381972cdb1bc1d38d69e5f35108c81f4f641e21b3e3", func := "siglum/siglumlaw22.StemmaAgreed", spec := "stemmaAgreed", unfollowed := true, recurses := true, apart := false }
def StemmaAgreedSaid : Prop := stemmaAgreedRow.holds Try.pinned (OpenSpec.ofChange stemmaAgreedSpec)

/-- ITS FALSE NEIGHBOUR: 'it returns false'. Refute it at one input. -/
def stemmaAgreedWrong : ChangeSpec := { name := "stemmaAgreed", fn := fun _ => fun
  | [d1, d2] => { results := [.lit (.bool false)], args := [d1, d2] }
  | _ => none }
def StemmaAgreedWrongFalsely : Prop := stemmaAgreedRow.holds Try.pinned (OpenSpec.ofChange stemmaAgreedWrong)

/-- 'siglumlaw22.StemmaFewer': WHATEVER THE INPUT: true; the input reads as it did. -/
def stemmaFewerSpec : ChangeSpec := { name := "stemmaFewer", fn := fun _ => fun
  | [d1, d2, d3] => { results := [.lit (.bool true)], args := [d1, d2, d3] }
  | _ => none }
def stemmaFewerRow : OpenClaim := { program := "ytbmlkomfelkckaa", sum := "88fb555ba6e2029751d27381972cdb1bc1d38d69e5f35108c81f4f641e21b3e3", func := "siglum/siglumlaw22.StemmaFewer", spec := "stemmaFewer", unfollowed := true, recurses := true, apart := false }
def StemmaFewerSaid : Prop := stemmaFewerRow.holds Try.pinned (OpenSpec.ofChange stemmaFewerSpec)

/-- ITS FALSE NEIGHBOUR: 'it returns false'. Refute it at one input. -/
def stemmaFewerWrong : ChangeSpec := { name := "stemmaFewer", fn := fun _ => fun
  | [d1, d2, d3] => { results := [.lit (.bool false)], args := [d1, d2, d3] }
  | _ => none }
def StemmaFewerWrongFalsely : Prop := stemmaFewerRow.holds Try.pinned (OpenSpec.ofChange stemmaFewerWrong)

/- THE SECOND FORM. 'bulk': how many values and letters a reading holds, each counted each time it is reached (what is shared counts as often as it is met; a slice's spare places count too). A statement '..UptoSaid' is the law's where the arguments, and the package variables that the reading takes, are together of bulk at most 1048576: NARROWER than '..Said'. Prove '..Said' where nothing that the law and all that it calls make is longer than what came in: it says more and counts as full. Else prove '..UptoSaid'. A law counts once. -/
mutual
def uptoBulk {H : Type} : DataW H → Nat
  | .lit (.string bytes) => bytes.length + 1
  | .lit _ => 1
  | .nil => 1
  | .ptr d => uptoBulk d + 1
  | .slice elems spare => uptoBulkAll elems + uptoBulkAll spare + 1
  | .agg parts => uptoBulkAll parts + 1
  | .iface _ d => uptoBulk d + 1
  | .map entries => uptoBulkEntries entries + 1
  | .held _ => 1
def uptoBulkAll {H : Type} : List (DataW H) → Nat
  | [] => 0
  | d :: r => uptoBulk d + uptoBulkAll r
def uptoBulkEntries {H : Type} : List (Lit × DataW H) → Nat
  | [] => 0
  | x :: r => uptoBulkEntry x + uptoBulkEntries r
def uptoBulkEntry {H : Type} : Lit × DataW H → Nat
  | (.string bytes, d) => bytes.length + uptoBulk d + 1
  | (_, d) => uptoBulk d + 1
 end
def uptoSmall : (H : Type) → List (DataW H) → Bool := fun _ ds => decide (uptoBulkAll ds ≤ 1048576)
def OpenSpec.upto (s : _root_.Go.ChangeSpec) : _root_.Go.OpenSpec := { _root_.Go.OpenSpec.ofChange s with cond := some uptoSmall }

/-- 'siglumlaw20.TreeParses', WHERE WHAT IT READS IS OF BULK AT MOST 1048576: true; the input reads as it did. -/
def treeParsesUptoRow : OpenClaim := { program := "ytbmlkomfelkckaa", sum := "88fb555ba6e2029751d27381972cdb1bc1d38d69e5f35108c81f4f641e21b3e3", func := "siglum/siglumlaw20.TreeParses", spec := "treeParses", recurses := true, apart := false, narrowed := true }
def TreeParsesUptoSaid : Prop := treeParsesUptoRow.holds Try.pinned (OpenSpec.upto treeParsesSpec)

/-- 'siglumlaw22.StemmaBest', WHERE WHAT IT READS IS OF BULK AT MOST 1048576: true; the input reads as it did. -/
def stemmaBestUptoRow : OpenClaim := { program := "ytbmlkomfelkckaa", sum := "88fb555ba6e2029751d27381972cdb1bc1d38d69e5f35108c81f4f641e21b3e3", func := "siglum/siglumlaw22.StemmaBest", spec := "stemmaBest", unfollowed := true, recurses := true, apart := false, narrowed := true }
def StemmaBestUptoSaid : Prop := stemmaBestUptoRow.holds Try.pinned (OpenSpec.upto stemmaBestSpec)

/-- 'siglumlaw22.StemmaLeast', WHERE WHAT IT READS IS OF BULK AT MOST 1048576: true; the input reads as it did. -/
def stemmaLeastUptoRow : OpenClaim := { program := "ytbmlkomfelkckaa", sum := "88fb555ba6e2029751d27381972cdb1bc1d38d69e5f35108c81f4f641e21b3e3", func := "siglum/siglumlaw22.StemmaLeast", spec := "stemmaLeast", unfollowed := true, recurses := true, apart := false, narrowed := true }
def StemmaLeastUptoSaid : Prop := stemmaLeastUptoRow.holds Try.pinned (OpenSpec.upto stemmaLeastSpec)

/-- 'siglumlaw22.StemmaTurned', WHERE WHAT IT READS IS OF BULK AT MOST 1048576: true; the input reads as it did. -/
def stemmaTurnedUptoRow : OpenClaim := { program := "ytbmlkomfelkckaa", sum := "88fb555ba6e2029751d27381972cdb1bc1d38d69e5f35108c81f4f641e21b3e3", func := "siglum/siglumlaw22.StemmaTurned", spec := "stemmaTurned", unfollowed := true, recurses := true, apart := false, narrowed := true }
def StemmaTurnedUptoSaid : Prop := stemmaTurnedUptoRow.holds Try.pinned (OpenSpec.upto stemmaTurnedSpec)

/-- 'siglumlaw20.TreePrints', WHERE WHAT IT READS IS OF BULK AT MOST 1048576: true; the input reads as it did. -/
def treePrintsUptoRow : OpenClaim := { program := "ytbmlkomfelkckaa", sum := "88fb555ba6e2029751d27381972cdb1bc1d38d69e5f35108c81f4f641e21b3e3", func := "siglum/siglumlaw20.TreePrints", spec := "treePrints", recurses := true, apart := false, narrowed := true }
def TreePrintsUptoSaid : Prop := treePrintsUptoRow.holds Try.pinned (OpenSpec.upto treePrintsSpec)

/-- 'siglumlaw20.TreeBack', WHERE WHAT IT READS IS OF BULK AT MOST 1048576: true; the input reads as it did. -/
def treeBackUptoRow : OpenClaim := { program := "ytbmlkomfelkckaa", sum := "88fb555ba6e2029751d27381972cdb1bc1d38d69e5f35108c81f4f641e21b3e3", func := "siglum/siglumlaw20.TreeBack", spec := "treeBack", recurses := true, apart := false, narrowed := true }
def TreeBackUptoSaid : Prop := treeBackUptoRow.holds Try.pinned (OpenSpec.upto treeBackSpec)

/-- 'siglumlaw20.TreeAll', WHERE WHAT IT READS IS OF BULK AT MOST 1048576: true; the input reads as it did. -/
def treeAllUptoRow : OpenClaim := { program := "ytbmlkomfelkckaa", sum := "88fb555ba6e2029751d27381972cdb1bc1d38d69e5f35108c81f4f641e21b3e3", func := "siglum/siglumlaw20.TreeAll", spec := "treeAll", unfollowed := true, recurses := true, apart := false, narrowed := true }
def TreeAllUptoSaid : Prop := treeAllUptoRow.holds Try.pinned (OpenSpec.upto treeAllSpec)

/-- 'siglumlaw20.TreeCounts', WHERE WHAT IT READS IS OF BULK AT MOST 1048576: true; the input reads as it did. -/
def treeCountsUptoRow : OpenClaim := { program := "ytbmlkomfelkckaa", sum := "88fb555ba6e2029751d27381972cdb1bc1d38d69e5f35108c81f4f641e21b3e3", func := "siglum/siglumlaw20.TreeCounts", spec := "treeCounts", unfollowed := true, recurses := true, apart := false, narrowed := true }
def TreeCountsUptoSaid : Prop := treeCountsUptoRow.holds Try.pinned (OpenSpec.upto treeCountsSpec)

/-- 'siglumlaw23.BoundLows', WHERE WHAT IT READS IS OF BULK AT MOST 1048576: true; the input reads as it did. -/
def boundLowsUptoRow : OpenClaim := { program := "ytbmlkomfelkckaa", sum := "88fb555ba6e2029751d27381972cdb1bc1d38d69e5f35108c81f4f641e21b3e3", func := "siglum/siglumlaw23.BoundLows", spec := "boundLows", recurses := true, apart := false, narrowed := true }
def BoundLowsUptoSaid : Prop := boundLowsUptoRow.holds Try.pinned (OpenSpec.upto boundLowsSpec)

/-- 'siglumlaw23.BoundGrows', WHERE WHAT IT READS IS OF BULK AT MOST 1048576: true; the input reads as it did. -/
def boundGrowsUptoRow : OpenClaim := { program := "ytbmlkomfelkckaa", sum := "88fb555ba6e2029751d27381972cdb1bc1d38d69e5f35108c81f4f641e21b3e3", func := "siglum/siglumlaw23.BoundGrows", spec := "boundGrows", recurses := true, apart := false, narrowed := true }
def BoundGrowsUptoSaid : Prop := boundGrowsUptoRow.holds Try.pinned (OpenSpec.upto boundGrowsSpec)

/-- 'siglumlaw23.BoundSums', WHERE WHAT IT READS IS OF BULK AT MOST 1048576: true; the input reads as it did. -/
def boundSumsUptoRow : OpenClaim := { program := "ytbmlkomfelkckaa", sum := "88fb555ba6e2029751d27381972cdb1bc1d38d69e5f35108c81f4f641e21b3e3", func := "siglum/siglumlaw23.BoundSums", spec := "boundSums", recurses := true, apart := false, narrowed := true }
def BoundSumsUptoSaid : Prop := boundSumsUptoRow.holds Try.pinned (OpenSpec.upto boundSumsSpec)

/-- 'siglumlaw23.BoundBetters', WHERE WHAT IT READS IS OF BULK AT MOST 1048576: true; the input reads as it did. -/
def boundBettersUptoRow : OpenClaim := { program := "ytbmlkomfelkckaa", sum := "88fb555ba6e2029751d27381972cdb1bc1d38d69e5f35108c81f4f641e21b3e3", func := "siglum/siglumlaw23.BoundBetters", spec := "boundBetters", unfollowed := true, recurses := true, apart := false, narrowed := true }
def BoundBettersUptoSaid : Prop := boundBettersUptoRow.holds Try.pinned (OpenSpec.upto boundBettersSpec)

/-- 'siglumlaw23.BoundHolds', WHERE WHAT IT READS IS OF BULK AT MOST 1048576: true; the input reads as it did. -/
def boundHoldsUptoRow : OpenClaim := { program := "ytbmlkomfelkckaa", sum := "88fb555ba6e2029751d27381972cdb1bc1d38d69e5f35108c81f4f641e21b3e3", func := "siglum/siglumlaw23.BoundHolds", spec := "boundHolds", unfollowed := true, recurses := true, apart := false, narrowed := true }
def BoundHoldsUptoSaid : Prop := boundHoldsUptoRow.holds Try.pinned (OpenSpec.upto boundHoldsSpec)

/-- 'siglumlaw23.BoundBest', WHERE WHAT IT READS IS OF BULK AT MOST 1048576: true; the input reads as it did. -/
def boundBestUptoRow : OpenClaim := { program := "ytbmlkomfelkckaa", sum := "88fb555ba6e2029751d27381972cdb1bc1d38d69e5f35108c81f4f641e21b3e3", func := "siglum/siglumlaw23.BoundBest", spec := "boundBest", unfollowed := true, recurses := true, apart := false, narrowed := true }
def BoundBestUptoSaid : Prop := boundBestUptoRow.holds Try.pinned (OpenSpec.upto boundBestSpec)

/-- 'siglumlaw20.TreeNests', WHERE WHAT IT READS IS OF BULK AT MOST 1048576: true; the input reads as it did. -/
def treeNestsUptoRow : OpenClaim := { program := "ytbmlkomfelkckaa", sum := "88fb555ba6e2029751d27381972cdb1bc1d38d69e5f35108c81f4f641e21b3e3", func := "siglum/siglumlaw20.TreeNests", spec := "treeNests", recurses := true, apart := false, narrowed := true }
def TreeNestsUptoSaid : Prop := treeNestsUptoRow.holds Try.pinned (OpenSpec.upto treeNestsSpec)

/-- 'siglumlaw20.TreeForms', WHERE WHAT IT READS IS OF BULK AT MOST 1048576: true; the input reads as it did. -/
def treeFormsUptoRow : OpenClaim := { program := "ytbmlkomfelkckaa", sum := "88fb555ba6e2029751d27381972cdb1bc1d38d69e5f35108c81f4f641e21b3e3", func := "siglum/siglumlaw20.TreeForms", spec := "treeForms", recurses := true, apart := false, narrowed := true }
def TreeFormsUptoSaid : Prop := treeFormsUptoRow.holds Try.pinned (OpenSpec.upto treeFormsSpec)

/-- 'siglumlaw22.StemmaAgreed', WHERE WHAT IT READS IS OF BULK AT MOST 1048576: true; the input reads as it did. -/
def stemmaAgreedUptoRow : OpenClaim := { program := "ytbmlkomfelkckaa", sum := "88fb555ba6e2029751d27381972cdb1bc1d38d69e5f35108c81f4f641e21b3e3", func := "siglum/siglumlaw22.StemmaAgreed", spec := "stemmaAgreed", unfollowed := true, recurses := true, apart := false, narrowed := true }
def StemmaAgreedUptoSaid : Prop := stemmaAgreedUptoRow.holds Try.pinned (OpenSpec.upto stemmaAgreedSpec)

/-- 'siglumlaw22.StemmaFewer', WHERE WHAT IT READS IS OF BULK AT MOST 1048576: true; the input reads as it did. -/
def stemmaFewerUptoRow : OpenClaim := { program := "ytbmlkomfelkckaa", sum := "88fb555ba6e2029751d27381972cdb1bc1d38d69e5f35108c81f4f641e21b3e3", func := "siglum/siglumlaw22.StemmaFewer", spec := "stemmaFewer", unfollowed := true, recurses := true, apart := false, narrowed := true }
def StemmaFewerUptoSaid : Prop := stemmaFewerUptoRow.holds Try.pinned (OpenSpec.upto stemmaFewerSpec)

end Rows
end Go.Proofs.Ytbmlkomfelkckaa
