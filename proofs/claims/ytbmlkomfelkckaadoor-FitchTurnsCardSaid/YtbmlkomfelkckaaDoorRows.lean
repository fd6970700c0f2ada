/-
  NARROWER THAN 'FOR EVERY INPUT', by the rows' own cells (each row's printed sentence says how): FitchLeast: laid · FitchBounds: laid · FitchSites: laid · FitchStates: laid · FitchBack: laid · FitchTurns: laid.
  DERIVED. THE GIVEN ROWS OF THIS SEAT. 6 by the template 'for every input the law returns true; each argument reads behind the call as it read before'; 0 by the template 'total and deterministic' (their statements: YtbmlkomfelkckaaDoorTotals.lean).
  GIVEN WITH THE SEED: the statements are not yours to turn. If you find one false, say at which input.
  Laid BY PROGRAM, IN A SANDBOX (cutbox-rows.mjs): the forced cells as the released guide's own fill.sh prints them over the translation d3479a0fc29f487a… (all of the seat's roots in one cut). By AI agents, Wed Nov 11 2026. No macro, syntax, notation, axiom, sorry.
-/
import Derived.Test.YtbmlkomfelkckaaDoorChecked
import GoSem.Claim
import GoSem.ClaimJoined
import GoSem.ClaimMapViews
import Derived.JoinedTies
import Derived.KernelRfl
namespace Go.Proofs.YtbmlkomfelkckaaDoor
/- THE CELL 'sum', in the pinned program and in every row, IS THE sha256 OF THE DUMP (.gsa) THAT YtbmlkomfelkckaaDoorProg.lean LOADS. Nothing in Lean hashes anything: it is a label: what it is worth is what the hold of that sum in a sandbox is worth. -/
noncomputable def Tryd.pinned : Pinned := { name := "ytbmlkomfelkckaadoor", sum := "d3479a0fc29f487abfc0c6f498dcb9dfd289335bdc8c7e11289f1414d7e2042e", checked := Tryd.checked }
namespace Rows
def none {H : Type} : Left H := { results := [], args := [] }

/- WHAT THE LISTED PACKAGE-LEVEL VARIABLES READ AS WHEN THE CALL BEGINS. Each datum BY PROGRAM (the guide's laid-datum.mjs) off the statement by which the dump's own 'gosem.cut.vars' lays the variable. In a bare row this is a premise. The card (YtbmlkomfelkckaaDoorCards.lean) ties it to the program's text. -/
def laid_math_bits_deBruijn32tab {H : Type} : DataW H := .agg [.lit (.int .u8 0), .lit (.int .u8 1), .lit (.int .u8 28), .lit (.int .u8 2), .lit (.int .u8 29), .lit (.int .u8 14), .lit (.int .u8 24), .lit (.int .u8 3), .lit (.int .u8 30), .lit (.int .u8 22), .lit (.int .u8 20), .lit (.int .u8 15), .lit (.int .u8 25), .lit (.int .u8 17), .lit (.int .u8 4), .lit (.int .u8 8), .lit (.int .u8 31), .lit (.int .u8 27), .lit (.int .u8 13), .lit (.int .u8 23), .lit (.int .u8 21), .lit (.int .u8 19), .lit (.int .u8 16), .lit (.int .u8 7), .lit (.int .u8 26), .lit (.int .u8 12), .lit (.int .u8 18), .lit (.int .u8 6), .lit (.int .u8 11), .lit (.int .u8 5), .lit (.int .u8 10), .lit (.int .u8 9)]
def laid_math_bits_deBruijn64tab {H : Type} : DataW H := .agg [.lit (.int .u8 0), .lit (.int .u8 1), .lit (.int .u8 56), .lit (.int .u8 2), .lit (.int .u8 57), .lit (.int .u8 49), .lit (.int .u8 28), .lit (.int .u8 3), .lit (.int .u8 61), .lit (.int .u8 58), .lit (.int .u8 42), .lit (.int .u8 50), .lit (.int .u8 38), .lit (.int .u8 29), .lit (.int .u8 17), .lit (.int .u8 4), .lit (.int .u8 62), .lit (.int .u8 47), .lit (.int .u8 59), .lit (.int .u8 36), .lit (.int .u8 45), .lit (.int .u8 43), .lit (.int .u8 51), .lit (.int .u8 22), .lit (.int .u8 53), .lit (.int .u8 39), .lit (.int .u8 33), .lit (.int .u8 30), .lit (.int .u8 24), .lit (.int .u8 18), .lit (.int .u8 12), .lit (.int .u8 5), .lit (.int .u8 63), .lit (.int .u8 55), .lit (.int .u8 48), .lit (.int .u8 27), .lit (.int .u8 60), .lit (.int .u8 41), .lit (.int .u8 37), .lit (.int .u8 16), .lit (.int .u8 46), .lit (.int .u8 35), .lit (.int .u8 44), .lit (.int .u8 21), .lit (.int .u8 52), .lit (.int .u8 32), .lit (.int .u8 23), .lit (.int .u8 11), .lit (.int .u8 54), .lit (.int .u8 26), .lit (.int .u8 40), .lit (.int .u8 15), .lit (.int .u8 34), .lit (.int .u8 20), .lit (.int .u8 31), .lit (.int .u8 10), .lit (.int .u8 25), .lit (.int .u8 14), .lit (.int .u8 19), .lit (.int .u8 9), .lit (.int .u8 13), .lit (.int .u8 8), .lit (.int .u8 7), .lit (.int .u8 6)]

/-- 'siglumlaw21.FitchLeast': WHATEVER THE INPUT: true; the input reads as it did. -/
def fitchLeastSpec : ChangeSpec := { name := "fitchLeast", fn := fun _ => fun
  | [d1, d2, d3] => { results := [.lit (.bool true)], args := [d1, d2, d3] }
  | _ => none }
def fitchLeastRow : OpenClaim := { program := "ytbmlkomfelkckaadoor", sum := "d3479a0fc29f487abfc0c6f498dcb9dfd289335bdc8c7e11289f1414d7e2042e", func := "siglum/siglumlaw21.FitchLeast", spec := "fitchLeast", recurses := true, named := ["math/bits.deBruijn32tab", "math/bits.deBruijn64tab"], apart := false, laid := [("math/bits.deBruijn32tab", laid_math_bits_deBruijn32tab), ("math/bits.deBruijn64tab", laid_math_bits_deBruijn64tab)] }
def FitchLeastSaid : Prop := fitchLeastRow.holds Tryd.pinned (OpenSpec.ofChange fitchLeastSpec)

/-- ITS FALSE NEIGHBOUR: 'it returns false'. Refute it at one input. -/
def fitchLeastWrong : ChangeSpec := { name := "fitchLeast", fn := fun _ => fun
  | [d1, d2, d3] => { results := [.lit (.bool false)], args := [d1, d2, d3] }
  | _ => none }
def FitchLeastWrongFalsely : Prop := fitchLeastRow.holds Tryd.pinned (OpenSpec.ofChange fitchLeastWrong)

/-- 'siglumlaw21.FitchBounds': WHATEVER THE INPUT: true; the input reads as it did. -/
def fitchBoundsSpec : ChangeSpec := { name := "fitchBounds", fn := fun _ => fun
  | [d1, d2, d3] => { results := [.lit (.bool true)], args := [d1, d2, d3] }
  | _ => none }
def fitchBoundsRow : OpenClaim := { program := "ytbmlkomfelkckaadoor", sum := "d3479a0fc29f487abfc0c6f498dcb9dfd289335bdc8c7e11289f1414d7e2042e", func := "siglum/siglumlaw21.FitchBounds", spec := "fitchBounds", named := ["math/bits.deBruijn32tab", "math/bits.deBruijn64tab"], apart := false, laid := [("math/bits.deBruijn32tab", laid_math_bits_deBruijn32tab), ("math/bits.deBruijn64tab", laid_math_bits_deBruijn64tab)] }
def FitchBoundsSaid : Prop := fitchBoundsRow.holds Tryd.pinned (OpenSpec.ofChange fitchBoundsSpec)

/-- ITS FALSE NEIGHBOUR: 'it returns false'. Refute it at one input. -/
def fitchBoundsWrong : ChangeSpec := { name := "fitchBounds", fn := fun _ => fun
  | [d1, d2, d3] => { results := [.lit (.bool false)], args := [d1, d2, d3] }
  | _ => none }
def FitchBoundsWrongFalsely : Prop := fitchBoundsRow.holds Tryd.pinned (OpenSpec.ofChange fitchBoundsWrong)

/-- 'siglumlaw21.FitchSites': WHATEVER THE INPUT: true; the input reads as it did. -/
def fitchSitesSpec : ChangeSpec := { name := "fitchSites", fn := fun _ => fun
  | [d1, d2, d3] => { results := [.lit (.bool true)], args := [d1, d2, d3] }
  | _ => none }
def fitchSitesRow : OpenClaim := { program := "ytbmlkomfelkckaadoor", sum := "d3479a0fc29f487abfc0c6f498dcb9dfd289335bdc8c7e11289f1414d7e2042e", func := "siglum/siglumlaw21.FitchSites", spec := "fitchSites", named := ["math/bits.deBruijn32tab", "math/bits.deBruijn64tab"], apart := false, laid := [("math/bits.deBruijn32tab", laid_math_bits_deBruijn32tab), ("math/bits.deBruijn64tab", laid_math_bits_deBruijn64tab)] }
def FitchSitesSaid : Prop := fitchSitesRow.holds Tryd.pinned (OpenSpec.ofChange fitchSitesSpec)

/-- ITS FALSE NEIGHBOUR: 'it returns false'. Refute it at one input. -/
def fitchSitesWrong : ChangeSpec := { name := "fitchSites", fn := fun _ => fun
  | [d1, d2, d3] => { results := [.lit (.bool false)], args := [d1, d2, d3] }
  | _ => none }
def FitchSitesWrongFalsely : Prop := fitchSitesRow.holds Tryd.pinned (OpenSpec.ofChange fitchSitesWrong)

/-- 'siglumlaw21.FitchStates': WHATEVER THE INPUT: true; the input reads as it did. -/
def fitchStatesSpec : ChangeSpec := { name := "fitchStates", fn := fun _ => fun
  | [d] => { results := [.lit (.bool true)], args := [d] }
  | _ => none }
def fitchStatesRow : OpenClaim := { program := "ytbmlkomfelkckaadoor", sum := "d3479a0fc29f487abfc0c6f498dcb9dfd289335bdc8c7e11289f1414d7e2042e", func := "siglum/siglumlaw21.FitchStates", spec := "fitchStates", named := ["math/bits.deBruijn32tab", "math/bits.deBruijn64tab"], apart := false, laid := [("math/bits.deBruijn32tab", laid_math_bits_deBruijn32tab), ("math/bits.deBruijn64tab", laid_math_bits_deBruijn64tab)] }
def FitchStatesSaid : Prop := fitchStatesRow.holds Tryd.pinned (OpenSpec.ofChange fitchStatesSpec)

/-- ITS FALSE NEIGHBOUR: 'it returns false'. Refute it at one input. -/
def fitchStatesWrong : ChangeSpec := { name := "fitchStates", fn := fun _ => fun
  | [d] => { results := [.lit (.bool false)], args := [d] }
  | _ => none }
def FitchStatesWrongFalsely : Prop := fitchStatesRow.holds Tryd.pinned (OpenSpec.ofChange fitchStatesWrong)

/-- 'siglumlaw21.FitchBack': WHATEVER THE INPUT: true; the input reads as it did. -/
def fitchBackSpec : ChangeSpec := { name := "fitchBack", fn := fun _ => fun
  | [d1, d2, d3] => { results := [.lit (.bool true)], args := [d1, d2, d3] }
  | _ => none }
def fitchBackRow : OpenClaim := { program := "ytbmlkomfelkckaadoor", sum := "d3479a0fc29f487abfc0c6f498dcb9dfd289335bdc8c7e11289f1414d7e2042e", func := "siglum/siglumlaw21.FitchBack", spec := "fitchBack", named := ["math/bits.deBruijn32tab", "math/bits.deBruijn64tab"], apart := false, laid := [("math/bits.deBruijn32tab", laid_math_bits_deBruijn32tab), ("math/bits.deBruijn64tab", laid_math_bits_deBruijn64tab)] }
def FitchBackSaid : Prop := fitchBackRow.holds Tryd.pinned (OpenSpec.ofChange fitchBackSpec)

/-- ITS FALSE NEIGHBOUR: 'it returns false'. Refute it at one input. -/
def fitchBackWrong : ChangeSpec := { name := "fitchBack", fn := fun _ => fun
  | [d1, d2, d3] => { results := [.lit (.bool false)], args := [d1, d2, d3] }
  | _ => none }
def FitchBackWrongFalsely : Prop := fitchBackRow.holds Tryd.pinned (OpenSpec.ofChange fitchBackWrong)

/-- 'siglumlaw21.FitchTurns': WHATEVER THE INPUT: true; the input reads as it did. -/
def fitchTurnsSpec : ChangeSpec := { name := "fitchTurns", fn := fun _ => fun
  | [d1, d2] => { results := [.lit (.bool true)], args := [d1, d2] }
  | _ => none }
def fitchTurnsRow : OpenClaim := { program := "ytbmlkomfelkckaadoor", sum := "d3479a0fc29f487abfc0c6f498dcb9dfd289335bdc8c7e11289f1414d7e2042e", func := "siglum/siglumlaw21.FitchTurns", spec := "fitchTurns", recurses := true, named := ["math/bits.deBruijn32tab", "math/bits.deBruijn64tab"], apart := false, laid := [("math/bits.deBruijn32tab", laid_math_bits_deBruijn32tab), ("math/bits.deBruijn64tab", laid_math_bits_deBruijn64tab)] }
def FitchTurnsSaid : Prop := fitchTurnsRow.holds Tryd.pinned (OpenSpec.ofChange fitchTurnsSpec)

/-- ITS FALSE NEIGHBOUR: 'it returns false'. Refute it at one input. -/
def fitchTurnsWrong : ChangeSpec := { name := "fitchTurns", fn := fun _ => fun
  | [d1, d2] => { results := [.lit (.bool false)], args := [d1, d2] }
  | _ => none }
def FitchTurnsWrongFalsely : Prop := fitchTurnsRow.holds Tryd.pinned (OpenSpec.ofChange fitchTurnsWrong)

/- THE SECOND FORM. 'bulk': how many values and letters a reading holds, each counted each time it is reached (what is shared counts as often as it is met; a slice's spare places count too). A statement '..UptoSaid' is the law's where the arguments, and the package variables that the reading takes, are together of bulk at most 1048576: NARROWER than '..Said'. Prove '..Said' where nothing that the law and all that it calls make is longer than what came in: it says more and counts as full. Else prove '..UptoSaid'. A law counts once. -/
mutual
def uptoBulk {H : Type} : DataW H → Nat
  | .lit (.string bytes) => bytes.length + 1
  | .lit _ => 1
  | .nil => 1
  | .ptr d => uptoBulk d + 1
  | .slice elems spare => uptoBulkAll elems + uptoBulkAll spare + 1
  | .agg parts => uptoBulkAll parts + 1
  | .iface _ d => uptoBulk d + 1
  | .map entries => uptoBulkEntries entries + 1
  | .held _ => 1
def uptoBulkAll {H : Type} : List (DataW H) → Nat
  | [] => 0
  | d :: r => uptoBulk d + uptoBulkAll r
def uptoBulkEntries {H : Type} : List (Lit × DataW H) → Nat
  | [] => 0
  | x :: r => uptoBulkEntry x + uptoBulkEntries r
def uptoBulkEntry {H : Type} : Lit × DataW H → Nat
  | (.string bytes, d) => bytes.length + uptoBulk d + 1
  | (_, d) => uptoBulk d + 1
 end
def uptoSmall : (H : Type) → List (DataW H) → Bool := fun _ ds => decide (uptoBulkAll ds ≤ 1048576)
def OpenSpec.upto (s : _root_.Go.ChangeSpec) : _root_.Go.OpenSpec := { _root_.Go.OpenSpec.ofChange s with cond := some uptoSmall }

/-- 'siglumlaw21.FitchLeast', WHERE WHAT IT READS IS OF BULK AT MOST 1048576: true; the input reads as it did. -/
def fitchLeastUptoRow : OpenClaim := { program := "ytbmlkomfelkckaadoor", sum := "d3479a0fc29f487abfc0c6f498dcb9dfd289335bdc8c7e11289f1414d7e2042e", func := "siglum/siglumlaw21.FitchLeast", spec := "fitchLeast", recurses := true, named := ["math/bits.deBruijn32tab", "math/bits.deBruijn64tab"], apart := false, laid := [("math/bits.deBruijn32tab", laid_math_bits_deBruijn32tab), ("math/bits.deBruijn64tab", laid_math_bits_deBruijn64tab)], narrowed := true }
def FitchLeastUptoSaid : Prop := fitchLeastUptoRow.holds Tryd.pinned (OpenSpec.upto fitchLeastSpec)

/-- 'siglumlaw21.FitchBounds', WHERE WHAT IT READS IS OF BULK AT MOST 1048576: true; the input reads as it did. -/
def fitchBoundsUptoRow : OpenClaim := { program := "ytbmlkomfelkckaadoor", sum := "d3479a0fc29f487abfc0c6f498dcb9dfd289335bdc8c7e11289f1414d7e2042e", func := "siglum/siglumlaw21.FitchBounds", spec := "fitchBounds", named := ["math/bits.deBruijn32tab", "math/bits.deBruijn64tab"], apart := false, laid := [("math/bits.deBruijn32tab", laid_math_bits_deBruijn32tab), ("math/bits.deBruijn64tab", laid_math_bits_deBruijn64tab)], narrowed := true }
def FitchBoundsUptoSaid : Prop := fitchBoundsUptoRow.holds Tryd.pinned (OpenSpec.upto fitchBoundsSpec)

/-- 'siglumlaw21.FitchSites', WHERE WHAT IT READS IS OF BULK AT MOST 1048576: true; the input reads as it did. -/
def fitchSitesUptoRow : OpenClaim := { program := "ytbmlkomfelkckaadoor", sum := "d3479a0fc29f487abfc0c6f498dcb9dfd289335bdc8c7e11289f1414d7e2042e", func := "siglum/siglumlaw21.FitchSites", spec := "fitchSites", named := ["math/bits.deBruijn32tab", "math/bits.deBruijn64tab"], apart := false, laid := [("math/bits.deBruijn32tab", laid_math_bits_deBruijn32tab), ("math/bits.deBruijn64tab", laid_math_bits_deBruijn64tab)], narrowed := true }
def FitchSitesUptoSaid : Prop := fitchSitesUptoRow.holds Tryd.pinned (OpenSpec.upto fitchSitesSpec)

/-- 'siglumlaw21.FitchStates', WHERE WHAT IT READS IS OF BULK AT MOST 1048576: true; the input reads as it did. -/
def fitchStatesUptoRow : OpenClaim := { program := "ytbmlkomfelkckaadoor", sum := "d3479a0fc29f487abfc0c6f498dcb9dfd289335bdc8c7e11289f1414d7e2042e", func := "siglum/siglumlaw21.FitchStates", spec := "fitchStates", named := ["math/bits.deBruijn32tab", "math/bits.deBruijn64tab"], apart := false, laid := [("math/bits.deBruijn32tab", laid_math_bits_deBruijn32tab), ("math/bits.deBruijn64tab", laid_math_bits_deBruijn64tab)], narrowed := true }
def FitchStatesUptoSaid : Prop := fitchStatesUptoRow.holds Tryd.pinned (OpenSpec.upto fitchStatesSpec)

/-- 'siglumlaw21.FitchBack', WHERE WHAT IT READS IS OF BULK AT MOST 1048576: true; the input reads as it did. -/
def fitchBackUptoRow : OpenClaim := { program := "ytbmlkomfelkckaadoor", sum := "d3479a0fc29f487abfc0c6f498dcb9dfd289335bdc8c7e11289f1414d7e2042e", func := "siglum/siglumlaw21.FitchBack", spec := "fitchBack", named := ["math/bits.deBruijn32tab", "math/bits.deBruijn64tab"], apart := false, laid := [("math/bits.deBruijn32tab", laid_math_bits_deBruijn32tab), ("math/bits.deBruijn64tab", laid_math_bits_deBruijn64tab)], narrowed := true }
def FitchBackUptoSaid : Prop := fitchBackUptoRow.holds Tryd.pinned (OpenSpec.upto fitchBackSpec)

/-- 'siglumlaw21.FitchTurns', WHERE WHAT IT READS IS OF BULK AT MOST 1048576: true; the input reads as it did. -/
def fitchTurnsUptoRow : OpenClaim := { program := "ytbmlkomfelkckaadoor", sum := "d3479a0fc29f487abfc0c6f498dcb9dfd289335bdc8c7e11289f1414d7e2042e", func := "siglum/siglumlaw21.FitchTurns", spec := "fitchTurns", recurses := true, named := ["math/bits.deBruijn32tab", "math/bits.deBruijn64tab"], apart := false, laid := [("math/bits.deBruijn32tab", laid_math_bits_deBruijn32tab), ("math/bits.deBruijn64tab", laid_math_bits_deBruijn64tab)], narrowed := true }
def FitchTurnsUptoSaid : Prop := fitchTurnsUptoRow.holds Tryd.pinned (OpenSpec.upto fitchTurnsSpec)

end Rows
end Go.Proofs.YtbmlkomfelkckaaDoor
