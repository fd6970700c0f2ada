/-
  No cell of these rows narrows 'for every input' (looked for: loops, veiled, ifaces, maps, wideKeys, modest, calm, conditions, laid).
  DERIVED. THE GIVEN ROWS OF THIS SEAT. 5 by the template 'for every input the law returns true; each argument reads behind the call as it read before'; 0 by the template 'total and deterministic' (their statements: YteonpfomlmfkjaaTotals.lean).
  GIVEN WITH THE SEED: the statements are not yours to turn. If you find one false, say at which input.
  Laid BY PROGRAM, IN A SANDBOX (cutbox-rows.mjs): the forced cells as the released guide's own fill.sh prints them over the translation 2a373a273bb843aa… (all of the seat's roots in one cut). By AI agents, Wed Nov 11 2026. No macro, syntax, notation, axiom, sorry.
-/
import Derived.Test.YteonpfomlmfkjaaChecked
import GoSem.Claim
import GoSem.ClaimJoined
import GoSem.ClaimMapViews
import Derived.JoinedTies
import Derived.KernelRfl
namespace Go.Proofs.Yteonpfomlmfkjaa
/- THE CELL 'sum', in the pinned program and in every row, IS THE sha256 OF THE DUMP (.gsa) THAT YteonpfomlmfkjaaProg.lean LOADS. Nothing in Lean hashes anything: it is a label: what it is worth is what the hold of that sum in a sandbox is worth. -/
noncomputable def Try.pinned : Pinned := { name := "yteonpfomlmfkjaa", sum := "2a373a273bb843aa473c8cbf231530190b5231feb4f0edfd7226530c78bd2d2d", checked := Try.checked }
namespace Rows
def none {H : Type} : Left H := { results := [], args := [] }

/-- 'siglumlaw15.RankCycles': WHATEVER THE INPUT: true; the input reads as it did. -/
def rankCyclesSpec : ChangeSpec := { name := "rankCycles", fn := fun _ => fun
  | [d1, d2] => { results := [.lit (.bool true)], args := [d1, d2] }
  | _ => none }
def rankCyclesRow : OpenClaim := { program := "yteonpfomlmfkjaa", sum := "2a373a273bb843aa473c8cbf231530190b5231feb4f0edfd7226530c78bd2d2d", func := "siglum/siglumlaw15.RankCycles", spec := "rankCycles", inPlace := ["slices.overlaps[int]"], unfollowed := true, recurses := true, apart := false }
def RankCyclesSaid : Prop := rankCyclesRow.holds Try.pinned (OpenSpec.ofChange rankCyclesSpec)

/-- ITS FALSE NEIGHBOUR: 'it returns false'. Refute it at one input. -/
def rankCyclesWrong : ChangeSpec := { name := "rankCycles", fn := fun _ => fun
  | [d1, d2] => { results := [.lit (.bool false)], args := [d1, d2] }
  | _ => none }
def RankCyclesWrongFalsely : Prop := rankCyclesRow.holds Try.pinned (OpenSpec.ofChange rankCyclesWrong)

/-- 'siglumlaw15.RankMore': WHATEVER THE INPUT: true; the input reads as it did. -/
def rankMoreSpec : ChangeSpec := { name := "rankMore", fn := fun _ => fun
  | [d] => { results := [.lit (.bool true)], args := [d] }
  | _ => none }
def rankMoreRow : OpenClaim := { program := "yteonpfomlmfkjaa", sum := "2a373a273bb843aa473c8cbf231530190b5231feb4f0edfd7226530c78bd2d2d", func := "siglum/siglumlaw15.RankMore", spec := "rankMore", inPlace := ["slices.overlaps[int]"], unfollowed := true, recurses := true, apart := false }
def RankMoreSaid : Prop := rankMoreRow.holds Try.pinned (OpenSpec.ofChange rankMoreSpec)

/-- ITS FALSE NEIGHBOUR: 'it returns false'. Refute it at one input. -/
def rankMoreWrong : ChangeSpec := { name := "rankMore", fn := fun _ => fun
  | [d] => { results := [.lit (.bool false)], args := [d] }
  | _ => none }
def RankMoreWrongFalsely : Prop := rankMoreRow.holds Try.pinned (OpenSpec.ofChange rankMoreWrong)

/-- 'siglumlaw15.RankOrders': WHATEVER THE INPUT: true; the input reads as it did. -/
def rankOrdersSpec : ChangeSpec := { name := "rankOrders", fn := fun _ => fun
  | [d1, d2] => { results := [.lit (.bool true)], args := [d1, d2] }
  | _ => none }
def rankOrdersRow : OpenClaim := { program := "yteonpfomlmfkjaa", sum := "2a373a273bb843aa473c8cbf231530190b5231feb4f0edfd7226530c78bd2d2d", func := "siglum/siglumlaw15.RankOrders", spec := "rankOrders", inPlace := ["slices.overlaps[int]"], unfollowed := true, recurses := true, apart := false }
def RankOrdersSaid : Prop := rankOrdersRow.holds Try.pinned (OpenSpec.ofChange rankOrdersSpec)

/-- ITS FALSE NEIGHBOUR: 'it returns false'. Refute it at one input. -/
def rankOrdersWrong : ChangeSpec := { name := "rankOrders", fn := fun _ => fun
  | [d1, d2] => { results := [.lit (.bool false)], args := [d1, d2] }
  | _ => none }
def RankOrdersWrongFalsely : Prop := rankOrdersRow.holds Try.pinned (OpenSpec.ofChange rankOrdersWrong)

/-- 'siglumlaw15.RankRises': WHATEVER THE INPUT: true; the input reads as it did. -/
def rankRisesSpec : ChangeSpec := { name := "rankRises", fn := fun _ => fun
  | [d1, d2] => { results := [.lit (.bool true)], args := [d1, d2] }
  | _ => none }
def rankRisesRow : OpenClaim := { program := "yteonpfomlmfkjaa", sum := "2a373a273bb843aa473c8cbf231530190b5231feb4f0edfd7226530c78bd2d2d", func := "siglum/siglumlaw15.RankRises", spec := "rankRises", inPlace := ["slices.overlaps[int]"], unfollowed := true, recurses := true, apart := false }
def RankRisesSaid : Prop := rankRisesRow.holds Try.pinned (OpenSpec.ofChange rankRisesSpec)

/-- ITS FALSE NEIGHBOUR: 'it returns false'. Refute it at one input. -/
def rankRisesWrong : ChangeSpec := { name := "rankRises", fn := fun _ => fun
  | [d1, d2] => { results := [.lit (.bool false)], args := [d1, d2] }
  | _ => none }
def RankRisesWrongFalsely : Prop := rankRisesRow.holds Try.pinned (OpenSpec.ofChange rankRisesWrong)

/-- 'siglumlaw15.RankFewer': WHATEVER THE INPUT: true; the input reads as it did. -/
def rankFewerSpec : ChangeSpec := { name := "rankFewer", fn := fun _ => fun
  | [d1, d2, d3] => { results := [.lit (.bool true)], args := [d1, d2, d3] }
  | _ => none }
def rankFewerRow : OpenClaim := { program := "yteonpfomlmfkjaa", sum := "2a373a273bb843aa473c8cbf231530190b5231feb4f0edfd7226530c78bd2d2d", func := "siglum/siglumlaw15.RankFewer", spec := "rankFewer", inPlace := ["slices.overlaps[int]"], unfollowed := true, recurses := true, apart := false }
def RankFewerSaid : Prop := rankFewerRow.holds Try.pinned (OpenSpec.ofChange rankFewerSpec)

/-- ITS FALSE NEIGHBOUR: 'it returns false'. Refute it at one input. -/
def rankFewerWrong : ChangeSpec := { name := "rankFewer", fn := fun _ => fun
  | [d1, d2, d3] => { results := [.lit (.bool false)], args := [d1, d2, d3] }
  | _ => none }
def RankFewerWrongFalsely : Prop := rankFewerRow.holds Try.pinned (OpenSpec.ofChange rankFewerWrong)

/- THE SECOND FORM. 'bulk': how many values and letters a reading holds, each counted each time it is reached (what is shared counts as often as it is met; a slice's spare places count too). A statement '..UptoSaid' is the law's where the arguments, and the package variables that the reading takes, are together of bulk at most 1048576: NARROWER than '..Said'. Prove '..Said' where nothing that the law and all that it calls make is longer than what came in: it says more and counts as full. Else prove '..UptoSaid'. A law counts once. -/
mutual
def uptoBulk {H : Type} : DataW H → Nat
  | .lit (.string bytes) => bytes.length + 1
  | .lit _ => 1
  | .nil => 1
  | .ptr d => uptoBulk d + 1
  | .slice elems spare => uptoBulkAll elems + uptoBulkAll spare + 1
  | .agg parts => uptoBulkAll parts + 1
  | .iface _ d => uptoBulk d + 1
  | .map entries => uptoBulkEntries entries + 1
  | .held _ => 1
def uptoBulkAll {H : Type} : List (DataW H) → Nat
  | [] => 0
  | d :: r => uptoBulk d + uptoBulkAll r
def uptoBulkEntries {H : Type} : List (Lit × DataW H) → Nat
  | [] => 0
  | x :: r => uptoBulkEntry x + uptoBulkEntries r
def uptoBulkEntry {H : Type} : Lit × DataW H → Nat
  | (.string bytes, d) => bytes.length + uptoBulk d + 1
  | (_, d) => uptoBulk d + 1
 end
def uptoSmall : (H : Type) → List (DataW H) → Bool := fun _ ds => decide (uptoBulkAll ds ≤ 1048576)
def OpenSpec.upto (s : _root_.Go.ChangeSpec) : _root_.Go.OpenSpec := { _root_.Go.OpenSpec.ofChange s with cond := some uptoSmall }

/-- 'siglumlaw15.RankCycles', WHERE WHAT IT READS IS OF BULK AT MOST 1048576: true; the input reads as it did. -/
def rankCyclesUptoRow : OpenClaim := { program := "yteonpfomlmfkjaa", sum := "2a373a273bb843aa473c8cbf231530190b5231feb4f0edfd7226530c78bd2d2d", func := "siglum/siglumlaw15.RankCycles", spec := "rankCycles", inPlace := ["slices.overlaps[int]"], unfollowed := true, recurses := true, apart := false, narrowed := true }
def RankCyclesUptoSaid : Prop := rankCyclesUptoRow.holds Try.pinned (OpenSpec.upto rankCyclesSpec)

/-- 'siglumlaw15.RankMore', WHERE WHAT IT READS IS OF BULK AT MOST 1048576: true; the input reads as it did. -/
def rankMoreUptoRow : OpenClaim := { program := "yteonpfomlmfkjaa", sum := "2a373a273bb843aa473c8cbf231530190b5231feb4f0edfd7226530c78bd2d2d", func := "siglum/siglumlaw15.RankMore", spec := "rankMore", inPlace := ["slices.overlaps[int]"], unfollowed := true, recurses := true, apart := false, narrowed := true }
def RankMoreUptoSaid : Prop := rankMoreUptoRow.holds Try.pinned (OpenSpec.upto rankMoreSpec)

/-- 'siglumlaw15.RankOrders', WHERE WHAT IT READS IS OF BULK AT MOST 1048576: true; the input reads as it did. -/
def rankOrdersUptoRow : OpenClaim := { program := "yteonpfomlmfkjaa", sum := "2a373a273bb843aa473c8cbf231530190b5231feb4f0edfd7226530c78bd2d2d", func := "siglum/siglumlaw15.RankOrders", spec := "rankOrders", inPlace := ["slices.overlaps[int]"], unfollowed := true, recurses := true, apart := false, narrowed := true }
def RankOrdersUptoSaid : Prop := rankOrdersUptoRow.holds Try.pinned (OpenSpec.upto rankOrdersSpec)

/-- 'siglumlaw15.RankRises', WHERE WHAT IT READS IS OF BULK AT MOST 1048576: true; the input reads as it did. -/
def rankRisesUptoRow : OpenClaim := { program := "yteonpfomlmfkjaa", sum := "2a373a273bb843aa473c8cbf231530190b5231feb4f0edfd7226530c78bd2d2d", func := "siglum/siglumlaw15.RankRises", spec := "rankRises", inPlace := ["slices.overlaps[int]"], unfollowed := true, recurses := true, apart := false, narrowed := true }
def RankRisesUptoSaid : Prop := rankRisesUptoRow.holds Try.pinned (OpenSpec.upto rankRisesSpec)

/-- 'siglumlaw15.RankFewer', WHERE WHAT IT READS IS OF BULK AT MOST 1048576: true; the input reads as it did. -/
def rankFewerUptoRow : OpenClaim := { program := "yteonpfomlmfkjaa", sum := "2a373a273bb843aa473c8cbf231530190b5231feb4f0edfd7226530c78bd2d2d", func := "siglum/siglumlaw15.RankFewer", spec := "rankFewer", inPlace := ["slices.overlaps[int]"], unfollowed := true, recurses := true, apart := false, narrowed := true }
def RankFewerUptoSaid : Prop := rankFewerUptoRow.holds Try.pinned (OpenSpec.upto rankFewerSpec)

end Rows
end Go.Proofs.Yteonpfomlmfkjaa
