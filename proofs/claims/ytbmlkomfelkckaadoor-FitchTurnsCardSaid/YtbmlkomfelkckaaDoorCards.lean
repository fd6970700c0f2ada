/-
  DERIVED. GIVEN WITH THE SEED: THE CARDS: each row of YtbmlkomfelkckaaDoorRows.lean that lists a variable, with what it lists TIED to the program's text (the seventh form; the later family's looks); each row that meets fmt, with fmt's text TOLD by the authors' own Lean function (tested against real Go, not proved from fmt's source: count such statements apart). THE CARD IS WHAT COUNTS. Prove the row's statement (the work); the ties are given (YtbmlkomfelkckaaDoorTie.lean); close each card by the builder's one call (the guide's Derived/Test/ToyasCard.lean, 'card_holds'). Laid BY PROGRAM, IN A SANDBOX (cutbox-door.mjs). By AI agents, Wed Nov 11 2026. No macro, syntax, notation, axiom, sorry.
-/
import Derived.Test.YtbmlkomfelkckaaDoorRows
import GoSem.ClaimSeven
namespace Go.Proofs.YtbmlkomfelkckaaDoor
namespace Rows

/-- THE TIED CARD OF 'siglumlaw21.FitchLeast'. -/
def fitchLeastCard : Claim7 := { stood := { row := fitchLeastRow, standIns := [], harness := (true, "8428e75131b9b625fb0b21c2efe0a723847438bb1fefefff96f78b60e706208f"), looks := false }, kinds := [], alts := [], laidByText := true, laidKinds := [.data, .data], laidTests := true, laidLooks := .later }
def FitchLeastCardSaid : Prop := Claim7.holds Tryd.pinned (.plain (OpenSpec.ofChange fitchLeastSpec)) fitchLeastCard

/-- THE TIED CARD OF 'siglumlaw21.FitchBounds'. -/
def fitchBoundsCard : Claim7 := { stood := { row := fitchBoundsRow, standIns := [], harness := (true, "8428e75131b9b625fb0b21c2efe0a723847438bb1fefefff96f78b60e706208f"), looks := false }, kinds := [], alts := [], laidByText := true, laidKinds := [.data, .data], laidTests := true, laidLooks := .later }
def FitchBoundsCardSaid : Prop := Claim7.holds Tryd.pinned (.plain (OpenSpec.ofChange fitchBoundsSpec)) fitchBoundsCard

/-- THE TIED CARD OF 'siglumlaw21.FitchSites'. -/
def fitchSitesCard : Claim7 := { stood := { row := fitchSitesRow, standIns := [], harness := (true, "8428e75131b9b625fb0b21c2efe0a723847438bb1fefefff96f78b60e706208f"), looks := false }, kinds := [], alts := [], laidByText := true, laidKinds := [.data, .data], laidTests := true, laidLooks := .later }
def FitchSitesCardSaid : Prop := Claim7.holds Tryd.pinned (.plain (OpenSpec.ofChange fitchSitesSpec)) fitchSitesCard

/-- THE TIED CARD OF 'siglumlaw21.FitchStates'. -/
def fitchStatesCard : Claim7 := { stood := { row := fitchStatesRow, standIns := [], harness := (true, "8428e75131b9b625fb0b21c2efe0a723847438bb1fefefff96f78b60e706208f"), looks := false }, kinds := [], alts := [], laidByText := true, laidKinds := [.data, .data], laidTests := true, laidLooks := .later }
def FitchStatesCardSaid : Prop := Claim7.holds Tryd.pinned (.plain (OpenSpec.ofChange fitchStatesSpec)) fitchStatesCard

/-- THE TIED CARD OF 'siglumlaw21.FitchBack'. -/
def fitchBackCard : Claim7 := { stood := { row := fitchBackRow, standIns := [], harness := (true, "8428e75131b9b625fb0b21c2efe0a723847438bb1fefefff96f78b60e706208f"), looks := false }, kinds := [], alts := [], laidByText := true, laidKinds := [.data, .data], laidTests := true, laidLooks := .later }
def FitchBackCardSaid : Prop := Claim7.holds Tryd.pinned (.plain (OpenSpec.ofChange fitchBackSpec)) fitchBackCard

/-- THE TIED CARD OF 'siglumlaw21.FitchTurns'. -/
def fitchTurnsCard : Claim7 := { stood := { row := fitchTurnsRow, standIns := [], harness := (true, "8428e75131b9b625fb0b21c2efe0a723847438bb1fefefff96f78b60e706208f"), looks := false }, kinds := [], alts := [], laidByText := true, laidKinds := [.data, .data], laidTests := true, laidLooks := .later }
def FitchTurnsCardSaid : Prop := Claim7.holds Tryd.pinned (.plain (OpenSpec.ofChange fitchTurnsSpec)) fitchTurnsCard

/-- THE SECOND FORM's CARD OF 'siglumlaw21.FitchLeast'. -/
def fitchLeastUptoCard : Claim7 := { stood := { row := fitchLeastUptoRow, standIns := [], harness := (true, "8428e75131b9b625fb0b21c2efe0a723847438bb1fefefff96f78b60e706208f"), looks := false }, kinds := [], alts := [], laidByText := true, laidKinds := [.data, .data], laidTests := true, laidLooks := .later }
def FitchLeastUptoCardSaid : Prop := Claim7.holds Tryd.pinned (.plain (OpenSpec.upto fitchLeastSpec)) fitchLeastUptoCard

/-- THE SECOND FORM's CARD OF 'siglumlaw21.FitchBounds'. -/
def fitchBoundsUptoCard : Claim7 := { stood := { row := fitchBoundsUptoRow, standIns := [], harness := (true, "8428e75131b9b625fb0b21c2efe0a723847438bb1fefefff96f78b60e706208f"), looks := false }, kinds := [], alts := [], laidByText := true, laidKinds := [.data, .data], laidTests := true, laidLooks := .later }
def FitchBoundsUptoCardSaid : Prop := Claim7.holds Tryd.pinned (.plain (OpenSpec.upto fitchBoundsSpec)) fitchBoundsUptoCard

/-- THE SECOND FORM's CARD OF 'siglumlaw21.FitchSites'. -/
def fitchSitesUptoCard : Claim7 := { stood := { row := fitchSitesUptoRow, standIns := [], harness := (true, "8428e75131b9b625fb0b21c2efe0a723847438bb1fefefff96f78b60e706208f"), looks := false }, kinds := [], alts := [], laidByText := true, laidKinds := [.data, .data], laidTests := true, laidLooks := .later }
def FitchSitesUptoCardSaid : Prop := Claim7.holds Tryd.pinned (.plain (OpenSpec.upto fitchSitesSpec)) fitchSitesUptoCard

/-- THE SECOND FORM's CARD OF 'siglumlaw21.FitchStates'. -/
def fitchStatesUptoCard : Claim7 := { stood := { row := fitchStatesUptoRow, standIns := [], harness := (true, "8428e75131b9b625fb0b21c2efe0a723847438bb1fefefff96f78b60e706208f"), looks := false }, kinds := [], alts := [], laidByText := true, laidKinds := [.data, .data], laidTests := true, laidLooks := .later }
def FitchStatesUptoCardSaid : Prop := Claim7.holds Tryd.pinned (.plain (OpenSpec.upto fitchStatesSpec)) fitchStatesUptoCard

/-- THE SECOND FORM's CARD OF 'siglumlaw21.FitchBack'. -/
def fitchBackUptoCard : Claim7 := { stood := { row := fitchBackUptoRow, standIns := [], harness := (true, "8428e75131b9b625fb0b21c2efe0a723847438bb1fefefff96f78b60e706208f"), looks := false }, kinds := [], alts := [], laidByText := true, laidKinds := [.data, .data], laidTests := true, laidLooks := .later }
def FitchBackUptoCardSaid : Prop := Claim7.holds Tryd.pinned (.plain (OpenSpec.upto fitchBackSpec)) fitchBackUptoCard

/-- THE SECOND FORM's CARD OF 'siglumlaw21.FitchTurns'. -/
def fitchTurnsUptoCard : Claim7 := { stood := { row := fitchTurnsUptoRow, standIns := [], harness := (true, "8428e75131b9b625fb0b21c2efe0a723847438bb1fefefff96f78b60e706208f"), looks := false }, kinds := [], alts := [], laidByText := true, laidKinds := [.data, .data], laidTests := true, laidLooks := .later }
def FitchTurnsUptoCardSaid : Prop := Claim7.holds Tryd.pinned (.plain (OpenSpec.upto fitchTurnsSpec)) fitchTurnsUptoCard
end Rows
end Go.Proofs.YtbmlkomfelkckaaDoor
