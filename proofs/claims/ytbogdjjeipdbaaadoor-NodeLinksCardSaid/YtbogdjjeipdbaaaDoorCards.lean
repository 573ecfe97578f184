/-
  DERIVED. GIVEN WITH THE SEED: THE CARDS: each row of YtbogdjjeipdbaaaDoorRows.lean that lists a variable, with what it lists TIED to the program's text (the seventh form; the later family's looks); each row that meets fmt, with fmt's text TOLD by the authors' own Lean function (tested against real Go, not proved from fmt's source: count such statements apart). THE CARD IS WHAT COUNTS. Prove the row's statement (the work); the ties are given (YtbogdjjeipdbaaaDoorTie.lean); close each card by the builder's one call (the guide's Derived/Test/ToyasCard.lean, 'card_holds'). Laid BY PROGRAM, IN A SANDBOX (cutbox-door.mjs). By AI agents, Wed Nov 11 2026. No macro, syntax, notation, axiom, sorry.
-/
import Derived.Test.YtbogdjjeipdbaaaDoorRows
import GoSem.ClaimSeven
namespace Go.Proofs.YtbogdjjeipdbaaaDoor
namespace Rows

/-- THE TIED CARD OF 'cambiumlaw08.NodeCells'. -/
def nodeCellsCard : Claim7 := { stood := { row := nodeCellsRow, standIns := [], harness := (true, "de098815017b70d214fda9e297aa3575720eb6520a77e6a0c7d1f9840c359cc5"), looks := true }, kinds := [], alts := [], laidByText := true, laidKinds := [.data, .pinned], laidTests := true, laidLooks := .later }
def NodeCellsCardSaid : Prop := Claim7.holds Tryd.pinned (.plain (OpenSpec.ofChange nodeCellsSpec)) nodeCellsCard

/-- THE TIED CARD OF 'cambiumlaw08.NodeMay'. -/
def nodeMayCard : Claim7 := { stood := { row := nodeMayRow, standIns := [], harness := (true, "de098815017b70d214fda9e297aa3575720eb6520a77e6a0c7d1f9840c359cc5"), looks := true }, kinds := [], alts := [], laidByText := true, laidKinds := [.data, .pinned], laidTests := true, laidLooks := .later }
def NodeMayCardSaid : Prop := Claim7.holds Tryd.pinned (.plain (OpenSpec.ofChange nodeMaySpec)) nodeMayCard

/-- THE TIED CARD OF 'cambiumlaw08.NodeLinks'. -/
def nodeLinksCard : Claim7 := { stood := { row := nodeLinksRow, standIns := [], harness := (true, "de098815017b70d214fda9e297aa3575720eb6520a77e6a0c7d1f9840c359cc5"), looks := true }, kinds := [], alts := [], laidByText := true, laidKinds := [.data, .pinned], laidTests := true, laidLooks := .later }
def NodeLinksCardSaid : Prop := Claim7.holds Tryd.pinned (.plain (OpenSpec.ofChange nodeLinksSpec)) nodeLinksCard

/-- THE SECOND FORM's CARD OF 'cambiumlaw08.NodeCells'. -/
def nodeCellsUptoCard : Claim7 := { stood := { row := nodeCellsUptoRow, standIns := [], harness := (true, "de098815017b70d214fda9e297aa3575720eb6520a77e6a0c7d1f9840c359cc5"), looks := true }, kinds := [], alts := [], laidByText := true, laidKinds := [.data, .pinned], laidTests := true, laidLooks := .later }
def NodeCellsUptoCardSaid : Prop := Claim7.holds Tryd.pinned (.plain (OpenSpec.upto nodeCellsSpec)) nodeCellsUptoCard

/-- THE SECOND FORM's CARD OF 'cambiumlaw08.NodeMay'. -/
def nodeMayUptoCard : Claim7 := { stood := { row := nodeMayUptoRow, standIns := [], harness := (true, "de098815017b70d214fda9e297aa3575720eb6520a77e6a0c7d1f9840c359cc5"), looks := true }, kinds := [], alts := [], laidByText := true, laidKinds := [.data, .pinned], laidTests := true, laidLooks := .later }
def NodeMayUptoCardSaid : Prop := Claim7.holds Tryd.pinned (.plain (OpenSpec.upto nodeMaySpec)) nodeMayUptoCard

/-- THE SECOND FORM's CARD OF 'cambiumlaw08.NodeLinks'. -/
def nodeLinksUptoCard : Claim7 := { stood := { row := nodeLinksUptoRow, standIns := [], harness := (true, "de098815017b70d214fda9e297aa3575720eb6520a77e6a0c7d1f9840c359cc5"), looks := true }, kinds := [], alts := [], laidByText := true, laidKinds := [.data, .pinned], laidTests := true, laidLooks := .later }
def NodeLinksUptoCardSaid : Prop := Claim7.holds Tryd.pinned (.plain (OpenSpec.upto nodeLinksSpec)) nodeLinksUptoCard
end Rows
end Go.Proofs.YtbogdjjeipdbaaaDoor
