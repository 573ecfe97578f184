/-
  DERIVED. GIVEN WITH THE SEED: THE CARDS: each row of YtgimdodbajhpoaaGreatDoorRows.lean that lists a variable, with what it lists TIED to the program's text (the seventh form; the later family's looks); each row that meets fmt, with fmt's text TOLD by the authors' own Lean function (tested against real Go, not proved from fmt's source: count such statements apart). THE CARD IS WHAT COUNTS. Prove the row's statement (the work); the ties are given (YtgimdodbajhpoaaGreatDoorTie.lean); close each card by the builder's one call (the guide's Derived/Test/ToyasCard.lean, 'card_holds'). Laid BY PROGRAM, IN A SANDBOX (cutbox-door.mjs). By AI agents, Wed Nov 11 2026. No macro, syntax, notation, axiom, sorry.
-/
import Derived.Test.YtgimdodbajhpoaaGreatDoorRows
import GoSem.ClaimSeven
namespace Go.Proofs.YtgimdodbajhpoaaGreatDoor
namespace Rows

/-- THE TIED CARD OF 'cambiumlaw09.PagerNodes'. -/
def pagerNodesCard : Claim7 := { stood := { row := pagerNodesRow, standIns := [], harness := (true, "b621e3ffae8f1c74326ccfb2c3e6ade1e15fc3beac0e5f0361ecdb0bfb287880"), looks := true }, kinds := [], alts := [], laidByText := true, laidKinds := [.data, .pinned], laidTests := true, laidLooks := .later }
def PagerNodesCardSaid : Prop := Claim7.holds Tryz.pinned (.plain (OpenSpec.ofChange pagerNodesSpec)) pagerNodesCard

/-- THE SECOND FORM's CARD OF 'cambiumlaw09.PagerNodes'. -/
def pagerNodesUptoCard : Claim7 := { stood := { row := pagerNodesUptoRow, standIns := [], harness := (true, "b621e3ffae8f1c74326ccfb2c3e6ade1e15fc3beac0e5f0361ecdb0bfb287880"), looks := true }, kinds := [], alts := [], laidByText := true, laidKinds := [.data, .pinned], laidTests := true, laidLooks := .later }
def PagerNodesUptoCardSaid : Prop := Claim7.holds Tryz.pinned (.plain (OpenSpec.upto pagerNodesSpec)) pagerNodesUptoCard
end Rows
end Go.Proofs.YtgimdodbajhpoaaGreatDoor
