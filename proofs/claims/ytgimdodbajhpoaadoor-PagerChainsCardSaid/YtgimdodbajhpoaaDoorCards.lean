/-
  DERIVED. GIVEN WITH THE SEED: THE CARDS: each row of YtgimdodbajhpoaaDoorRows.lean that lists a variable, with what it lists TIED to the program's text (the seventh form; the later family's looks); each row that meets fmt, with fmt's text TOLD by the authors' own Lean function (tested against real Go, not proved from fmt's source: count such statements apart). THE CARD IS WHAT COUNTS. Prove the row's statement (the work); the ties are given (YtgimdodbajhpoaaDoorTie.lean); close each card by the builder's one call (the guide's Derived/Test/ToyasCard.lean, 'card_holds'). Laid BY PROGRAM, IN A SANDBOX (cutbox-door.mjs). By AI agents, Wed Nov 11 2026. No macro, syntax, notation, axiom, sorry.
-/
import Derived.Test.YtgimdodbajhpoaaDoorRows
import GoSem.ClaimSeven
namespace Go.Proofs.YtgimdodbajhpoaaDoor
namespace Rows

/-- THE TIED CARD OF 'cambiumlaw09.PagerChains'. -/
def pagerChainsCard : Claim7 := { stood := { row := pagerChainsRow, standIns := [], harness := (true, "6f91aa6cd0040644437533dea7957066f5003187414b81aecaf1fbebe2449eb4"), looks := true }, kinds := [], alts := [], laidByText := true, laidKinds := [.data, .pinned], laidTests := true, laidLooks := .later }
def PagerChainsCardSaid : Prop := Claim7.holds Tryd.pinned (.plain (OpenSpec.ofChange pagerChainsSpec)) pagerChainsCard

/-- THE SECOND FORM's CARD OF 'cambiumlaw09.PagerChains'. -/
def pagerChainsUptoCard : Claim7 := { stood := { row := pagerChainsUptoRow, standIns := [], harness := (true, "6f91aa6cd0040644437533dea7957066f5003187414b81aecaf1fbebe2449eb4"), looks := true }, kinds := [], alts := [], laidByText := true, laidKinds := [.data, .pinned], laidTests := true, laidLooks := .later }
def PagerChainsUptoCardSaid : Prop := Claim7.holds Tryd.pinned (.plain (OpenSpec.upto pagerChainsSpec)) pagerChainsUptoCard
end Rows
end Go.Proofs.YtgimdodbajhpoaaDoor
