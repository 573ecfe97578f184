/-
  DERIVED. GIVEN WITH THE SEED: THE CARDS: each row of YtibkhdlddllcjaaDoorRows.lean that lists a variable, with what it lists TIED to the program's text (the seventh form; the later family's looks); each row that meets fmt, with fmt's text TOLD by the authors' own Lean function (tested against real Go, not proved from fmt's source: count such statements apart). THE CARD IS WHAT COUNTS. Prove the row's statement (the work); the ties are given (YtibkhdlddllcjaaDoorTie.lean); close each card by the builder's one call (the guide's Derived/Test/ToyasCard.lean, 'card_holds'). Laid BY PROGRAM, IN A SANDBOX (cutbox-door.mjs). By AI agents, Wed Nov 11 2026. No macro, syntax, notation, axiom, sorry.
-/
import Derived.Test.YtibkhdlddllcjaaDoorRows
import GoSem.ClaimSeven
namespace Go.Proofs.YtibkhdlddllcjaaDoor
namespace Rows

/-- THE TIED CARD OF 'cambiumlaw07.PoolTells'. -/
def poolTellsCard : Claim7 := { stood := { row := poolTellsRow, standIns := [], harness := (true, "5355255567e321acfb07dbb5ca773b073661519e6903d029cbd9138f59589150"), looks := false }, kinds := [], alts := [], laidByText := true, laidKinds := [.data, .pinned], laidTests := true, laidLooks := .later }
def PoolTellsCardSaid : Prop := Claim7.holds Tryd.pinned (.plain (OpenSpec.ofChange poolTellsSpec)) poolTellsCard

/-- THE TIED CARD OF 'cambiumlaw07.PoolPieces'. -/
def poolPiecesCard : Claim7 := { stood := { row := poolPiecesRow, standIns := [], harness := (true, "5355255567e321acfb07dbb5ca773b073661519e6903d029cbd9138f59589150"), looks := false }, kinds := [], alts := [], laidByText := true, laidKinds := [.data, .pinned], laidTests := true, laidLooks := .later }
def PoolPiecesCardSaid : Prop := Claim7.holds Tryd.pinned (.plain (OpenSpec.ofChange poolPiecesSpec)) poolPiecesCard

/-- THE SECOND FORM's CARD OF 'cambiumlaw07.PoolTells'. -/
def poolTellsUptoCard : Claim7 := { stood := { row := poolTellsUptoRow, standIns := [], harness := (true, "5355255567e321acfb07dbb5ca773b073661519e6903d029cbd9138f59589150"), looks := false }, kinds := [], alts := [], laidByText := true, laidKinds := [.data, .pinned], laidTests := true, laidLooks := .later }
def PoolTellsUptoCardSaid : Prop := Claim7.holds Tryd.pinned (.plain (OpenSpec.upto poolTellsSpec)) poolTellsUptoCard

/-- THE SECOND FORM's CARD OF 'cambiumlaw07.PoolPieces'. -/
def poolPiecesUptoCard : Claim7 := { stood := { row := poolPiecesUptoRow, standIns := [], harness := (true, "5355255567e321acfb07dbb5ca773b073661519e6903d029cbd9138f59589150"), looks := false }, kinds := [], alts := [], laidByText := true, laidKinds := [.data, .pinned], laidTests := true, laidLooks := .later }
def PoolPiecesUptoCardSaid : Prop := Claim7.holds Tryd.pinned (.plain (OpenSpec.upto poolPiecesSpec)) poolPiecesUptoCard
end Rows
end Go.Proofs.YtibkhdlddllcjaaDoor
