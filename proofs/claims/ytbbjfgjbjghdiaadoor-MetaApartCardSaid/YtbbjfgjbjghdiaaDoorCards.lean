/-
  DERIVED. GIVEN WITH THE SEED: THE CARDS: each row of YtbbjfgjbjghdiaaDoorRows.lean that lists a variable, with what it lists TIED to the program's text (the seventh form; the later family's looks); each row that meets fmt, with fmt's text TOLD by the authors' own Lean function (tested against real Go, not proved from fmt's source: count such statements apart). THE CARD IS WHAT COUNTS. Prove the row's statement (the work); the ties are given (YtbbjfgjbjghdiaaDoorTie.lean); close each card by the builder's one call (the guide's Derived/Test/ToyasCard.lean, 'card_holds'). Laid BY PROGRAM, IN A SANDBOX (cutbox-door.mjs). By AI agents, Wed Nov 11 2026. No macro, syntax, notation, axiom, sorry.
-/
import Derived.Test.YtbbjfgjbjghdiaaDoorRows
import GoSem.ClaimSeven
namespace Go.Proofs.YtbbjfgjbjghdiaaDoor
namespace Rows

/-- THE TIED CARD OF 'cambiumlaw06.MetaTells'. -/
def metaTellsCard : Claim7 := { stood := { row := metaTellsRow, standIns := [], harness := (true, "ab98cf0639b5f35facd6835187a2530bf053652ef13986d885c9a4703ce767eb"), looks := false }, kinds := [], alts := [], laidByText := true, laidKinds := [.data, .pinned], laidTests := true, laidLooks := .later }
def MetaTellsCardSaid : Prop := Claim7.holds Tryd.pinned (.plain (OpenSpec.ofChange metaTellsSpec)) metaTellsCard

/-- THE TIED CARD OF 'cambiumlaw06.MetaApart'. -/
def metaApartCard : Claim7 := { stood := { row := metaApartRow, standIns := [], harness := (true, "ab98cf0639b5f35facd6835187a2530bf053652ef13986d885c9a4703ce767eb"), looks := false }, kinds := [], alts := [], laidByText := true, laidKinds := [.data, .pinned], laidTests := true, laidLooks := .later }
def MetaApartCardSaid : Prop := Claim7.holds Tryd.pinned (.plain (OpenSpec.ofChange metaApartSpec)) metaApartCard

/-- THE TIED CARD OF 'cambiumlaw06.MetaNewest'. -/
def metaNewestCard : Claim7 := { stood := { row := metaNewestRow, standIns := [], harness := (true, "ab98cf0639b5f35facd6835187a2530bf053652ef13986d885c9a4703ce767eb"), looks := false }, kinds := [], alts := [], laidByText := true, laidKinds := [.data, .pinned], laidTests := true, laidLooks := .later }
def MetaNewestCardSaid : Prop := Claim7.holds Tryd.pinned (.plain (OpenSpec.ofChange metaNewestSpec)) metaNewestCard

/-- THE TIED CARD OF 'cambiumlaw06.MetaPlays'. -/
def metaPlaysCard : Claim7 := { stood := { row := metaPlaysRow, standIns := [], harness := (true, "ab98cf0639b5f35facd6835187a2530bf053652ef13986d885c9a4703ce767eb"), looks := false }, kinds := [], alts := [], laidByText := true, laidKinds := [.data, .pinned], laidTests := true, laidLooks := .later }
def MetaPlaysCardSaid : Prop := Claim7.holds Tryd.pinned (.plain (OpenSpec.ofChange metaPlaysSpec)) metaPlaysCard

/-- THE TIED CARD OF 'cambiumlaw06.MetaTurns'. -/
def metaTurnsCard : Claim7 := { stood := { row := metaTurnsRow, standIns := [], harness := (true, "ab98cf0639b5f35facd6835187a2530bf053652ef13986d885c9a4703ce767eb"), looks := false }, kinds := [], alts := [], laidByText := true, laidKinds := [.data, .pinned], laidTests := true, laidLooks := .later }
def MetaTurnsCardSaid : Prop := Claim7.holds Tryd.pinned (.plain (OpenSpec.ofChange metaTurnsSpec)) metaTurnsCard

/-- THE SECOND FORM's CARD OF 'cambiumlaw06.MetaTells'. -/
def metaTellsUptoCard : Claim7 := { stood := { row := metaTellsUptoRow, standIns := [], harness := (true, "ab98cf0639b5f35facd6835187a2530bf053652ef13986d885c9a4703ce767eb"), looks := false }, kinds := [], alts := [], laidByText := true, laidKinds := [.data, .pinned], laidTests := true, laidLooks := .later }
def MetaTellsUptoCardSaid : Prop := Claim7.holds Tryd.pinned (.plain (OpenSpec.upto metaTellsSpec)) metaTellsUptoCard

/-- THE SECOND FORM's CARD OF 'cambiumlaw06.MetaApart'. -/
def metaApartUptoCard : Claim7 := { stood := { row := metaApartUptoRow, standIns := [], harness := (true, "ab98cf0639b5f35facd6835187a2530bf053652ef13986d885c9a4703ce767eb"), looks := false }, kinds := [], alts := [], laidByText := true, laidKinds := [.data, .pinned], laidTests := true, laidLooks := .later }
def MetaApartUptoCardSaid : Prop := Claim7.holds Tryd.pinned (.plain (OpenSpec.upto metaApartSpec)) metaApartUptoCard

/-- THE SECOND FORM's CARD OF 'cambiumlaw06.MetaNewest'. -/
def metaNewestUptoCard : Claim7 := { stood := { row := metaNewestUptoRow, standIns := [], harness := (true, "ab98cf0639b5f35facd6835187a2530bf053652ef13986d885c9a4703ce767eb"), looks := false }, kinds := [], alts := [], laidByText := true, laidKinds := [.data, .pinned], laidTests := true, laidLooks := .later }
def MetaNewestUptoCardSaid : Prop := Claim7.holds Tryd.pinned (.plain (OpenSpec.upto metaNewestSpec)) metaNewestUptoCard

/-- THE SECOND FORM's CARD OF 'cambiumlaw06.MetaPlays'. -/
def metaPlaysUptoCard : Claim7 := { stood := { row := metaPlaysUptoRow, standIns := [], harness := (true, "ab98cf0639b5f35facd6835187a2530bf053652ef13986d885c9a4703ce767eb"), looks := false }, kinds := [], alts := [], laidByText := true, laidKinds := [.data, .pinned], laidTests := true, laidLooks := .later }
def MetaPlaysUptoCardSaid : Prop := Claim7.holds Tryd.pinned (.plain (OpenSpec.upto metaPlaysSpec)) metaPlaysUptoCard

/-- THE SECOND FORM's CARD OF 'cambiumlaw06.MetaTurns'. -/
def metaTurnsUptoCard : Claim7 := { stood := { row := metaTurnsUptoRow, standIns := [], harness := (true, "ab98cf0639b5f35facd6835187a2530bf053652ef13986d885c9a4703ce767eb"), looks := false }, kinds := [], alts := [], laidByText := true, laidKinds := [.data, .pinned], laidTests := true, laidLooks := .later }
def MetaTurnsUptoCardSaid : Prop := Claim7.holds Tryd.pinned (.plain (OpenSpec.upto metaTurnsSpec)) metaTurnsUptoCard
end Rows
end Go.Proofs.YtbbjfgjbjghdiaaDoor
