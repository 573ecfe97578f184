/-
  DERIVED. GIVEN WITH THE SEED: THE CARDS: each row of YtpdkkokgpdabhaaDoorRows.lean that lists a variable, with what it lists TIED to the program's text (the seventh form; the later family's looks); each row that meets fmt, with fmt's text TOLD by the authors' own Lean function (tested against real Go, not proved from fmt's source: count such statements apart). THE CARD IS WHAT COUNTS. Prove the row's statement (the work); the ties are given (YtpdkkokgpdabhaaDoorTie.lean); close each card by the builder's one call (the guide's Derived/Test/ToyasCard.lean, 'card_holds'). Laid BY PROGRAM, IN A SANDBOX (cutbox-door.mjs). By AI agents, Wed Nov 11 2026. No macro, syntax, notation, axiom, sorry.
-/
import Derived.Test.YtpdkkokgpdabhaaDoorRows
import GoSem.ClaimSeven
namespace Go.Proofs.YtpdkkokgpdabhaaDoor
namespace Rows

/-- THE TIED CARD OF 'cambiumlaw12.RootsTell'. -/
def rootsTellCard : Claim7 := { stood := { row := rootsTellRow, standIns := [], harness := (true, "12ea382c8308baf84955dc4bff27640cda874ace55389946f5bd9535d704b397"), looks := false }, kinds := [], alts := [], laidByText := true, laidKinds := [.data, .pinned], laidTests := true, laidLooks := .later }
def RootsTellCardSaid : Prop := Claim7.holds Tryd.pinned (.plain (OpenSpec.ofChange rootsTellSpec)) rootsTellCard

/-- THE TIED CARD OF 'cambiumlaw12.RootsChange'. -/
def rootsChangeCard : Claim7 := { stood := { row := rootsChangeRow, standIns := [], harness := (true, "12ea382c8308baf84955dc4bff27640cda874ace55389946f5bd9535d704b397"), looks := false }, kinds := [], alts := [], laidByText := true, laidKinds := [.data, .pinned], laidTests := true, laidLooks := .later }
def RootsChangeCardSaid : Prop := Claim7.holds Tryd.pinned (.plain (OpenSpec.ofChange rootsChangeSpec)) rootsChangeCard

/-- THE TIED CARD OF 'cambiumlaw12.RootsOrder'. -/
def rootsOrderCard : Claim7 := { stood := { row := rootsOrderRow, standIns := [], harness := (true, "12ea382c8308baf84955dc4bff27640cda874ace55389946f5bd9535d704b397"), looks := false }, kinds := [], alts := [], laidByText := true, laidKinds := [.data, .pinned], laidTests := true, laidLooks := .later }
def RootsOrderCardSaid : Prop := Claim7.holds Tryd.pinned (.plain (OpenSpec.ofChange rootsOrderSpec)) rootsOrderCard

/-- THE TIED CARD OF 'cambiumlaw12.RootsFull'. -/
def rootsFullCard : Claim7 := { stood := { row := rootsFullRow, standIns := [], harness := (true, "12ea382c8308baf84955dc4bff27640cda874ace55389946f5bd9535d704b397"), looks := false }, kinds := [], alts := [], laidByText := true, laidKinds := [.data, .pinned], laidTests := true, laidLooks := .later }
def RootsFullCardSaid : Prop := Claim7.holds Tryd.pinned (.plain (OpenSpec.ofChange rootsFullSpec)) rootsFullCard

/-- THE SECOND FORM's CARD OF 'cambiumlaw12.RootsTell'. -/
def rootsTellUptoCard : Claim7 := { stood := { row := rootsTellUptoRow, standIns := [], harness := (true, "12ea382c8308baf84955dc4bff27640cda874ace55389946f5bd9535d704b397"), looks := false }, kinds := [], alts := [], laidByText := true, laidKinds := [.data, .pinned], laidTests := true, laidLooks := .later }
def RootsTellUptoCardSaid : Prop := Claim7.holds Tryd.pinned (.plain (OpenSpec.upto rootsTellSpec)) rootsTellUptoCard

/-- THE SECOND FORM's CARD OF 'cambiumlaw12.RootsChange'. -/
def rootsChangeUptoCard : Claim7 := { stood := { row := rootsChangeUptoRow, standIns := [], harness := (true, "12ea382c8308baf84955dc4bff27640cda874ace55389946f5bd9535d704b397"), looks := false }, kinds := [], alts := [], laidByText := true, laidKinds := [.data, .pinned], laidTests := true, laidLooks := .later }
def RootsChangeUptoCardSaid : Prop := Claim7.holds Tryd.pinned (.plain (OpenSpec.upto rootsChangeSpec)) rootsChangeUptoCard

/-- THE SECOND FORM's CARD OF 'cambiumlaw12.RootsOrder'. -/
def rootsOrderUptoCard : Claim7 := { stood := { row := rootsOrderUptoRow, standIns := [], harness := (true, "12ea382c8308baf84955dc4bff27640cda874ace55389946f5bd9535d704b397"), looks := false }, kinds := [], alts := [], laidByText := true, laidKinds := [.data, .pinned], laidTests := true, laidLooks := .later }
def RootsOrderUptoCardSaid : Prop := Claim7.holds Tryd.pinned (.plain (OpenSpec.upto rootsOrderSpec)) rootsOrderUptoCard

/-- THE SECOND FORM's CARD OF 'cambiumlaw12.RootsFull'. -/
def rootsFullUptoCard : Claim7 := { stood := { row := rootsFullUptoRow, standIns := [], harness := (true, "12ea382c8308baf84955dc4bff27640cda874ace55389946f5bd9535d704b397"), looks := false }, kinds := [], alts := [], laidByText := true, laidKinds := [.data, .pinned], laidTests := true, laidLooks := .later }
def RootsFullUptoCardSaid : Prop := Claim7.holds Tryd.pinned (.plain (OpenSpec.upto rootsFullSpec)) rootsFullUptoCard
end Rows
end Go.Proofs.YtpdkkokgpdabhaaDoor
