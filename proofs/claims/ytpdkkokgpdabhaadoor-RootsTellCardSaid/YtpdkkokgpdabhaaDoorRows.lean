/-
  NARROWER THAN 'FOR EVERY INPUT', by the rows' own cells (each row's printed sentence says how): RootsTell: laid · RootsChange: laid · RootsOrder: laid · RootsFull: laid.
  DERIVED. THE GIVEN ROWS OF THIS SEAT. 4 by the template 'for every input the law returns true; each argument reads behind the call as it read before'; 0 by the template 'total and deterministic' (their statements: YtpdkkokgpdabhaaDoorTotals.lean).
  GIVEN WITH THE SEED: the statements are not yours to turn. If you find one false, say at which input.
  Laid BY PROGRAM, IN A SANDBOX (cutbox-rows.mjs): the forced cells as the released guide's own fill.sh prints them over the translation 53d391a42b8497f3… (all of the seat's roots in one cut). By AI agents, Wed Nov 11 2026. No macro, syntax, notation, axiom, sorry.
-/
import Derived.Test.YtpdkkokgpdabhaaDoorChecked
import GoSem.PinnedTables
import GoSem.Claim
import GoSem.ClaimJoined
import GoSem.ClaimMapViews
import Derived.JoinedTies
import Derived.KernelRfl
namespace Go.Proofs.YtpdkkokgpdabhaaDoor
/- THE CELL 'sum', in the pinned program and in every row, IS THE sha256 OF THE DUMP (.gsa) THAT YtpdkkokgpdabhaaDoorProg.lean LOADS. Nothing in Lean hashes anything: it is a label: what it is worth is what the hold of that sum in a sandbox is worth. -/
noncomputable def Tryd.pinned : Pinned := { name := "ytpdkkokgpdabhaadoor", sum := "53d391a42b8497f385b4b6950147450a64505b0410fddc7a64663a94bad82858", checked := Tryd.checked }
namespace Rows
def none {H : Type} : Left H := { results := [], args := [] }

/- WHAT THE LISTED PACKAGE-LEVEL VARIABLES READ AS WHEN THE CALL BEGINS. Each datum BY PROGRAM (the guide's laid-datum.mjs) off the statement by which the dump's own 'gosem.cut.vars' lays the variable. In a bare row this is a premise. The card (YtpdkkokgpdabhaaDoorCards.lean) ties it to the program's text. -/
def laid_unicode_utf8_acceptRanges {H : Type} : DataW H := .agg [.agg [.lit (.int .u8 128), .lit (.int .u8 191)], .agg [.lit (.int .u8 160), .lit (.int .u8 191)], .agg [.lit (.int .u8 128), .lit (.int .u8 159)], .agg [.lit (.int .u8 144), .lit (.int .u8 191)], .agg [.lit (.int .u8 128), .lit (.int .u8 143)], .agg [.lit (.int .u8 0), .lit (.int .u8 0)], .agg [.lit (.int .u8 0), .lit (.int .u8 0)], .agg [.lit (.int .u8 0), .lit (.int .u8 0)], .agg [.lit (.int .u8 0), .lit (.int .u8 0)], .agg [.lit (.int .u8 0), .lit (.int .u8 0)], .agg [.lit (.int .u8 0), .lit (.int .u8 0)], .agg [.lit (.int .u8 0), .lit (.int .u8 0)], .agg [.lit (.int .u8 0), .lit (.int .u8 0)], .agg [.lit (.int .u8 0), .lit (.int .u8 0)], .agg [.lit (.int .u8 0), .lit (.int .u8 0)], .agg [.lit (.int .u8 0), .lit (.int .u8 0)]]
/-- One of Go's own tables, pinned by name: the form's constant. -/
def laid_unicode_utf8_first : DataW Unit := Go.Pinned.utf8First

/-- 'cambiumlaw12.RootsTell': WHATEVER THE INPUT: true; the input reads as it did. -/
def rootsTellSpec : ChangeSpec := { name := "rootsTell", fn := fun _ => fun
  | [d1, d2] => { results := [.lit (.bool true)], args := [d1, d2] }
  | _ => none }
def rootsTellRow : OpenClaim := { program := "ytpdkkokgpdabhaadoor", sum := "53d391a42b8497f385b4b6950147450a64505b0410fddc7a64663a94bad82858", func := "cambium/cambiumlaw12.RootsTell", spec := "rootsTell", inPlace := ["internal/bytealg.abigen_runtime_cmpstring", "slices.overlaps[cambium/api.Root]"], unfollowed := true, recurses := true, named := ["unicode/utf8.first", "unicode/utf8.acceptRanges"], apart := false, laid := [("unicode/utf8.acceptRanges", laid_unicode_utf8_acceptRanges), ("unicode/utf8.first", laid_unicode_utf8_first)] }
def RootsTellSaid : Prop := rootsTellRow.holds Tryd.pinned (OpenSpec.ofChange rootsTellSpec)

/-- ITS FALSE NEIGHBOUR: 'it returns false'. Refute it at one input. -/
def rootsTellWrong : ChangeSpec := { name := "rootsTell", fn := fun _ => fun
  | [d1, d2] => { results := [.lit (.bool false)], args := [d1, d2] }
  | _ => none }
def RootsTellWrongFalsely : Prop := rootsTellRow.holds Tryd.pinned (OpenSpec.ofChange rootsTellWrong)

/-- 'cambiumlaw12.RootsChange': WHATEVER THE INPUT: true; the input reads as it did. -/
def rootsChangeSpec : ChangeSpec := { name := "rootsChange", fn := fun _ => fun
  | [d1, d2, d3] => { results := [.lit (.bool true)], args := [d1, d2, d3] }
  | _ => none }
def rootsChangeRow : OpenClaim := { program := "ytpdkkokgpdabhaadoor", sum := "53d391a42b8497f385b4b6950147450a64505b0410fddc7a64663a94bad82858", func := "cambium/cambiumlaw12.RootsChange", spec := "rootsChange", inPlace := ["internal/bytealg.abigen_runtime_cmpstring", "slices.overlaps[cambium/api.Root]"], unfollowed := true, recurses := true, named := ["unicode/utf8.first", "unicode/utf8.acceptRanges"], apart := false, laid := [("unicode/utf8.acceptRanges", laid_unicode_utf8_acceptRanges), ("unicode/utf8.first", laid_unicode_utf8_first)] }
def RootsChangeSaid : Prop := rootsChangeRow.holds Tryd.pinned (OpenSpec.ofChange rootsChangeSpec)

/-- ITS FALSE NEIGHBOUR: 'it returns false'. Refute it at one input. -/
def rootsChangeWrong : ChangeSpec := { name := "rootsChange", fn := fun _ => fun
  | [d1, d2, d3] => { results := [.lit (.bool false)], args := [d1, d2, d3] }
  | _ => none }
def RootsChangeWrongFalsely : Prop := rootsChangeRow.holds Tryd.pinned (OpenSpec.ofChange rootsChangeWrong)

/-- 'cambiumlaw12.RootsOrder': WHATEVER THE INPUT: true; the input reads as it did. -/
def rootsOrderSpec : ChangeSpec := { name := "rootsOrder", fn := fun _ => fun
  | [d] => { results := [.lit (.bool true)], args := [d] }
  | _ => none }
def rootsOrderRow : OpenClaim := { program := "ytpdkkokgpdabhaadoor", sum := "53d391a42b8497f385b4b6950147450a64505b0410fddc7a64663a94bad82858", func := "cambium/cambiumlaw12.RootsOrder", spec := "rootsOrder", inPlace := ["internal/bytealg.abigen_runtime_cmpstring", "slices.overlaps[cambium/api.Root]"], unfollowed := true, recurses := true, named := ["unicode/utf8.first", "unicode/utf8.acceptRanges"], apart := false, laid := [("unicode/utf8.acceptRanges", laid_unicode_utf8_acceptRanges), ("unicode/utf8.first", laid_unicode_utf8_first)] }
def RootsOrderSaid : Prop := rootsOrderRow.holds Tryd.pinned (OpenSpec.ofChange rootsOrderSpec)

/-- ITS FALSE NEIGHBOUR: 'it returns false'. Refute it at one input. -/
def rootsOrderWrong : ChangeSpec := { name := "rootsOrder", fn := fun _ => fun
  | [d] => { results := [.lit (.bool false)], args := [d] }
  | _ => none }
def RootsOrderWrongFalsely : Prop := rootsOrderRow.holds Tryd.pinned (OpenSpec.ofChange rootsOrderWrong)

/-- 'cambiumlaw12.RootsFull': WHATEVER THE INPUT: true; the input reads as it did. -/
def rootsFullSpec : ChangeSpec := { name := "rootsFull", fn := fun _ => fun
  | [d] => { results := [.lit (.bool true)], args := [d] }
  | _ => none }
def rootsFullRow : OpenClaim := { program := "ytpdkkokgpdabhaadoor", sum := "53d391a42b8497f385b4b6950147450a64505b0410fddc7a64663a94bad82858", func := "cambium/cambiumlaw12.RootsFull", spec := "rootsFull", inPlace := ["internal/bytealg.abigen_runtime_cmpstring", "slices.overlaps[cambium/api.Root]"], unfollowed := true, recurses := true, named := ["unicode/utf8.first", "unicode/utf8.acceptRanges"], apart := false, laid := [("unicode/utf8.acceptRanges", laid_unicode_utf8_acceptRanges), ("unicode/utf8.first", laid_unicode_utf8_first)] }
def RootsFullSaid : Prop := rootsFullRow.holds Tryd.pinned (OpenSpec.ofChange rootsFullSpec)

/-- ITS FALSE NEIGHBOUR: 'it returns false'. Refute it at one input. -/
def rootsFullWrong : ChangeSpec := { name := "rootsFull", fn := fun _ => fun
  | [d] => { results := [.lit (.bool false)], args := [d] }
  | _ => none }
def RootsFullWrongFalsely : Prop := rootsFullRow.holds Tryd.pinned (OpenSpec.ofChange rootsFullWrong)

/- THE SECOND FORM. 'bulk': how many values and letters a reading holds, each counted each time it is reached (what is shared counts as often as it is met; a slice's spare places count too). A statement '..UptoSaid' is the law's where the arguments, and the package variables that the reading takes, are together of bulk at most 1048576: NARROWER than '..Said'. Prove '..Said' where nothing that the law and all that it calls make is longer than what came in: it says more and counts as full. Else prove '..UptoSaid'. A law counts once. -/
mutual
def uptoBulk {H : Type} : DataW H → Nat
  | .lit (.string bytes) => bytes.length + 1
  | .lit _ => 1
  | .nil => 1
  | .ptr d => uptoBulk d + 1
  | .slice elems spare => uptoBulkAll elems + uptoBulkAll spare + 1
  | .agg parts => uptoBulkAll parts + 1
  | .iface _ d => uptoBulk d + 1
  | .map entries => uptoBulkEntries entries + 1
  | .held _ => 1
def uptoBulkAll {H : Type} : List (DataW H) → Nat
  | [] => 0
  | d :: r => uptoBulk d + uptoBulkAll r
def uptoBulkEntries {H : Type} : List (Lit × DataW H) → Nat
  | [] => 0
  | x :: r => uptoBulkEntry x + uptoBulkEntries r
def uptoBulkEntry {H : Type} : Lit × DataW H → Nat
  | (.string bytes, d) => bytes.length + uptoBulk d + 1
  | (_, d) => uptoBulk d + 1
 end
def uptoSmall : (H : Type) → List (DataW H) → Bool := fun _ ds => decide (uptoBulkAll ds ≤ 1048576)
def OpenSpec.upto (s : _root_.Go.ChangeSpec) : _root_.Go.OpenSpec := { _root_.Go.OpenSpec.ofChange s with cond := some uptoSmall }

/-- 'cambiumlaw12.RootsTell', WHERE WHAT IT READS IS OF BULK AT MOST 1048576: true; the input reads as it did. -/
def rootsTellUptoRow : OpenClaim := { program := "ytpdkkokgpdabhaadoor", sum := "53d391a42b8497f385b4b6950147450a64505b0410fddc7a64663a94bad82858", func := "cambium/cambiumlaw12.RootsTell", spec := "rootsTell", inPlace := ["internal/bytealg.abigen_runtime_cmpstring", "slices.overlaps[cambium/api.Root]"], unfollowed := true, recurses := true, named := ["unicode/utf8.first", "unicode/utf8.acceptRanges"], apart := false, laid := [("unicode/utf8.acceptRanges", laid_unicode_utf8_acceptRanges), ("unicode/utf8.first", laid_unicode_utf8_first)], narrowed := true }
def RootsTellUptoSaid : Prop := rootsTellUptoRow.holds Tryd.pinned (OpenSpec.upto rootsTellSpec)

/-- 'cambiumlaw12.RootsChange', WHERE WHAT IT READS IS OF BULK AT MOST 1048576: true; the input reads as it did. -/
def rootsChangeUptoRow : OpenClaim := { program := "ytpdkkokgpdabhaadoor", sum := "53d391a42b8497f385b4b6950147450a64505b0410fddc7a64663a94bad82858", func := "cambium/cambiumlaw12.RootsChange", spec := "rootsChange", inPlace := ["internal/bytealg.abigen_runtime_cmpstring", "slices.overlaps[cambium/api.Root]"], unfollowed := true, recurses := true, named := ["unicode/utf8.first", "unicode/utf8.acceptRanges"], apart := false, laid := [("unicode/utf8.acceptRanges", laid_unicode_utf8_acceptRanges), ("unicode/utf8.first", laid_unicode_utf8_first)], narrowed := true }
def RootsChangeUptoSaid : Prop := rootsChangeUptoRow.holds Tryd.pinned (OpenSpec.upto rootsChangeSpec)

/-- 'cambiumlaw12.RootsOrder', WHERE WHAT IT READS IS OF BULK AT MOST 1048576: true; the input reads as it did. -/
def rootsOrderUptoRow : OpenClaim := { program := "ytpdkkokgpdabhaadoor", sum := "53d391a42b8497f385b4b6950147450a64505b0410fddc7a64663a94bad82858", func := "cambium/cambiumlaw12.RootsOrder", spec := "rootsOrder", inPlace := ["internal/bytealg.abigen_runtime_cmpstring", "slices.overlaps[cambium/api.Root]"], unfollowed := true, recurses := true, named := ["unicode/utf8.first", "unicode/utf8.acceptRanges"], apart := false, laid := [("unicode/utf8.acceptRanges", laid_unicode_utf8_acceptRanges), ("unicode/utf8.first", laid_unicode_utf8_first)], narrowed := true }
def RootsOrderUptoSaid : Prop := rootsOrderUptoRow.holds Tryd.pinned (OpenSpec.upto rootsOrderSpec)

/-- 'cambiumlaw12.RootsFull', WHERE WHAT IT READS IS OF BULK AT MOST 1048576: true; the input reads as it did. -/
def rootsFullUptoRow : OpenClaim := { program := "ytpdkkokgpdabhaadoor", sum := "53d391a42b8497f385b4b6950147450a64505b0410fddc7a64663a94bad82858", func := "cambium/cambiumlaw12.RootsFull", spec := "rootsFull", inPlace := ["internal/bytealg.abigen_runtime_cmpstring", "slices.overlaps[cambium/api.Root]"], unfollowed := true, recurses := true, named := ["unicode/utf8.first", "unicode/utf8.acceptRanges"], apart := false, laid := [("unicode/utf8.acceptRanges", laid_unicode_utf8_acceptRanges), ("unicode/utf8.first", laid_unicode_utf8_first)], narrowed := true }
def RootsFullUptoSaid : Prop := rootsFullUptoRow.holds Tryd.pinned (OpenSpec.upto rootsFullSpec)

end Rows
end Go.Proofs.YtpdkkokgpdabhaaDoor
