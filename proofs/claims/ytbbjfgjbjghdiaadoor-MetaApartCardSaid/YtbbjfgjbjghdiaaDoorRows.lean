/-
  NARROWER THAN 'FOR EVERY INPUT', by the rows' own cells (each row's printed sentence says how): MetaTells: laid · MetaApart: laid · MetaNewest: laid · MetaPlays: laid · MetaTurns: laid.
  DERIVED. THE GIVEN ROWS OF THIS SEAT. 5 by the template 'for every input the law returns true; each argument reads behind the call as it read before'; 0 by the template 'total and deterministic' (their statements: YtbbjfgjbjghdiaaDoorTotals.lean).
  GIVEN WITH THE SEED: the statements are not yours to turn. If you find one false, say at which input.
  Laid BY PROGRAM, IN A SANDBOX (cutbox-rows.mjs): the forced cells as the released guide's own fill.sh prints them over the translation d35223dcb695dc36… (all of the seat's roots in one cut). By AI agents, Wed Nov 11 2026. No macro, syntax, notation, axiom, sorry.
-/
import Derived.Test.YtbbjfgjbjghdiaaDoorChecked
import GoSem.PinnedTables
import GoSem.Claim
import GoSem.ClaimJoined
import GoSem.ClaimMapViews
import Derived.JoinedTies
import Derived.KernelRfl
namespace Go.Proofs.YtbbjfgjbjghdiaaDoor
/- THE CELL 'sum', in the pinned program and in every row, IS THE sha256 OF THE DUMP (.gsa) THAT YtbbjfgjbjghdiaaDoorProg.lean LOADS. Nothing in Lean hashes anything: it is a label: what it is worth is what the hold of that sum in a sandbox is worth. -/
noncomputable def Tryd.pinned : Pinned := { name := "ytbbjfgjbjghdiaadoor", sum := "d35223dcb695dc3647f108c9ab1e704e62386551cd26d0f3f9f2672e685c1a2b", checked := Tryd.checked }
namespace Rows
def none {H : Type} : Left H := { results := [], args := [] }

/- WHAT THE LISTED PACKAGE-LEVEL VARIABLES READ AS WHEN THE CALL BEGINS. Each datum BY PROGRAM (the guide's laid-datum.mjs) off the statement by which the dump's own 'gosem.cut.vars' lays the variable. In a bare row this is a premise. The card (YtbbjfgjbjghdiaaDoorCards.lean) ties it to the program's text. -/
def laid_unicode_utf8_acceptRanges {H : Type} : DataW H := .agg [.agg [.lit (.int .u8 128), .lit (.int .u8 191)], .agg [.lit (.int .u8 160), .lit (.int .u8 191)], .agg [.lit (.int .u8 128), .lit (.int .u8 159)], .agg [.lit (.int .u8 144), .lit (.int .u8 191)], .agg [.lit (.int .u8 128), .lit (.int .u8 143)], .agg [.lit (.int .u8 0), .lit (.int .u8 0)], .agg [.lit (.int .u8 0), .lit (.int .u8 0)], .agg [.lit (.int .u8 0), .lit (.int .u8 0)], .agg [.lit (.int .u8 0), .lit (.int .u8 0)], .agg [.lit (.int .u8 0), .lit (.int .u8 0)], .agg [.lit (.int .u8 0), .lit (.int .u8 0)], .agg [.lit (.int .u8 0), .lit (.int .u8 0)], .agg [.lit (.int .u8 0), .lit (.int .u8 0)], .agg [.lit (.int .u8 0), .lit (.int .u8 0)], .agg [.lit (.int .u8 0), .lit (.int .u8 0)], .agg [.lit (.int .u8 0), .lit (.int .u8 0)]]
/-- One of Go's own tables, pinned by name: the form's constant. -/
def laid_unicode_utf8_first : DataW Unit := Go.Pinned.utf8First

/-- 'cambiumlaw06.MetaTells': WHATEVER THE INPUT: true; the input reads as it did. -/
def metaTellsSpec : ChangeSpec := { name := "metaTells", fn := fun _ => fun
  | [d1, d2] => { results := [.lit (.bool true)], args := [d1, d2] }
  | _ => none }
def metaTellsRow : OpenClaim := { program := "ytbbjfgjbjghdiaadoor", sum := "d35223dcb695dc3647f108c9ab1e704e62386551cd26d0f3f9f2672e685c1a2b", func := "cambium/cambiumlaw06.MetaTells", spec := "metaTells", unfollowed := true, recurses := true, named := ["unicode/utf8.first", "unicode/utf8.acceptRanges"], apart := false, laid := [("unicode/utf8.acceptRanges", laid_unicode_utf8_acceptRanges), ("unicode/utf8.first", laid_unicode_utf8_first)] }
def MetaTellsSaid : Prop := metaTellsRow.holds Tryd.pinned (OpenSpec.ofChange metaTellsSpec)

/-- ITS FALSE NEIGHBOUR: 'it returns false'. Refute it at one input. -/
def metaTellsWrong : ChangeSpec := { name := "metaTells", fn := fun _ => fun
  | [d1, d2] => { results := [.lit (.bool false)], args := [d1, d2] }
  | _ => none }
def MetaTellsWrongFalsely : Prop := metaTellsRow.holds Tryd.pinned (OpenSpec.ofChange metaTellsWrong)

/-- 'cambiumlaw06.MetaApart': WHATEVER THE INPUT: true; the input reads as it did. -/
def metaApartSpec : ChangeSpec := { name := "metaApart", fn := fun _ => fun
  | [d1, d2, d3] => { results := [.lit (.bool true)], args := [d1, d2, d3] }
  | _ => none }
def metaApartRow : OpenClaim := { program := "ytbbjfgjbjghdiaadoor", sum := "d35223dcb695dc3647f108c9ab1e704e62386551cd26d0f3f9f2672e685c1a2b", func := "cambium/cambiumlaw06.MetaApart", spec := "metaApart", unfollowed := true, recurses := true, named := ["unicode/utf8.first", "unicode/utf8.acceptRanges"], apart := false, laid := [("unicode/utf8.acceptRanges", laid_unicode_utf8_acceptRanges), ("unicode/utf8.first", laid_unicode_utf8_first)] }
def MetaApartSaid : Prop := metaApartRow.holds Tryd.pinned (OpenSpec.ofChange metaApartSpec)

/-- ITS FALSE NEIGHBOUR: 'it returns false'. Refute it at one input. -/
def metaApartWrong : ChangeSpec := { name := "metaApart", fn := fun _ => fun
  | [d1, d2, d3] => { results := [.lit (.bool false)], args := [d1, d2, d3] }
  | _ => none }
def MetaApartWrongFalsely : Prop := metaApartRow.holds Tryd.pinned (OpenSpec.ofChange metaApartWrong)

/-- 'cambiumlaw06.MetaNewest': WHATEVER THE INPUT: true; the input reads as it did. -/
def metaNewestSpec : ChangeSpec := { name := "metaNewest", fn := fun _ => fun
  | [d1, d2] => { results := [.lit (.bool true)], args := [d1, d2] }
  | _ => none }
def metaNewestRow : OpenClaim := { program := "ytbbjfgjbjghdiaadoor", sum := "d35223dcb695dc3647f108c9ab1e704e62386551cd26d0f3f9f2672e685c1a2b", func := "cambium/cambiumlaw06.MetaNewest", spec := "metaNewest", unfollowed := true, recurses := true, named := ["unicode/utf8.first", "unicode/utf8.acceptRanges"], apart := false, laid := [("unicode/utf8.acceptRanges", laid_unicode_utf8_acceptRanges), ("unicode/utf8.first", laid_unicode_utf8_first)] }
def MetaNewestSaid : Prop := metaNewestRow.holds Tryd.pinned (OpenSpec.ofChange metaNewestSpec)

/-- ITS FALSE NEIGHBOUR: 'it returns false'. Refute it at one input. -/
def metaNewestWrong : ChangeSpec := { name := "metaNewest", fn := fun _ => fun
  | [d1, d2] => { results := [.lit (.bool false)], args := [d1, d2] }
  | _ => none }
def MetaNewestWrongFalsely : Prop := metaNewestRow.holds Tryd.pinned (OpenSpec.ofChange metaNewestWrong)

/-- 'cambiumlaw06.MetaPlays': WHATEVER THE INPUT: true; the input reads as it did. -/
def metaPlaysSpec : ChangeSpec := { name := "metaPlays", fn := fun _ => fun
  | [d1, d2] => { results := [.lit (.bool true)], args := [d1, d2] }
  | _ => none }
def metaPlaysRow : OpenClaim := { program := "ytbbjfgjbjghdiaadoor", sum := "d35223dcb695dc3647f108c9ab1e704e62386551cd26d0f3f9f2672e685c1a2b", func := "cambium/cambiumlaw06.MetaPlays", spec := "metaPlays", unfollowed := true, recurses := true, named := ["unicode/utf8.first", "unicode/utf8.acceptRanges"], apart := false, laid := [("unicode/utf8.acceptRanges", laid_unicode_utf8_acceptRanges), ("unicode/utf8.first", laid_unicode_utf8_first)] }
def MetaPlaysSaid : Prop := metaPlaysRow.holds Tryd.pinned (OpenSpec.ofChange metaPlaysSpec)

/-- ITS FALSE NEIGHBOUR: 'it returns false'. Refute it at one input. -/
def metaPlaysWrong : ChangeSpec := { name := "metaPlays", fn := fun _ => fun
  | [d1, d2] => { results := [.lit (.bool false)], args := [d1, d2] }
  | _ => none }
def MetaPlaysWrongFalsely : Prop := metaPlaysRow.holds Tryd.pinned (OpenSpec.ofChange metaPlaysWrong)

/-- 'cambiumlaw06.MetaTurns': WHATEVER THE INPUT: true; the input reads as it did. -/
def metaTurnsSpec : ChangeSpec := { name := "metaTurns", fn := fun _ => fun
  | [d1, d2] => { results := [.lit (.bool true)], args := [d1, d2] }
  | _ => none }
def metaTurnsRow : OpenClaim := { program := "ytbbjfgjbjghdiaadoor", sum := "d35223dcb695dc3647f108c9ab1e704e62386551cd26d0f3f9f2672e685c1a2b", func := "cambium/cambiumlaw06.MetaTurns", spec := "metaTurns", unfollowed := true, recurses := true, named := ["unicode/utf8.first", "unicode/utf8.acceptRanges"], apart := false, laid := [("unicode/utf8.acceptRanges", laid_unicode_utf8_acceptRanges), ("unicode/utf8.first", laid_unicode_utf8_first)] }
def MetaTurnsSaid : Prop := metaTurnsRow.holds Tryd.pinned (OpenSpec.ofChange metaTurnsSpec)

/-- ITS FALSE NEIGHBOUR: 'it returns false'. Refute it at one input. -/
def metaTurnsWrong : ChangeSpec := { name := "metaTurns", fn := fun _ => fun
  | [d1, d2] => { results := [.lit (.bool false)], args := [d1, d2] }
  | _ => none }
def MetaTurnsWrongFalsely : Prop := metaTurnsRow.holds Tryd.pinned (OpenSpec.ofChange metaTurnsWrong)

/- THE SECOND FORM. 'bulk': how many values and letters a reading holds, each counted each time it is reached (what is shared counts as often as it is met; a slice's spare places count too). A statement '..UptoSaid' is the law's where the arguments, and the package variables that the reading takes, are together of bulk at most 1048576: NARROWER than '..Said'. Prove '..Said' where nothing that the law and all that it calls make is longer than what came in: it says more and counts as full. Else prove '..UptoSaid'. A law counts once. -/
mutual
def uptoBulk {H : Type} : DataW H → Nat
  | .lit (.string bytes) => bytes.length + 1
  | .lit _ => 1
  | .nil => 1
  | .ptr d => uptoBulk d + 1
  | .slice elems spare => uptoBulkAll elems + uptoBulkAll spare + 1
  | .agg parts => uptoBulkAll parts + 1
  | .iface _ d => uptoBulk d + 1
  | .map entries => uptoBulkEntries entries + 1
  | .held _ => 1
def uptoBulkAll {H : Type} : List (DataW H) → Nat
  | [] => 0
  | d :: r => uptoBulk d + uptoBulkAll r
def uptoBulkEntries {H : Type} : List (Lit × DataW H) → Nat
  | [] => 0
  | x :: r => uptoBulkEntry x + uptoBulkEntries r
def uptoBulkEntry {H : Type} : Lit × DataW H → Nat
  | (.string bytes, d) => bytes.length + uptoBulk d + 1
  | (_, d) => uptoBulk d + 1
 end
def uptoSmall : (H : Type) → List (DataW H) → Bool := fun _ ds => decide (uptoBulkAll ds ≤ 1048576)
def OpenSpec.upto (s : _root_.Go.ChangeSpec) : _root_.Go.OpenSpec := { _root_.Go.OpenSpec.ofChange s with cond := some uptoSmall }

/-- 'cambiumlaw06.MetaTells', WHERE WHAT IT READS IS OF BULK AT MOST 1048576: true; the input reads as it did. -/
def metaTellsUptoRow : OpenClaim := { program := "ytbbjfgjbjghdiaadoor", sum := "d35223dcb695dc3647f108c9ab1e704e62386551cd26d0f3f9f2672e685c1a2b", func := "cambium/cambiumlaw06.MetaTells", spec := "metaTells", unfollowed := true, recurses := true, named := ["unicode/utf8.first", "unicode/utf8.acceptRanges"], apart := false, laid := [("unicode/utf8.acceptRanges", laid_unicode_utf8_acceptRanges), ("unicode/utf8.first", laid_unicode_utf8_first)], narrowed := true }
def MetaTellsUptoSaid : Prop := metaTellsUptoRow.holds Tryd.pinned (OpenSpec.upto metaTellsSpec)

/-- 'cambiumlaw06.MetaApart', WHERE WHAT IT READS IS OF BULK AT MOST 1048576: true; the input reads as it did. -/
def metaApartUptoRow : OpenClaim := { program := "ytbbjfgjbjghdiaadoor", sum := "d35223dcb695dc3647f108c9ab1e704e62386551cd26d0f3f9f2672e685c1a2b", func := "cambium/cambiumlaw06.MetaApart", spec := "metaApart", unfollowed := true, recurses := true, named := ["unicode/utf8.first", "unicode/utf8.acceptRanges"], apart := false, laid := [("unicode/utf8.acceptRanges", laid_unicode_utf8_acceptRanges), ("unicode/utf8.first", laid_unicode_utf8_first)], narrowed := true }
def MetaApartUptoSaid : Prop := metaApartUptoRow.holds Tryd.pinned (OpenSpec.upto metaApartSpec)

/-- 'cambiumlaw06.MetaNewest', WHERE WHAT IT READS IS OF BULK AT MOST 1048576: true; the input reads as it did. -/
def metaNewestUptoRow : OpenClaim := { program := "ytbbjfgjbjghdiaadoor", sum := "d35223dcb695dc3647f108c9ab1e704e62386551cd26d0f3f9f2672e685c1a2b", func := "cambium/cambiumlaw06.MetaNewest", spec := "metaNewest", unfollowed := true, recurses := true, named := ["unicode/utf8.first", "unicode/utf8.acceptRanges"], apart := false, laid := [("unicode/utf8.acceptRanges", laid_unicode_utf8_acceptRanges), ("unicode/utf8.first", laid_unicode_utf8_first)], narrowed := true }
def MetaNewestUptoSaid : Prop := metaNewestUptoRow.holds Tryd.pinned (OpenSpec.upto metaNewestSpec)

/-- 'cambiumlaw06.MetaPlays', WHERE WHAT IT READS IS OF BULK AT MOST 1048576: true; the input reads as it did. -/
def metaPlaysUptoRow : OpenClaim := { program := "ytbbjfgjbjghdiaadoor", sum := "d35223dcb695dc3647f108c9ab1e704e62386551cd26d0f3f9f2672e685c1a2b", func := "cambium/cambiumlaw06.MetaPlays", spec := "metaPlays", unfollowed := true, recurses := true, named := ["unicode/utf8.first", "unicode/utf8.acceptRanges"], apart := false, laid := [("unicode/utf8.acceptRanges", laid_unicode_utf8_acceptRanges), ("unicode/utf8.first", laid_unicode_utf8_first)], narrowed := true }
def MetaPlaysUptoSaid : Prop := metaPlaysUptoRow.holds Tryd.pinned (OpenSpec.upto metaPlaysSpec)

/-- 'cambiumlaw06.MetaTurns', WHERE WHAT IT READS IS OF BULK AT MOST 1048576: true; the input reads as it did. -/
def metaTurnsUptoRow : OpenClaim := { program := "ytbbjfgjbjghdiaadoor", sum := "d35223dcb695dc3647f108c9ab1e704e62386551cd26d0f3f9f2672e685c1a2b", func := "cambium/cambiumlaw06.MetaTurns", spec := "metaTurns", unfollowed := true, recurses := true, named := ["unicode/utf8.first", "unicode/utf8.acceptRanges"], apart := false, laid := [("unicode/utf8.acceptRanges", laid_unicode_utf8_acceptRanges), ("unicode/utf8.first", laid_unicode_utf8_first)], narrowed := true }
def MetaTurnsUptoSaid : Prop := metaTurnsUptoRow.holds Tryd.pinned (OpenSpec.upto metaTurnsSpec)

end Rows
end Go.Proofs.YtbbjfgjbjghdiaaDoor
