/- Two bytes that came in, opened. -/
import Derived.Test.YtbbjfgjbjghdiaaDoorMetaOpen
import Derived.WideKeyPair
namespace Go.Proofs.YtbbjfgjbjghdiaaDoor
open Go.WideMaps Go.ChangeShapes Go.WideShapes Go.ChangeAt Go.RowKit Go.Deep Go.Joins
set_option linter.unusedSimpArgs false
set_option linter.unusedVariables false

set_option maxRecDepth 100000 in
theorem open_turn {H : Type} {enc : TypeId × Value → H} {w : World} {base : Nat} {spare : Nat → Bool} {held : Bool} {r : Reach} {b0 fuel : Nat} {v : Value} {x : DataW H × List MemPlace}
    (hv : Value.okWide Tryd.prog w r b0 34 v) (h : DataW.trod enc Tryd.prog w base spare held fuel 34 v.cells.toList = some x) :
    ∃ a b : Int, v = .agg #[.int .u8 a, .int .u8 b] ∧ (0 ≤ a ∧ a < 256) ∧ (0 ≤ b ∧ b < 256) := by
  have A : ArrKey Tryd.prog 34 5 2 := ⟨Tryd.underlying34, by kernel_rfl, by kernel_rfl, by kernel_rfl⟩
  obtain ⟨a, b, e, _, _, wa, wb⟩ := open_pair (d := x.1) (ps := x.2) A Tryd.underlying5 hv ⟨fuel, h⟩
  exact ⟨a, b, e, of_wf_u8 wa, of_wf_u8 wb⟩
end Go.Proofs.YtbbjfgjbjghdiaaDoor
