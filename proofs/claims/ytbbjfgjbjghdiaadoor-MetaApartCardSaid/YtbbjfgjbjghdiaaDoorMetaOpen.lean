/- A meta that came in, opened. -/
import Derived.Test.YtbbjfgjbjghdiaaDoorDoorOpen
import Derived.Test.YtbbjfgjbjghdiaaDoorMeta
import Derived.Lib.SmallJoins
namespace Go.Proofs.YtbbjfgjbjghdiaaDoor
open Go.ChangeShapes Go.WideShapes Go.ChangeAt Go.RowKit Go.Deep Go.Joins
set_option linter.unusedSimpArgs false
set_option linter.unusedVariables false

set_option maxRecDepth 100000 in
theorem open_meta {H : Type} {enc : TypeId × Value → H} {w : World} {base : Nat} {spare : Nat → Bool} {held : Bool} {r : Reach} {b0 fuel : Nat} {v : Value} {x : DataW H × List MemPlace}
    (hv : Value.okWide Tryd.prog w r b0 24 v) (h : DataW.trod enc Tryd.prog w base spare held fuel 24 v.cells.toList = some x) :
    ∃ m : Mt, v = .agg m.cells ∧ (0 ≤ m.gen ∧ m.gen < 2 ^ 64) := by
  obtain ⟨v0, v1, v2, v3, y0, y1, y2, y3, n, rfl, _, _, h0, h1, h2, h3⟩ := open_agg4 (p := x.2) (d := x.1) Tryd.underlying24 (by kernel_rfl) (by kernel_rfl) hv ⟨fuel, h⟩
  obtain ⟨a0, e0, w0⟩ := open_intc Tryd.underlying22 h0
  obtain ⟨a1, e1, w1⟩ := open_intc Tryd.underlying3 h1
  obtain ⟨a2, e2, w2⟩ := open_intc Tryd.underlying3 h2
  obtain ⟨a3, e3, w3⟩ := open_intc Tryd.underlying3 h3
  simp at e0 e1 e2 e3
  exact ⟨⟨a0, a1, a2, a3⟩, by rw [e0, e1, e2, e3]; rfl, of_wf_u64 w0⟩
end Go.Proofs.YtbbjfgjbjghdiaaDoor
