/- A world in which the two tables of unicode/utf8 lie. -/
import Derived.Deep.DeepHandedRow
import Derived.Lib.LaidTab
import Derived.Test.YtgimdodbajhpoaaGreatDoorG14
namespace Go.Proofs.YtgimdodbajhpoaaGreatDoor
def layRow (zs : List Int) : Obj → Obj
  | .cells _ t frozen => .cells (zs.map fun z => Value.int .u8 z).toArray t frozen
  | o => o
noncomputable def laidWorld (os : Os) : World :=
  { World.holding Tryz.prog os ⟨#[], #[], []⟩ with heap := ((World.holding Tryz.prog os ⟨#[], #[], []⟩).heap.modify 0 (layRow (Pinned.utf8FirstZ.map Int.ofNat))).modify 1 (layRow ([128, 191, 160, 191, 128, 159, 144, 191, 128, 143] ++ List.replicate 22 0)) }
end Go.Proofs.YtgimdodbajhpoaaGreatDoor
