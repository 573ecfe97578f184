/-  -/
import Derived.Shelf.SlMaps.Clone
import Derived.KernelRfl
import Derived.Test.YtgimdodbajhpoaaDoorProg
/-
  DERIVED: THE SHELF's CONTRACTS AT THIS DUMP, IN PLAIN WORDS (tools/lay-plain.mjs out of 'YtgimdodbajhpoaaDoorCloneTmp.lean', which tools/lay-shelf.mjs wrote): THE SAME DECLARATIONS UNDER THE SAME NAMES: 'import', 'namespace', 'open', 'def', 'theorem' AND NOTHING ELSE: no command of the shelf's: FOR A HAND-IN. Each laying: the table of numbers ('.._ren') and one theorem, a field a fact of the dump's own or the kernel's comparison; each contract: ONE APPLICATION.
-/
namespace Go.Proofs
open Go.Shelf
def Tryd.cloneA_ren : Go.Shelf.Ren := ⟨fun | 5 => 34 | 7 => 51 | n => n, fun | 23 => 51 | 25 => 3 | 3 => 33 | 4 => 4 | 20 => 20 | n => n, fun | n => n⟩
theorem Tryd.cloneA : Go.Proofs.SlLaysW.n5 Tryd.prog Tryd.cloneA_ren := {
  mixed := by kernel_rfl
  f5 := ⟨Tryd.f34.name, by decide, Tryd.func34.trans (congrArg some (by kernel_rfl))⟩
  f7 := Tryd.func51.trans (congrArg some (by kernel_rfl))
  t4 := Tryd.underlying4
  a4 := Tryd.isAgg4
  z4 := Tryd.sizeOf4
  v4 := Tryd.zeroValue4
  t20 := Tryd.underlying20
  a20 := Tryd.isAgg20
  z20 := Tryd.sizeOf20
  v20 := Tryd.zeroValue20
  t23 := Tryd.underlying51
  a23 := Tryd.isAgg51
  z23 := Tryd.sizeOf51
  v23 := Tryd.zeroValue51 }
end Go.Proofs
