/- A list of freed pages that came in, opened. -/
import Derived.Test.YtibkhdlddllcjaaDoorDoorOpen
import Derived.Test.YtibkhdlddllcjaaDoorPoolNewD
import Derived.Lib.SmallJoins
namespace Go.Proofs.YtibkhdlddllcjaaDoor
open Go.ChangeShapes Go.WideShapes Go.ChangeAt Go.RowKit Go.Deep Go.Joins
set_option linter.unusedSimpArgs false
set_option linter.unusedVariables false

theorem open_freed {H : Type} {enc : TypeId × Value → H} {w : World} {base : Nat} {spare : Nat → Bool} {held : Bool} {fuel len cap : Nat} {a : Option Addr} {x : DataW H × List MemPlace}
    (h : DataW.trod enc Tryd.prog w base spare held fuel 22 [.slice a len cap] = some x) : ∃ l, FreedIn w a len cap l := by
  have : Inhabited (Int × Int) := ⟨(0, 0)⟩
  obtain ⟨b, off, l, h1, h2, h3, h4, h5⟩ := open_rows (mk := fun d : Int × Int => [.int .i64 d.1, .int .u64 d.2])
    (Wf := fun d => (-9223372036854775808 ≤ d.1 ∧ d.1 ≤ 9223372036854775807) ∧ (0 ≤ d.2 ∧ d.2 < 2 ^ 64)) Tryd.underlying22 (c := 2) (by kernel_rfl) (by decide) (by
      intro n cs x hx
      obtain ⟨y0, y1, m, _, hl, g0, g1⟩ := trod_struct2 Tryd.underlying35 hx
      rw [show Tryd.prog.cellsOf 35 = 2 from by kernel_rfl] at hl
      match cs, hl with
      | [c0, c1], _ =>
        obtain ⟨p, e0, w0⟩ := open_intc Tryd.underlying3 g0
        obtain ⟨v, e1, w1⟩ := open_intc Tryd.underlying33 g1
        rw [show Tryd.prog.cellsOf 3 = 1 from by kernel_rfl] at e0
        rw [show Tryd.prog.cellsOf 33 = 1 from by kernel_rfl] at e1
        simp at e0 e1
        exact ⟨(p, v), by simp [e0, e1], of_wf_i64 w0, of_wf_u64 w1⟩) h
  have hlen : ((List.range len).map l).length = len := by simp
  refine ⟨(List.range len).map l, ⟨by rw [fcells_len, hlen], h2, h3, fcells_one _, b, off, h1, fun j u hj => ?_⟩, by
    intro y hy
    simp at hy
    obtain ⟨i, hi, rfl⟩ := hy
    exact h5 i hi⟩
  have hjl : j < (fcells ((List.range len).map l)).length := by
    rcases Nat.lt_or_ge j (fcells ((List.range len).map l)).length with hlt | hge
    · exact hlt
    · rw [List.getElem?_eq_none hge] at hj; cases hj
  rw [fcells_len, hlen] at hjl
  have hi : j / 2 < len := by omega
  obtain ⟨g0, g1⟩ := fcells_get ((List.range len).map l) (j / 2) (by rw [hlen]; exact hi)
  have hd : ((List.range len).map l).getD (j / 2) (0, 0) = l (j / 2) := by simp [hi]
  rw [hd] at g0 g1
  rcases Nat.mod_two_eq_zero_or_one j with hz | hz
  · have he : j = j / 2 * 2 := by omega
    have := h4 (j / 2) hi 0 (by omega)
    rw [← he] at g0
    rw [show off + j / 2 * 2 + 0 = off + j from by omega] at this
    rw [g0] at hj
    simp at hj this
    rw [this, hj]
  · have he : j = j / 2 * 2 + 1 := by omega
    have := h4 (j / 2) hi 1 (by omega)
    rw [← he] at g1
    rw [show off + j / 2 * 2 + 1 = off + j from by omega] at this
    rw [g1] at hj
    simp at hj this
    rw [this, hj]


end Go.Proofs.YtibkhdlddllcjaaDoor
