/- The script of the pool's statements, opened. -/
import Derived.Test.YtibkhdlddllcjaaPoolOnce
import Derived.Test.YtibkhdlddllcjaaPoolOpen
namespace Go.Proofs.Ytibkhdlddllcjaa
open Go.ChangeShapes Go.WideShapes Go.ChangeAt Go.RowKit Go.Deep

theorem open_script {H : Type} {enc : TypeId × Value → H} {w : World} {base : Nat} {spare : Nat → Bool} {held : Bool} {fuel len cap : Nat} {a : Option Addr} {x : DataW H × List MemPlace}
    (h : DataW.trod enc Try.prog w base spare held fuel 42 [.slice a len cap] = some x) :
    ∃ b off, ∃ l : Nat → Do, (0 < len → a = some ⟨b, off, none⟩) ∧ len ≤ cap ∧ cap ≤ maxLen ∧ Script w b off len l := by
  have : Inhabited Do := ⟨⟨0, 0, 0⟩⟩
  obtain ⟨b, off, l, h1, h2, h3, h4, h5⟩ := open_rows (mk := fun d : Do => [.int .i64 d.kind, .int .i64 d.page, .int .u64 d.gen])
    (Wf := fun d => (-9223372036854775808 ≤ d.page ∧ d.page ≤ 9223372036854775807) ∧ (0 ≤ d.gen ∧ d.gen < 2 ^ 64)) Try.underlying42 (c := 3) (by kernel_rfl) (by decide) (by
      intro n cs x hx
      obtain ⟨y0, y1, y2, m, _, hl, g0, g1, g2⟩ := trod_struct3 Try.underlying45 hx
      rw [show Try.prog.cellsOf 45 = 3 from by kernel_rfl] at hl
      match cs, hl with
      | [c0, c1, c2], _ =>
        obtain ⟨k, e0, _⟩ := open_intc Try.underlying3 g0
        obtain ⟨no, e1, w1⟩ := open_intc Try.underlying3 g1
        obtain ⟨v, e2, w2⟩ := open_intc Try.underlying25 g2
        rw [show Try.prog.cellsOf 3 = 1 from by kernel_rfl] at e0 e1
        rw [show Try.prog.cellsOf 25 = 1 from by kernel_rfl] at e2
        simp at e0 e1 e2
        exact ⟨⟨k, no, v⟩, by simp [e0, e1, e2], of_wf_i64 w1, of_wf_u64 w2⟩) h
  exact ⟨b, off, l, fun h => (h1 h).1, h2, h3, ⟨fun i hi => h4 i hi 0 (by omega), fun i hi => h4 i hi 1 (by omega), fun i hi => h4 i hi 2 (by omega), fun i hi => (h5 i hi).1, fun i hi => (h5 i hi).2, fun h => (h1 h).2⟩⟩

end Go.Proofs.Ytibkhdlddllcjaa
