/- What comes into the statements, opened: a list of freed pages; bytes. -/
import Derived.Lib.SmallJoins
import Derived.Test.YtgimdodbajhpoaaDoorG26
import Derived.Test.YtgimdodbajhpoaaDoorG05
namespace Go.Proofs.YtgimdodbajhpoaaDoor
open Go.ChangeShapes Go.WideShapes Go.ChangeAt Go.RowKit Go.Deep Go.Joins
set_option linter.unusedSimpArgs false
set_option linter.unusedVariables false

theorem of_wf_u8 {x : Int} (h : (Lit.int .u8 x).wf = true) : 0 ≤ x ∧ x < 256 := by simp [Lit.wf, IntKind.min, IntKind.max, IntKind.signed, IntKind.bits] at h; omega
theorem open_bytes {H : Type} {enc : TypeId × Value → H} {w : World} {base : Nat} {spare : Nat → Bool} {held : Bool} {fuel len cap : Nat} {a : Option Addr} {x : DataW H × List MemPlace}
    (h : DataW.trod enc Tryd.prog w base spare held fuel 22 [.slice a len cap] = some x) : ∃ l, BytesIn w a len cap l := by
  have : Inhabited Int := ⟨0⟩
  obtain ⟨b, off, l, h1, h2, h3, h4, h5⟩ := open_rows (mk := fun d : Int => [.int .u8 d])
    (Wf := fun d => 0 ≤ d ∧ d < 256) Tryd.underlying22 (c := 1) (by kernel_rfl) (by decide) (by
      intro n cs x hx
      obtain ⟨y, e, wy⟩ := open_intc Tryd.underlying5 hx
      exact ⟨y, e, of_wf_u8 wy⟩) h
  have hlen : ((List.range len).map l).length = len := by simp
  refine ⟨(List.range len).map l, ⟨by rw [bs_len, hlen]; omega, h2, h3, bs_one _, b, off, h1, fun j u hj => ?_⟩, by
    intro y hy
    simp at hy
    obtain ⟨i, hi, rfl⟩ := hy
    exact h5 i hi⟩
  have hjl : j < (bs ((List.range len).map l)).length := (List.getElem?_eq_some_iff.1 hj).1
  rw [bs_len, hlen] at hjl
  rw [bs_get (by rw [hlen]; exact hjl)] at hj
  have hd : ((List.range len).map l).getD j 0 = l j := by simp [hjl]
  rw [hd] at hj
  have := h4 j hjl 0 (by omega)
  simp at this hj
  rw [this, hj]
end Go.Proofs.YtgimdodbajhpoaaDoor
