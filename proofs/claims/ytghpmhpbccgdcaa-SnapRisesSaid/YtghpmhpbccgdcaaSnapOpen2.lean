/- The versions of the registry's statements, opened. -/
import Derived.Test.YtghpmhpbccgdcaaSnapRises
import Derived.Test.YtghpmhpbccgdcaaRow
namespace Go.Proofs.Ytghpmhpbccgdcaa
open Go.ChangeShapes Go.WideShapes Go.ChangeAt Go.RowKit Go.Deep

theorem open_us {H : Type} {enc : TypeId × Value → H} {w : World} {base : Nat} {spare : Nat → Bool} {held : Bool} {fuel len cap : Nat} {a : Option Addr} {x : DataW H × List MemPlace}
    (h : DataW.trod enc Try.prog w base spare held fuel 37 [.slice a len cap] = some x) : ∃ l, Sl w 1 a len cap (us l) ∧ ∀ y ∈ l, 0 ≤ y ∧ y < 2 ^ 64 := by
  obtain ⟨b, off, f, h1, h2, h3, h4, h5⟩ := open_rows (mk := fun d : Int => [.int .u64 d])
    (Wf := fun d => (0 ≤ d ∧ d < 2 ^ 64)) Try.underlying37 (c := 1) (by kernel_rfl) (by decide) (by
      intro n cs x hx
      obtain ⟨v, e1, w1⟩ := open_intc Try.underlying22 hx
      exact ⟨v, e1, of_wf_u64 w1⟩) h
  have hlen : ((List.range len).map f).length = len := by simp
  refine ⟨(List.range len).map f, ⟨by simp [us], h2, h3, by simp [us, Value.oneCell'], b, off, h1, fun j u hj => ?_⟩, by
    intro y hy
    simp at hy
    obtain ⟨i, hi, rfl⟩ := hy
    exact h5 i hi⟩
  have hjl : j < len := by
    rcases Nat.lt_or_ge j (us ((List.range len).map f)).length with hlt | hge
    · simpa [us] using hlt
    · rw [List.getElem?_eq_none hge] at hj; cases hj
  have := h4 j hjl 0 (by omega)
  rw [us_get (by rw [hlen]; exact hjl)] at hj
  rw [show ((List.range len).map f).getD j 0 = f j from by simp [hjl]] at hj
  rw [show off + j * 1 + 0 = off + j from by omega] at this
  rw [this, ← hj]; rfl
end Go.Proofs.Ytghpmhpbccgdcaa
