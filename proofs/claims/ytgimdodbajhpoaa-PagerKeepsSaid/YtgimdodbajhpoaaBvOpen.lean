/- Rows of bytes in a list that came in, opened. -/
import Derived.Test.YtgimdodbajhpoaaRowW
import Derived.Test.YtgimdodbajhpoaaBv
import Derived.Test.YtgimdodbajhpoaaDoorOpen
import Derived.Lib.SmallJoins
namespace Go.Proofs.Ytgimdodbajhpoaa
open Go.ChangeShapes Go.WideShapes Go.ChangeAt Go.RowKit Go.Deep Go.Joins
set_option linter.unusedSimpArgs false
set_option linter.unusedVariables false

section
variable {H : Type} {enc : TypeId × Value → H} {w : World} {base : Nat} {spare : Nat → Bool} {held : Bool}
theorem slice_of {P : Program} {fuel : Nat} {t e : TypeId} {v : Value} {x : DataW H × List MemPlace} (ht : P.underlying t = some (.slice e))
    (h : DataW.trod enc P w base spare held fuel t [v] = some x) : ∃ a n c, v = .slice a n c := by
  rcases open_slice ht h with ⟨h0, _⟩ | ⟨ad, ln, cp, m, n, D, Pl, hcs, _⟩
  · simp at h0; exact ⟨_, _, _, h0⟩
  · simp at hcs; exact ⟨_, _, _, hcs⟩
theorem open_bytesW {fuel len cap : Nat} {a : Option Addr} {x : DataW H × List MemPlace}
    (h : DataW.trod enc Try.prog w base spare held fuel 23 [.slice a len cap] = some x) (hr : Within Try.prog 23 x.1) : ∃ l, BytesIn w a len cap l ∧ len ≤ reachBytes := by
  have : Inhabited Int := ⟨0⟩
  obtain ⟨b, off, l, h1, h2, h3, h4, h5, h6⟩ := open_rowsW (mk := fun d : Int => [.int .u8 d])
    (Wf := fun d => 0 ≤ d ∧ d < 256) Try.underlying23 (c := 1) (by kernel_rfl) (by decide) (by
      intro n cs x hx _
      obtain ⟨y, e, wy⟩ := open_intc Try.underlying5 hx
      exact ⟨y, e, of_wf_u8 wy⟩) h hr
  have hs := sl_of_rows (fun d : Int => [.int .u8 d]) (by decide) (fun y => rfl) (by intro y u hu; simp at hu; subst hu; rfl) h1 h2 h3 h4
  refine ⟨(List.range len).map l, ⟨?_, ?_⟩, by rw [show Try.prog.bytesOf 5 = 1 from by kernel_rfl] at h6; omega⟩
  · have e : ((List.range len).map l).flatMap (fun d : Int => [Value.int .u8 d]) = bs ((List.range len).map l) := flat1 _ _
    rw [← e]; exact hs
  · intro y hy
    simp at hy
    obtain ⟨i, hi, rfl⟩ := hy
    exact h5 i hi
theorem open_bv {n : Nat} {cs : List Value} {x : DataW H × List MemPlace} (h : DataW.trod enc Try.prog w base spare held n 23 cs = some x) (hr : Within Try.prog 23 x.1) :
    ∃ k : Bv, cs = [k.val] ∧ k.In w ∧ k.n ≤ reachBytes := by
  obtain ⟨a, m, c, rfl⟩ : ∃ a m c, cs = [.slice a m c] := by
    rcases open_slice Try.underlying23 h with ⟨h0, _⟩ | ⟨ad, ln, cp, m, n, D, Pl, hcs, _⟩
    · exact ⟨_, _, _, h0⟩
    · exact ⟨_, _, _, hcs⟩
  obtain ⟨l, h1, h2⟩ := open_bytesW h hr
  exact ⟨⟨a, m, c, l⟩, rfl, h1, h2⟩
/-- Keys, or any other rows of bytes. -/
theorem open_keysW {fuel len cap : Nat} {a : Option Addr} {x : DataW H × List MemPlace}
    (h : DataW.trod enc Try.prog w base spare held fuel 22 [.slice a len cap] = some x) (hr : Within Try.prog 22 x.1) : ∃ ks, KeysIn w a len cap ks ∧ len ≤ reachBytes ∧ ∀ k ∈ ks, k.n ≤ reachBytes := by
  have : Inhabited Bv := ⟨⟨none, 0, 0, []⟩⟩
  obtain ⟨b, off, l, h1, h2, h3, h4, h5, h6⟩ := open_rowsW (mk := fun d : Bv => [d.val])
    (Wf := fun d => d.In w ∧ d.n ≤ reachBytes) Try.underlying22 (c := 1) (by kernel_rfl) (by decide) (by
      intro n cs x hx hr
      exact open_bv hx hr) h hr
  have hs := sl_of_rows (fun d : Bv => [d.val]) (by decide) (fun y => rfl) (by intro y u hu; simp at hu; subst hu; rfl) h1 h2 h3 h4
  have hall : ∀ k ∈ (List.range len).map l, k.In w ∧ k.n ≤ reachBytes := by
    intro y hy
    simp at hy
    obtain ⟨i, hi, rfl⟩ := hy
    exact h5 i hi
  refine ⟨(List.range len).map l, ⟨?_, fun k hk => (hall k hk).1⟩, ?_, fun k hk => (hall k hk).2⟩
  · have e : ((List.range len).map l).flatMap (fun d : Bv => [d.val]) = ((List.range len).map l).map Bv.val := flat1 _ _
    rw [← e]; exact hs
  · rw [show Try.prog.bytesOf 23 = 24 from by kernel_rfl] at h6; omega
end
end Go.Proofs.Ytgimdodbajhpoaa
