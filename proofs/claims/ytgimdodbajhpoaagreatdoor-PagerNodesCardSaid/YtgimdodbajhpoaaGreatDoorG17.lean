/- What comes into the statements, opened: a list of freed pages; bytes. Rows of bytes in a list that came in, opened. -/
import Derived.Lib.SmallJoins
import Derived.Test.YtgimdodbajhpoaaGreatDoorG14
import Derived.Test.YtgimdodbajhpoaaGreatDoorG05
import Derived.Test.YtgimdodbajhpoaaGreatDoorG16
import Derived.Test.YtgimdodbajhpoaaGreatDoorG06
namespace Go.Proofs.YtgimdodbajhpoaaGreatDoor
open Go.ChangeShapes Go.WideShapes Go.ChangeAt Go.RowKit Go.Deep Go.Joins
set_option linter.unusedSimpArgs false
set_option linter.unusedVariables false

theorem of_wf_u8 {x : Int} (h : (Lit.int .u8 x).wf = true) : 0 ≤ x ∧ x < 256 := by simp [Lit.wf, IntKind.min, IntKind.max, IntKind.signed, IntKind.bits] at h; omega
theorem open_bytes {H : Type} {enc : TypeId × Value → H} {w : World} {base : Nat} {spare : Nat → Bool} {held : Bool} {fuel len cap : Nat} {a : Option Addr} {x : DataW H × List MemPlace}
    (h : DataW.trod enc Tryz.prog w base spare held fuel 40 [.slice a len cap] = some x) : ∃ l, BytesIn w a len cap l := by
  have : Inhabited Int := ⟨0⟩
  obtain ⟨b, off, l, h1, h2, h3, h4, h5⟩ := open_rows (mk := fun d : Int => [.int .u8 d])
    (Wf := fun d => 0 ≤ d ∧ d < 256) Tryz.underlying40 (c := 1) (by kernel_rfl) (by decide) (by
      intro n cs x hx
      obtain ⟨y, e, wy⟩ := open_intc Tryz.underlying5 hx
      exact ⟨y, e, of_wf_u8 wy⟩) h
  have hlen : ((List.range len).map l).length = len := by simp
  refine ⟨(List.range len).map l, ⟨by rw [bs_len, hlen]; omega, h2, h3, bs_one _, b, off, h1, fun j u hj => ?_⟩, by
    intro y hy
    simp at hy
    obtain ⟨i, hi, rfl⟩ := hy
    exact h5 i hi⟩
  have hjl : j < (bs ((List.range len).map l)).length := (List.getElem?_eq_some_iff.1 hj).1
  rw [bs_len, hlen] at hjl
  rw [bs_get (by rw [hlen]; exact hjl)] at hj
  have hd : ((List.range len).map l).getD j 0 = l j := by simp [hjl]
  rw [hd] at hj
  have := h4 j hjl 0 (by omega)
  simp at this hj
  rw [this, hj]
end Go.Proofs.YtgimdodbajhpoaaGreatDoor
namespace Go.Proofs.YtgimdodbajhpoaaGreatDoor
open Go.ChangeShapes Go.WideShapes Go.ChangeAt Go.RowKit Go.Deep Go.Joins
set_option linter.unusedSimpArgs false
set_option linter.unusedVariables false

section
variable {H : Type} {enc : TypeId × Value → H} {w : World} {base : Nat} {spare : Nat → Bool} {held : Bool}
theorem slice_of {P : Program} {fuel : Nat} {t e : TypeId} {v : Value} {x : DataW H × List MemPlace} (ht : P.underlying t = some (.slice e))
    (h : DataW.trod enc P w base spare held fuel t [v] = some x) : ∃ a n c, v = .slice a n c := by
  rcases open_slice ht h with ⟨h0, _⟩ | ⟨ad, ln, cp, m, n, D, Pl, hcs, _⟩
  · simp at h0; exact ⟨_, _, _, h0⟩
  · simp at hcs; exact ⟨_, _, _, hcs⟩
theorem open_bytesW {fuel len cap : Nat} {a : Option Addr} {x : DataW H × List MemPlace}
    (h : DataW.trod enc Tryz.prog w base spare held fuel 40 [.slice a len cap] = some x) (hr : Within Tryz.prog 40 x.1) : ∃ l, BytesIn w a len cap l ∧ len ≤ reachBytes := by
  have : Inhabited Int := ⟨0⟩
  obtain ⟨b, off, l, h1, h2, h3, h4, h5, h6⟩ := open_rowsW (mk := fun d : Int => [.int .u8 d])
    (Wf := fun d => 0 ≤ d ∧ d < 256) Tryz.underlying40 (c := 1) (by kernel_rfl) (by decide) (by
      intro n cs x hx _
      obtain ⟨y, e, wy⟩ := open_intc Tryz.underlying5 hx
      exact ⟨y, e, of_wf_u8 wy⟩) h hr
  have hs := sl_of_rows (fun d : Int => [.int .u8 d]) (by decide) (fun y => rfl) (by intro y u hu; simp at hu; subst hu; rfl) h1 h2 h3 h4
  refine ⟨(List.range len).map l, ⟨?_, ?_⟩, by rw [show Tryz.prog.bytesOf 5 = 1 from by kernel_rfl] at h6; omega⟩
  · have e : ((List.range len).map l).flatMap (fun d : Int => [Value.int .u8 d]) = bs ((List.range len).map l) := flat1 _ _
    rw [← e]; exact hs
  · intro y hy
    simp at hy
    obtain ⟨i, hi, rfl⟩ := hy
    exact h5 i hi
theorem open_bv {n : Nat} {cs : List Value} {x : DataW H × List MemPlace} (h : DataW.trod enc Tryz.prog w base spare held n 40 cs = some x) (hr : Within Tryz.prog 40 x.1) :
    ∃ k : Bv, cs = [k.val] ∧ k.In w ∧ k.n ≤ reachBytes := by
  obtain ⟨a, m, c, rfl⟩ : ∃ a m c, cs = [.slice a m c] := by
    rcases open_slice Tryz.underlying40 h with ⟨h0, _⟩ | ⟨ad, ln, cp, m, n, D, Pl, hcs, _⟩
    · exact ⟨_, _, _, h0⟩
    · exact ⟨_, _, _, hcs⟩
  obtain ⟨l, h1, h2⟩ := open_bytesW h hr
  exact ⟨⟨a, m, c, l⟩, rfl, h1, h2⟩
/-- Keys, or any other rows of bytes. -/
theorem open_keysW {fuel len cap : Nat} {a : Option Addr} {x : DataW H × List MemPlace}
    (h : DataW.trod enc Tryz.prog w base spare held fuel 23 [.slice a len cap] = some x) (hr : Within Tryz.prog 23 x.1) : ∃ ks, KeysIn w a len cap ks ∧ len ≤ reachBytes ∧ ∀ k ∈ ks, k.n ≤ reachBytes := by
  have : Inhabited Bv := ⟨⟨none, 0, 0, []⟩⟩
  obtain ⟨b, off, l, h1, h2, h3, h4, h5, h6⟩ := open_rowsW (mk := fun d : Bv => [d.val])
    (Wf := fun d => d.In w ∧ d.n ≤ reachBytes) Tryz.underlying23 (c := 1) (by kernel_rfl) (by decide) (by
      intro n cs x hx hr
      exact open_bv hx hr) h hr
  have hs := sl_of_rows (fun d : Bv => [d.val]) (by decide) (fun y => rfl) (by intro y u hu; simp at hu; subst hu; rfl) h1 h2 h3 h4
  have hall : ∀ k ∈ (List.range len).map l, k.In w ∧ k.n ≤ reachBytes := by
    intro y hy
    simp at hy
    obtain ⟨i, hi, rfl⟩ := hy
    exact h5 i hi
  refine ⟨(List.range len).map l, ⟨?_, fun k hk => (hall k hk).1⟩, ?_, fun k hk => (hall k hk).2⟩
  · have e : ((List.range len).map l).flatMap (fun d : Bv => [d.val]) = ((List.range len).map l).map Bv.val := flat1 _ _
    rw [← e]; exact hs
  · rw [show Tryz.prog.bytesOf 40 = 24 from by kernel_rfl] at h6; omega
end
end Go.Proofs.YtgimdodbajhpoaaGreatDoor
