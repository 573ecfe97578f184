/- Own lemmas for the rows: arguments that came in, opened. -/
import Derived.ProofKit
import Derived.OpenShut
import Derived.ShutString
import Derived.ChangeOld
import Derived.SizedLaws
import Derived.Deep.Slices
import Derived.Deep.Strs
import Derived.Test.YtgimdodbajhpoaaGreatDoorG02
import Derived.Test.YtgimdodbajhpoaaGreatDoorRows
namespace Go.Proofs.YtgimdodbajhpoaaGreatDoor
open Go.RowKit Go.Deep Go.WideShapes

theorem row_own : ownKnob Tryz.prog.godebug = none := by kernel_rfl
theorem row_laidOut : laidOutB Tryz.prog = true := by kernel_rfl

section
variable {H : Type} {enc : TypeId × Value → H} {P : Program} {w : World} {base : Nat} {spare : Nat → Bool} {held : Bool}

theorem cell_spot {w : World} {a : Addr} {v : Value} (h : w.cell? a = some v) : a = ⟨a.block, a.off, none⟩ := by
  obtain ⟨b, o, s⟩ := a
  cases s with
  | none => rfl
  | some s => simp only [World.cell?] at h; split at h <;> simp at h

/-- A SLICE OF ELEMENTS OF c CELLS, OPENED: what an element is says 'hop'. -/
theorem open_rows {α : Type} [Inhabited α] (mk : α → List Value) (Wf : α → Prop) {T E c fuel len cap : Nat} {a : Option Addr} {x : DataW H × List MemPlace}
    (hT : P.underlying T = some (.slice E)) (hc : P.cellsOf E = c) (hc0 : 0 < c)
    (hop : ∀ n cs x, DataW.trod enc P w base spare held n E cs = some x → ∃ y : α, cs = mk y ∧ Wf y)
    (h : DataW.trod enc P w base spare held fuel T [.slice a len cap] = some x) :
    ∃ b off, ∃ l : Nat → α, (0 < len → a = some ⟨b, off, none⟩ ∧ b < w.heap.size) ∧ len ≤ cap ∧ cap ≤ maxLen ∧
      (∀ i, i < len → ∀ j, j < c → w.cell? ⟨b, off + i * c + j, none⟩ = (mk (l i))[j]?) ∧ ∀ i, i < len → Wf (l i) := by
  rcases open_slice hT h with ⟨h0, _⟩ | ⟨ad, ln, cp, m, n, D, Pl, hcs, hb, hl, hm, hmm, _, hx⟩
  · simp at h0; obtain ⟨rfl, rfl, rfl⟩ := h0
    exact ⟨0, 0, fun _ => default, by omega, by omega, by unfold maxLen; omega, by omega, by omega⟩
  · simp at hcs; obtain ⟨rfl, rfl, rfl⟩ := hcs
    have hlm : len ≤ m := by rw [hmm]; split <;> omega
    have hel : ∀ i, i < len → ∃ y : α, (∀ j, j < c → w.cell? ((ad.add (i * c)).add j) = (mk y)[j]?) ∧ (mk y).length = c ∧ Wf y := by
      intro i hi
      obtain ⟨cs', h1, h2⟩ := hx i (by omega)
      obtain ⟨y, rfl, hy⟩ := hop _ _ _ h2
      rw [hc] at h1
      obtain ⟨_, hlen, hcell⟩ := World.cells?_some h1
      exact ⟨y, hcell, hlen, hy⟩
    by_cases hz : 0 < len
    · obtain ⟨l, hl'⟩ := choose_lt (α := α) (p := fun i y => (∀ j, j < c → w.cell? ((ad.add (i * c)).add j) = (mk y)[j]?) ∧ (mk y).length = c ∧ Wf y) hel
      have hs : ad = ⟨ad.block, ad.off, none⟩ := by
        obtain ⟨h1, h2, _⟩ := hl' 0 hz
        have := h1 0 hc0
        simp only [Nat.zero_mul, Addr.add, if_true] at this
        rw [List.getElem?_eq_getElem (by omega)] at this
        exact cell_spot this
      have hadd : ∀ i j, (ad.add (i * c)).add j = ⟨ad.block, ad.off + i * c + j, none⟩ := by
        intro i j
        rw [hs]
        unfold Addr.add
        by_cases e1 : i * c = 0 <;> by_cases e2 : j = 0 <;> simp [e1, e2]
      refine ⟨ad.block, ad.off, l, fun _ => ⟨by rw [← hs], ?_⟩, hl, hm, fun i hi j hj => ?_, fun i hi => (hl' i hi).2.2⟩
      · obtain ⟨h1, h2, _⟩ := hl' 0 hz
        have := h1 0 hc0
        rw [hadd] at this
        rw [List.getElem?_eq_getElem (by omega)] at this
        unfold World.cell? at this
        split at this
        · rename_i hh; exact lt_of_at hh
        · cases this
      · rw [← hadd]; exact (hl' i hi).1 j hj
    · exact ⟨0, 0, fun _ => default, by omega, by omega, hm, by omega, by omega⟩

/-- An integer's cell, opened. -/
theorem open_intc {k : IntKind} {t fuel : Nat} {cs : List Value} {x : DataW H × List MemPlace} (ht : P.underlying t = some (.int k)) (h : DataW.trod enc P w base spare held fuel t cs = some x) : ∃ n, cs = [.int k n] ∧ (Lit.int k n).wf = true := by
  obtain ⟨n, rfl, _, hw⟩ := DataW.trod_int ht h
  exact ⟨n, rfl, hw⟩
end

theorem of_wf_u64 {x : Int} (h : (Lit.int .u64 x).wf = true) : 0 ≤ x ∧ x < 2 ^ 64 := by simp [Lit.wf, IntKind.min, IntKind.max, IntKind.signed, IntKind.bits] at h; omega
theorem of_wf_i64 {x : Int} (h : (Lit.int .i64 x).wf = true) : -9223372036854775808 ≤ x ∧ x ≤ 9223372036854775807 := by simp [Lit.wf, IntKind.min, IntKind.max, IntKind.signed, IntKind.bits] at h; omega
end Go.Proofs.YtgimdodbajhpoaaGreatDoor
