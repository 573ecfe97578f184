/- THE FRAME BEHIND A REGION, OPENED AT ONCE: what the region wrote is a function's values, all else is what it was. -/
import Derived.Test.YtgimdodbajhpoaaPar
namespace Go.Proofs.Ytgimdodbajhpoaa
open Go.RowKit

/-- Where fl says so, g's value; else what was there. -/
def mixF (g : Nat → Value) : Nat → List Bool → List Value → List Value
  | k, true :: f, _ :: bs => g k :: mixF g (k + 1) f bs
  | k, false :: f, b :: bs => b :: mixF g (k + 1) f bs
  | _, _, _ => []
theorem mixF_get (g : Nat → Value) : ∀ (fl : List Bool) (base : List Value) (k i : Nat), fl.length = base.length →
    (mixF g k fl base)[i]? = if i < base.length then some (if fl.getD i false = true then g (k + i) else base.getD i undef) else none
  | [], [], k, i, _ => by simp [mixF]
  | true :: f, b :: bs, k, 0, _ => by simp [mixF]
  | false :: f, b :: bs, k, 0, _ => by simp [mixF]
  | true :: f, b :: bs, k, i + 1, h => by
    have := mixF_get g f bs (k + 1) i (by simpa using h)
    simp only [mixF, List.getElem?_cons_succ, this, List.length_cons, List.getD_cons_succ, Nat.add_lt_add_iff_right]
    rw [show k + 1 + i = k + (i + 1) by omega]
  | false :: f, b :: bs, k, i + 1, h => by
    have := mixF_get g f bs (k + 1) i (by simpa using h)
    simp only [mixF, List.getElem?_cons_succ, this, List.length_cons, List.getD_cons_succ, Nat.add_lt_add_iff_right]
    rw [show k + 1 + i = k + (i + 1) by omega]
/-- The frame behind a region. -/
theorem frame_mix {X : Act} {base : List Value} {ops : Array Oper} (fl : List Bool) (hl : fl.length = base.length) (hsize : X.tmps.size = base.length) (hdef : X.defers = [])
    (hold : ∀ d, (ops.all fun o => o.dst != some d) = true → X.tmps.getD d undef = (List.toArray base).getD d undef)
    (hf : ((List.range base.length).all fun d => fl.getD d false || ops.all fun o => o.dst != some d) = true) :
    ∃ g : Nat → Value, X = ⟨(mixF g 0 fl base).toArray, []⟩ ∧ ∀ d, X.tmps.getD d undef = g d := by
  refine ⟨fun d => X.tmps.getD d undef, ?_, fun _ => rfl⟩
  obtain ⟨⟨xs⟩, df⟩ := X
  replace hdef : df = [] := hdef
  subst hdef
  replace hsize : xs.length = base.length := hsize
  have e : xs = mixF (fun d => (Array.mk xs).getD d undef) 0 fl base := by
    apply List.ext_getElem?
    intro i
    rw [mixF_get _ _ _ _ _ hl]
    by_cases hi : i < base.length
    · rw [if_pos hi, List.getElem?_eq_getElem (by omega)]
      congr 1
      have hx : (Array.mk xs).getD i undef = xs[i]'(by omega) := by
        simp [hsize, hi]
      split
      · rw [Nat.zero_add, hx]
      · rename_i hfl
        have h1 := List.all_eq_true.1 hf i (List.mem_range.2 hi)
        have h2 : (ops.all fun o => o.dst != some i) = true := by
          cases hb : fl.getD i false with
          | true => exact absurd hb hfl
          | false => rw [hb, Bool.false_or] at h1; exact h1
        have h3 := hold i h2
        rw [← hx]
        refine h3.trans ?_
        simp [Array.getD_eq_getD_getElem?]
    · rw [if_neg hi, List.getElem?_eq_none (by omega)]
  show (⟨⟨xs⟩, []⟩ : Act) = ⟨⟨_⟩, []⟩
  rw [← e]
end Go.Proofs.Ytgimdodbajhpoaa
