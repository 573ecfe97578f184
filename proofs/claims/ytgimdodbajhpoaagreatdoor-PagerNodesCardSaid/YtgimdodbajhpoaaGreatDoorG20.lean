/- Own laws for a statement that leaves its order open: what only reads is taken first, as long as a condition S on the world holds; S need not hold any more behind the last operation. THE FRAME BEHIND A REGION, OPENED AT ONCE: what the region wrote is a function's values, all else is what it was. -/
import Derived.StillTail
import Derived.Test.YtgimdodbajhpoaaGreatDoorG03
import Derived.Test.YtgimdodbajhpoaaGreatDoorG09
namespace Go.Proofs.YtgimdodbajhpoaaGreatDoor
open Go.RowKit
set_option linter.unusedSimpArgs false
set_option linter.unusedVariables false
section
variable {P : Program} {ops : Array Oper} {Q : Exit → Act → World → Prop} {md : Region.Mode} {S : World → Prop}

/-- Is there an operation that has not come up yet? -/
def more (ops : Array Oper) (listed : Array Bool) : Bool := (List.range ops.size).any fun k => !listed.getD k true
/-- Does an operation that has not come up yet wait for number i? -/
def sunk (md : Region.Mode) (ops : Array Oper) (listed : Array Bool) (i : Nat) : Bool :=
  (List.range ops.size).any fun k => k != i && !listed.getD k true && Region.waitsFor md ops k i
theorem more_of {k : Nat} {listed : Array Bool} (hk : k < ops.size) (h : listed.getD k true = false) : more ops listed = true := by
  unfold more; rw [List.any_eq_true]; exact ⟨k, List.mem_range.2 hk, by rw [h]; rfl⟩

/-- Whatever order is picked from here on; S holds behind each operation, but the last. -/
def AnyT (P : Program) (md : Region.Mode) (ops : Array Oper) (Q : Exit → Act → World → Prop) (S : World → Prop) : Nat → Array Bool → Act → World → Prop
  | 0, listed, a, w => Region.ready md ops listed = [] ∧ Q .normal a w
  | n + 1, listed, a, w => (Region.ready md ops listed = [] → Q .normal a w) ∧
    ∀ i ∈ Region.ready md ops listed, wpOp P ops Q i (fun a' w' => (more ops (listed.setIfInBounds i true) = true → S w') ∧ AnyT P md ops Q S n (listed.setIfInBounds i true) a' w') a w

theorem AnyT.any : ∀ (n : Nat) (listed : Array Bool) (a : Act) (w : World), AnyT P md ops Q S n listed a w → wpAny P md ops Q n listed a w
  | 0, _, _, _, h => h
  | n + 1, _, _, _, h => ⟨h.1, fun i hi => wpOp_mono (fun a' w' h' => AnyT.any n _ a' w' h'.2) (h.2 i hi)⟩

theorem AnyT.start {id : Nat} {a : Act} {w : World} (hm : P.follows .mixedOrders = true) (hS : S w.drew) (h : S w.drew → AnyT P .any ops Q S ops.size (Array.replicate ops.size false) a w.drew) :
    (Code.region id ops true).wp P Q a w := wp_region_any hm (AnyT.any _ _ _ _ (h hS))

theorem AnyT.first {i k : Nat} {oi : Oper} {v : Value} (hi : ops[i]? = some oi) (hsel : ∀ (j : Nat) (o : Oper) cs b, ops[j]? = some o → o.op ≠ .select cs b)
    (hQ : ∀ c a w, Q (.panic c) (a.put oi.dst v) w → Q (.panic c) a w) (hki : k ≠ i) (hk : Region.waitsFor md ops k i = true) : ∀ (n : Nat) (listed : Array Bool) (a : Act) (w : World),
    (∀ j oj, ops[j]? = some oj → j ≠ i → listed.getD j true = false → (∀ e ∈ oj.after, Region.binds md e = true → e.on ≠ i) → oi.apart ops oj = true) →
    listed.getD k true = false →
    i ∈ Region.ready md ops listed → YieldsIf P ops S oi v a → S w → AnyT P md ops Q S n (listed.setIfInBounds i true) (a.put oi.dst v) w → AnyT P md ops Q S (n + 1) listed a w := by
  obtain ⟨ok, hok, ek, hek, hbk, honk⟩ := Region.waitsFor_spec hk
  have hklt := (Array.getElem?_eq_some_iff.1 hok).1
  intro n
  induction n with
  | zero =>
    intro listed a w _ _ hr hy hS H
    refine ⟨fun h => (by rw [h] at hr; cases hr), fun j hj => ?_⟩
    by_cases hji : j = i
    · subst hji; exact hy.wpOp hi hS ⟨fun _ => hS, H⟩
    · exact absurd H.1 (List.ne_nil_of_mem (ready_mono hj hji))
  | succ n ih =>
    intro listed a w hfree hku hr hy hS H
    refine ⟨fun h => (by rw [h] at hr; cases hr), fun j hj => ?_⟩
    by_cases hji : j = i
    · subst hji; exact hy.wpOp hi hS ⟨fun _ => hS, H⟩
    · have h1 := H.2 j (ready_mono hj hji)
      obtain ⟨hjun, oj, hoj, hall⟩ := mem_ready.1 hj
      have hnot : ∀ e ∈ oj.after, Region.binds md e = true → e.on ≠ i := fun e he hb heq => by
        have g1 := hall e he hb
        have g0 := (mem_ready.1 hr).1
        rw [heq] at g1
        rcases Nat.lt_or_ge i listed.size with h' | h'
        · simp [h'] at g0 g1; rw [g0] at g1; cases g1
        · simp [Array.getElem?_eq_none h'] at g1
      have hkj : j ≠ k := by
        rintro rfl
        obtain rfl : oj = ok := Option.some.inj (hoj.symm.trans hok)
        exact hnot ek hek hbk honk
      have h2 := wpOp_putIf hoj (hfree j oj hoj hji hjun hnot) (fun cs b => hsel i oi cs b hi) (fun cs b => hsel j oj cs b hoj) hQ hy h1
      have hri : i ∈ Region.ready md ops (listed.setIfInBounds j true) := ready_mono hr (Ne.symm hji)
      have hcomm : (listed.setIfInBounds j true).setIfInBounds i true = (listed.setIfInBounds i true).setIfInBounds j true := (Array.setIfInBounds_comm _ _ hji)
      refine wpOp_mono (fun a' w' h3 => ?_) h2
      obtain ⟨hya, hSw, hA⟩ := h3
      have hSw' : S w' := hSw (more_of hklt (by rw [getD_set_ne true hkj, getD_set_ne true (Ne.symm hki)]; exact hku))
      exact ⟨fun _ => hSw', ih (listed.setIfInBounds j true) a' w' (fun k ok hk hki hun hno => hfree k ok hk hki (by
          by_cases hjk : j = k
          · subst hjk; exact hjun
          · rwa [getD_set_ne true hjk] at hun) hno) (by rw [getD_set_ne true hkj]; exact hku) hri hya hSw' (by rw [hcomm]; exact hA)⟩

/-- TAKE NUMBER i FIRST: it only reads, and number k, which has not come up yet, waits for it. -/
theorem AnyT.take {i k n : Nat} {oi : Oper} {v : Value} {listed : Array Bool} {a : Act} {w : World} (hi : ops[i]? = some oi)
    (hs : (Region.noSelect ops && Region.free md ops listed i && (Region.ready md ops listed).contains i && (k != i) && Region.waitsFor md ops k i && !listed.getD k true) = true)
    (hQ : ∀ c a w, Q (.panic c) (a.put oi.dst v) w → Q (.panic c) a w) (hS : S w) (hy : YieldsIf P ops S oi v a)
    (h : AnyT P md ops Q S n (listed.setIfInBounds i true) (a.put oi.dst v) w) : AnyT P md ops Q S (n + 1) listed a w := by
  simp only [Bool.and_eq_true, bne_iff_ne, Bool.not_eq_true'] at hs
  obtain ⟨⟨⟨⟨⟨h1, h2⟩, h3⟩, h4⟩, h5⟩, h6⟩ := hs
  exact AnyT.first hi (Region.noSelect_spec h1) hQ h4 h5 n listed a w (Region.free_spec hi h2) h6 (by simpa using h3) hy hS h

/-- NUMBER i IS THE ONE THAT COMES UP. -/
theorem AnyT.one {i n : Nat} {oi : Oper} {listed : Array Bool} {a : Act} {w : World} (hr : Region.ready md ops listed = [i]) (hi : ops[i]? = some oi)
    (h : ∀ K : Act → World → Prop, (∀ a' w', (more ops (listed.setIfInBounds i true) = true → S w') → AnyT P md ops Q S n (listed.setIfInBounds i true) a' w' → K a' w') →
      if Region.wanted oi (yielded ops a.tmps) = true then oi.wp P a w K Q else K (a.put oi.dst undef) w) : AnyT P md ops Q S (n + 1) listed a w := by
  refine ⟨fun h0 => (by rw [hr] at h0; cases h0), fun j hj => ?_⟩
  rw [hr] at hj
  obtain rfl : j = i := by simpa using hj
  have := h (fun a' w' => (more ops (listed.setIfInBounds j true) = true → S w') ∧ AnyT P md ops Q S n (listed.setIfInBounds j true) a' w') (fun a' w' hs ha => ⟨hs, ha⟩)
  unfold wpOp
  simp only [hi]
  split
  · rename_i hw; rw [if_pos hw] at this; exact Or.inl this
  · rename_i hw; rw [if_neg hw] at this; exact this

/-- .. without a guard: the operation itself. -/
theorem AnyT.run {i n : Nat} {oi : Oper} {listed : Array Bool} {a : Act} {w : World} (hr : Region.ready md ops listed = [i]) (hi : ops[i]? = some oi) (hg : oi.guard = none)
    (h : ∀ K : Act → World → Prop, (∀ a' w', (more ops (listed.setIfInBounds i true) = true → S w') → AnyT P md ops Q S n (listed.setIfInBounds i true) a' w' → K a' w') → oi.wp P a w K Q) : AnyT P md ops Q S (n + 1) listed a w :=
  AnyT.one hr hi fun K hK => by rw [if_pos (by simp [Region.wanted, hg])]; exact h K hK

/-- TWO MAY COME UP. -/
theorem AnyT.two {i j n : Nat} {oi oj : Oper} {listed : Array Bool} {a : Act} {w : World} (hr : Region.ready md ops listed = [i, j]) (hi : ops[i]? = some oi) (hj : ops[j]? = some oj)
    (h1 : ∀ K : Act → World → Prop, (∀ a' w', (more ops (listed.setIfInBounds i true) = true → S w') → AnyT P md ops Q S n (listed.setIfInBounds i true) a' w' → K a' w') → if Region.wanted oi (yielded ops a.tmps) = true then oi.wp P a w K Q else K (a.put oi.dst undef) w)
    (h2 : ∀ K : Act → World → Prop, (∀ a' w', (more ops (listed.setIfInBounds j true) = true → S w') → AnyT P md ops Q S n (listed.setIfInBounds j true) a' w' → K a' w') → if Region.wanted oj (yielded ops a.tmps) = true then oj.wp P a w K Q else K (a.put oj.dst undef) w) :
    AnyT P md ops Q S (n + 1) listed a w := by
  refine ⟨fun h0 => (by rw [hr] at h0; cases h0), fun x hx => ?_⟩
  rw [hr] at hx
  rcases List.mem_cons.1 hx with rfl | hx
  · have := h1 (fun a' w' => (more ops (listed.setIfInBounds x true) = true → S w') ∧ AnyT P md ops Q S n (listed.setIfInBounds x true) a' w') (fun a' w' hs ha => ⟨hs, ha⟩)
    unfold wpOp
    simp only [hi]
    split
    · rename_i hw; rw [if_pos hw] at this; exact Or.inl this
    · rename_i hw; rw [if_neg hw] at this; exact this
  · obtain rfl : x = j := by simpa using hx
    have := h2 (fun a' w' => (more ops (listed.setIfInBounds x true) = true → S w') ∧ AnyT P md ops Q S n (listed.setIfInBounds x true) a' w') (fun a' w' hs ha => ⟨hs, ha⟩)
    unfold wpOp
    simp only [hj]
    split
    · rename_i hw; rw [if_pos hw] at this; exact Or.inl this
    · rename_i hw; rw [if_neg hw] at this; exact this
/-- A step without a guard. -/
theorem run_step {oi : Oper} {a : Act} {w : World} {K : Act → World → Prop} {E : Prop} (hg : oi.guard = none) (h : oi.wp P a w K Q) : if Region.wanted oi (yielded ops a.tmps) = true then oi.wp P a w K Q else E := by
  rw [if_pos (by simp [Region.wanted, hg])]; exact h

/-- ALL HAVE COME UP. -/
theorem AnyT.done {listed : Array Bool} {a : Act} {w : World} (hr : Region.ready md ops listed = []) (h : Q .normal a w) : ∀ n, AnyT P md ops Q S n listed a w
  | 0 => ⟨hr, h⟩
  | n + 1 => ⟨fun _ => h, by rw [hr]; simp⟩
end
end Go.Proofs.YtgimdodbajhpoaaGreatDoor
namespace Go.Proofs.YtgimdodbajhpoaaGreatDoor
open Go.RowKit

/-- Where fl says so, g's value; else what was there. -/
def mixF (g : Nat → Value) : Nat → List Bool → List Value → List Value
  | k, true :: f, _ :: bs => g k :: mixF g (k + 1) f bs
  | k, false :: f, b :: bs => b :: mixF g (k + 1) f bs
  | _, _, _ => []
theorem mixF_get (g : Nat → Value) : ∀ (fl : List Bool) (base : List Value) (k i : Nat), fl.length = base.length →
    (mixF g k fl base)[i]? = if i < base.length then some (if fl.getD i false = true then g (k + i) else base.getD i undef) else none
  | [], [], k, i, _ => by simp [mixF]
  | true :: f, b :: bs, k, 0, _ => by simp [mixF]
  | false :: f, b :: bs, k, 0, _ => by simp [mixF]
  | true :: f, b :: bs, k, i + 1, h => by
    have := mixF_get g f bs (k + 1) i (by simpa using h)
    simp only [mixF, List.getElem?_cons_succ, this, List.length_cons, List.getD_cons_succ, Nat.add_lt_add_iff_right]
    rw [show k + 1 + i = k + (i + 1) by omega]
  | false :: f, b :: bs, k, i + 1, h => by
    have := mixF_get g f bs (k + 1) i (by simpa using h)
    simp only [mixF, List.getElem?_cons_succ, this, List.length_cons, List.getD_cons_succ, Nat.add_lt_add_iff_right]
    rw [show k + 1 + i = k + (i + 1) by omega]
/-- The frame behind a region. -/
theorem frame_mix {X : Act} {base : List Value} {ops : Array Oper} (fl : List Bool) (hl : fl.length = base.length) (hsize : X.tmps.size = base.length) (hdef : X.defers = [])
    (hold : ∀ d, (ops.all fun o => o.dst != some d) = true → X.tmps.getD d undef = (List.toArray base).getD d undef)
    (hf : ((List.range base.length).all fun d => fl.getD d false || ops.all fun o => o.dst != some d) = true) :
    ∃ g : Nat → Value, X = ⟨(mixF g 0 fl base).toArray, []⟩ ∧ ∀ d, X.tmps.getD d undef = g d := by
  refine ⟨fun d => X.tmps.getD d undef, ?_, fun _ => rfl⟩
  obtain ⟨⟨xs⟩, df⟩ := X
  replace hdef : df = [] := hdef
  subst hdef
  replace hsize : xs.length = base.length := hsize
  have e : xs = mixF (fun d => (Array.mk xs).getD d undef) 0 fl base := by
    apply List.ext_getElem?
    intro i
    rw [mixF_get _ _ _ _ _ hl]
    by_cases hi : i < base.length
    · rw [if_pos hi, List.getElem?_eq_getElem (by omega)]
      congr 1
      have hx : (Array.mk xs).getD i undef = xs[i]'(by omega) := by
        simp [hsize, hi]
      split
      · rw [Nat.zero_add, hx]
      · rename_i hfl
        have h1 := List.all_eq_true.1 hf i (List.mem_range.2 hi)
        have h2 : (ops.all fun o => o.dst != some i) = true := by
          cases hb : fl.getD i false with
          | true => exact absurd hb hfl
          | false => rw [hb, Bool.false_or] at h1; exact h1
        have h3 := hold i h2
        rw [← hx]
        refine h3.trans ?_
        simp [Array.getD_eq_getD_getElem?]
    · rw [if_neg hi, List.getElem?_eq_none (by omega)]
  show (⟨⟨xs⟩, []⟩ : Act) = ⟨⟨_⟩, []⟩
  rw [← e]
end Go.Proofs.YtgimdodbajhpoaaGreatDoor
