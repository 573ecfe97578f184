/- A law for a region that draws its order: each operation is shown once, whatever has come up ahead of it. -/
import Derived.StillTail
import Derived.Test.YtgimdodbajhpoaaGreatDoorG03
namespace Go.Proofs.YtgimdodbajhpoaaGreatDoor
open Go.RowKit
set_option linter.unusedSimpArgs false
set_option linter.unusedVariables false

/-- What was in the blocks of cells is there. -/
structure Keep (w w' : World) : Prop where
  size : w.heap.size ≤ w'.heap.size
  block : ∀ (b : Nat) (cs : Array Value) (T : TypeId) (fz : Nat × Nat), w.heap[b]? = some (Obj.cells cs T fz) → ∃ fz' : Nat × Nat, w'.heap[b]? = some (Obj.cells cs T fz')
theorem Keep.refl (w : World) : Keep w w := ⟨Nat.le_refl _, fun _ _ _ fz h => ⟨fz, h⟩⟩
theorem Keep.trans {a b c : World} (h : Keep a b) (k : Keep b c) : Keep a c := ⟨Nat.le_trans h.size k.size, fun x cs T fz hx => by obtain ⟨f, hf⟩ := h.block x cs T fz hx; exact k.block x cs T f hf⟩
theorem Keep.of_mod {w w' : World} (h : Mod [] w w') : Keep w w' := ⟨h.size, fun b cs T fz hb => ⟨fz, h.at hb (by simp)⟩⟩
theorem Keep.cell {w w' : World} (h : Keep w w') {b o : Nat} {u : Value} (hc : w.cell? ⟨b, o, none⟩ = some u) : w'.cell? ⟨b, o, none⟩ = some u := by
  have : ∃ (cs : Array Value) (T : TypeId) (fz : Nat × Nat), w.heap[b]? = some (Obj.cells cs T fz) := by
    unfold World.cell? at hc
    simp only at hc
    cases hb : w.heap[b]? with
    | none => rw [hb] at hc; simp at hc
    | some x =>
      rw [hb] at hc
      cases x <;> simp at hc
      exact ⟨_, _, _, rfl⟩
  obtain ⟨cs, T, fz, hb⟩ := this
  obtain ⟨f, hf⟩ := h.block b cs T fz hb
  rw [cell_of_at hb] at hc
  rw [cell_of_at hf]; exact hc
theorem Sl.keep {w w' : World} {size m cap : Nat} {p : Option Addr} {cells : List Value} (h : Sl w size p m cap cells) (hk : Keep w w') : Sl w' size p m cap cells := by
  obtain ⟨h1, h2, h3, h4, b, off, h5, h6⟩ := h
  exact ⟨h1, h2, h3, h4, b, off, fun hp => ⟨(h5 hp).1, Nat.lt_of_lt_of_le (h5 hp).2 hk.size⟩, fun j u hj => hk.cell (h6 j u hj)⟩

def allUpTo (p : Nat → Prop) : Nat → Prop
  | 0 => True
  | n + 1 => allUpTo p n ∧ p n
theorem allUpTo_spec {p : Nat → Prop} : ∀ {n : Nat}, allUpTo p n → ∀ i, i < n → p i
  | n + 1, h, i, hi => by
    rcases Nat.lt_succ_iff_lt_or_eq.1 hi with h1 | rfl
    · exact allUpTo_spec h.1 i h1
    · exact h.2

section
variable {P : Program} {md : Region.Mode}
/-- No guard; an operation waits for earlier ones alone; no slot is written twice, and each is within the frame. -/
def parOk (md : Region.Mode) (ops : Array Oper) (n : Nat) : Bool :=
  (List.range ops.size).all fun i => match ops[i]? with
    | none => true
    | some o => (o.after.all fun e => !Region.binds md e || decide (e.on < i)) && (match o.dst with
      | none => true
      | some d => decide (d < n) && (List.range i).all fun j => (ops[j]?.bind (·.dst)) != some d)
structure ParOk (md : Region.Mode) (ops : Array Oper) (n : Nat) : Prop where
  after : ∀ (i : Nat) (o : Oper), ops[i]? = some o → ∀ e ∈ o.after, Region.binds md e = true → e.on < i
  dst : ∀ (i : Nat) (o : Oper) (d : Nat), ops[i]? = some o → o.dst = some d → d < n
  one : ∀ (i j : Nat) (oi oj : Oper) (d : Nat), ops[i]? = some oi → ops[j]? = some oj → oi.dst = some d → oj.dst = some d → i = j
theorem parOk_spec {ops : Array Oper} {n : Nat} (h : parOk md ops n = true) : ParOk md ops n := by
  unfold parOk at h
  rw [List.all_eq_true] at h
  have key : ∀ (i : Nat) (o : Oper), ops[i]? = some o → (∀ e ∈ o.after, Region.binds md e = true → e.on < i) ∧ ∀ d, o.dst = some d → d < n ∧ ∀ j, j < i → (ops[j]?.bind (·.dst)) ≠ some d := by
    intro i o ho
    have hi : i < ops.size := (Array.getElem?_eq_some_iff.1 ho).1
    have := h i (List.mem_range.2 hi)
    rw [ho] at this
    simp only [Bool.and_eq_true] at this
    obtain ⟨h2, h3⟩ := this
    refine ⟨fun e he hbd => ?_, fun d hd => ?_⟩
    · have := (Array.all_eq_true'.1 h2) e he
      rw [hbd] at this
      simpa using this
    · rw [hd] at h3
      simp only [Bool.and_eq_true, decide_eq_true_eq, List.all_eq_true, List.mem_range] at h3
      exact ⟨h3.1, fun j hj => by simpa using h3.2 j hj⟩
  refine ⟨fun i o ho => (key i o ho).1, fun i o d ho hd => ((key i o ho).2 d hd).1, fun i j oi oj d hi hj h1 h2 => ?_⟩
  rcases Nat.lt_trichotomy i j with h | h | h
  · exact absurd (by rw [hi]; exact h1) (((key j oj hj).2 d h2).2 i h)
  · exact h
  · exact absurd (by rw [hj]; exact h2) (((key i oi hi).2 d h1).2 j h)

/-- What is known when those that are listed have come up. -/
structure ParInv (md : Region.Mode) (ops : Array Oper) (a0 : Act) (R : Nat → (Nat → Value) → World → Prop) (I : World → Prop) (listed : Array Bool) (vs : Nat → Value) (a : Act) (w : World) : Prop where
  inv : I w
  val : ∀ i, i < ops.size → listed.getD i true = true → R i vs w
  closed : ∀ (i : Nat) (o : Oper), ops[i]? = some o → listed.getD i true = true → ∀ e ∈ o.after, Region.binds md e = true → listed.getD e.on true = true
  len : a.tmps.size = a0.tmps.size
  defers : a.defers = a0.defers
  slot : ∀ (i : Nat) (o : Oper) (d : Nat), ops[i]? = some o → o.dst = some d → listed.getD i true = true → a.tmps.getD d undef = vs i
  rest : ∀ d : Nat, (∀ (i : Nat) (o : Oper), ops[i]? = some o → o.dst = some d → listed.getD i true = false) → a.tmps.getD d undef = a0.tmps.getD d undef

/-- Operation i, whatever has come up ahead of it. -/
def StepOk (P : Program) (md : Region.Mode) (ops : Array Oper) (Q : Exit → Act → World → Prop) (a0 : Act) (R : Nat → (Nat → Value) → World → Prop) (I : World → Prop) (i : Nat) : Prop :=
  ∀ o : Oper, ops[i]? = some o → ∀ (listed : Array Bool) (vs : Nat → Value) (a : Act) (w : World), ParInv md ops a0 R I listed vs a w → listed.getD i true = false → (∀ e ∈ o.after, Region.binds md e = true → listed.getD e.on true = true) →
    ∀ K : Act → World → Prop, (∀ v w', I w' → (∀ j, j < ops.size → listed.getD j true = true → R j vs w') → R i (fun j => if j = i then v else vs j) w' → K (a.put o.dst v) w') → if Region.wanted o (yielded ops a.tmps) = true then o.wp P a w K Q else K (a.put o.dst undef) w
/-- A predecessor's slot and what is known of it. -/
theorem ParInv.get {ops : Array Oper} {a0 : Act} {R : Nat → (Nat → Value) → World → Prop} {I : World → Prop} {listed : Array Bool} {vs : Nat → Value} {a : Act} {w : World} (h : ParInv md ops a0 R I listed vs a w) {o : Oper}
    (haft : ∀ e ∈ o.after, Region.binds md e = true → listed.getD e.on true = true) (k d : Nat) (hk : (ops[k]?.bind (·.dst)) = some d) (he : (o.after.any fun e => e.on == k && Region.binds md e) = true) :
    a.tmps.getD d undef = vs k ∧ R k vs w := by
  cases hok : ops[k]? with
  | none => rw [hok] at hk; simp at hk
  | some ok =>
    rw [hok] at hk
    rw [Array.any_eq_true'] at he
    obtain ⟨e, he1, he2⟩ := he
    simp only [Bool.and_eq_true, beq_iff_eq] at he2
    have hl := haft e he1 he2.2
    rw [he2.1] at hl
    exact ⟨h.slot k ok d hok hk hl, h.val k (Array.getElem?_eq_some_iff.1 hok).1 hl⟩
theorem ParInv.old {ops : Array Oper} {a0 : Act} {R : Nat → (Nat → Value) → World → Prop} {I : World → Prop} {listed : Array Bool} {vs : Nat → Value} {a : Act} {w : World} (h : ParInv md ops a0 R I listed vs a w)
    (d : Nat) (hd : (ops.all fun o => o.dst != some d) = true) : a.tmps.getD d undef = a0.tmps.getD d undef :=
  h.rest d fun i o ho hod => by
    have := (Array.all_eq_true'.1 hd) o (Array.mem_of_getElem? ho)
    simp [hod] at this

/-- From operation x down to i, each one waiting for the next. -/
def downTo (md : Region.Mode) (ops : Array Oper) (i : Nat) : Nat → List Nat → Bool
  | x, [] => x == i
  | x, y :: r => (match ops[x]? with | some o => o.after.any fun e => e.on == y && Region.binds md e | none => false) && downTo md ops i y r
theorem ParInv.unlisted {ops : Array Oper} {a0 : Act} {R : Nat → (Nat → Value) → World → Prop} {I : World → Prop} {listed : Array Bool} {vs : Nat → Value} {a : Act} {w : World} (h : ParInv md ops a0 R I listed vs a w) {i : Nat} (hun : listed.getD i true = false) :
    ∀ (r : List Nat) (x : Nat), downTo md ops i x r = true → listed.getD x true = false
  | [], x, hc => by
    have : x = i := by simpa [downTo] using hc
    rw [this]; exact hun
  | y :: r, x, hc => by
    simp only [downTo, Bool.and_eq_true] at hc
    obtain ⟨h1, h2⟩ := hc
    have hy := ParInv.unlisted h hun r y h2
    cases hox : ops[x]? with
    | none => rw [hox] at h1; cases h1
    | some o =>
      rw [hox] at h1
      simp only [Array.any_eq_true'] at h1
      obtain ⟨e, he1, he2⟩ := h1
      simp only [Bool.and_eq_true, beq_iff_eq] at he2
      cases hl : listed.getD x true with
      | false => rfl
      | true =>
        have := h.closed x o hox hl e he1 he2.2
        rw [he2.1, hy] at this; cases this
/-- A slot that is written by operation k alone, which has not come up yet. -/
theorem ParInv.oldU {ops : Array Oper} {a0 : Act} {R : Nat → (Nat → Value) → World → Prop} {I : World → Prop} {listed : Array Bool} {vs : Nat → Value} {a : Act} {w : World} (h : ParInv md ops a0 R I listed vs a w) {i : Nat} (hun : listed.getD i true = false)
    (d k : Nat) (r : List Nat) (hc : downTo md ops i k r = true) (hd : ((List.range ops.size).all fun j => j == k || (ops[j]?.bind (·.dst)) != some d) = true) : a.tmps.getD d undef = a0.tmps.getD d undef :=
  h.rest d fun j o ho hod => by
    have hj := (Array.getElem?_eq_some_iff.1 ho).1
    rw [List.all_eq_true] at hd
    have := hd j (List.mem_range.2 hj)
    rw [ho] at this
    simp [hod] at this
    subst this
    exact h.unlisted hun r j hc
theorem par_run {ops : Array Oper} {Q : Exit → Act → World → Prop} {o : Oper} {a : Act} {w : World} {K : Act → World → Prop} {E : Prop} (hg : o.guard = none) (h : o.wp P a w K Q) : if Region.wanted o (yielded ops a.tmps) = true then o.wp P a w K Q else E := by
  rw [if_pos (by simp [Region.wanted, hg])]; exact h
/-- A guarded operation whose guard's slot is known. -/
theorem par_guard {ops : Array Oper} {Q : Exit → Act → World → Prop} {o : Oper} {a : Act} {w : World} {K : Act → World → Prop} {E : Prop} {j d : Nat} {want b : Bool} (hg : o.guard = some (j, want)) (hj : ((ops[j]?).bind (·.dst)) = some d) (hd : a.tmps.getD d undef = .bool b)
    (h : if b = want then o.wp P a w K Q else E) : if Region.wanted o (yielded ops a.tmps) = true then o.wp P a w K Q else E := by
  have h2 : a.tmps[d]? = some (.bool b) := by
    rw [Array.getD_eq_getD_getElem?] at hd
    cases h : a.tmps[d]? with
    | none => rw [h] at hd; simp [undef] at hd
    | some x => rw [h] at hd; simpa using hd
  have hy : yielded ops a.tmps j = some b := by unfold yielded; rw [hj]; simp [h2]
  have hw : Region.wanted o (yielded ops a.tmps) = decide (b = want) := by
    unfold Region.wanted; rw [hg]; simp only [hy]
    cases b <;> cases want <;> rfl
  rw [hw]
  by_cases hb : b = want
  · rw [if_pos hb] at h; rw [if_pos (by simp [hb])]; exact h
  · rw [if_neg hb] at h; rw [if_neg (by simp [hb])]; exact h
/-- A guarded operation that is not wanted. -/
theorem par_skip {ops : Array Oper} {Q : Exit → Act → World → Prop} {o : Oper} {a : Act} {w : World} {K : Act → World → Prop} {E : Prop} {j d : Nat} {want : Bool} {v : Value} (hg : o.guard = some (j, want)) (hj : ((ops[j]?).bind (·.dst)) = some d) (hd : a.tmps.getD d undef = v) (hv : ¬ v = .bool want)
    (h : E) : if Region.wanted o (yielded ops a.tmps) = true then o.wp P a w K Q else E := by
  have hw : Region.wanted o (yielded ops a.tmps) = false := by
    unfold Region.wanted yielded
    rw [hg]; simp only [hj, Option.bind_some]
    cases hx : a.tmps[d]? with
    | none => rfl
    | some x =>
      rw [Array.getD_eq_getD_getElem?, hx] at hd
      replace hd : x = v := hd
      subst hd
      cases x <;> simp
      rename_i b
      intro e; subst e; exact hv rfl
  rw [if_neg (by simp [hw])]; exact h
theorem getD_opt {a : Array Value} {d : Nat} {v : Value} (h : a.getD d undef = v) : a[d]?.getD undef = v := by rw [← h, Array.getD_eq_getD_getElem?]
theorem cons_of {α : Type} {xs : List α} {n : Nat} (h : xs.length = n + 1) : ∃ x ys, xs = x :: ys ∧ ys.length = n := by
  cases xs with
  | nil => simp at h
  | cons x ys => exact ⟨x, ys, rfl, by simpa using h⟩
/-- The frame behind all operations. -/
def putAll (ops : Array Oper) (vs : Nat → Value) (a0 : Act) : Nat → Act
  | 0 => a0
  | n + 1 => (putAll ops vs a0 n).put ((ops[n]?).bind (·.dst)) (vs n)
theorem putAll_len (ops : Array Oper) (vs : Nat → Value) (a0 : Act) : ∀ n, (putAll ops vs a0 n).tmps.size = a0.tmps.size ∧ (putAll ops vs a0 n).defers = a0.defers
  | 0 => ⟨rfl, rfl⟩
  | n + 1 => by
    obtain ⟨h1, h2⟩ := putAll_len ops vs a0 n
    rw [putAll]
    cases (ops[n]?).bind (·.dst) with
    | none => exact ⟨h1, h2⟩
    | some d => exact ⟨by simp [Act.put, h1], h2⟩
theorem putAll_get {ops : Array Oper} {N : Nat} (hok : ParOk md ops N) (vs : Nat → Value) (a0 : Act) (hN : a0.tmps.size = N) (d : Nat) : ∀ n, n ≤ ops.size →
    (∀ (i : Nat) (o : Oper), i < n → ops[i]? = some o → o.dst = some d → (putAll ops vs a0 n).tmps.getD d undef = vs i) ∧
    ((∀ (i : Nat) (o : Oper), i < n → ops[i]? = some o → o.dst ≠ some d) → (putAll ops vs a0 n).tmps.getD d undef = a0.tmps.getD d undef)
  | 0, _ => ⟨fun i o hi => by omega, fun _ => rfl⟩
  | n + 1, hn => by
    obtain ⟨h1, h2⟩ := putAll_get hok vs a0 hN d n (by omega)
    have hs := (putAll_len ops vs a0 n).1
    obtain ⟨on, hon⟩ : ∃ on, ops[n]? = some on := ⟨ops[n], Array.getElem?_eq_getElem (by omega)⟩
    rw [putAll, hon]
    simp only [Option.bind_some]
    constructor
    · intro i o hi ho hod
      rcases Nat.lt_succ_iff_lt_or_eq.1 hi with h | rfl
      · cases hd : on.dst with
        | none => exact h1 i o h ho hod
        | some e =>
          have hne : e ≠ d := fun he => by subst he; have := hok.one i n o on e ho hon hod hd; omega
          simp only [Act.put, Array.getD_eq_getD_getElem?, Array.getElem?_setIfInBounds_ne hne]
          have := h1 i o h ho hod
          simpa [Array.getD_eq_getD_getElem?] using this
      · obtain rfl : on = o := Option.some.inj (hon.symm.trans ho)
        rw [hod]
        have hlt : d < (putAll ops vs a0 i).tmps.size := by rw [hs, hN]; exact hok.dst i on d hon hod
        simp [Act.put, Array.getD_eq_getD_getElem?, Array.getElem?_setIfInBounds_self_of_lt hlt]
    · intro hall
      cases hd : on.dst with
      | none => exact h2 fun i o hi ho => hall i o (by omega) ho
      | some e =>
        have hne : e ≠ d := fun he => by subst he; exact hall n on (by omega) hon hd
        simp only [Act.put, Array.getD_eq_getD_getElem?, Array.getElem?_setIfInBounds_ne hne]
        have := h2 fun i o hi ho => hall i o (by omega) ho
        simpa [Array.getD_eq_getD_getElem?] using this
theorem ParInv.all {ops : Array Oper} {N : Nat} (hok : ParOk md ops N) {a0 : Act} (hN : a0.tmps.size = N) {R : Nat → (Nat → Value) → World → Prop} {I : World → Prop} {listed : Array Bool} {vs : Nat → Value} {a : Act} {w : World} (h : ParInv md ops a0 R I listed vs a w)
    (hl : ∀ i, i < ops.size → listed.getD i true = true) : a = putAll ops vs a0 ops.size := by
  have h0 := putAll_len ops vs a0 ops.size
  have ht : a.tmps = (putAll ops vs a0 ops.size).tmps := by
    apply Array.ext (by rw [h.len, h0.1])
    intro d h1 h2
    have e : a.tmps.getD d undef = (putAll ops vs a0 ops.size).tmps.getD d undef := by
      obtain ⟨g1, g2⟩ := putAll_get hok vs a0 hN d ops.size (Nat.le_refl _)
      by_cases hex : ∃ (i : Nat) (o : Oper), ops[i]? = some o ∧ o.dst = some d
      · obtain ⟨i, o, ho, hod⟩ := hex
        have hi := (Array.getElem?_eq_some_iff.1 ho).1
        rw [h.slot i o d ho hod (hl i hi), g1 i o hi ho hod]
      · have hno : ∀ (i : Nat) (o : Oper), ops[i]? = some o → o.dst ≠ some d := fun i o ho hod => hex ⟨i, o, ho, hod⟩
        rw [h.rest d fun i o ho hod => absurd hod (hno i o ho), g2 fun i o _ ho => hno i o ho]
    simpa [Array.getD_eq_getD_getElem?, h1, h2] using e
  cases a; cases hp : putAll ops vs a0 ops.size
  rw [hp] at ht h0
  have h1 := h.defers
  simp only at ht h0 h1
  rw [ht, h1, h0.2]

def left (listed : Array Bool) (n : Nat) : Nat := ((List.range n).filter fun i => !listed.getD i true).length
theorem left_set {listed : Array Bool} {n i : Nat} (hi : i < n) (h : listed.getD i true = false) : left (listed.setIfInBounds i true) n < left listed n := by
  have hlt : i < listed.size := by
    rcases Nat.lt_or_ge i listed.size with h' | h'
    · exact h'
    · simp [Array.getElem?_eq_none h'] at h
  unfold left
  have key : ∀ l : List Nat, i ∈ l → l.Nodup → (l.filter fun j => !(listed.setIfInBounds i true).getD j true).length < (l.filter fun j => !listed.getD j true).length := by
    intro l
    induction l with
    | nil => intro h; simp at h
    | cons a r ih =>
      intro hm hnd
      rw [List.nodup_cons] at hnd
      have hsame : ∀ j, j ≠ i → (listed.setIfInBounds i true).getD j true = listed.getD j true := fun j hj => getD_set_ne true (Ne.symm hj)
      by_cases ha : a = i
      · subst ha
        have e : r.filter (fun j => !(listed.setIfInBounds a true).getD j true) = r.filter (fun j => !listed.getD j true) := List.filter_congr fun j hj => by rw [hsame j (fun e => hnd.1 (by rw [← e]; exact hj))]
        have ht : (listed.setIfInBounds a true).getD a true = true := by simp [Array.getD_eq_getD_getElem?, Array.getElem?_setIfInBounds_self_of_lt hlt]
        rw [List.filter_cons, List.filter_cons, e, ht, h]; simp
      · have hm' : i ∈ r := by
          rcases List.mem_cons.1 hm with e | e
          · exact absurd e.symm ha
          · exact e
        have := ih hm' hnd.2
        rw [List.filter_cons, List.filter_cons, hsame a ha]
        split
        · simpa using this
        · exact this
  exact key _ (List.mem_range.2 hi) List.nodup_range

theorem par_any {ops : Array Oper} {Q : Exit → Act → World → Prop} {a0 : Act} {R : Nat → (Nat → Value) → World → Prop} {I : World → Prop} (hok : ParOk md ops a0.tmps.size)
    (loc : ∀ (j : Nat) (vs vs' : Nat → Value) (w : World) (o : Oper), ops[j]? = some o → vs j = vs' j → (∀ e ∈ o.after, Region.binds md e = true → vs e.on = vs' e.on) → R j vs w → R j vs' w)
    (step : ∀ i, i < ops.size → StepOk P md ops Q a0 R I i) (done : ∀ (vs : Nat → Value) (w : World), I w → (∀ i, i < ops.size → R i vs w) → Q .normal (putAll ops vs a0 ops.size) w) :
    ∀ (n : Nat) (listed : Array Bool) (vs : Nat → Value) (a : Act) (w : World), left listed ops.size ≤ n → ParInv md ops a0 R I listed vs a w → wpAny P md ops Q n listed a w := by
  have fin : ∀ (listed : Array Bool) (vs : Nat → Value) (a : Act) (w : World), ParInv md ops a0 R I listed vs a w → Region.ready md ops listed = [] → Q .normal a w := by
    intro listed vs a w hinv hr
    have hl : ∀ i, i < ops.size → listed.getD i true = true := by
      intro i
      induction i using Nat.strongRecOn with
      | _ i ih =>
        intro hi
        cases hg : listed.getD i true with
        | true => rfl
        | false =>
          exfalso
          have ho : ops[i]? = some ops[i] := Array.getElem?_eq_getElem hi
          have : i ∈ Region.ready md ops listed := mem_ready.2 ⟨hg, ops[i], ho, fun e he hb => by
            have hei := hok.after i _ ho e he hb
            have := ih e.on hei (by omega)
            rcases Nat.lt_or_ge e.on listed.size with h' | h'
            · simpa [Array.getD_eq_getD_getElem?, h'] using this
            · exfalso
              have hil : listed.size ≤ i := by omega
              simp [Array.getElem?_eq_none hil] at hg⟩
          rw [hr] at this; cases this
    rw [hinv.all hok rfl hl]
    exact done vs w hinv.inv fun i hi => hinv.val i hi (hl i hi)
  intro n
  induction n with
  | zero =>
    intro listed vs a w hn hinv
    have hr : Region.ready md ops listed = [] := by
      rw [List.eq_nil_iff_forall_not_mem]
      intro i hi
      obtain ⟨h1, o, ho, _⟩ := mem_ready.1 hi
      have := left_set (n := ops.size) (Array.getElem?_eq_some_iff.1 ho).1 h1
      omega
    exact ⟨hr, fin listed vs a w hinv hr⟩
  | succ n ih =>
    intro listed vs a w hn hinv
    refine ⟨fin listed vs a w hinv, fun i hi => ?_⟩
    obtain ⟨h1, o, ho, haft⟩ := mem_ready.1 hi
    have hi' := (Array.getElem?_eq_some_iff.1 ho).1
    have hil : i < listed.size := by
      rcases Nat.lt_or_ge i listed.size with h' | h'
      · exact h'
      · simp [Array.getElem?_eq_none h'] at h1
    have hcore : ∀ v w', I w' → (∀ j, j < ops.size → listed.getD j true = true → R j vs w') → R i (fun j => if j = i then v else vs j) w' → wpAny P md ops Q n (listed.setIfInBounds i true) (a.put o.dst v) w' := by
      intro v w' hI hR hRi
      have hset : ∀ j, j ≠ i → (listed.setIfInBounds i true).getD j true = listed.getD j true := fun j hj => getD_set_ne true (Ne.symm hj)
      refine ih (listed.setIfInBounds i true) (fun j => if j = i then v else vs j) (a.put o.dst v) w' (by have := left_set hi' h1; omega) ⟨hI, fun j hj hl => ?_, fun j oj hoj hl e he hb => ?_, ?_, ?_, fun j oj d hoj hd hl => ?_, fun d hd => ?_⟩
      · by_cases hji : j = i
        · subst hji; simpa using hRi
        · rw [hset j hji] at hl
          have hoj : ops[j]? = some ops[j] := Array.getElem?_eq_getElem hj
          refine loc j vs _ w' ops[j] hoj (by simp only [if_neg hji]) (fun e he hb => ?_) (hR j hj hl)
          have hei : e.on ≠ i := fun h => by
            have := hinv.closed j _ hoj hl e he hb
            rw [h, h1] at this; cases this
          simp only [if_neg hei]
      · by_cases hei : e.on = i
        · rw [hei]; simp [Array.getD_eq_getD_getElem?, Array.getElem?_setIfInBounds_self_of_lt hil]
        · rw [hset e.on hei]
          by_cases hji : j = i
          · subst hji
            obtain rfl : o = oj := Option.some.inj (ho.symm.trans hoj)
            have := haft e he hb
            rcases Nat.lt_or_ge e.on listed.size with h' | h'
            · simpa [Array.getD_eq_getD_getElem?, h'] using this
            · simp [Array.getElem?_eq_none h']
          · rw [hset j hji] at hl
            exact hinv.closed j oj hoj hl e he hb
      · cases ho2 : o.dst with
        | none => exact hinv.len
        | some d => simp [Act.put, hinv.len]
      · cases ho2 : o.dst with
        | none => exact hinv.defers
        | some d => exact hinv.defers
      · by_cases hji : j = i
        · subst hji
          obtain rfl : o = oj := Option.some.inj (ho.symm.trans hoj)
          rw [hd]
          have hlt : d < a.tmps.size := by rw [hinv.len]; exact hok.dst j o d ho hd
          simp [Act.put, Array.getD_eq_getD_getElem?, Array.getElem?_setIfInBounds_self_of_lt hlt]
        · simp only [if_neg hji]
          rw [hset j hji] at hl
          have h2 := hinv.slot j oj d hoj hd hl
          cases ho2 : o.dst with
          | none => exact h2
          | some e =>
            have hne : e ≠ d := fun he => by subst he; exact hji (hok.one j i oj o e hoj ho hd ho2)
            simp only [Act.put, Array.getD_eq_getD_getElem?, Array.getElem?_setIfInBounds_ne hne]
            simpa [Array.getD_eq_getD_getElem?] using h2
      · have hnd : o.dst ≠ some d := fun h => by
          have := hd i o ho h
          simp [Array.getD_eq_getD_getElem?, Array.getElem?_setIfInBounds_self_of_lt hil] at this
        have h2 := hinv.rest d fun j oj hoj hdj => by
          have hji : j ≠ i := fun e => by
            subst e
            obtain rfl : o = oj := Option.some.inj (ho.symm.trans hoj)
            exact hnd hdj
          have := hd j oj hoj hdj
          rwa [hset j hji] at this
        cases ho2 : o.dst with
        | none => exact h2
        | some e =>
          have hne : e ≠ d := fun he => hnd (by rw [ho2, he])
          simp only [Act.put, Array.getD_eq_getD_getElem?, Array.getElem?_setIfInBounds_ne hne]
          simpa [Array.getD_eq_getD_getElem?] using h2
    unfold wpOp
    simp only [ho]
    have hst := step i hi' o ho listed vs a w hinv h1 (fun e he hb => by
      have := haft e he hb
      rcases Nat.lt_or_ge e.on listed.size with h' | h'
      · simpa [Array.getD_eq_getD_getElem?, h'] using this
      · simp [Array.getElem?_eq_none h']) _ hcore
    split
    · rename_i hw; rw [if_pos hw] at hst; exact Or.inl hst
    · rename_i hw; rw [if_neg hw] at hst; exact hst

/-- THE REGION. -/
theorem par_region {ops : Array Oper} {Q : Exit → Act → World → Prop} {a0 : Act} {w : World} {id : Nat} (hm : P.follows .mixedOrders = true) (R : Nat → (Nat → Value) → World → Prop) (I : World → Prop) (hok : parOk .any ops a0.tmps.size = true)
    (loc : ∀ (j : Nat) (vs vs' : Nat → Value) (w : World) (o : Oper), ops[j]? = some o → vs j = vs' j → (∀ e ∈ o.after, Region.binds .any e = true → vs e.on = vs' e.on) → R j vs w → R j vs' w)
    (step : allUpTo (StepOk P .any ops Q a0 R I) ops.size) (start : I w.drew) (done : ∀ (vs : Nat → Value) (w : World) (X : Act), I w → (∀ i, i < ops.size → R i vs w) →
      (∀ i d, ((ops[i]?).bind (·.dst)) = some d → X.tmps.getD d undef = vs i) → (∀ d, (ops.all fun o => o.dst != some d) = true → X.tmps.getD d undef = a0.tmps.getD d undef) → X.tmps.size = a0.tmps.size → X.defers = a0.defers → Q .normal X w) :
    (Code.region id ops true).wp P Q a0 w := by
  have done' : ∀ (vs : Nat → Value) (w : World), I w → (∀ i, i < ops.size → R i vs w) → Q .normal (putAll ops vs a0 ops.size) w := fun vs w h1 h2 => by
    have hp := fun d => putAll_get (parOk_spec hok) vs a0 rfl d ops.size (Nat.le_refl _)
    have hl := putAll_len ops vs a0 ops.size
    refine done vs w _ h1 h2 (fun i d hd => ?_) (fun d hd => ?_) hl.1 hl.2
    · cases ho : ops[i]? with
      | none => rw [ho] at hd; simp at hd
      | some o => rw [ho] at hd; exact (hp d).1 i o (Array.getElem?_eq_some_iff.1 ho).1 ho hd
    · exact (hp d).2 fun i o _ ho hod => by
        have := (Array.all_eq_true'.1 hd) o (Array.mem_of_getElem? ho)
        simp [hod] at this
  refine wp_region_any hm (par_any (parOk_spec hok) loc (fun i hi => allUpTo_spec step i hi) done' ops.size _ (fun _ => undef) _ _ ?_ ⟨start, fun i hi h => ?_, fun i o ho h => ?_, rfl, rfl, fun i o d ho hd h => ?_, fun _ _ => rfl⟩)
  · unfold left
    exact Nat.le_trans (List.length_filter_le _ _) (by simp)
  · simp [Array.getD_eq_getD_getElem?, hi] at h
  · have hi := (Array.getElem?_eq_some_iff.1 ho).1
    simp [Array.getD_eq_getD_getElem?, hi] at h
  · have hi := (Array.getElem?_eq_some_iff.1 ho).1
    simp [Array.getD_eq_getD_getElem?, hi] at h
end
end Go.Proofs.YtgimdodbajhpoaaGreatDoor
