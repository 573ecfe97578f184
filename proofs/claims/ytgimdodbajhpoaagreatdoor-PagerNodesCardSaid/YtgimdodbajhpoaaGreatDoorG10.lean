/- The law for a region that draws its order, where what is known of an operation's value may end once another one has come up (an append, a store). -/
import Derived.Test.YtgimdodbajhpoaaGreatDoorG09
namespace Go.Proofs.YtgimdodbajhpoaaGreatDoor
open Go.RowKit
set_option linter.unusedSimpArgs false
set_option linter.unusedVariables false
section
variable {P : Program} {md : Region.Mode}
/-- What is known when those that are listed have come up. -/
structure ParInv2 (md : Region.Mode) (ops : Array Oper) (a0 : Act) (R : Array Bool → Nat → (Nat → Value) → World → Prop) (I : Array Bool → World → Prop) (listed : Array Bool) (vs : Nat → Value) (a : Act) (w : World) : Prop where
  inv : I listed w
  val : ∀ i, i < ops.size → listed.getD i true = true → R listed i vs w
  closed : ∀ (i : Nat) (o : Oper), ops[i]? = some o → listed.getD i true = true → ∀ e ∈ o.after, Region.binds md e = true → listed.getD e.on true = true
  len : a.tmps.size = a0.tmps.size
  defers : a.defers = a0.defers
  slot : ∀ (i : Nat) (o : Oper) (d : Nat), ops[i]? = some o → o.dst = some d → listed.getD i true = true → a.tmps.getD d undef = vs i
  rest : ∀ d : Nat, (∀ (i : Nat) (o : Oper), ops[i]? = some o → o.dst = some d → listed.getD i true = false) → a.tmps.getD d undef = a0.tmps.getD d undef

/-- Operation i, whatever has come up ahead of it. -/
def StepOk2 (P : Program) (md : Region.Mode) (ops : Array Oper) (Q : Exit → Act → World → Prop) (a0 : Act) (R : Array Bool → Nat → (Nat → Value) → World → Prop) (I : Array Bool → World → Prop) (i : Nat) : Prop :=
  ∀ o : Oper, ops[i]? = some o → ∀ (listed : Array Bool) (vs : Nat → Value) (a : Act) (w : World), ParInv2 md ops a0 R I listed vs a w → listed.getD i true = false → (∀ e ∈ o.after, Region.binds md e = true → listed.getD e.on true = true) →
    ∀ K : Act → World → Prop, (∀ v w', I (listed.setIfInBounds i true) w' → (∀ j, j < ops.size → listed.getD j true = true → R (listed.setIfInBounds i true) j vs w') → R (listed.setIfInBounds i true) i (fun j => if j = i then v else vs j) w' → K (a.put o.dst v) w') → if Region.wanted o (yielded ops a.tmps) = true then o.wp P a w K Q else K (a.put o.dst undef) w
/-- A predecessor's slot and what is known of it. -/
theorem ParInv2.get {ops : Array Oper} {a0 : Act} {R : Array Bool → Nat → (Nat → Value) → World → Prop} {I : Array Bool → World → Prop} {listed : Array Bool} {vs : Nat → Value} {a : Act} {w : World} (h : ParInv2 md ops a0 R I listed vs a w) {o : Oper}
    (haft : ∀ e ∈ o.after, Region.binds md e = true → listed.getD e.on true = true) (k d : Nat) (hk : (ops[k]?.bind (·.dst)) = some d) (he : (o.after.any fun e => e.on == k && Region.binds md e) = true) :
    a.tmps.getD d undef = vs k ∧ R listed k vs w := by
  cases hok : ops[k]? with
  | none => rw [hok] at hk; simp at hk
  | some ok =>
    rw [hok] at hk
    rw [Array.any_eq_true'] at he
    obtain ⟨e, he1, he2⟩ := he
    simp only [Bool.and_eq_true, beq_iff_eq] at he2
    have hl := haft e he1 he2.2
    rw [he2.1] at hl
    exact ⟨h.slot k ok d hok hk hl, h.val k (Array.getElem?_eq_some_iff.1 hok).1 hl⟩
theorem ParInv2.old {ops : Array Oper} {a0 : Act} {R : Array Bool → Nat → (Nat → Value) → World → Prop} {I : Array Bool → World → Prop} {listed : Array Bool} {vs : Nat → Value} {a : Act} {w : World} (h : ParInv2 md ops a0 R I listed vs a w)
    (d : Nat) (hd : (ops.all fun o => o.dst != some d) = true) : a.tmps.getD d undef = a0.tmps.getD d undef :=
  h.rest d fun i o ho hod => by
    have := (Array.all_eq_true'.1 hd) o (Array.mem_of_getElem? ho)
    simp [hod] at this

theorem ParInv2.unlisted {ops : Array Oper} {a0 : Act} {R : Array Bool → Nat → (Nat → Value) → World → Prop} {I : Array Bool → World → Prop} {listed : Array Bool} {vs : Nat → Value} {a : Act} {w : World} (h : ParInv2 md ops a0 R I listed vs a w) {i : Nat} (hun : listed.getD i true = false) :
    ∀ (r : List Nat) (x : Nat), downTo md ops i x r = true → listed.getD x true = false
  | [], x, hc => by
    have : x = i := by simpa [downTo] using hc
    rw [this]; exact hun
  | y :: r, x, hc => by
    simp only [downTo, Bool.and_eq_true] at hc
    obtain ⟨h1, h2⟩ := hc
    have hy := ParInv2.unlisted h hun r y h2
    cases hox : ops[x]? with
    | none => rw [hox] at h1; cases h1
    | some o =>
      rw [hox] at h1
      simp only [Array.any_eq_true'] at h1
      obtain ⟨e, he1, he2⟩ := h1
      simp only [Bool.and_eq_true, beq_iff_eq] at he2
      cases hl : listed.getD x true with
      | false => rfl
      | true =>
        have := h.closed x o hox hl e he1 he2.2
        rw [he2.1, hy] at this; cases this
/-- A slot that is written by operation k alone, which has not come up yet. -/
theorem ParInv2.oldU {ops : Array Oper} {a0 : Act} {R : Array Bool → Nat → (Nat → Value) → World → Prop} {I : Array Bool → World → Prop} {listed : Array Bool} {vs : Nat → Value} {a : Act} {w : World} (h : ParInv2 md ops a0 R I listed vs a w) {i : Nat} (hun : listed.getD i true = false)
    (d k : Nat) (r : List Nat) (hc : downTo md ops i k r = true) (hd : ((List.range ops.size).all fun j => j == k || (ops[j]?.bind (·.dst)) != some d) = true) : a.tmps.getD d undef = a0.tmps.getD d undef :=
  h.rest d fun j o ho hod => by
    have hj := (Array.getElem?_eq_some_iff.1 ho).1
    rw [List.all_eq_true] at hd
    have := hd j (List.mem_range.2 hj)
    rw [ho] at this
    simp [hod] at this
    subst this
    exact h.unlisted hun r j hc
theorem ParInv2.all {ops : Array Oper} {N : Nat} (hok : ParOk md ops N) {a0 : Act} (hN : a0.tmps.size = N) {R : Array Bool → Nat → (Nat → Value) → World → Prop} {I : Array Bool → World → Prop} {listed : Array Bool} {vs : Nat → Value} {a : Act} {w : World} (h : ParInv2 md ops a0 R I listed vs a w)
    (hl : ∀ i, i < ops.size → listed.getD i true = true) : a = putAll ops vs a0 ops.size := by
  have h0 := putAll_len ops vs a0 ops.size
  have ht : a.tmps = (putAll ops vs a0 ops.size).tmps := by
    apply Array.ext (by rw [h.len, h0.1])
    intro d h1 h2
    have e : a.tmps.getD d undef = (putAll ops vs a0 ops.size).tmps.getD d undef := by
      obtain ⟨g1, g2⟩ := putAll_get hok vs a0 hN d ops.size (Nat.le_refl _)
      by_cases hex : ∃ (i : Nat) (o : Oper), ops[i]? = some o ∧ o.dst = some d
      · obtain ⟨i, o, ho, hod⟩ := hex
        have hi := (Array.getElem?_eq_some_iff.1 ho).1
        rw [h.slot i o d ho hod (hl i hi), g1 i o hi ho hod]
      · have hno : ∀ (i : Nat) (o : Oper), ops[i]? = some o → o.dst ≠ some d := fun i o ho hod => hex ⟨i, o, ho, hod⟩
        rw [h.rest d fun i o ho hod => absurd hod (hno i o ho), g2 fun i o _ ho => hno i o ho]
    simpa [Array.getD_eq_getD_getElem?, h1, h2] using e
  cases a; cases hp : putAll ops vs a0 ops.size
  rw [hp] at ht h0
  have h1 := h.defers
  simp only at ht h0 h1
  rw [ht, h1, h0.2]

theorem par_any2 {ops : Array Oper} {Q : Exit → Act → World → Prop} {a0 : Act} {R : Array Bool → Nat → (Nat → Value) → World → Prop} {I : Array Bool → World → Prop} (hok : ParOk md ops a0.tmps.size)
    (loc : ∀ (listed : Array Bool) (j : Nat) (vs vs' : Nat → Value) (w : World) (o : Oper), ops[j]? = some o → vs j = vs' j → (∀ e ∈ o.after, Region.binds md e = true → vs e.on = vs' e.on) → R listed j vs w → R listed j vs' w)
    (step : ∀ i, i < ops.size → StepOk2 P md ops Q a0 R I i) (done : ∀ (vs : Nat → Value) (w : World), (∃ listed : Array Bool, (∀ i, i < ops.size → listed.getD i true = true) ∧ I listed w ∧ (∀ i, i < ops.size → R listed i vs w)) → Q .normal (putAll ops vs a0 ops.size) w) :
    ∀ (n : Nat) (listed : Array Bool) (vs : Nat → Value) (a : Act) (w : World), left listed ops.size ≤ n → ParInv2 md ops a0 R I listed vs a w → wpAny P md ops Q n listed a w := by
  have fin : ∀ (listed : Array Bool) (vs : Nat → Value) (a : Act) (w : World), ParInv2 md ops a0 R I listed vs a w → Region.ready md ops listed = [] → Q .normal a w := by
    intro listed vs a w hinv hr
    have hl : ∀ i, i < ops.size → listed.getD i true = true := by
      intro i
      induction i using Nat.strongRecOn with
      | _ i ih =>
        intro hi
        cases hg : listed.getD i true with
        | true => rfl
        | false =>
          exfalso
          have ho : ops[i]? = some ops[i] := Array.getElem?_eq_getElem hi
          have : i ∈ Region.ready md ops listed := mem_ready.2 ⟨hg, ops[i], ho, fun e he hb => by
            have hei := hok.after i _ ho e he hb
            have := ih e.on hei (by omega)
            rcases Nat.lt_or_ge e.on listed.size with h' | h'
            · simpa [Array.getD_eq_getD_getElem?, h'] using this
            · exfalso
              have hil : listed.size ≤ i := by omega
              simp [Array.getElem?_eq_none hil] at hg⟩
          rw [hr] at this; cases this
    rw [hinv.all hok rfl hl]
    exact done vs w ⟨listed, hl, hinv.inv, fun i hi => hinv.val i hi (hl i hi)⟩
  intro n
  induction n with
  | zero =>
    intro listed vs a w hn hinv
    have hr : Region.ready md ops listed = [] := by
      rw [List.eq_nil_iff_forall_not_mem]
      intro i hi
      obtain ⟨h1, o, ho, _⟩ := mem_ready.1 hi
      have := left_set (n := ops.size) (Array.getElem?_eq_some_iff.1 ho).1 h1
      omega
    exact ⟨hr, fin listed vs a w hinv hr⟩
  | succ n ih =>
    intro listed vs a w hn hinv
    refine ⟨fin listed vs a w hinv, fun i hi => ?_⟩
    obtain ⟨h1, o, ho, haft⟩ := mem_ready.1 hi
    have hi' := (Array.getElem?_eq_some_iff.1 ho).1
    have hil : i < listed.size := by
      rcases Nat.lt_or_ge i listed.size with h' | h'
      · exact h'
      · simp [Array.getElem?_eq_none h'] at h1
    have hcore : ∀ v w', I (listed.setIfInBounds i true) w' → (∀ j, j < ops.size → listed.getD j true = true → R (listed.setIfInBounds i true) j vs w') → R (listed.setIfInBounds i true) i (fun j => if j = i then v else vs j) w' → wpAny P md ops Q n (listed.setIfInBounds i true) (a.put o.dst v) w' := by
      intro v w' hI hR hRi
      have hset : ∀ j, j ≠ i → (listed.setIfInBounds i true).getD j true = listed.getD j true := fun j hj => getD_set_ne true (Ne.symm hj)
      refine ih (listed.setIfInBounds i true) (fun j => if j = i then v else vs j) (a.put o.dst v) w' (by have := left_set hi' h1; omega) ⟨hI, fun j hj hl => ?_, fun j oj hoj hl e he hb => ?_, ?_, ?_, fun j oj d hoj hd hl => ?_, fun d hd => ?_⟩
      · by_cases hji : j = i
        · subst hji; simpa using hRi
        · rw [hset j hji] at hl
          have hoj : ops[j]? = some ops[j] := Array.getElem?_eq_getElem hj
          refine loc _ j vs _ w' ops[j] hoj (by simp only [if_neg hji]) (fun e he hb => ?_) (hR j hj hl)
          have hei : e.on ≠ i := fun h => by
            have := hinv.closed j _ hoj hl e he hb
            rw [h, h1] at this; cases this
          simp only [if_neg hei]
      · by_cases hei : e.on = i
        · rw [hei]; simp [Array.getD_eq_getD_getElem?, Array.getElem?_setIfInBounds_self_of_lt hil]
        · rw [hset e.on hei]
          by_cases hji : j = i
          · subst hji
            obtain rfl : o = oj := Option.some.inj (ho.symm.trans hoj)
            have := haft e he hb
            rcases Nat.lt_or_ge e.on listed.size with h' | h'
            · simpa [Array.getD_eq_getD_getElem?, h'] using this
            · simp [Array.getElem?_eq_none h']
          · rw [hset j hji] at hl
            exact hinv.closed j oj hoj hl e he hb
      · cases ho2 : o.dst with
        | none => exact hinv.len
        | some d => simp [Act.put, hinv.len]
      · cases ho2 : o.dst with
        | none => exact hinv.defers
        | some d => exact hinv.defers
      · by_cases hji : j = i
        · subst hji
          obtain rfl : o = oj := Option.some.inj (ho.symm.trans hoj)
          rw [hd]
          have hlt : d < a.tmps.size := by rw [hinv.len]; exact hok.dst j o d ho hd
          simp [Act.put, Array.getD_eq_getD_getElem?, Array.getElem?_setIfInBounds_self_of_lt hlt]
        · simp only [if_neg hji]
          rw [hset j hji] at hl
          have h2 := hinv.slot j oj d hoj hd hl
          cases ho2 : o.dst with
          | none => exact h2
          | some e =>
            have hne : e ≠ d := fun he => by subst he; exact hji (hok.one j i oj o e hoj ho hd ho2)
            simp only [Act.put, Array.getD_eq_getD_getElem?, Array.getElem?_setIfInBounds_ne hne]
            simpa [Array.getD_eq_getD_getElem?] using h2
      · have hnd : o.dst ≠ some d := fun h => by
          have := hd i o ho h
          simp [Array.getD_eq_getD_getElem?, Array.getElem?_setIfInBounds_self_of_lt hil] at this
        have h2 := hinv.rest d fun j oj hoj hdj => by
          have hji : j ≠ i := fun e => by
            subst e
            obtain rfl : o = oj := Option.some.inj (ho.symm.trans hoj)
            exact hnd hdj
          have := hd j oj hoj hdj
          rwa [hset j hji] at this
        cases ho2 : o.dst with
        | none => exact h2
        | some e =>
          have hne : e ≠ d := fun he => hnd (by rw [ho2, he])
          simp only [Act.put, Array.getD_eq_getD_getElem?, Array.getElem?_setIfInBounds_ne hne]
          simpa [Array.getD_eq_getD_getElem?] using h2
    unfold wpOp
    simp only [ho]
    have hst := step i hi' o ho listed vs a w hinv h1 (fun e he hb => by
      have := haft e he hb
      rcases Nat.lt_or_ge e.on listed.size with h' | h'
      · simpa [Array.getD_eq_getD_getElem?, h'] using this
      · simp [Array.getElem?_eq_none h']) _ hcore
    split
    · rename_i hw; rw [if_pos hw] at hst; exact Or.inl hst
    · rename_i hw; rw [if_neg hw] at hst; exact hst

/-- THE REGION. -/
theorem par_region2 {ops : Array Oper} {Q : Exit → Act → World → Prop} {a0 : Act} {w : World} {id : Nat} (hm : P.follows .mixedOrders = true) (R : Array Bool → Nat → (Nat → Value) → World → Prop) (I : Array Bool → World → Prop) (hok : parOk .any ops a0.tmps.size = true)
    (loc : ∀ (listed : Array Bool) (j : Nat) (vs vs' : Nat → Value) (w : World) (o : Oper), ops[j]? = some o → vs j = vs' j → (∀ e ∈ o.after, Region.binds .any e = true → vs e.on = vs' e.on) → R listed j vs w → R listed j vs' w)
    (step : allUpTo (StepOk2 P .any ops Q a0 R I) ops.size) (start : I (Array.replicate ops.size false) w.drew) (done : ∀ (listed : Array Bool) (vs : Nat → Value) (w : World) (X : Act), (∀ i, i < ops.size → listed.getD i true = true) → I listed w → (∀ i, i < ops.size → R listed i vs w) →
      (∀ i d, ((ops[i]?).bind (·.dst)) = some d → X.tmps.getD d undef = vs i) → (∀ d, (ops.all fun o => o.dst != some d) = true → X.tmps.getD d undef = a0.tmps.getD d undef) → X.tmps.size = a0.tmps.size → X.defers = a0.defers → Q .normal X w) :
    (Code.region id ops true).wp P Q a0 w := by
  have done' : ∀ (vs : Nat → Value) (w : World), (∃ listed : Array Bool, (∀ i, i < ops.size → listed.getD i true = true) ∧ I listed w ∧ (∀ i, i < ops.size → R listed i vs w)) → Q .normal (putAll ops vs a0 ops.size) w   := fun vs w ⟨listed, h0, h1, h2⟩ => by
    have hp := fun d => putAll_get (parOk_spec hok) vs a0 rfl d ops.size (Nat.le_refl _)
    have hl := putAll_len ops vs a0 ops.size
    refine done listed vs w _ h0 h1 h2 (fun i d hd => ?_) (fun d hd => ?_) hl.1 hl.2
    · cases ho : ops[i]? with
      | none => rw [ho] at hd; simp at hd
      | some o => rw [ho] at hd; exact (hp d).1 i o (Array.getElem?_eq_some_iff.1 ho).1 ho hd
    · exact (hp d).2 fun i o _ ho hod => by
        have := (Array.all_eq_true'.1 hd) o (Array.mem_of_getElem? ho)
        simp [hod] at this
  refine wp_region_any hm (par_any2 (parOk_spec hok) loc (fun i hi => allUpTo_spec step i hi) done' ops.size _ (fun _ => undef) _ _ ?_ ⟨start, fun i hi h => ?_, fun i o ho h => ?_, rfl, rfl, fun i o d ho hd h => ?_, fun _ _ => rfl⟩)
  · unfold left
    exact Nat.le_trans (List.length_filter_le _ _) (by simp)
  · simp [Array.getD_eq_getD_getElem?, hi] at h
  · have hi := (Array.getElem?_eq_some_iff.1 ho).1
    simp [Array.getD_eq_getD_getElem?, hi] at h
  · have hi := (Array.getElem?_eq_some_iff.1 ho).1
    simp [Array.getD_eq_getD_getElem?, hi] at h
theorem ParInv2.lst {listed : Array Bool} {o : Oper} (haft : ∀ e ∈ o.after, Region.binds md e = true → listed.getD e.on true = true) (k : Nat) (he : (o.after.any fun e => e.on == k && Region.binds md e) = true) : listed.getD k true = true := by
  rw [Array.any_eq_true'] at he
  obtain ⟨e, he1, he2⟩ := he
  simp only [Bool.and_eq_true, beq_iff_eq] at he2
  have hl := haft e he1 he2.2
  rwa [he2.1] at hl
/-- What an operation that has come up waits for has come up. -/
theorem ParInv2.lstTo {ops : Array Oper} {a0 : Act} {R : Array Bool → Nat → (Nat → Value) → World → Prop} {I : Array Bool → World → Prop} {listed : Array Bool} {vs : Nat → Value} {a : Act} {w : World} (h : ParInv2 md ops a0 R I listed vs a w) :
    ∀ (r : List Nat) (x i : Nat), downTo md ops i x r = true → listed.getD x true = true → listed.getD i true = true
  | [], x, i, hc, hx => by
    have : x = i := by simpa [downTo] using hc
    rw [← this]; exact hx
  | y :: r, x, i, hc, hx => by
    simp only [downTo, Bool.and_eq_true] at hc
    obtain ⟨h1, h2⟩ := hc
    refine ParInv2.lstTo h r y i h2 ?_
    cases hox : ops[x]? with
    | none => rw [hox] at h1; cases h1
    | some o =>
      rw [hox] at h1
      simp only [Array.any_eq_true'] at h1
      obtain ⟨e, he1, he2⟩ := h1
      simp only [Bool.and_eq_true, beq_iff_eq] at he2
      have := h.closed x o hox hx e he1 he2.2
      rwa [he2.1] at this
theorem set_mono {l : Array Bool} {i k : Nat} (h : l.getD k true = true) : (l.setIfInBounds i true).getD k true = true := by
  by_cases hk : i = k
  · subst hk
    rcases Nat.lt_or_ge i l.size with h' | h'
    · simp [Array.getD_eq_getD_getElem?, Array.getElem?_setIfInBounds_self_of_lt h']
    · simp [Array.getD_eq_getD_getElem?, Array.getElem?_eq_none (by simpa using h')]
  · rw [getD_set_ne true hk]; exact h
theorem set_self {l : Array Bool} {i : Nat} : (l.setIfInBounds i true).getD i true = true := by
  rcases Nat.lt_or_ge i l.size with h' | h'
  · simp [Array.getD_eq_getD_getElem?, Array.getElem?_setIfInBounds_self_of_lt h']
  · simp [Array.getD_eq_getD_getElem?, Array.getElem?_eq_none (by simpa using h')]
/-- An append whose run is known. -/
theorem oper_append_run {w : World} {o : Oper} {a : Act} {K : Act → World → Prop} {Q : Exit → Act → World → Prop} (s x : Operand) (t tn : TypeId)
    (ho : o.op = .call { callee := .builtin .append, args := #[s, x], argTypes := #[t, tn] }) (v1 v2 r : Value) (w' : World) (hs : a.eval s = v1) (hx : a.eval x = v2)
    (hr : (Builtin.append_ #[t, tn] o.type #[v1, v2]).run P w = .ok r w') (h : K (a.put o.dst r) w') : Oper.wp P o a w K Q := by
  unfold Oper.wp execOp
  simp only [ho, resolve, invoke, builtin, Sem.run_bind, Sem.run_pure, Result.andThen_ok, List.map_toArray, List.map_cons, List.map_nil, hs, hx, hr]
  exact h
end
end Go.Proofs.YtgimdodbajhpoaaGreatDoor
