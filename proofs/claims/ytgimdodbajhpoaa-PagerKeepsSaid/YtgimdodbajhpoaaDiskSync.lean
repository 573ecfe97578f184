/- All that waits is made safe. -/
import Derived.Test.YtgimdodbajhpoaaDiskRead
import Derived.Laws.OwnMore
namespace Go.Proofs.Ytgimdodbajhpoaa
open Go.RowKit Go.Maps
open Go.WideElems (Fit rd rg pl rd_val elemAt)
set_option linter.unusedSimpArgs false
set_option linter.unusedVariables false

section
variable {H : Type} {P : Program} {w : World}
theorem clear_own {k e t : TypeId} {R : Value → Option (DataW H × List MemPlace)} {b n : Nat} {D : DataW H} (h : w.ownsMap P k R b n D) (ht : P.underlying t = some (.map k e)) (ty : TypeId) :
    ∃ w', (Builtin.clear_ #[t] ty #[.map (some b)]).run P w = .ok (.tuple #[]) w' ∧ w'.ownsMap P k R b 0 (.map []) ∧ Mod [b] w w' := by
  obtain ⟨es, clock, hb, F, hs, rfl⟩ := h
  refine ⟨{ w with heap := w.heap.setIfInBounds b (.map #[] clock) }, by simp [Builtin.clear_, run_underlying ht, MapKept.run_getObj_map hb, MapKept.run_setObj_map _ hb, Result.andThen], ⟨#[], clock, ?_, ⟨by simp, MapKept.stamped_empty clock, by simp⟩, Nat.le_refl _, rfl⟩, ⟨rfl, rfl, rfl, by simp, fun k hk hn => ?_⟩⟩
  · have := lt_of_at hb
    simp [this]
  · simp only [List.mem_singleton] at hn
    simp [Array.getElem?_setIfInBounds_ne (Ne.symm hn)]
theorem wpList_clear_own {ops : Array Oper} {rest : List Oper} {o : Oper} {a : Act} {Q : Exit → Act → World → Prop} (hg : o.guard = none) (m : Operand) (t : TypeId) (hop : o.op = Op.call { callee := Callee.builtin Builtin.clear, args := #[m], argTypes := #[t] })
    (k e : TypeId) (ht : P.underlying t = some (.map k e)) (R : Value → Option (DataW H × List MemPlace)) (b n : Nat) (D : DataW H) (hm : a.eval m = .map (some b)) (hown : w.ownsMap P k R b n D)
    (hK : ∀ w', w'.ownsMap P k R b 0 (.map []) → Mod [b] w w' → wpList P ops Q rest (a.put o.dst (.tuple #[])) w') : wpList P ops Q (o :: rest) a w := by
  refine wpList_plain hg fun K' hK' => ?_
  obtain ⟨w', hrun, r1, r2⟩ := clear_own hown ht o.type
  unfold Oper.wp
  simp [execOp, hop, resolve, invoke, builtin, hm, hrun, Result.andThen]
  exact hK' _ _ (hK w' r1 r2)
end

theorem DkIn.rest {w w' : World} {D : Nat} {T : List Nat} {k : Ck} {gs : List Pg} {ws : List (Int × Pg)} {vs vw : Value} {M : Nat} {DM : DataW Value} {S : List Nat} (h : DkIn w D T k gs ws vs vw M DM S)
    (hm : Mod [D, M] w w') (hat : w'.heap[D]? = some (.cells #[vs, .slice none 0 0, .map (some M), .int .i64 k.left, .bool k.down] 58 (0, 0)))
    (hmap : w'.ownsMap Try.prog 3 heldR M 0 (.map [])) : DiskAt w' D T k.rest := by
  have hS := h.hS
  have hX : ∀ b ∈ [D, M], b ∈ S ∨ w.heap.size ≤ b := fun b hb => by rw [hS]; left; simp only [List.mem_append]; exact Or.inl (Or.inl hb)
  obtain ⟨S', hS'⟩ : ∃ S', S' = [D, M] ++ vs.ownBlock.toList ++ (Value.slice none 0 0).ownBlock.toList := ⟨_, rfl⟩
  have hSS : ∀ b ∈ S', b ∈ S ∨ w.heap.size ≤ b := fun b hb => by
    rw [hS'] at hb; rw [hS]; left
    simp only [List.mem_append, Option.mem_toList, Value.ownBlock] at hb ⊢
    rcases hb with hb | hb
    · exact Or.inl hb
    · cases hb
  refine ⟨gs, [], vs, .slice none 0 0, M, .map [], S', hat, ownsRow_mod h.safe hm (fun b hb => by have := h.block_safe b hb; simp; exact ⟨this.1, this.2.1⟩), World.ownsRow_nil _ _ _ _, hmap, fun x => rfl, fun x g hg => by simp [Ck.lastOf] at hg, h.gsl, rfl,
    fun g hg => (h.pg g hg).turn h.lt hm hX (fun b hb => hb) hSS, by simp, hS', fun b hb => ?_, fun b hb => Nat.lt_of_lt_of_le (h.lt b hb) hm.size, h.few, h.left0, h.left1⟩
  rcases hSS b hb with h1 | h1
  · exact h.sub b h1
  · rw [hS'] at hb
    simp only [List.mem_append, Option.mem_toList, Value.ownBlock] at hb
    rcases hb with (hb | hb) | hb
    · exact h.sub b (by rw [hS]; simp only [List.mem_append]; exact Or.inl (Or.inl hb))
    · exact h.sub b (by rw [hS]; simp only [List.mem_append, Option.mem_toList]; exact Or.inl (Or.inr hb))
    · cases hb

set_option maxRecDepth 100000 in
theorem rest_any (D : Nat) (T : List Nat) (k : Ck) (w : World) (h : DiskAt w D T k) :
    Calls Try.prog 30 #[.pointer (some ⟨D, 0, none⟩)] w (EndR0 fun w' => DiskAt w' D T k.rest ∧ Mod T w w') := by
  obtain ⟨gs, ws, vs, vw, M, DM, S, h⟩ := h
  have c1 : w.cell? ⟨D, 1, none⟩ = some vw := cell_of_at h.at_ 1
  obtain ⟨pW, cW, rfl, -⟩ := own_shape h.wait
  have f1 : w.frozen? ⟨D, 1, none⟩ = false := free_of_at h.at_ 1
  have c2 : w.cell? ⟨D, 2, none⟩ = some (.map (some M)) := cell_of_at h.at_ 2
  have hne := h.ne
  have HMAP := Lib.hid (ownsMap_mod h.map (Mod.of_setCell w D 1 (.slice none 0 0)) (by simpa using hne.symm))
  have HH := Lib.hid h
  clear h
  go_enter Try.func30, Try.ntmps30
  go_wp2_with (first
    | (at_builtin; (refine wpList_clear_own rfl _ _ rfl 3 23 Try.underlying55 heldR M _ _ rfl HMAP.out ?_); intro w4 hown4 hm4; (have HO4 := Lib.hid hown4); (have M4 := Lib.hid hm4); clear hown4 hm4)
    | (refine wpList_clear_own rfl _ _ rfl 3 23 Try.underlying55 heldR M _ _ rfl HMAP.out ?_; intro w4 hown4 hm4; (have HO4 := Lib.hid hown4); (have M4 := Lib.hid hm4); clear hown4 hm4)
    | go_in)
  go_end0
  have hm : Mod [D, M] w w4 := ((Mod.of_setCell w D 1 (.slice none 0 0)).mono (by simp)).same (M4.out.mono (by simp))
  refine ⟨rfl, HH.out.rest hm ?_ HO4.out, hm.mono fun b hb => Or.inl (HH.out.sub b (by rw [HH.out.hS]; simp only [List.mem_append]; exact Or.inl (Or.inl hb)))⟩
  refine M4.out.at ?_ (by simpa using hne)
  rw [at_setCell HH.out.at_]; rfl

/-- Pages that are safe, while those that wait are being made so. -/
structure Stl (gs gs' : List Pg) (ws : List (Int × Pg)) (left : Lit → Bool) : Prop where
  len : gs'.length = gs.length
  at_ : ∀ i : Nat, i < gs.length → gs'[i]? = if left (.int .i64 i) = true then gs[i]? else (Ck.lastOf ws i).or gs[i]?

theorem has_none {D : DataW Value} {k : Lit} (h : Maps.has D k = false) (zd : DataW Value) : D.atKey k zd = zd := by
  cases D <;> try rfl
  rename_i es
  have h' : es.any (fun p => p.1.sameKey k) = false := h
  have : es.find? (fun p => p.1.sameKey k) = none := by
    rw [List.find?_eq_none]; intro p hp hk
    rw [List.any_eq_false] at h'
    exact h' p hp hk
  simp only [DataW.atKey, this]

theorem DkIn.settle {w w' : World} {D : Nat} {T : List Nat} {k : Ck} {gs gs' : List Pg} {ws : List (Int × Pg)} {vs vw : Value} {M : Nat} {DM : DataW Value} {S : List Nat} (h : DkIn w D T k gs ws vs vw M DM S)
    (hm : Mod vs.ownBlock.toList w w') (hrow : w'.ownsRow 0 23 1 vs gs.length (gs'.map Pg.val)) (hp : Stl gs gs' ws (fun _ => false)) : DiskAt w' D T k.settle := by
  have hS := h.hS
  have hXS : ∀ b ∈ vs.ownBlock.toList, b ∈ S := fun b hb => by rw [hS]; simp only [List.mem_append]; exact Or.inl (Or.inr hb)
  have hX : ∀ b ∈ vs.ownBlock.toList, b ∈ S ∨ w.heap.size ≤ b := fun b hb => Or.inl (hXS b hb)
  have hs := fun b (hb : b ∈ vs.ownBlock.toList) => h.block_safe b (by simpa using hb)
  have hpg : ∀ g, PgIn w T S g → PgIn w' T S g := fun g hg => hg.turn h.lt hm hX (fun b hb => hb) (fun b hb => Or.inl hb)
  have hlen := h.len.1
  have hgs : ∀ i : Nat, i < gs.length → gs'[i]? = (Ck.lastOf ws i).or gs[i]? := fun i hi => by have := hp.at_ i hi; simpa using this
  refine ⟨gs', ws, vs, vw, M, DM, S, hm.at h.at_ (fun hb => (hs D hb).1 rfl), by rw [hp.len]; exact hrow, ownsRow_mod h.wait hm (fun b hb hx => (hs b hx).2.2 hb), ownsMap_mod h.map hm (fun hb => (hs M hb).2.1 rfl), h.has, h.atk, ?_, h.wsl, ?_, ?_, hS, h.sub, fun b hb => Nat.lt_of_lt_of_le (h.lt b hb) hm.size, by rw [hp.len]; exact h.few, h.left0, h.left1⟩
  · apply List.ext_getElem?
    intro i
    rcases Nat.lt_or_ge i gs.length with hi | hi
    · rw [List.getElem?_map, hgs i hi, Ck.settle]
      simp only
      rw [List.getElem?_map, List.getElem?_range (by omega)]
      simp only [Option.map_some, Ck.seen]
      rw [h.last_at i]
      cases hl : Ck.lastOf ws i with
      | some g => simp
      | none => simp [List.getElem?_eq_getElem hi, h.safe_at hi]
    · rw [List.getElem?_eq_none (by rw [List.length_map, hp.len]; exact hi), List.getElem?_eq_none (by simp [Ck.settle]; omega)]
  · intro g hg
    obtain ⟨i, hi⟩ := List.getElem?_of_mem hg
    have hi2 : i < gs.length := by have := (List.getElem?_eq_some_iff.1 hi).1; rw [hp.len] at this; exact this
    rw [hgs i hi2] at hi
    cases hl : Ck.lastOf ws i with
    | some g2 => rw [hl] at hi; simp at hi; subst hi; exact hpg _ (h.pw _ (Ck.lastOf_mem hl)).1
    | none =>
      rw [hl, Option.none_or] at hi
      obtain ⟨h1, h2⟩ := List.getElem?_eq_some_iff.1 hi
      rw [← h2]; exact hpg _ (h.pg _ (List.getElem_mem _))
  · intro x hx; rw [hp.len]; exact ⟨hpg _ (h.pw x hx).1, (h.pw x hx).2⟩

theorem Stl.start {gs : List Pg} {ws : List (Int × Pg)} {left : Lit → Bool} (h : ∀ i : Nat, left (.int .i64 i) = (Ck.lastOf ws i).isSome) : Stl gs gs ws left :=
  ⟨rfl, fun i hi => by
    rw [h]
    cases Ck.lastOf ws i with
    | some g => rfl
    | none => simp⟩
theorem Stl.step {gs gs' : List Pg} {ws : List (Int × Pg)} {left : Lit → Bool} {j : Nat} {g : Pg} (h : Stl gs gs' ws left) (hj : j < gs.length) (hl : Ck.lastOf ws j = some g) :
    Stl gs (gs'.set j g) ws (fun z => left z && !z.sameKey (.int .i64 j)) :=
  ⟨by rw [List.length_set, h.len], fun i hi => by
    rw [List.getElem?_set]
    by_cases e : j = i
    · subst e
      rw [if_pos rfl, if_pos (by rw [h.len]; exact hi)]
      have : (Lit.int .i64 (j : Int)).sameKey (.int .i64 j) = true := by rw [sameKey_int]; simp
      rw [this]; simp [hl]
    · rw [if_neg e, h.at_ i hi]
      have : (Lit.int .i64 (i : Int)).sameKey (.int .i64 j) = false := by rw [sameKey_int]; simp; omega
      rw [this]; simp⟩
theorem at_last {DM : DataW Value} {ws : List (Int × Pg)} {x : Int} {v : Value} (hhas : Maps.has DM (.int .i64 x) = (Ck.lastOf ws x).isSome) (hatk : ∀ g, Ck.lastOf ws x = some g → ∀ zd, DM.atKey (.int .i64 x) zd = .held g.val)
    (h : ∀ zd, DM.atKey (.int .i64 x) zd = .held v) : ∃ g, Ck.lastOf ws x = some g ∧ v = g.val := by
  cases hl : Ck.lastOf ws x with
  | none =>
    rw [hl] at hhas
    have h1 := h .nil
    rw [has_none hhas] at h1; cases h1
  | some g =>
    have h1 := h .nil
    rw [hatk g hl] at h1
    injection h1 with h1
    exact ⟨g, rfl, h1.symm⟩
theorem held_inv2 {v : Value} {y : DataW Value × List MemPlace} (h : heldR v = some y) : y.1 = .held v := by unfold heldR at h; injection h with h; rw [← h]

set_option maxRecDepth 100000 in
set_option maxHeartbeats 4000000 in
theorem dsync_any (D : Nat) (T : List Nat) (k : Ck) (w : World) (h : DiskAt w D T k) :
    Calls Try.prog 15 #[.pointer (some ⟨D, 0, none⟩)] w (Ret (DkR D T k.sync.2 (.int .i64 k.sync.1) w)) := by
  cases hdn : k.down with
  | true =>
    have HW : Hid (k.sync = (3, k)) := by unfold Hid Ck.sync; rw [if_pos hdn]
    have HH := Lib.hid h
    obtain ⟨gs, ws, vs, vw, M, DM, S, h⟩ := h
    have c4 : w.cell? ⟨D, 4, none⟩ = some (.bool true) := by rw [← hdn]; exact cell_of_at h.at_ 4
    clear h hdn
    go_enter Try.func15, Try.ntmps15
    go_wp2
    go_ret
    exact .mk ⟨by rw [HW.out]; rfl, T, by rw [HW.out]; exact HH.out, Mod.refl _ _, fun b hb => Or.inl hb⟩
  | false =>
    have HTK := Lib.hid (tick_any D T k w h hdn)
    have hDT : D ∈ T := by obtain ⟨gs, ws, vs, vw, M, DM, S, h⟩ := h; exact h.sub D (by rw [h.hS]; simp)
    have HDT := Lib.hid hDT
    obtain ⟨gs0, ws0, vs0, vw0, M0, DM0, S0, h⟩ := h
    have c4 : w.cell? ⟨D, 4, none⟩ = some (.bool false) := by rw [← hdn]; exact cell_of_at h.at_ 4
    cases htk : k.tick.2 with
    | true =>
      have HW : Hid (k.sync = (3, k.tick.1)) := by unfold Hid Ck.sync; rw [if_neg (by rw [hdn]; simp), if_pos htk]
      rw [htk] at HTK
      clear h hdn htk hDT
      go_enter Try.func15, Try.ntmps15
      go_wp2_with fail
      refine HTK.out.mono ?_
      rintro _ w1 ⟨_, rfl, rfl, h1, m1⟩
      have H1 := Lib.hid h1
      have M1 := Lib.hid m1
      clear h1 m1
      go_wp2
      go_ret
      exact .mk ⟨by rw [HW.out]; rfl, T, by rw [HW.out]; exact H1.out, M1.out.mono (fun b hb => Or.inl (by simp at hb; subst hb; exact HDT.out)), fun b hb => Or.inl hb⟩
    | false =>
      have HW : Hid (k.sync = (0, k.tick.1.settle.rest)) := by unfold Hid Ck.sync; rw [if_neg (by rw [hdn]; simp), if_neg (by rw [htk]; simp)]
      rw [htk] at HTK
      clear h hdn htk hDT gs0 ws0 vs0 vw0 M0 DM0 S0
      generalize k.tick.1 = k1 at *
      go_enter Try.func15, Try.ntmps15
      go_wp2_with fail
      refine HTK.out.mono ?_
      rintro _ w1 ⟨_, rfl, rfl, h1, m1⟩
      have M1 : Hid (Mod T w w1) := m1.mono (fun b hb => Or.inl (by simp at hb; subst hb; exact HDT.out))
      obtain ⟨gs, ws, vs, vw, M, DM, S, hd⟩ := h1
      obtain ⟨pS, cS, rfl, -⟩ := own_shape hd.safe
      have c2 : w1.cell? ⟨D, 2, none⟩ = some (.map (some M)) := cell_of_at hd.at_ 2
      have c0 : w1.cell? ⟨D, 0, none⟩ = some (.slice pS gs.length cS) := cell_of_at hd.at_ 0
      have hDlt := lt_of_at hd.at_
      have HD := Lib.hid hd
      have HX := Lib.hid (fun b (hb : b ∈ (Value.slice pS gs.length cS).ownBlock) => hd.block_safe b hb)
      have hXlt : Hid (∀ b ∈ (Value.slice pS gs.length cS).ownBlock, b < w1.heap.size) := fun b hb => own_lt hd.safe b hb
      have HP0 : Hid (Stl gs gs ws (Maps.has DM)) := Stl.start fun i => hd.has i
      clear hd m1 c4
      go_wp2_with (first
        | (at_range; (refine wpList_range_own _ rfl _ 55 rfl 3 23 lawInt Try.underlying55 heldR M _ _ rfl HD.out.map ?_); intro w2 hrg2 hg2 hs2; (have HG2 := Lib.hid (Mod.of_grown_none hg2)); clear hg2)
        | fail)
      have hr2 := ownsRow_mod HD.out.safe HG2.out (by simp)
      have HR2 := Lib.hid hr2
      have hlt2 : w1.heap.size < w2.heap.size := by omega
      have hM1 : M < w1.heap.size := HD.out.map.lt
      have hRG2 := Lib.hid hrg2
      clear hr2 hrg2 hs2
      go_frame
      go_loopw [3, 4] (fun _ _ wr => ∃ (gs' : List Pg) (left : Lit → Bool) (cnt : Nat), Stl gs gs' ws left ∧ wr.ranges Try.prog 3 heldR M w1.heap.size ws.length DM left cnt ∧
          wr.ownsRow 0 23 1 (.slice pS gs.length cS) gs.length (gs'.map Pg.val) ∧ Mod (Value.slice pS gs.length cS).ownBlock.toList w1 wr) (fun _ _ wr => wr.rangeLeft M w1.heap.size)
      case atStart => exact ⟨gs, _, _, HP0.out, hRG2.out, HR2.out, HG2.out.mono (by simp)⟩
      case round =>
        obtain ⟨gs', left, cnt, hst, hrg, hrow, hmd⟩ := hrel
        have HST := Lib.hid hst
        have HROW := Lib.hid hrow
        have HMD := Lib.hid hmd
        clear hst hrow hmd HP0 hRG2 HR2 HG2 hlt2
        go_wp2_with (first
          | (at_next; refine wpList_next_ranges _ rfl _ rfl 3 lawInt heldR (Value.int .i64) (fun v => v) (fun key kl hk => by obtain ⟨x, rfl, _⟩ := Maps.keyOf_int_inv Try.underlying3 hk; exact ⟨x, rfl⟩) (fun v y hv => ⟨v, rfl⟩) M w1.heap.size _ _ _ _ rfl hrg ?_ ?_)
          | go_in)
        · intro _ hl0
          obtain rfl : left = fun _ => false := funext hl0
          have hds := HD.out.settle HMD.out HROW.out HST.out
          have M2 : Hid (Mod T w wr) := M1.out.same (HMD.out.mono (fun b hb => Or.inl (HD.out.sub b (by rw [HD.out.hS]; simp only [List.mem_append]; exact Or.inl (Or.inr hb)))))
          have HRS := Lib.hid (rest_any D T k1.settle wr hds)
          clear hds hrg c0 c2 hl0
          go_wp2_with fail
          refine HRS.out.mono ?_
          rintro _ w5 ⟨rfl, h5, m5⟩
          have H5 := Lib.hid h5
          have M5 : Hid (Mod T w w5) := M2.out.same m5
          clear h5 m5
          go_wp2
          go_ret
          exact .mk ⟨by rw [HW.out]; rfl, T, by rw [HW.out]; exact H5.out, M5.out, fun b hb => Or.inl hb⟩
        · intro x c kl y1 y2 w3 cnt' hkey hlk hv hat hrg' hlt hgr hsz hen
          obtain ⟨x', ex, rfl, hwx⟩ := Maps.keyOf_int_inv Try.underlying3 hkey
          cases ex
          have hat2 : ∀ zd, DM.atKey (.int .i64 x) zd = .held c := fun zd => by rw [hat zd]; exact held_inv2 hv
          obtain ⟨g, hl, rfl⟩ := at_last (HD.out.has x) (HD.out.atk x) hat2
          have hxr := (HD.out.pw _ (Ck.lastOf_mem hl)).2
          simp only at hxr
          obtain ⟨j, rfl⟩ : ∃ j : Nat, x = j := ⟨x.toNat, by omega⟩
          have hj : j < gs.length := by omega
          have HST' := Lib.hid (HST.out.step hj hl)
          obtain ⟨B, hB⟩ : ∃ B, pS = some ⟨B, 0, none⟩ := by
            rcases HROW.out.2 with ⟨e, h0⟩ | ⟨g2, cap2, cur2, e, _⟩
            · omega
            · cases e; exact ⟨g2, rfl⟩
          subst hB
          have hBx := HX.out B (by simp [Value.ownBlock])
          have hBl := hXlt.out B (by simp [Value.ownBlock])
          have HM3 : Hid (Mod ((Value.slice (some ⟨B, 0, none⟩) gs.length cS).ownBlock.toList ++ [w1.heap.size]) w1 w3) := (HMD.out.mono (fun b hb => Or.inl (by simp only [List.mem_append]; exact Or.inl hb))).trans (Mod.of_grown hgr) (fun b hb => Or.inl (by simp only [List.mem_append]; exact Or.inr hb))
          have hr3 := ownsRow_mod HROW.out (Mod.of_grown hgr) (fun b hb => by simp [Value.ownBlock] at hb; subst hb; simp; omega)
          have d0 := (HM3.out.cell (a := ⟨D, 0, none⟩) hDlt (by simp [Value.ownBlock]; exact ⟨fun e => hBx.1 e.symm, by omega⟩)).trans c0
          have hsl := (Sl.of_own hr3 (pgs_one gs')).1
          obtain ⟨b', off', hp', _, hc'⟩ := hsl.addr (by omega)
          cases hp'
          have hidx := fun W => Sl.idx (P := Try.prog) (cap := cS) Try.underlying22 sizeSl (fun h : 0 < gs.length => rfl) W .i64 j hj (p := some ⟨B, 0, none⟩)
          rw [Nat.mul_one, Nat.zero_add] at hidx
          have hj' : j < gs'.length := by rw [HST.out.len]; exact hj
          have hcell : w3.cell? ⟨B, j, none⟩ = some (gs'[j]).val := by
            have := hc' j _ (show (gs'.map Pg.val)[j]? = some (gs'[j]).val by rw [List.getElem?_map, List.getElem?_eq_getElem hj']; rfl)
            rwa [Nat.zero_add] at this
          have hfr : w3.frozen? ⟨B, j, none⟩ = false := by
            rcases hr3.2 with ⟨e, h0⟩ | ⟨g2, cap2, cur2, e, _, hat3, _⟩
            · cases e
            · cases e; exact free_of_at hat3 j
          have hrow4 := (hr3.stored j g.val).1
          rw [← List.map_set] at hrow4
          have hrg4 := hrg'.kept (grownBy_setCell w3 B j g.val) (by simp; exact fun e => hBx.2.1 e.symm) (by simp; omega)
          have hM4 : Mod (Value.slice (some ⟨B, 0, none⟩) gs.length cS).ownBlock.toList w1 (w3.setCell ⟨B, j, none⟩ g.val) := by
            have h1 := HM3.out.setCell (b := B) (o := j) (u := g.val) (Or.inl (by simp [Value.ownBlock]))
            exact h1.mono (fun b hb => by
              rcases List.mem_append.1 hb with h2 | h2
              · exact Or.inl h2
              · right; simp at h2; omega)
          have HROW4 := Lib.hid hrow4
          have HRG4 := Lib.hid hrg4
          have HM4 := Lib.hid hM4
          have hlk2 : w3.rangeLeft M w1.heap.size = cnt' := hrg'.left_eq
          have hlk3 : wr.rangeLeft M w1.heap.size = cnt := hrg.left_eq
          have HLT : Hid ((w3.setCell ⟨B, j, none⟩ g.val).rangeLeft M w1.heap.size < wr.rangeLeft M w1.heap.size) := by rw [hlk3, hrg4.left_eq]; exact hlt
          have hgc : (gs'[j]).val.oneCell' = true := rfl
          unfold Pg.val at hen hcell HROW4 HRG4 HM4 HLT
          clear hrow4 hrg4 hM4 hr3 hsl hc' hlk2 hlk3 hrg' hrg hat2 hat hv hkey hlk hgr
          go_wp2
          go_roundw
          case rel => exact ⟨_, _, _, HST'.out, HRG4.out, HROW4.out, HM4.out⟩
          case measure => exact HLT.out
end Go.Proofs.Ytgimdodbajhpoaa
