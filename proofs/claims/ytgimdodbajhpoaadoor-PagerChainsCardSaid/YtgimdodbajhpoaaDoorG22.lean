/- A page is written to a disk. A page of a disk is read; all that waits is made safe; the power goes. -/
import Derived.Test.YtgimdodbajhpoaaDoorG21
namespace Go.Proofs.YtgimdodbajhpoaaDoor
open Go.RowKit Go.Maps
set_option linter.unusedSimpArgs false
set_option linter.unusedVariables false

theorem DkIn.push {w w' : World} {D : Nat} {T : List Nat} {k : Ck} {gs : List Pg} {ws : List (Int × Pg)} {vs vw : Value} {M : Nat} {DM : DataW Value} {S : List Nat} (h : DkIn w D T k gs ws vs vw M DM S) {no : Int} {g : Pg} {vw' : Value}
    (hm : Mod ([D, M] ++ vw.ownBlock.toList) w w') (hat : w'.heap[D]? = some (.cells #[vs, vw', .map (some M), .int .i64 k.left, .bool k.down] 61 (0, 0)))
    (hrow : w'.ownsRow 0 162 2 vw' (ws.length + 1) (wcells (ws ++ [(no, g)]))) (hlies : ∀ b, vw'.ownBlock = some b → vw.ownBlock = some b ∨ w.heap.size ≤ b)
    (hmap : w'.ownsMap Tryd.prog 3 heldR M (ws.length + 1) (DM.put (.int .i64 no) (.held g.val)))
    (hg : BytesIn w' g.p 1024 g.c g.l) (hgo : ∀ a, g.p = some a → w.heap.size ≤ a.block ∧ vw'.ownBlock ≠ some a.block) (hno : 0 ≤ no ∧ no < gs.length) :
    ∃ T', DiskAt w' D T' (k.push no g.l) ∧ ∀ b ∈ T', b ∈ T ∨ w.heap.size ≤ b := by
  have hS := h.hS
  have hX : ∀ b ∈ [D, M] ++ vw.ownBlock.toList, b ∈ S ∨ w.heap.size ≤ b := by
    intro b hb; rw [hS]; simp only [List.mem_append, Option.mem_toList] at hb ⊢
    rcases hb with hb | hb
    · exact Or.inl (Or.inl (Or.inl hb))
    · exact Or.inl (Or.inr hb)
  have hs : ∀ b ∈ vs.ownBlock, b ∉ [D, M] ++ vw.ownBlock.toList := fun b hb hx => by
    obtain ⟨h1, h2, h3⟩ := h.block_safe b hb
    simp only [List.mem_append, Option.mem_toList, List.mem_cons, List.not_mem_nil, or_false] at hx
    rcases hx with (hx | hx) | hx
    · exact h1 hx
    · exact h2 hx
    · exact h3 hx
  obtain ⟨T', hT'⟩ : ∃ T', T' = T ++ vw'.ownBlock.toList ++ (g.p.map (·.block)).toList := ⟨_, rfl⟩
  obtain ⟨S', hS'⟩ : ∃ S', S' = [D, M] ++ vs.ownBlock.toList ++ vw'.ownBlock.toList := ⟨_, rfl⟩
  have hSS : ∀ b ∈ S', b ∈ S ∨ w.heap.size ≤ b := by
    intro b hb; rw [hS'] at hb; rw [hS]
    simp only [List.mem_append, Option.mem_toList] at hb ⊢
    rcases hb with (hb | hb) | hb
    · exact Or.inl (Or.inl (Or.inl hb))
    · exact Or.inl (Or.inl (Or.inr hb))
    · rcases hlies b hb with h1 | h1
      · exact Or.inl (Or.inr h1)
      · exact Or.inr h1
  have hTT : ∀ b ∈ T, b ∈ T' := fun b hb => by rw [hT']; simp [hb]
  have hpg : ∀ g', PgIn w T S g' → PgIn w' T' S' g' := fun g' hg' => hg'.turn h.lt hm hX hTT hSS
  have hD := h.map.isMap
  refine ⟨T', ⟨gs, ws ++ [(no, g)], vs, vw', M, _, S', hat, ownsRow_mod h.safe hm hs, by simpa using hrow, by simpa using hmap, fun x => ?_, fun x g' hl zd => ?_, h.gsl, by simp [Ck.push, ← h.wsl], fun g' hg' => hpg _ (h.pg _ hg'), fun x hx => ?_, hS', ?_, ?_, h.few, h.left0, h.left1⟩, ?_⟩
  · rw [Ck.lastOf_push]
    by_cases e : no = x
    · subst e; rw [has_put_same (k := Lit.int .i64 no) hD trivial, if_pos rfl]; rfl
    · rw [has_put_other (by simpa using fun h => e h.symm), if_neg e]; exact h.has x
  · rw [Ck.lastOf_push] at hl
    by_cases e : no = x
    · subst e; rw [if_pos rfl] at hl; rw [atKey_put_same (k := Lit.int .i64 no) hD trivial, Option.some.inj hl]
    · rw [if_neg e] at hl
      rw [atKey_put_other (by simpa using fun h => e h.symm)]; exact h.atk x g' hl zd
  · rcases List.mem_append.1 hx with h1 | h1
    · exact ⟨hpg _ (h.pw x h1).1, (h.pw x h1).2⟩
    · obtain rfl : x = (no, g) := by simpa using h1
      refine ⟨⟨hg, fun a ha => ⟨by rw [hT', ha]; simp, fun hs => ?_⟩⟩, hno⟩
      obtain ⟨h2, h3⟩ := hgo a ha
      rw [hS'] at hs
      simp only [List.mem_append, Option.mem_toList] at hs
      rcases hs with (hs | hs) | hs
      · have h4 := h.sub a.block (by rw [hS]; simp only [List.mem_append]; exact Or.inl (Or.inl hs))
        have := h.lt _ h4; omega
      · have h4 := h.sub a.block (by rw [hS]; simp only [List.mem_append, Option.mem_toList]; exact Or.inl (Or.inr hs))
        have := h.lt _ h4; omega
      · exact h3 hs
  · intro b hb; rw [hS'] at hb; rw [hT']
    simp only [List.mem_append, Option.mem_toList] at hb ⊢
    rcases hb with (hb | hb) | hb
    · exact Or.inl (Or.inl (h.sub b (by rw [hS]; simp only [List.mem_append]; exact Or.inl (Or.inl hb))))
    · exact Or.inl (Or.inl (h.sub b (by rw [hS]; simp only [List.mem_append, Option.mem_toList]; exact Or.inl (Or.inr hb))))
    · exact Or.inl (Or.inr hb)
  · intro b hb; rw [hT'] at hb
    simp only [List.mem_append, Option.mem_toList, Option.map_eq_some_iff] at hb
    rcases hb with (hb | hb) | ⟨a, ha, rfl⟩
    · exact Nat.lt_of_lt_of_le (h.lt b hb) hm.size
    · exact own_lt hrow b hb
    · obtain ⟨b, o, hp, hlt, _⟩ := hg.sl.addr (by omega)
      rw [hp] at ha; cases ha; exact hlt
  · intro b hb; rw [hT'] at hb
    simp only [List.mem_append, Option.mem_toList, Option.map_eq_some_iff] at hb
    rcases hb with (hb | hb) | ⟨a, ha, rfl⟩
    · exact Or.inl hb
    · rcases hlies b hb with h1 | h1
      · exact Or.inl (h.sub b (by rw [hS]; simp only [List.mem_append, Option.mem_toList]; exact Or.inr h1))
      · exact Or.inr h1
    · exact Or.inr (hgo a ha).1

theorem infoWr : (Tryd.prog.info? 162).map (fun i => (i.zero, i.size, i.bytes)) = some (some (.agg #[.int .i64 0, .slice none 0 0]), 2, 32) := by kernel_rfl
theorem lawInt : Keyed Tryd.prog 3 := int_keyed Tryd.underlying3
theorem heldR_mk (v : Value) : heldR v = some (.held v, []) := rfl
theorem own_page {w : World} {base : Nat} {p : Option Addr} {n c : Nat} {l : List Int} (h : w.ownsRow base 5 1 (.slice p n c) n (bs l)) (hn : 0 < n) (hw : ∀ x ∈ l, 0 ≤ x ∧ x < 256) : BytesIn w p n c l ∧ ∃ b, p = some ⟨b, 0, none⟩ ∧ base ≤ b ∧ b < w.heap.size := by
  refine ⟨⟨(Sl.of_own h (bs_one _)).1, hw⟩, ?_⟩
  rcases h.2 with ⟨e, h0⟩ | ⟨g, cap, cur, e, hb, hat, _⟩
  · omega
  · cases e; exact ⟨g, rfl, hb, lt_of_at hat⟩
theorem Ck.tick_safe (k : Ck) : k.tick.1.safe = k.safe := by unfold Ck.tick; split <;> rfl
theorem Ck.tick_wait (k : Ck) : k.tick.1.wait = k.wait := by unfold Ck.tick; split <;> rfl

end Go.Proofs.YtgimdodbajhpoaaDoor
namespace Go.Proofs.YtgimdodbajhpoaaDoor
open Go.RowKit Go.Maps
set_option linter.unusedSimpArgs false
set_option linter.unusedVariables false

theorem sizeSl (W : World) : (sizeOf (Tryd.prog.elem 58)).run Tryd.prog W = .ok 1 W := by kernel_rfl
theorem zeroSl (w : World) : (zeroValue 22).run Tryd.prog w = .ok (.slice none 0 0) w := by kernel_rfl
theorem held_inv {v u : Value} {ps : List MemPlace} (h : heldR v = some (.held u, ps)) : v = u := by unfold heldR at h; injection h with h; injection h with h _; injection h
def DReadR (k : Ck) (no : Int) (w : World) (v : Value) (w' : World) : Prop := Mod [] w w' ∧
  if k.there no = true then ∃ p c, v = .tuple #[.slice p 1024 c, .int .i64 0] ∧ BytesIn w' p 1024 c (k.seen no) else v = .tuple #[.slice none 0 0, .int .i64 1]
theorem DkIn.safe_at {w : World} {D : Nat} {T : List Nat} {k : Ck} {gs : List Pg} {ws : List (Int × Pg)} {vs vw : Value} {M : Nat} {DM : DataW Value} {S : List Nat} (h : DkIn w D T k gs ws vs vw M DM S) {i : Nat} (hi : i < gs.length) :
    (gs[i]).l = k.safe.getD i [] := by
  have h1 := h.gsl
  have : k.safe[i]? = some (gs[i]).l := by rw [← h1, List.getElem?_map, List.getElem?_eq_getElem hi]; rfl
  simp [List.getD, this]
theorem DkIn.last_at {w : World} {D : Nat} {T : List Nat} {k : Ck} {gs : List Pg} {ws : List (Int × Pg)} {vs vw : Value} {M : Nat} {DM : DataW Value} {S : List Nat} (h : DkIn w D T k gs ws vs vw M DM S) (no : Int) :
    Ck.lastOf k.wait no = (Ck.lastOf ws no).map Pg.l := by rw [← h.wsl, Ck.lastOf_map]

set_option maxRecDepth 100000 in
set_option maxHeartbeats 4000000 in
theorem dread_any (D : Nat) (T : List Nat) (k : Ck) (no : Int) (w : World) (h : DiskAt w D T k) :
    Calls Tryd.prog 49 #[.pointer (some ⟨D, 0, none⟩), .int .i64 no] w (Ret (DReadR k no w)) := by
  have HTH := Lib.hid (thereD_any D T k no w h)
  cases hth : k.there no with
  | false =>
    rw [hth] at HTH
    have HT := Lib.hid hth
    clear h hth
    go_enter Tryd.func49, Tryd.ntmps49
    go_wp2_with fail
    refine HTH.out.mono ?_
    rintro _ w1 ⟨_, rfl, rfl, rfl⟩
    go_wp2
    go_ret2
    exact .mk ⟨Mod.refl _ _, by rw [if_neg (by rw [HT.out]; simp)]; rfl⟩
  | true =>
    rw [hth] at HTH
    obtain ⟨gs, ws, vs, vw, M, DM, S, hd⟩ := h
    obtain ⟨pS, cS, rfl, -⟩ := own_shape hd.safe
    have hnr : 0 ≤ no ∧ no < gs.length := by
      have hth := hth
      unfold Ck.there at hth; simp at hth; rw [hd.len.1]; exact hth
    have HT := Lib.hid hth
    have hfw := hd.few
    have c0 : w.cell? ⟨D, 0, none⟩ = some (.slice pS gs.length cS) := cell_of_at hd.at_ 0
    have c2 : w.cell? ⟨D, 2, none⟩ = some (.map (some M)) := cell_of_at hd.at_ 2
    have hkey := keyOf_int_mk (P := Tryd.prog) Tryd.underlying3 (a := no) (WalkArith.wf_i64 (by omega))
    have HMAP := Lib.hid hd.map
    have hhas := hd.has no
    have hlast := hd.last_at no
    cases hl : Ck.lastOf ws no with
    | some g =>
      rw [hl] at hhas hlast
      have hat := hd.atk no g hl (.held (.slice none 0 0))
      have HPG : Hid (BytesIn w g.p 1024 g.c g.l) := ((hd.pw _ (Ck.lastOf_mem hl)).1).io
      have HHAS : Hid (Maps.has DM (.int .i64 no) = true) := hhas
      have HAT := Lib.hid hat
      have HSEEN : Hid (k.seen no = g.l) := by unfold Hid Ck.seen; rw [hlast]; rfl
      have hnil : Hid (g.p = none → 1024 = 0 ∧ g.c = 0) := fun he => by obtain ⟨b, o, hp, _⟩ := HPG.out.sl.addr (by omega); rw [he] at hp; cases hp
      clear hd hth hhas hlast hl hat c0
      go_enter Tryd.func49, Tryd.ntmps49
      go_wp2_with fail
      refine HTH.out.mono ?_
      rintro _ w1 ⟨_, rfl, rfl, rfl⟩
      go_wp2_with (first
        | (at_lookup; (refine wpList_lookup_own_ok _ rfl _ _ 57 rfl 3 22 lawInt Tryd.underlying57 heldR (zeroSl _) (.held (.slice none 0 0)) [] rfl M _ _ rfl HMAP.out _ _ rfl hkey ?_); intro v ps hv; (rw [HHAS.out]); (rw [HAT.out] at hv); (obtain rfl := held_inv hv); clear hv; unfold Pg.val)
        | fail)
      refine (clone_any g.p 1024 g.c g.l _ HPG.out.sl (by omega) hnil.out).mono ?_
      rintro _ w2 ⟨_, rfl, p1, n1, c1', rfl, e1, o1, m1⟩
      obtain rfl : n1 = 1024 := by rw [e1, HPG.out.len]
      have B1 := Lib.hid (own_page o1 (by omega) HPG.out.wf).1
      have M1 := Lib.hid m1
      clear e1 o1 m1
      go_wp2
      go_ret2
      exact .mk ⟨M1.out, by rw [if_pos HT.out, HSEEN.out]; exact ⟨_, _, rfl, B1.out⟩⟩
    | none =>
      rw [hl] at hhas hlast
      have HHAS : Hid (Maps.has DM (.int .i64 no) = false) := hhas
      obtain ⟨i, rfl⟩ : ∃ i : Nat, no = i := ⟨no.toNat, by omega⟩
      have hi : i < gs.length := by omega
      obtain ⟨g, hgdef⟩ : ∃ g, g = gs[i] := ⟨_, rfl⟩
      have HPG : Hid (BytesIn w g.p 1024 g.c g.l) := by rw [hgdef]; exact (hd.pg _ (List.getElem_mem hi)).io
      have HSEEN : Hid (k.seen i = g.l) := by unfold Hid Ck.seen; rw [hlast, hgdef, hd.safe_at hi]; rfl
      have hnil : Hid (g.p = none → 1024 = 0 ∧ g.c = 0) := fun he => by obtain ⟨b, o, hp, _⟩ := HPG.out.sl.addr (by omega); rw [he] at hp; cases hp
      have hs := (Sl.of_own hd.safe (pgs_one gs)).1
      obtain ⟨b, off, hp, _, hc⟩ := hs.addr (by omega)
      have hidx := fun W => Sl.idx (P := Tryd.prog) (cap := cS) Tryd.underlying58 (sizeSl) (fun h : 0 < gs.length => hp) W .i64 i hi
      have hcell : w.cell? ⟨b, off + i, none⟩ = some (.slice g.p 1024 g.c) := hc i _ (by rw [List.getElem?_map, List.getElem?_eq_getElem hi, hgdef]; rfl)
      rw [Nat.mul_one] at hidx
      clear hd hth hhas hlast hl hs hc hgdef
      go_enter Tryd.func49, Tryd.ntmps49
      go_wp2_with fail
      refine HTH.out.mono ?_
      rintro _ w1 ⟨_, rfl, rfl, rfl⟩
      go_wp2_with (first
        | (at_lookup; (refine wpList_lookup_own_ok _ rfl _ _ 57 rfl 3 22 lawInt Tryd.underlying57 heldR (zeroSl _) (.held (.slice none 0 0)) [] rfl M _ _ rfl HMAP.out _ _ rfl hkey ?_); intro v ps hv; (rw [HHAS.out]); clear hv)
        | fail)
      refine (clone_any g.p 1024 g.c g.l _ HPG.out.sl (by omega) hnil.out).mono ?_
      rintro _ w2 ⟨_, rfl, p1, n1, c1', rfl, e1, o1, m1⟩
      obtain rfl : n1 = 1024 := by rw [e1, HPG.out.len]
      have B1 := Lib.hid (own_page o1 (by omega) HPG.out.wf).1
      have M1 := Lib.hid m1
      clear e1 o1 m1
      go_wp2
      go_ret2
      exact .mk ⟨M1.out, by rw [if_pos HT.out, HSEEN.out]; exact ⟨_, _, rfl, B1.out⟩⟩
end Go.Proofs.YtgimdodbajhpoaaDoor
