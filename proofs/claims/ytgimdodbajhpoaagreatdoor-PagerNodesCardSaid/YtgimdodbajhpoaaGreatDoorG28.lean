/- A page is written to a disk. A page of a disk is read; all that waits is made safe; the power goes. A framed page is opened again. -/
import Derived.Test.YtgimdodbajhpoaaGreatDoorG26
import Derived.Test.YtgimdodbajhpoaaGreatDoorG27
import Derived.Test.YtgimdodbajhpoaaGreatDoorG08
namespace Go.Proofs.YtgimdodbajhpoaaGreatDoor
open Go.RowKit Go.Maps
set_option linter.unusedSimpArgs false
set_option linter.unusedVariables false

theorem DkIn.push {w w' : World} {D : Nat} {T : List Nat} {k : Ck} {gs : List Pg} {ws : List (Int × Pg)} {vs vw : Value} {M : Nat} {DM : DataW Value} {S : List Nat} (h : DkIn w D T k gs ws vs vw M DM S) {no : Int} {g : Pg} {vw' : Value}
    (hm : Mod ([D, M] ++ vw.ownBlock.toList) w w') (hat : w'.heap[D]? = some (.cells #[vs, vw', .map (some M), .int .i64 k.left, .bool k.down] 71 (0, 0)))
    (hrow : w'.ownsRow 0 103 2 vw' (ws.length + 1) (wcells (ws ++ [(no, g)]))) (hlies : ∀ b, vw'.ownBlock = some b → vw.ownBlock = some b ∨ w.heap.size ≤ b)
    (hmap : w'.ownsMap Tryz.prog 3 heldR M (ws.length + 1) (DM.put (.int .i64 no) (.held g.val)))
    (hg : BytesIn w' g.p 1024 g.c g.l) (hgo : ∀ a, g.p = some a → w.heap.size ≤ a.block ∧ vw'.ownBlock ≠ some a.block) (hno : 0 ≤ no ∧ no < gs.length) :
    ∃ T', DiskAt w' D T' (k.push no g.l) ∧ ∀ b ∈ T', b ∈ T ∨ w.heap.size ≤ b := by
  have hS := h.hS
  have hX : ∀ b ∈ [D, M] ++ vw.ownBlock.toList, b ∈ S ∨ w.heap.size ≤ b := by
    intro b hb; rw [hS]; simp only [List.mem_append, Option.mem_toList] at hb ⊢
    rcases hb with hb | hb
    · exact Or.inl (Or.inl (Or.inl hb))
    · exact Or.inl (Or.inr hb)
  have hs : ∀ b ∈ vs.ownBlock, b ∉ [D, M] ++ vw.ownBlock.toList := fun b hb hx => by
    obtain ⟨h1, h2, h3⟩ := h.block_safe b hb
    simp only [List.mem_append, Option.mem_toList, List.mem_cons, List.not_mem_nil, or_false] at hx
    rcases hx with (hx | hx) | hx
    · exact h1 hx
    · exact h2 hx
    · exact h3 hx
  obtain ⟨T', hT'⟩ : ∃ T', T' = T ++ vw'.ownBlock.toList ++ (g.p.map (·.block)).toList := ⟨_, rfl⟩
  obtain ⟨S', hS'⟩ : ∃ S', S' = [D, M] ++ vs.ownBlock.toList ++ vw'.ownBlock.toList := ⟨_, rfl⟩
  have hSS : ∀ b ∈ S', b ∈ S ∨ w.heap.size ≤ b := by
    intro b hb; rw [hS'] at hb; rw [hS]
    simp only [List.mem_append, Option.mem_toList] at hb ⊢
    rcases hb with (hb | hb) | hb
    · exact Or.inl (Or.inl (Or.inl hb))
    · exact Or.inl (Or.inl (Or.inr hb))
    · rcases hlies b hb with h1 | h1
      · exact Or.inl (Or.inr h1)
      · exact Or.inr h1
  have hTT : ∀ b ∈ T, b ∈ T' := fun b hb => by rw [hT']; simp [hb]
  have hpg : ∀ g', PgIn w T S g' → PgIn w' T' S' g' := fun g' hg' => hg'.turn h.lt hm hX hTT hSS
  have hD := h.map.isMap
  refine ⟨T', ⟨gs, ws ++ [(no, g)], vs, vw', M, _, S', hat, ownsRow_mod h.safe hm hs, by simpa using hrow, by simpa using hmap, fun x => ?_, fun x g' hl zd => ?_, h.gsl, by simp [Ck.push, ← h.wsl], fun g' hg' => hpg _ (h.pg _ hg'), fun x hx => ?_, hS', ?_, ?_, h.few, h.left0, h.left1⟩, ?_⟩
  · rw [Ck.lastOf_push]
    by_cases e : no = x
    · subst e; rw [has_put_same (k := Lit.int .i64 no) hD trivial, if_pos rfl]; rfl
    · rw [has_put_other (by simpa using fun h => e h.symm), if_neg e]; exact h.has x
  · rw [Ck.lastOf_push] at hl
    by_cases e : no = x
    · subst e; rw [if_pos rfl] at hl; rw [atKey_put_same (k := Lit.int .i64 no) hD trivial, Option.some.inj hl]
    · rw [if_neg e] at hl
      rw [atKey_put_other (by simpa using fun h => e h.symm)]; exact h.atk x g' hl zd
  · rcases List.mem_append.1 hx with h1 | h1
    · exact ⟨hpg _ (h.pw x h1).1, (h.pw x h1).2⟩
    · obtain rfl : x = (no, g) := by simpa using h1
      refine ⟨⟨hg, fun a ha => ⟨by rw [hT', ha]; simp, fun hs => ?_⟩⟩, hno⟩
      obtain ⟨h2, h3⟩ := hgo a ha
      rw [hS'] at hs
      simp only [List.mem_append, Option.mem_toList] at hs
      rcases hs with (hs | hs) | hs
      · have h4 := h.sub a.block (by rw [hS]; simp only [List.mem_append]; exact Or.inl (Or.inl hs))
        have := h.lt _ h4; omega
      · have h4 := h.sub a.block (by rw [hS]; simp only [List.mem_append, Option.mem_toList]; exact Or.inl (Or.inr hs))
        have := h.lt _ h4; omega
      · exact h3 hs
  · intro b hb; rw [hS'] at hb; rw [hT']
    simp only [List.mem_append, Option.mem_toList] at hb ⊢
    rcases hb with (hb | hb) | hb
    · exact Or.inl (Or.inl (h.sub b (by rw [hS]; simp only [List.mem_append]; exact Or.inl (Or.inl hb))))
    · exact Or.inl (Or.inl (h.sub b (by rw [hS]; simp only [List.mem_append, Option.mem_toList]; exact Or.inl (Or.inr hb))))
    · exact Or.inl (Or.inr hb)
  · intro b hb; rw [hT'] at hb
    simp only [List.mem_append, Option.mem_toList, Option.map_eq_some_iff] at hb
    rcases hb with (hb | hb) | ⟨a, ha, rfl⟩
    · exact Nat.lt_of_lt_of_le (h.lt b hb) hm.size
    · exact own_lt hrow b hb
    · obtain ⟨b, o, hp, hlt, _⟩ := hg.sl.addr (by omega)
      rw [hp] at ha; cases ha; exact hlt
  · intro b hb; rw [hT'] at hb
    simp only [List.mem_append, Option.mem_toList, Option.map_eq_some_iff] at hb
    rcases hb with (hb | hb) | ⟨a, ha, rfl⟩
    · exact Or.inl hb
    · rcases hlies b hb with h1 | h1
      · exact Or.inl (h.sub b (by rw [hS]; simp only [List.mem_append, Option.mem_toList]; exact Or.inr h1))
      · exact Or.inr h1
    · exact Or.inr (hgo a ha).1

theorem infoWr : (Tryz.prog.info? 103).map (fun i => (i.zero, i.size, i.bytes)) = some (some (.agg #[.int .i64 0, .slice none 0 0]), 2, 32) := by kernel_rfl
theorem lawInt : Keyed Tryz.prog 3 := int_keyed Tryz.underlying3
theorem heldR_mk (v : Value) : heldR v = some (.held v, []) := rfl
theorem own_page {w : World} {base : Nat} {p : Option Addr} {n c : Nat} {l : List Int} (h : w.ownsRow base 5 1 (.slice p n c) n (bs l)) (hn : 0 < n) (hw : ∀ x ∈ l, 0 ≤ x ∧ x < 256) : BytesIn w p n c l ∧ ∃ b, p = some ⟨b, 0, none⟩ ∧ base ≤ b ∧ b < w.heap.size := by
  refine ⟨⟨(Sl.of_own h (bs_one _)).1, hw⟩, ?_⟩
  rcases h.2 with ⟨e, h0⟩ | ⟨g, cap, cur, e, hb, hat, _⟩
  · omega
  · cases e; exact ⟨g, rfl, hb, lt_of_at hat⟩
theorem Ck.tick_safe (k : Ck) : k.tick.1.safe = k.safe := by unfold Ck.tick; split <;> rfl
theorem Ck.tick_wait (k : Ck) : k.tick.1.wait = k.wait := by unfold Ck.tick; split <;> rfl

set_option maxRecDepth 100000 in
set_option maxHeartbeats 4000000 in
theorem dwrite_any (D : Nat) (T : List Nat) (k : Ck) (no : Int) (p : Option Addr) (n c : Nat) (l : List Int) (w : World) (h : DiskAt w D T k) (hl : BytesIn w p n c l) (hnil : p = none → n = 0 ∧ c = 0) (hfew : k.wait.length ≤ 1000000) :
    Calls Tryz.prog 31 #[.pointer (some ⟨D, 0, none⟩), .int .i64 no, .slice p n c] w (Ret (DkR D T (k.write no l).2 (.int .i64 (k.write no l).1) w)) := by
  have HTH := Lib.hid (thereD_any D T k no w h)
  have HL := Lib.hid hl
  have hln := hl.len
  have HLN := Lib.hid hln
  have HH := Lib.hid h
  have hlt : ∀ b ∈ T, b < w.heap.size := by obtain ⟨gs, ws, vs, vw, M, DM, S, h⟩ := h; exact h.lt
  have HLT := Lib.hid hlt
  have same : ∀ w', w' = w → DkR D T k (.int .i64 0) w (.int .i64 0) w' := fun w' he => by subst he; exact ⟨rfl, T, h, Mod.refl _ _, fun b hb => Or.inl hb⟩
  clear h hl hln hlt
  cases hth : k.there no with
  | false =>
    have HW : Hid (k.write no l = (1, k)) := by unfold Hid Ck.write; rw [if_pos (Or.inl hth)]
    rw [hth] at HTH
    clear hth same
    go_enter Tryz.func31, Tryz.ntmps31
    go_wp2_with fail
    refine HTH.out.mono ?_
    rintro _ w1 ⟨_, rfl, rfl, rfl⟩
    go_wp2
    go_ret
    exact .mk ⟨by rw [HW.out]; rfl, T, by rw [HW.out]; exact HH.out, Mod.refl _ _, fun b hb => Or.inl hb⟩
  | true =>
    rw [hth] at HTH
    by_cases hn : n = 1024
    · subst hn
      obtain ⟨gs, ws, vs, vw, M, DM, S, hd⟩ := HH.out
      obtain ⟨pS, cS, rfl, -⟩ := own_shape hd.safe
      obtain ⟨pW, cW, rfl, -⟩ := own_shape hd.wait
      have hwl : ws.length ≤ 1000000 := by rw [hd.len.2]; exact hfew
      have c1 : w.cell? ⟨D, 1, none⟩ = some (.slice pW ws.length cW) := cell_of_at hd.at_ 1
      have f1 : w.frozen? ⟨D, 1, none⟩ = false := free_of_at hd.at_ 1
      have c2 : w.cell? ⟨D, 2, none⟩ = some (.map (some M)) := cell_of_at hd.at_ 2
      have c4 : w.cell? ⟨D, 4, none⟩ = some (.bool k.down) := cell_of_at hd.at_ 4
      have hDlt := lt_of_at hd.at_
      have HD := Lib.hid hd
      have hnr : 0 ≤ no ∧ no < gs.length := by
        unfold Ck.there at hth; simp at hth; rw [hd.len.1]; exact hth
      have hfw := hd.few
      clear hd
      cases hdn : k.down with
      | true =>
        have HW : Hid (k.write no l = (3, k)) := by unfold Hid Ck.write; rw [if_neg (by rw [hth, HLN.out]; simp), if_pos hdn]
        rw [hdn] at c4
        clear hth same hdn
        go_enter Tryz.func31, Tryz.ntmps31
        go_wp2_with fail
        refine HTH.out.mono ?_
        rintro _ w1 ⟨_, rfl, rfl, rfl⟩
        go_wp2
        go_ret
        exact .mk ⟨by rw [HW.out]; rfl, T, by rw [HW.out]; exact HH.out, Mod.refl _ _, fun b hb => Or.inl hb⟩
      | false =>
        have HW : Hid (k.write no l = (if (k.push no l).tick.2 = true then 3 else 0, (k.push no l).tick.1)) := by unfold Hid Ck.write; rw [if_neg (by rw [hth, HLN.out]; simp), if_neg (by rw [hdn]; simp)]
        have HDN := Lib.hid hdn
        rw [hdn] at c4
        have hkey := keyOf_int_mk (P := Tryz.prog) Tryz.underlying3 (a := no) (WalkArith.wf_i64 (by omega))
        obtain ⟨i0, hi0, hz0, hz1, hz2⟩ := info_parts infoWr
        clear hth same hdn
        go_enter Tryz.func31, Tryz.ntmps31
        go_wp2_with fail
        refine HTH.out.mono ?_
        rintro _ w1 ⟨_, rfl, rfl, rfl⟩
        go_wp2_with fail
        refine (clone_any p 1024 c l _ HL.out.sl (by omega) hnil).mono ?_
        rintro _ w1 ⟨_, rfl, p1, n1, c1', rfl, e1, o1, m1⟩
        obtain rfl : n1 = 1024 := by rw [e1, HLN.out]
        obtain ⟨b1, g, rfl, hgb, hgl⟩ := own_page o1 (by omega) HL.out.wf
        have M1 := Lib.hid m1
        have B1 := Lib.hid b1
        have hd1 := HD.out.mod m1 (by simp)
        have HD1 := Lib.hid hd1
        have d1 := (m1.cell (a := ⟨D, 1, none⟩) hDlt (by simp)).trans c1
        have g1 := (m1.frozen (a := ⟨D, 1, none⟩) hDlt (by simp)).trans f1
        have d2 := (m1.cell (a := ⟨D, 2, none⟩) hDlt (by simp)).trans c2
        have hDlt1 : D < w1.heap.size := Nat.lt_of_lt_of_le hDlt m1.size
        have hMlt1 : M < w1.heap.size := hd1.map.lt
        have hne := hd1.ne
        have hWD : Hid (some D ≠ (Value.slice pW ws.length cW).ownBlock) := fun he => (hd1.block_wait D he.symm).1 rfl
        have hWM : Hid (some M ≠ (Value.slice pW ws.length cW).ownBlock) := fun he => (hd1.block_wait M he.symm).2 rfl
        clear c1 f1 c2 c4 m1 b1 hd1 o1 HTH e1
        go_wp2_with (first
          | (at_builtin; (refine wpList_append_src _ rfl _ _ _ rfl 0 103 i0 _ 2 32 Tryz.underlying69 hi0 hz0 hz1 hz2 rfl (by omega) (.slice pW ws.length cW) ws.length (wcells ws) rfl (ownsRow_mod HD1.out.wait (Mod.of_alloc _ _) (by simp)) _ _ _ _ rfl (Sl.new w1 [.int .i64 no, .slice (some ⟨g, 0, none⟩) 1024 c1'] 103 2 1 rfl (by simp [maxLen]) (by simp [Value.oneCell'])) (ws.length + 1) (by omega) (by unfold maxLen; omega) (by omega) (by omega) ?_); intro p2 c2 w2 hown2 hgrow2 _ hlie2; (have HO2 := Lib.hid hown2); (have HL2 := Lib.hid hlie2); (have m2 : Mod (Value.slice pW ws.length cW).ownBlock.toList w1 w2 := ((Mod.of_alloc w1 _).mono (by simp)).same (Mod.of_grown' hgrow2)); (have M2 := Lib.hid m2); (have x1 : D ∉ (Value.slice pW ws.length cW).ownBlock.toList := by simpa using fun h => hWD.out (Eq.symm h)); (have x2 : M ∉ (Value.slice pW ws.length cW).ownBlock.toList := by simpa using fun h => hWM.out (Eq.symm h)); (have e2 := (m2.cell (a := ⟨D, 2, none⟩) hDlt1 x1).trans d2); (have h2 := (m2.frozen (a := ⟨D, 1, none⟩) hDlt1 x1).trans g1); (have e1 := (m2.cell (a := ⟨D, 1, none⟩) hDlt1 x1).trans d1); (have HA2 : Hid _ := m2.at HD1.out.at_ x1); (have HMAP : Hid _ := ownsMap_mod (ownsMap_mod HD1.out.map m2 x2) (Mod.of_setCell w2 D 1 (.slice p2 (ws.length + 1) c2)) (by simpa using hne.symm)); clear hown2 hlie2 hgrow2 m2 x1 x2 d1 d2 g1)
          | (at_mapUpdate; (refine wpList_mapUpdate_in _ rfl _ _ _ 68 rfl 3 40 lawInt Tryz.underlying68 heldR M _ _ rfl HMAP.out (by unfold maxLen; omega) _ _ _ rfl rfl hkey _ [] (heldR_mk _) ?_); intro w4 hown4 hturn4; (have HO4 := Lib.hid hown4); (have M4 : Hid (Mod [M] _ w4) := Mod.of_grown hturn4.grown); clear hown4 hturn4 e1 e2 h2)
          | fail)
        have hsz : ∀ b, (Value.slice p2 (ws.length + 1) c2).ownBlock = some b → (Value.slice pW ws.length cW).ownBlock = some b ∨ b = w1.heap.size + 1 := fun b hb => by
          rcases HL2.out with h1 | h1
          · left; rw [← h1]; exact hb
          · right; rw [h1] at hb; have h2 := Option.some.inj hb; simp at h2; omega
        have hsub := HD.out.sub
        have hS := HD.out.hS
        have hold : ∀ b, (Value.slice pW ws.length cW).ownBlock = some b → b ∈ T := fun b hb => hsub b (by rw [hS]; simp only [List.mem_append, Option.mem_toList]; exact Or.inr hb)
        have hDT : D ∈ T := hsub D (by rw [hS]; simp)
        have hMT : M ∈ T := hsub M (by rw [hS]; simp)
        have hXT : ∀ b ∈ [D, M] ++ (Value.slice pW ws.length cW).ownBlock.toList, b ∈ T := by
          intro b hb; simp only [List.mem_append, Option.mem_toList, List.mem_cons, List.not_mem_nil, or_false] at hb
          rcases hb with (rfl | rfl) | hb
          · exact hDT
          · exact hMT
          · exact hold b hb
        have hmA : Mod ([D, M] ++ (Value.slice pW ws.length cW).ownBlock.toList) w1 w2 := M2.out.mono (fun b hb => Or.inl (by simp only [List.mem_append]; exact Or.inr hb))
        have hm24 : Mod ([D, M] ++ (Value.slice pW ws.length cW).ownBlock.toList) w1 w4 :=
          (hmA.setCell (b := D) (o := 1) (u := .slice p2 (ws.length + 1) c2) (Or.inl (by simp))).trans M4.out (fun b hb => Or.inl (by simp at hb; simp [hb]))
        have hm04 : Mod ([D, M] ++ (Value.slice pW ws.length cW).ownBlock.toList) w w4 := (M1.out.mono (by simp)).same hm24
        have hgo : (Value.slice p2 (ws.length + 1) c2).ownBlock ≠ some g := fun he => by
          rcases hsz g he with h1 | h1
          · have := HLT.out g (hold g h1); omega
          · omega
        have hne2 : ∀ b, (Value.slice p2 (ws.length + 1) c2).ownBlock = some b → b ≠ D ∧ b ≠ M := fun b hb => by
          rcases hsz b hb with h1 | h1
          · exact HD1.out.block_wait b h1
          · omega
        obtain ⟨T2, hd2, hT2⟩ := HD.out.push (no := no) (g := ⟨some ⟨g, 0, none⟩, c1', l⟩) (vw' := .slice p2 (ws.length + 1) c2) hm04
          (M4.out.at (at_setCell HA2.out 1 _) (by simpa using hne)) (by
            rw [wcells_append]
            exact ownsRow_mod (ownsRow_mod HO2.out (Mod.of_setCell w2 D 1 _) (fun b hb => by simpa using (hne2 b hb).1)) M4.out (fun b hb => by simpa using (hne2 b hb).2))
          (fun b hb => (hsz b hb).imp id fun h => by have := M1.out.size; omega) HO4.out
          ⟨B1.out.sl.mod hm24 (fun a ha _ hx => by cases ha; have := HLT.out g (hXT g hx); omega), HL.out.wf⟩
          (fun a ha => by cases ha; exact ⟨hgb, hgo⟩) hnr
        have HT2 := Lib.hid hT2
        have HD2 := Lib.hid hd2
        have HM4 : Hid (Mod T w w4) := hm04.mono (fun b hb => Or.inl (hXT b hb))
        have HDT := Lib.hid hDT
        clear hd2 hT2 hmA hm24 hm04 hgo hne2 hXT hold hDT hMT hsub hS hsz HO4 M4 HMAP HA2 HO2 HL2 M2 HD1 hkey
        have HTK := Lib.hid (tick_any D T2 (k.push no l) w4 HD2.out HDN.out)
        clear HD2
        cases htk : (k.push no l).tick.2 with
        | true =>
          rw [htk] at HTK HW
          have HW' : Hid (k.write no l = (3, (k.push no l).tick.1)) := HW.out
          clear htk HW
          go_wp2_with fail
          refine HTK.out.mono ?_
          rintro _ w5 ⟨_, rfl, rfl, hd5, hm5⟩
          have HD5 := Lib.hid hd5
          have HM5 := Lib.hid hm5
          clear hd5 hm5
          go_wp2
          go_ret
          exact .mk ⟨by rw [HW'.out]; rfl, T2, by rw [HW'.out]; exact HD5.out, HM4.out.trans HM5.out (fun b hb => Or.inl (by simp at hb; subst hb; exact HDT.out)), HT2.out⟩
        | false =>
          rw [htk] at HTK HW
          have HW' : Hid (k.write no l = (0, (k.push no l).tick.1)) := HW.out
          clear htk HW
          go_wp2_with fail
          refine HTK.out.mono ?_
          rintro _ w5 ⟨_, rfl, rfl, hd5, hm5⟩
          have HD5 := Lib.hid hd5
          have HM5 := Lib.hid hm5
          clear hd5 hm5
          go_wp2
          go_ret
          exact .mk ⟨by rw [HW'.out]; rfl, T2, by rw [HW'.out]; exact HD5.out, HM4.out.trans HM5.out (fun b hb => Or.inl (by simp at hb; subst hb; exact HDT.out)), HT2.out⟩
    · have HW : Hid (k.write no l = (1, k)) := by unfold Hid Ck.write; rw [if_pos (Or.inr (by rw [HLN.out]; exact hn))]
      clear hth same
      go_enter Tryz.func31, Tryz.ntmps31
      go_wp2_with fail
      refine HTH.out.mono ?_
      rintro _ w1 ⟨_, rfl, rfl, rfl⟩
      go_wp2
      go_ret
      exact .mk ⟨by rw [HW.out]; rfl, T, by rw [HW.out]; exact HH.out, Mod.refl _ _, fun b hb => Or.inl hb⟩
end Go.Proofs.YtgimdodbajhpoaaGreatDoor
namespace Go.Proofs.YtgimdodbajhpoaaGreatDoor
open Go.RowKit Go.Maps
set_option linter.unusedSimpArgs false
set_option linter.unusedVariables false

theorem sizeSl (W : World) : (sizeOf (Tryz.prog.elem 23)).run Tryz.prog W = .ok 1 W := by kernel_rfl
theorem zeroSl (w : World) : (zeroValue 40).run Tryz.prog w = .ok (.slice none 0 0) w := by kernel_rfl
theorem held_inv {v u : Value} {ps : List MemPlace} (h : heldR v = some (.held u, ps)) : v = u := by unfold heldR at h; injection h with h; injection h with h _; injection h
def DReadR (k : Ck) (no : Int) (w : World) (v : Value) (w' : World) : Prop := Mod [] w w' ∧
  if k.there no = true then ∃ p c, v = .tuple #[.slice p 1024 c, .int .i64 0] ∧ BytesIn w' p 1024 c (k.seen no) else v = .tuple #[.slice none 0 0, .int .i64 1]
theorem DkIn.safe_at {w : World} {D : Nat} {T : List Nat} {k : Ck} {gs : List Pg} {ws : List (Int × Pg)} {vs vw : Value} {M : Nat} {DM : DataW Value} {S : List Nat} (h : DkIn w D T k gs ws vs vw M DM S) {i : Nat} (hi : i < gs.length) :
    (gs[i]).l = k.safe.getD i [] := by
  have h1 := h.gsl
  have : k.safe[i]? = some (gs[i]).l := by rw [← h1, List.getElem?_map, List.getElem?_eq_getElem hi]; rfl
  simp [List.getD, this]
theorem DkIn.last_at {w : World} {D : Nat} {T : List Nat} {k : Ck} {gs : List Pg} {ws : List (Int × Pg)} {vs vw : Value} {M : Nat} {DM : DataW Value} {S : List Nat} (h : DkIn w D T k gs ws vs vw M DM S) (no : Int) :
    Ck.lastOf k.wait no = (Ck.lastOf ws no).map Pg.l := by rw [← h.wsl, Ck.lastOf_map]

set_option maxRecDepth 100000 in
set_option maxHeartbeats 4000000 in
theorem dread_any (D : Nat) (T : List Nat) (k : Ck) (no : Int) (w : World) (h : DiskAt w D T k) :
    Calls Tryz.prog 37 #[.pointer (some ⟨D, 0, none⟩), .int .i64 no] w (Ret (DReadR k no w)) := by
  have HTH := Lib.hid (thereD_any D T k no w h)
  cases hth : k.there no with
  | false =>
    rw [hth] at HTH
    have HT := Lib.hid hth
    clear h hth
    go_enter Tryz.func37, Tryz.ntmps37
    go_wp2_with fail
    refine HTH.out.mono ?_
    rintro _ w1 ⟨_, rfl, rfl, rfl⟩
    go_wp2
    go_ret2
    exact .mk ⟨Mod.refl _ _, by rw [if_neg (by rw [HT.out]; simp)]; rfl⟩
  | true =>
    rw [hth] at HTH
    obtain ⟨gs, ws, vs, vw, M, DM, S, hd⟩ := h
    obtain ⟨pS, cS, rfl, -⟩ := own_shape hd.safe
    have hnr : 0 ≤ no ∧ no < gs.length := by
      have hth := hth
      unfold Ck.there at hth; simp at hth; rw [hd.len.1]; exact hth
    have HT := Lib.hid hth
    have hfw := hd.few
    have c0 : w.cell? ⟨D, 0, none⟩ = some (.slice pS gs.length cS) := cell_of_at hd.at_ 0
    have c2 : w.cell? ⟨D, 2, none⟩ = some (.map (some M)) := cell_of_at hd.at_ 2
    have hkey := keyOf_int_mk (P := Tryz.prog) Tryz.underlying3 (a := no) (WalkArith.wf_i64 (by omega))
    have HMAP := Lib.hid hd.map
    have hhas := hd.has no
    have hlast := hd.last_at no
    cases hl : Ck.lastOf ws no with
    | some g =>
      rw [hl] at hhas hlast
      have hat := hd.atk no g hl (.held (.slice none 0 0))
      have HPG : Hid (BytesIn w g.p 1024 g.c g.l) := ((hd.pw _ (Ck.lastOf_mem hl)).1).io
      have HHAS : Hid (Maps.has DM (.int .i64 no) = true) := hhas
      have HAT := Lib.hid hat
      have HSEEN : Hid (k.seen no = g.l) := by unfold Hid Ck.seen; rw [hlast]; rfl
      have hnil : Hid (g.p = none → 1024 = 0 ∧ g.c = 0) := fun he => by obtain ⟨b, o, hp, _⟩ := HPG.out.sl.addr (by omega); rw [he] at hp; cases hp
      clear hd hth hhas hlast hl hat c0
      go_enter Tryz.func37, Tryz.ntmps37
      go_wp2_with fail
      refine HTH.out.mono ?_
      rintro _ w1 ⟨_, rfl, rfl, rfl⟩
      go_wp2_with (first
        | (at_lookup; (refine wpList_lookup_own_ok _ rfl _ _ 68 rfl 3 40 lawInt Tryz.underlying68 heldR (zeroSl _) (.held (.slice none 0 0)) [] rfl M _ _ rfl HMAP.out _ _ rfl hkey ?_); intro v ps hv; (rw [HHAS.out]); (rw [HAT.out] at hv); (obtain rfl := held_inv hv); clear hv; unfold Pg.val)
        | fail)
      refine (clone_any g.p 1024 g.c g.l _ HPG.out.sl (by omega) hnil.out).mono ?_
      rintro _ w2 ⟨_, rfl, p1, n1, c1', rfl, e1, o1, m1⟩
      obtain rfl : n1 = 1024 := by rw [e1, HPG.out.len]
      have B1 := Lib.hid (own_page o1 (by omega) HPG.out.wf).1
      have M1 := Lib.hid m1
      clear e1 o1 m1
      go_wp2
      go_ret2
      exact .mk ⟨M1.out, by rw [if_pos HT.out, HSEEN.out]; exact ⟨_, _, rfl, B1.out⟩⟩
    | none =>
      rw [hl] at hhas hlast
      have HHAS : Hid (Maps.has DM (.int .i64 no) = false) := hhas
      obtain ⟨i, rfl⟩ : ∃ i : Nat, no = i := ⟨no.toNat, by omega⟩
      have hi : i < gs.length := by omega
      obtain ⟨g, hgdef⟩ : ∃ g, g = gs[i] := ⟨_, rfl⟩
      have HPG : Hid (BytesIn w g.p 1024 g.c g.l) := by rw [hgdef]; exact (hd.pg _ (List.getElem_mem hi)).io
      have HSEEN : Hid (k.seen i = g.l) := by unfold Hid Ck.seen; rw [hlast, hgdef, hd.safe_at hi]; rfl
      have hnil : Hid (g.p = none → 1024 = 0 ∧ g.c = 0) := fun he => by obtain ⟨b, o, hp, _⟩ := HPG.out.sl.addr (by omega); rw [he] at hp; cases hp
      have hs := (Sl.of_own hd.safe (pgs_one gs)).1
      obtain ⟨b, off, hp, _, hc⟩ := hs.addr (by omega)
      have hidx := fun W => Sl.idx (P := Tryz.prog) (cap := cS) Tryz.underlying23 (sizeSl) (fun h : 0 < gs.length => hp) W .i64 i hi
      have hcell : w.cell? ⟨b, off + i, none⟩ = some (.slice g.p 1024 g.c) := hc i _ (by rw [List.getElem?_map, List.getElem?_eq_getElem hi, hgdef]; rfl)
      rw [Nat.mul_one] at hidx
      clear hd hth hhas hlast hl hs hc hgdef
      go_enter Tryz.func37, Tryz.ntmps37
      go_wp2_with fail
      refine HTH.out.mono ?_
      rintro _ w1 ⟨_, rfl, rfl, rfl⟩
      go_wp2_with (first
        | (at_lookup; (refine wpList_lookup_own_ok _ rfl _ _ 68 rfl 3 40 lawInt Tryz.underlying68 heldR (zeroSl _) (.held (.slice none 0 0)) [] rfl M _ _ rfl HMAP.out _ _ rfl hkey ?_); intro v ps hv; (rw [HHAS.out]); clear hv)
        | fail)
      refine (clone_any g.p 1024 g.c g.l _ HPG.out.sl (by omega) hnil.out).mono ?_
      rintro _ w2 ⟨_, rfl, p1, n1, c1', rfl, e1, o1, m1⟩
      obtain rfl : n1 = 1024 := by rw [e1, HPG.out.len]
      have B1 := Lib.hid (own_page o1 (by omega) HPG.out.wf).1
      have M1 := Lib.hid m1
      clear e1 o1 m1
      go_wp2
      go_ret2
      exact .mk ⟨M1.out, by rw [if_pos HT.out, HSEEN.out]; exact ⟨_, _, rfl, B1.out⟩⟩
end Go.Proofs.YtgimdodbajhpoaaGreatDoor
namespace Go.Proofs.YtgimdodbajhpoaaGreatDoor
open Go.RowKit Go.Maps
set_option linter.unusedSimpArgs false
set_option linter.unusedVariables false

theorem fr_take {no : Int} {l : List Int} (h : l.length ≤ 1016) : (fr no l).take 1016 = pad 1016 l := by
  unfold fr fr0
  rw [List.append_assoc, List.take_append_of_le_length (by rw [pad_len h]; omega), List.take_of_length_le (by rw [pad_len h]; omega)]
theorem okPage_fr {no : Int} {l : List Int} (h : l.length ≤ 1016) (h0 : 0 ≤ no) (h1 : no ≤ 2147483647) : okPage no (fr no l) = true := by
  have hl := fr0_len (no := no) h
  have hc := crcv_range (fr0 no l)
  have e1 : (fr no l).drop 1020 = be 4 (crcv (fr0 no l)) := by
    unfold fr; rw [List.drop_append, List.drop_of_length_le (by rw [hl]; omega), hl]; rfl
  have e2 : (fr no l).take 1020 = fr0 no l := by
    unfold fr; rw [List.take_append_of_le_length (by rw [hl]; omega), List.take_of_length_le (by rw [hl]; omega)]
  have e3 : ((fr no l).drop 1016).take 4 = be 4 no := by
    unfold fr fr0
    rw [List.append_assoc, List.drop_append, List.drop_of_length_le (by rw [pad_len h]; omega), pad_len h]
    simp only [Nat.sub_self, List.drop_zero, List.nil_append]
    rw [List.take_append_of_le_length (by rw [be_len]; omega), List.take_of_length_le (by rw [be_len]; omega)]
  have u1 := un4_be [] (v := crcv (fr0 no l)) (by omega) (by omega)
  have u2 := un4_be [] (v := no) (by omega) (by omega)
  rw [List.append_nil] at u1 u2
  unfold okPage
  rw [e1, e2, e3, u1, u2]
  simp
end Go.Proofs.YtgimdodbajhpoaaGreatDoor
