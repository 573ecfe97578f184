/- A new disk. -/
import Derived.Test.YtgimdodbajhpoaaGreatDoorG25
import Derived.Test.YtgimdodbajhpoaaGreatDoorG20
namespace Go.Proofs.YtgimdodbajhpoaaGreatDoor
open Go.RowKit Go.Maps
set_option linter.unusedSimpArgs false
set_option linter.unusedVariables false

theorem PgIn.turn {w w' : World} {T S T' S' X : List Nat} {g : Pg} (h : PgIn w T S g) (hlt : ∀ b ∈ T, b < w.heap.size) (hm : Mod X w w') (hX : ∀ b ∈ X, b ∈ S ∨ w.heap.size ≤ b) (hT : ∀ b ∈ T, b ∈ T') (hS : ∀ b ∈ S', b ∈ S ∨ w.heap.size ≤ b) : PgIn w' T' S' g := by
  have h1 : PgIn w' T S g := h.mod hm fun b hb hs hx => (hX b hx).elim hs fun hle => by have := hlt b hb; omega
  exact ⟨h1.io, fun a ha => ⟨hT _ (h1.own a ha).1, fun hs => (hS _ hs).elim (h1.own a ha).2 fun hle => by have := hlt _ (h1.own a ha).1; omega⟩⟩

theorem DkIn.grow {w w' : World} {D : Nat} {T : List Nat} {k : Ck} {gs : List Pg} {ws : List (Int × Pg)} {vs vw : Value} {M : Nat} {DM : DataW Value} {S : List Nat} (h : DkIn w D T k gs ws vs vw M DM S) {g : Pg} {vs' : Value}
    (hm : Mod (D :: vs.ownBlock.toList) w w') (hat : w'.heap[D]? = some (.cells #[vs', vw, .map (some M), .int .i64 k.left, .bool k.down] 71 (0, 0)))
    (hrow : w'.ownsRow 0 40 1 vs' (gs.length + 1) ((gs ++ [g]).map Pg.val)) (hlies : ∀ b, vs'.ownBlock = some b → vs.ownBlock = some b ∨ w.heap.size ≤ b)
    (hg : BytesIn w' g.p 1024 g.c g.l) (hgo : ∀ a, g.p = some a → w.heap.size ≤ a.block ∧ vs'.ownBlock ≠ some a.block) (few : gs.length + 1 ≤ 2048) :
    ∃ T', DiskAt w' D T' ⟨k.safe ++ [g.l], k.wait, k.left, k.down⟩ ∧ ∀ b ∈ T', b ∈ T ∨ w.heap.size ≤ b := by
  have hS := h.hS
  have hX : ∀ b ∈ D :: vs.ownBlock.toList, b ∈ S ∨ w.heap.size ≤ b := by
    intro b hb; rw [hS]; simp only [List.mem_cons, Option.mem_toList] at hb
    rcases hb with rfl | hb
    · simp
    · left; simp only [List.mem_append, Option.mem_toList]; exact Or.inl (Or.inr hb)
  have hw : ∀ b ∈ vw.ownBlock, b ∉ D :: vs.ownBlock.toList := fun b hb hx => by
    simp only [List.mem_cons, Option.mem_toList] at hx
    rcases hx with rfl | hx
    · exact (h.block_wait _ hb).1 rfl
    · exact (h.block_safe b hx).2.2 hb
  have hM : M ∉ D :: vs.ownBlock.toList := fun hx => by
    simp only [List.mem_cons, Option.mem_toList] at hx
    rcases hx with hx | hx
    · exact h.ne hx.symm
    · exact (h.block_safe M hx).2.1 rfl
  obtain ⟨T', hT'⟩ : ∃ T', T' = T ++ vs'.ownBlock.toList ++ (g.p.map (·.block)).toList := ⟨_, rfl⟩
  obtain ⟨S', hS'⟩ : ∃ S', S' = [D, M] ++ vs'.ownBlock.toList ++ vw.ownBlock.toList := ⟨_, rfl⟩
  have hSS : ∀ b ∈ S', b ∈ S ∨ w.heap.size ≤ b := by
    intro b hb; rw [hS'] at hb; rw [hS]
    simp only [List.mem_append, Option.mem_toList] at hb ⊢
    rcases hb with (hb | hb) | hb
    · exact Or.inl (Or.inl (Or.inl hb))
    · rcases hlies b hb with h1 | h1
      · exact Or.inl (Or.inl (Or.inr h1))
      · exact Or.inr h1
    · exact Or.inl (Or.inr hb)
  have hTT : ∀ b ∈ T, b ∈ T' := fun b hb => by rw [hT']; simp [hb]
  have hpg : ∀ g', PgIn w T S g' → PgIn w' T' S' g' := fun g' hg' => hg'.turn h.lt hm hX hTT hSS
  refine ⟨T', ⟨gs ++ [g], ws, vs', vw, M, DM, S', hat, by simpa using hrow, ownsRow_mod h.wait hm hw, ownsMap_mod h.map hm hM, h.has, h.atk, by simp [h.gsl], h.wsl, ?_, ?_, hS', ?_, ?_, by simpa using few, h.left0, h.left1⟩, ?_⟩
  · intro g' hg'
    rcases List.mem_append.1 hg' with h1 | h1
    · exact hpg _ (h.pg _ h1)
    · obtain rfl : g' = g := by simpa using h1
      refine ⟨hg, fun a ha => ⟨by rw [hT', ha]; simp, fun hs => ?_⟩⟩
      obtain ⟨h2, h3⟩ := hgo a ha
      rw [hS'] at hs
      simp only [List.mem_append, Option.mem_toList] at hs
      rcases hs with (hs | hs) | hs
      · have h4 := h.sub a.block (by rw [hS]; simp only [List.mem_append]; exact Or.inl (Or.inl hs))
        have := h.lt _ h4; omega
      · exact h3 hs
      · have h4 := h.sub a.block (by rw [hS]; simp only [List.mem_append, Option.mem_toList]; exact Or.inr hs)
        have := h.lt _ h4; omega
  · intro x hx; exact ⟨hpg _ (h.pw x hx).1, (h.pw x hx).2.1, by have := (h.pw x hx).2.2; simp; omega⟩
  · intro b hb; rw [hS'] at hb; rw [hT']
    simp only [List.mem_append, Option.mem_toList] at hb ⊢
    rcases hb with (hb | hb) | hb
    · exact Or.inl (Or.inl (h.sub b (by rw [hS]; simp only [List.mem_append]; exact Or.inl (Or.inl hb))))
    · exact Or.inl (Or.inr hb)
    · exact Or.inl (Or.inl (h.sub b (by rw [hS]; simp only [List.mem_append, Option.mem_toList]; exact Or.inr hb)))
  · intro b hb; rw [hT'] at hb
    simp only [List.mem_append, Option.mem_toList, Option.map_eq_some_iff] at hb
    rcases hb with (hb | hb) | ⟨a, ha, rfl⟩
    · exact Nat.lt_of_lt_of_le (h.lt b hb) hm.size
    · exact own_lt hrow b hb
    · obtain ⟨b, o, hp, hlt, _⟩ := hg.sl.addr (by omega)
      rw [hp] at ha; cases ha; exact hlt
  · intro b hb; rw [hT'] at hb
    simp only [List.mem_append, Option.mem_toList, Option.map_eq_some_iff] at hb
    rcases hb with (hb | hb) | ⟨a, ha, rfl⟩
    · exact Or.inl hb
    · rcases hlies b hb with h1 | h1
      · exact Or.inl (h.sub b (by rw [hS]; simp only [List.mem_append, Option.mem_toList]; exact Or.inl (Or.inr h1)))
      · exact Or.inr h1
    · exact Or.inr (hgo a ha).1

theorem infoSl : (Tryz.prog.info? 40).map (fun i => (i.zero, i.size, i.bytes)) = some (some (.slice none 0 0), 1, 24) := by kernel_rfl
def ck0 (n : Nat) : Ck := ⟨List.replicate n (List.replicate 1024 0), [], 0, false⟩
def DNewR (n : Nat) (w : World) (v : Value) (w' : World) : Prop := ∃ D T, v = .pointer (some ⟨D, 0, none⟩) ∧ DiskAt w' D T (ck0 n) ∧ Mod [] w w' ∧ ∀ b ∈ T, w.heap.size ≤ b
set_option maxRecDepth 100000 in
set_option maxHeartbeats 4000000 in
theorem dnew_any (n : Int) (N : Nat) (w : World) (hN : (N : Int) = min (max n 0) 2048) : Calls Tryz.prog 8 #[.int .i64 n] w (Ret (DNewR N w)) := by
  obtain ⟨i0, hi0, hz0, hz1, hz2⟩ := info_parts infoSl
  obtain ⟨i1, hi1, hy0, hy1, hy2⟩ := info_parts infoU8
  obtain ⟨Z, hZ⟩ : ∃ Z, Z = List.replicate 1024 (0 : Int) := ⟨_, rfl⟩
  have hmk : ∀ W : World, (Instr.makeSlice 40 (.int .i64 1024) (.int .i64 1024)).run Tryz.prog W = .ok (.slice (some ⟨W.heap.size, 0, none⟩) 1024 1024) (W.alloc (.cells (bs Z).toArray 5)) := fun W => by
    have h := run_makeSlice (P := Tryz.prog) W 40 5 i1 (.int .u8 0) Tryz.underlying40 hi1 hy0 .i64 .i64 1024 1024 (by omega) (by omega) (by rw [hy1]; decide) (by rw [hy2]; decide) (by decide)
    rw [h, hy1, hZ]
    simp only [show Int.toNat 1024 = 1024 from rfl, Nat.mul_one]
    rw [show (Value.int IntKind.u8 0).cells = #[Value.int IntKind.u8 0] from rfl, madeCells_one, bs_replicate]
  have hZl : Hid (Z.length = 1024) := by unfold Hid; rw [hZ, List.length_replicate]
  have HZ := Lib.hid hZ
  have hmm := @run_makeMap Tryz.prog
  clear hZ
  have hcase : (0 ≤ n ∧ n ≤ 2048 ∧ (N : Int) = n) ∨ (0 ≤ n ∧ 2048 < n ∧ N = 2048) ∨ (n < 0 ∧ N = 0) := by omega
  have hNle : N ≤ 2048 := by omega
  clear hN
  have hp0 : DiskAt ((w.alloc (.map #[] 0)).alloc (.cells #[.slice none 0 0, .slice none 0 0, .map (some w.heap.size), .int .i64 0, .bool false] 71)) (w.heap.size + 1) [w.heap.size + 1, w.heap.size] (ck0 0) := by
    refine ⟨[], [], .slice none 0 0, .slice none 0 0, w.heap.size, .map [], [w.heap.size + 1, w.heap.size], at_alloc' _ _ (by simp), World.ownsRow_nil _ _ _ _, World.ownsRow_nil _ _ _ _, ?_, fun x => rfl, fun x g hg => by simp [Ck.lastOf] at hg, rfl, rfl, by simp, by simp, rfl, fun b hb => hb, fun b hb => ?_, by simp, by simp [ck0], by simp [ck0]⟩
    · exact ownsMap_mod (World.ownsMap_made w _ _ _) (Mod.of_alloc _ _) (by simp)
    · simp at hb ⊢; omega
  have hm0 : Mod [] w ((w.alloc (.map #[] 0)).alloc (.cells #[.slice none 0 0, .slice none 0 0, .map (some w.heap.size), .int .i64 0, .bool false] 71)) := (Mod.refl [] w).alloc.alloc
  have HP0 := Lib.hid hp0
  have HM0 := Lib.hid hm0
  clear hp0 hm0
  rcases hcase with ⟨q1, q2, q3⟩ | ⟨q1, q2, q3⟩ | ⟨q1, q3⟩
  all_goals
    go_enter Tryz.func8, Tryz.ntmps8
    go_wp2
    go_loopw [10] (fun i wr => ∃ (k : Nat) (T : List Nat), k ≤ N ∧ i = .int .i64 k ∧ DiskAt wr (w.heap.size + 1) T (ck0 k) ∧ (∀ b ∈ T, w.heap.size ≤ b) ∧ Mod [] w wr) (fun i _ => N - (intOf i).toNat)
    case atStart => exact ⟨0, _, by omega, rfl, HP0.out, by simp, HM0.out⟩
    case round =>
      obtain ⟨k, T, hk, rfl, hd, hT, hmd⟩ := hrel
      have HT := Lib.hid hT
      have HMD := Lib.hid hmd
      clear hT hmd HP0 HM0
      by_cases hlt : k < N
      · first
          | (exfalso; omega)
          | (obtain ⟨gs, ws, vs, vw, M, DM, S, hd⟩ := hd
             have hgl : gs.length = k := by rw [hd.len.1]; simp [ck0]
             obtain ⟨pS, cS, rfl, _⟩ := own_shape hd.safe
             rw [hgl] at hd
             have c0 : wr.cell? ⟨w.heap.size + 1, 0, none⟩ = some (.slice pS k cS) := cell_of_at hd.at_ 0
             have f0 : wr.frozen? ⟨w.heap.size + 1, 0, none⟩ = false := free_of_at hd.at_ 0
             have HD := Lib.hid hd
             have hDlt := lt_of_at hd.at_
             have hrow : wr.ownsRow 0 40 1 (.slice pS k cS) k (gs.map Pg.val) := by have h1 := hd.safe; rw [hgl] at h1; exact h1
             have HROW := Lib.hid hrow
             have HGL := Lib.hid hgl
             clear hd hrow
             go_wp2
             refine AnyT.start (S := fun w' => w'.cell? ⟨w.heap.size + 1, 0, none⟩ = some (.slice pS k cS) ∧ w'.frozen? ⟨w.heap.size + 1, 0, none⟩ = false) (by kernel_rfl) ⟨c0, f0⟩ (fun hS => ?_)
             refine AnyT.take (i := 0) (k := 8) (v := ?_) rfl (by kernel_rfl) (fun _ _ _ h => h) hS (Or.inl ⟨by rfl, fun w' hw' => ?_⟩) ?_
             rotate_left
             · go_simp
               try rfl
             simp only [Act.put, List.setIfInBounds_toArray, List.set_cons_zero, List.set_cons_succ]
             refine AnyT.take (i := 1) (k := 2) (v := ?_) rfl (by kernel_rfl) (fun _ _ _ h => h) hS (Or.inl ⟨by rfl, fun w' hw' => ?_⟩) ?_
             rotate_left
             · go_simp
               try rfl
             simp only [Act.put, List.setIfInBounds_toArray, List.set_cons_zero, List.set_cons_succ]
             refine AnyT.take (i := 2) (k := 3) (v := ?_) rfl (by kernel_rfl) (fun _ _ _ h => h) hS (Or.inl ⟨by rfl, fun w' hw' => ?_⟩) ?_
             rotate_left
             · go_simp
               try rfl
             simp only [Act.put, List.setIfInBounds_toArray, List.set_cons_zero, List.set_cons_succ]
             refine AnyT.take (i := 3) (k := 4) (v := ?_) rfl (by kernel_rfl) (fun _ _ _ h => h) hS (Or.inl ⟨by rfl, fun w' hw' => ?_⟩) ?_
             rotate_left
             · go_simp
               try rfl
             simp only [Act.put, List.setIfInBounds_toArray, List.set_cons_zero, List.set_cons_succ]
             refine AnyT.take (i := 4) (k := 7) (v := ?_) rfl (by kernel_rfl) (fun _ _ _ h => h) hS (Or.inl ⟨by rfl, fun w' hw' => ?_⟩) ?_
             rotate_left
             · go_simp
               try rfl
             simp only [Act.put, List.setIfInBounds_toArray, List.set_cons_zero, List.set_cons_succ]
             have hm1 : Mod [] wr (wr.drew.alloc (.cells (bs Z).toArray 5)) := (Mod.refl [] wr).drew.alloc
             have HM1 := Lib.hid hm1
             have HA1 : Hid ((wr.drew.alloc (.cells (bs Z).toArray 5)).heap[wr.heap.size]? = some (.cells (bs Z).toArray 5 (0, 0))) := at_alloc wr.drew _
             clear hm1
             refine AnyT.run (i := 5) (by kernel_rfl) rfl rfl (fun K hK => ?_)
             go_simp
             refine hK _ _ (fun _ => ⟨(HM1.out.cell (a := ⟨w.heap.size + 1, 0, none⟩) hDlt (by simp)).trans c0, (HM1.out.frozen (a := ⟨w.heap.size + 1, 0, none⟩) hDlt (by simp)).trans f0⟩) ?_
             clear hK K
             have hm2 : Mod [] wr ((wr.alloc (.cells (bs Z).toArray 5)).alloc (.cells #[.slice (some ⟨wr.heap.size, 0, none⟩) 1024 1024] 40)).drew := ((Mod.refl [] wr).alloc.alloc).drew
             have HM2 := Lib.hid hm2
             have HSRC : Hid (Sl ((wr.alloc (.cells (bs Z).toArray 5)).alloc (.cells #[.slice (some ⟨wr.heap.size, 0, none⟩) 1024 1024] 40)).drew 1 (some ⟨wr.heap.size + 1, 0, none⟩) 1 1 [.slice (some ⟨wr.heap.size, 0, none⟩) 1024 1024]) := by
               have h1 := (Sl.one_new (wr.alloc (.cells (bs Z).toArray 5)) (.slice (some ⟨wr.heap.size, 0, none⟩) 1024 1024) 40 rfl).mod (Mod.of_drew _) (by simp)
               rw [show ((wr.alloc (.cells (bs Z).toArray 5))).heap.size = wr.heap.size + 1 from by simp] at h1
               exact h1
             have HA2 : Hid ((((wr.alloc (.cells (bs Z).toArray 5)).alloc (.cells #[.slice (some ⟨wr.heap.size, 0, none⟩) 1024 1024] 40)).drew).heap[wr.heap.size]? = some (.cells (bs Z).toArray 5 (0, 0))) := (Mod.of_drew _).at (at_alloc_other (at_alloc wr _) _) (by simp)
             have hsz : (((wr.alloc (.cells (bs Z).toArray 5)).alloc (.cells #[.slice (some ⟨wr.heap.size, 0, none⟩) 1024 1024] 40)).drew).heap.size = wr.heap.size + 2 := by simp
             have HSZ := Lib.hid hsz
             clear hm2 hsz HM1 HA1
             refine AnyT.run (i := 6) (by kernel_rfl) rfl rfl (fun K hK => ?_)
             go_simp
             refine hK _ _ (fun _ => ⟨(HM2.out.cell (a := ⟨w.heap.size + 1, 0, none⟩) hDlt (by simp)).trans c0, (HM2.out.frozen (a := ⟨w.heap.size + 1, 0, none⟩) hDlt (by simp)).trans f0⟩) ?_
             clear hK K
             generalize ((wr.alloc (.cells (bs Z).toArray 5)).alloc (.cells #[.slice (some ⟨wr.heap.size, 0, none⟩) 1024 1024] 40)).drew = W2 at *
             refine AnyT.one (i := 7) (by kernel_rfl) rfl (fun K hK => ?_)
             refine step_append_src _ rfl _ _ _ rfl 0 40 i0 _ 1 24 Tryz.underlying23 hi0 hz0 hz1 hz2 rfl (by omega) (.slice pS k cS) k _ rfl (ownsRow_mod HROW.out HM2.out (by simp)) _ _ _ _ rfl HSRC.out (k + 1) (by omega) (by unfold maxLen; omega) (by omega) (by omega) ?_
             intro p3 c3 w3 hown3 hgrow3 _ hlie3
             have hX : w.heap.size + 1 ∉ (Value.slice pS k cS).ownBlock.toList := fun hx => (HD.out.block_safe _ (by simpa using hx)).1 rfl
             have hm3 : Mod (Value.slice pS k cS).ownBlock.toList wr w3 := (HM2.out.mono (by simp)).same (Mod.of_grown' hgrow3)
             have hS3 : w3.cell? ⟨w.heap.size + 1, 0, none⟩ = some (.slice pS k cS) ∧ w3.frozen? ⟨w.heap.size + 1, 0, none⟩ = false := ⟨(hm3.cell (a := ⟨w.heap.size + 1, 0, none⟩) hDlt hX).trans c0, (hm3.frozen (a := ⟨w.heap.size + 1, 0, none⟩) hDlt hX).trans f0⟩
             have hgo : some wr.heap.size ≠ (Value.slice pS k cS).ownBlock := fun he => by have := own_lt HROW.out wr.heap.size he.symm; omega
             have HA3 : Hid (w3.heap[wr.heap.size]? = some (.cells (bs Z).toArray 5 (0, 0))) := (Mod.of_grown' hgrow3).at HA2.out (by simpa using fun he => hgo (Eq.symm he))
             refine hK _ _ (fun _ => hS3) ?_
             clear hK K hS
             have hS := hS3
             have HM3 := Lib.hid hm3
             have HO3 := Lib.hid hown3
             have HL3 := Lib.hid hlie3
             have HG3 := Lib.hid hgrow3
             have HX := Lib.hid hX
             clear hm3 hown3 hlie3 hgrow3 hX hgo
             refine AnyT.take (i := 8) (k := 9) (v := ?_) rfl (by kernel_rfl) (fun _ _ _ h => h) hS (Or.inl ⟨by rfl, fun w' hw' => ?_⟩) ?_
             rotate_left
             · go_simp
               try rfl
             simp only [Act.put, List.setIfInBounds_toArray, List.set_cons_zero, List.set_cons_succ]
             refine AnyT.take (i := 9) (k := 10) (v := ?_) rfl (by kernel_rfl) (fun _ _ _ h => h) hS (Or.inl ⟨by rfl, fun w' hw' => ?_⟩) ?_
             rotate_left
             · go_simp
               try rfl
             simp only [Act.put, List.setIfInBounds_toArray, List.set_cons_zero, List.set_cons_succ]
             obtain ⟨hS0, hS1⟩ := hS3
             clear hS
             refine AnyT.run (i := 10) (by kernel_rfl) rfl rfl (fun K hK => ?_)
             go_simp
             refine hK _ _ (fun h => absurd h (by rw [show more _ _ = false from by kernel_rfl]; decide)) ?_
             clear hK K
             refine AnyT.done (by kernel_rfl) ?_ _
             have hm3 := HM3.out
             have hD3 := hm3.at HD.out.at_ HX.out
             have hne3 : ∀ b, (Value.slice p3 (k + 1) c3).ownBlock = some b → b ≠ w.heap.size + 1 := fun b hb he => by
               subst he
               rcases HL3.out with h1 | h1
               · rw [h1] at hb; exact HX.out (by simpa using hb)
               · rw [h1] at hb; have h2 := Option.some.inj hb; have := HSZ.out; omega
             have hmX : Mod ((w.heap.size + 1) :: (Value.slice pS k cS).ownBlock.toList) wr (w3.setCell ⟨w.heap.size + 1, 0, none⟩ (.slice p3 (k + 1) c3)) := (hm3.mono (fun b hb => Or.inl (List.mem_cons_of_mem _ hb))).setCell (Or.inl (by simp))
             obtain ⟨T2, hd2, hT2⟩ := HD.out.grow (w' := w3.setCell ⟨w.heap.size + 1, 0, none⟩ (.slice p3 (k + 1) c3)) (g := ⟨some ⟨wr.heap.size, 0, none⟩, 1024, Z⟩) (vs' := .slice p3 (k + 1) c3) hmX
               (by rw [at_setCell hD3]; rfl) (by
                 have h1 := ownsRow_mod HO3.out (Mod.of_setCell w3 (w.heap.size + 1) 0 (.slice p3 (k + 1) c3)) (fun b hb => by simpa using hne3 b hb)
                 rw [HGL.out]; simpa [Pg.val] using h1)
               (fun b hb => by
                 rcases HL3.out with h1 | h1
                 · left; rw [← h1]; exact hb
                 · right; rw [h1] at hb; have h2 := Option.some.inj hb; have := HSZ.out; omega)
               (by
                 have hat := (Mod.of_setCell w3 (w.heap.size + 1) 0 (.slice p3 (k + 1) c3)).at HA3.out (by simp; omega)
                 exact ⟨⟨by rw [bs_len, hZl.out], Nat.le_refl _, by simp [maxLen], bs_one _, wr.heap.size, 0, fun _ => ⟨rfl, lt_of_at hat⟩, fun j u hj => by rw [cell_of_at hat, Nat.zero_add, List.getElem?_toArray]; exact hj⟩, fun x hx => by rw [HZ.out] at hx; rw [List.eq_of_mem_replicate hx]; omega⟩)
               (fun a ha => by
                 cases ha
                 refine ⟨Nat.le_refl _, fun he => ?_⟩
                 rcases HL3.out with h1 | h1
                 · rw [h1] at he; have h3 : wr.heap.size < wr.heap.size := own_lt HROW.out wr.heap.size he; omega
                 · rw [h1] at he; simp only [Option.some.injEq] at he; have := HSZ.out; omega) (by rw [HGL.out]; omega)
             have hd3 : DiskAt (w3.setCell ⟨w.heap.size + 1, 0, none⟩ (.slice p3 (k + 1) c3)) (w.heap.size + 1) T2 (ck0 (k + 1)) := by
               have he : (⟨(ck0 k).safe ++ [Z], (ck0 k).wait, (ck0 k).left, (ck0 k).down⟩ : Ck) = ck0 (k + 1) := by
                 simp only [ck0, List.replicate_succ', HZ.out]
               rw [← he]; exact hd2
             have HD3 := Lib.hid hd3
             have hsz3 : wr.heap.size ≤ (w3.setCell ⟨w.heap.size + 1, 0, none⟩ (.slice p3 (k + 1) c3)).heap.size := hmX.size
             have hM4 : Mod [] w (w3.setCell ⟨w.heap.size + 1, 0, none⟩ (.slice p3 (k + 1) c3)) := by
               refine HMD.out.trans hmX (fun b hb => Or.inr ?_)
               rcases List.mem_cons.1 hb with rfl | hb
               · omega
               · exact HT.out b (HD.out.sub b (by rw [HD.out.hS]; simp only [List.mem_append]; exact Or.inl (Or.inr hb)))
             have HM4 := Lib.hid hM4
             have HT2 : Hid (∀ b ∈ T2, w.heap.size ≤ b) := fun b hb => (hT2 b hb).elim (HT.out b) (fun h1 => Nat.le_trans HMD.out.size h1)
             have hwr : IntKind.i64.wrap ((k : Int) + 1) = (k : Int) + 1 := IntWalk.i64_in _ (by omega)
             clear hmX hd3 hM4 hd2 hT2 hne3 hD3 hm3 hS0 hS1 hmk hmm c0 f0
             generalize w3.setCell ⟨w.heap.size + 1, 0, none⟩ (.slice p3 (k + 1) c3) = w4 at *
             go_wp2
             go_roundw
             case rel => exact ⟨k + 1, T2, by omega, by go_num, HD3.out, HT2.out, HM4.out⟩
             case measure => simp [intOf]; omega
             )
      · have HK : Hid (k = N) := by unfold Hid; omega
        have HDD := Lib.hid hd
        clear hd hmk hmm
        go_wp2
        go_ret
        exact .mk ⟨_, T, rfl, by rw [← HK.out]; exact HDD.out, HMD.out, HT.out⟩
end Go.Proofs.YtgimdodbajhpoaaGreatDoor
