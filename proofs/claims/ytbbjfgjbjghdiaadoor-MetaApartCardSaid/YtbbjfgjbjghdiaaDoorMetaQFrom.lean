/- The document's meta: read from its page. -/
import Derived.Test.YtbbjfgjbjghdiaaDoorMetaFrom
import Derived.Test.YtbbjfgjbjghdiaaDoorMetaQ
namespace Go.Proofs.YtbbjfgjbjghdiaaDoor
open Go.RowKit Go.Maps
set_option linter.unusedSimpArgs false
set_option linter.unusedVariables false

set_option maxRecDepth 100000 in
set_option maxHeartbeats 4000000 in
theorem qfromm_any (p : Option Addr) (n c : Nat) (l : List Int) (w : World) (h : BytesIn w p n c l) :
    Calls Tryd.prog 15 #[.slice p n c] w (Ret (FromMR l w)) := by
  have hln := h.len
  have hcm := h.sl.capm; have hle := h.sl.le
  unfold maxLen at hcm
  have HM0 : Hid (Mod [] w (w.alloc (.cells #[.int .u64 0, .int .i64 0, .int .i64 0, .int .i64 0] 24))) := Mod.of_alloc w _
  have HAT0 : Hid ((w.alloc (.cells #[.int .u64 0, .int .i64 0, .int .i64 0, .int .i64 0] 24)).heap[w.heap.size]? = some (Obj.cells #[.int .u64 0, .int .i64 0, .int .i64 0, .int .i64 0] 24 (0, 0))) := at_alloc w _
  have H := Lib.hid h
  have HLN := Lib.hid hln
  clear h hln
  by_cases h16 : n = 1016
  · subst h16
    have HWF := Lib.hid H.out.wf
    obtain ⟨B, off, rfl, hBlt, hcs⟩ := H.out.sl.addr (by omega)
    clear hcs
    obtain ⟨p4, r4, b4⟩ := H.out.sub Tryd.underlying25 sizeBytes 4 12 8 rfl (by omega)
    obtain ⟨p12, r12, b12⟩ := H.out.from_ Tryd.underlying25 sizeBytes 12 (by omega)
    obtain ⟨p16, r16, b16⟩ := H.out.from_ Tryd.underlying25 sizeBytes 16 (by omega)
    obtain ⟨p20, r20, b20⟩ := H.out.from_ Tryd.underlying25 sizeBytes 20 (by omega)
    simp only [show ((4 : Nat) : Int) = 4 from rfl, show ((12 : Nat) : Int) = 12 from rfl, show ((16 : Nat) : Int) = 16 from rfl, show ((20 : Nat) : Int) = 20 from rfl] at r4 r12 r16 r20
    have HB4 := Lib.hid b4
    have HB12' := Lib.hid b12
    have HB16' := Lib.hid b16
    have HB20' := Lib.hid b20
    clear b4 b12 b16 b20
    go_enter Tryd.func15, Tryd.ntmps15
    go_wp2_with fail
    refine (qunkey_any p4 _ _ _ _ (HB4.out.mod HM0.out (by simp))).mono ?_
    rintro _ w2 ⟨_, rfl, rfl, hw2⟩
    rw [if_pos rfl]
    have HM2 : Hid (Mod [] w w2) := by rw [hw2]; exact HM0.out
    have HAT2 : Hid (w2.heap[w.heap.size]? = some (Obj.cells #[.int .u64 0, .int .i64 0, .int .i64 0, .int .i64 0] 24 (0, 0))) := by rw [hw2]; exact HAT0.out
    have HRD : Hid (rdM l = ⟨un ((l.drop 4).take 8), un4 (l.drop 12) 4, un4 (l.drop 16) 4, un4 (l.drop 20) 4⟩) := rfl
    have HB12 := Lib.hid (HB12'.out.mod (HM2.out.drew) (by simp))
    have HB16 := Lib.hid (HB16'.out.mod (HM2.out.drew) (by simp))
    have HB20 := Lib.hid (HB20'.out.mod (HM2.out.drew) (by simp))
    have x12 := un4_range (l := l.drop 12) (fun x hx => HWF.out x (List.mem_of_mem_drop hx)) 4
    have x16 := un4_range (l := l.drop 16) (fun x hx => HWF.out x (List.mem_of_mem_drop hx)) 4
    have x20 := un4_range (l := l.drop 20) (fun x hx => HWF.out x (List.mem_of_mem_drop hx)) 4
    have xg := unkey_range (a := 4) HWF.out
    generalize un ((l.drop 4).take 8) = G at *
    clear hw2
    go_wp2
    generalize hX12 : un4 (l.drop 12) 4 = X12 at *
    generalize hX16 : un4 (l.drop 16) 4 = X16 at *
    generalize hX20 : un4 (l.drop 20) 4 = X20 at *
    have HX12 := Lib.hid hX12
    have HX16 := Lib.hid hX16
    have HX20 := Lib.hid hX20
    have y12 : 0 ≤ X12 ∧ X12 < 4294967296 := x12
    have y16 : 0 ≤ X16 ∧ X16 < 4294967296 := x16
    have y20 : 0 ≤ X20 ∧ X20 < 4294967296 := x20
    have w12 : IntKind.i64.wrap X12 = X12 := IntWalk.i64_in _ (by omega)
    have w16 : IntKind.i64.wrap X16 = X16 := IntWalk.i64_in _ (by omega)
    have w20 : IntKind.i64.wrap X20 = X20 := IntWalk.i64_in _ (by omega)
    clear hX12 hX16 hX20 x12 x16 x20 HB12' HB16' HB20' HM0 HAT0
    refine par_region (by kernel_rfl) (fromVal (.slice (some ⟨B, off, none⟩) 1016 c) p12 p16 p20 c G X12 X16 X20 w2.heap.size) (fun w' => Mod [] w2.drew w') (by kernel_rfl) ?_ ⟨⟨⟨⟨⟨⟨⟨⟨⟨⟨⟨⟨⟨⟨⟨⟨trivial, ?_⟩, ?_⟩, ?_⟩, ?_⟩, ?_⟩, ?_⟩, ?_⟩, ?_⟩, ?_⟩, ?_⟩, ?_⟩, ?_⟩, ?_⟩, ?_⟩, ?_⟩, ?_⟩ (Mod.refl [] _) ?_
    · intro j vs vs' w o ho h1 h2 h3
      unfold fromVal at h3 ⊢
      split at h3
      all_goals first
        | exact trivial
        | (rw [← h1]; exact h3)
        | (obtain rfl := Option.some.inj ho
           have e := h2 { on := 14, ground := Ground.data } (by simp) rfl
           simp only at e
           rw [← e]; exact h3)
    · -- 0
      intro o ho listed vs a w' inv hun haft K hK
      obtain rfl := Option.some.inj ho
      refine par_run rfl ?_
      have e4 := inv.old 4 (by kernel_rfl)
      have INV := Lib.hid inv
      clear inv haft hun ho
      simp at e4
      go_simp
      exact hK _ _ INV.out.inv INV.out.val rfl
    · -- 1
      intro o ho listed vs a w' inv hun haft K hK
      obtain rfl := Option.some.inj ho
      refine par_run rfl ?_
      have e0 := inv.old 0 (by kernel_rfl)
      have INV := Lib.hid inv
      clear inv haft hun ho
      simp at e0
      go_simp
      exact hK _ _ INV.out.inv INV.out.val rfl
    · -- 2
      intro o ho listed vs a w' inv hun haft K hK
      obtain rfl := Option.some.inj ho
      refine par_run rfl ?_
      obtain ⟨e19, r19⟩ := inv.get haft 1 19 (by kernel_rfl) (by kernel_rfl)
      have INV := Lib.hid inv
      clear inv haft hun ho
      change vs 1 = .slice (some ⟨B, off, none⟩) 1016 c at r19
      rw [r19] at e19
      go_simp
      exact hK _ _ INV.out.inv INV.out.val rfl
    · -- 3
      intro o ho listed vs a w' inv hun haft K hK
      obtain rfl := Option.some.inj ho
      refine par_run rfl ?_
      obtain ⟨e20, r20⟩ := inv.get haft 2 20 (by kernel_rfl) (by kernel_rfl)
      have INV := Lib.hid inv
      clear inv haft hun ho
      change vs 2 = .slice p12 (1016 - 12) (c - 12) at r20
      rw [r20] at e20
      go_simp
      refine (qget32_any p12 _ _ _ _ (HB12.out.mod INV.out.inv (by simp))).mono ?_
      rintro _ w3 ⟨_, rfl, rfl, rfl⟩
      exact hK _ _ INV.out.inv INV.out.val (congrArg (Value.int .u32) HX12.out)
    · -- 4
      intro o ho listed vs a w' inv hun haft K hK
      obtain rfl := Option.some.inj ho
      refine par_run rfl ?_
      obtain ⟨e21, r21⟩ := inv.get haft 3 21 (by kernel_rfl) (by kernel_rfl)
      have INV := Lib.hid inv
      clear inv haft hun ho
      change vs 3 = .int .u32 X12 at r21
      rw [r21] at e21
      go_simp
      exact hK _ _ INV.out.inv INV.out.val rfl
    · -- 5
      intro o ho listed vs a w' inv hun haft K hK
      obtain rfl := Option.some.inj ho
      refine par_run rfl ?_
      have e0 := inv.old 0 (by kernel_rfl)
      have INV := Lib.hid inv
      clear inv haft hun ho
      simp at e0
      go_simp
      exact hK _ _ INV.out.inv INV.out.val rfl
    · -- 6
      intro o ho listed vs a w' inv hun haft K hK
      obtain rfl := Option.some.inj ho
      refine par_run rfl ?_
      obtain ⟨e23, r23⟩ := inv.get haft 5 23 (by kernel_rfl) (by kernel_rfl)
      have INV := Lib.hid inv
      clear inv haft hun ho
      change vs 5 = .slice (some ⟨B, off, none⟩) 1016 c at r23
      rw [r23] at e23
      go_simp
      exact hK _ _ INV.out.inv INV.out.val rfl
    · -- 7
      intro o ho listed vs a w' inv hun haft K hK
      obtain rfl := Option.some.inj ho
      refine par_run rfl ?_
      obtain ⟨e24, r24⟩ := inv.get haft 6 24 (by kernel_rfl) (by kernel_rfl)
      have INV := Lib.hid inv
      clear inv haft hun ho
      change vs 6 = .slice p16 (1016 - 16) (c - 16) at r24
      rw [r24] at e24
      go_simp
      refine (qget32_any p16 _ _ _ _ (HB16.out.mod INV.out.inv (by simp))).mono ?_
      rintro _ w3 ⟨_, rfl, rfl, rfl⟩
      exact hK _ _ INV.out.inv INV.out.val (congrArg (Value.int .u32) HX16.out)
    · -- 8
      intro o ho listed vs a w' inv hun haft K hK
      obtain rfl := Option.some.inj ho
      refine par_run rfl ?_
      obtain ⟨e25, r25⟩ := inv.get haft 7 25 (by kernel_rfl) (by kernel_rfl)
      have INV := Lib.hid inv
      clear inv haft hun ho
      change vs 7 = .int .u32 X16 at r25
      rw [r25] at e25
      go_simp
      exact hK _ _ INV.out.inv INV.out.val rfl
    · -- 9
      intro o ho listed vs a w' inv hun haft K hK
      obtain rfl := Option.some.inj ho
      refine par_run rfl ?_
      have e0 := inv.old 0 (by kernel_rfl)
      have INV := Lib.hid inv
      clear inv haft hun ho
      simp at e0
      go_simp
      exact hK _ _ INV.out.inv INV.out.val rfl
    · -- 10
      intro o ho listed vs a w' inv hun haft K hK
      obtain rfl := Option.some.inj ho
      refine par_run rfl ?_
      obtain ⟨e27, r27⟩ := inv.get haft 9 27 (by kernel_rfl) (by kernel_rfl)
      have INV := Lib.hid inv
      clear inv haft hun ho
      change vs 9 = .slice (some ⟨B, off, none⟩) 1016 c at r27
      rw [r27] at e27
      go_simp
      exact hK _ _ INV.out.inv INV.out.val rfl
    · -- 11
      intro o ho listed vs a w' inv hun haft K hK
      obtain rfl := Option.some.inj ho
      refine par_run rfl ?_
      obtain ⟨e28, r28⟩ := inv.get haft 10 28 (by kernel_rfl) (by kernel_rfl)
      have INV := Lib.hid inv
      clear inv haft hun ho
      change vs 10 = .slice p20 (1016 - 20) (c - 20) at r28
      rw [r28] at e28
      go_simp
      refine (qget32_any p20 _ _ _ _ (HB20.out.mod INV.out.inv (by simp))).mono ?_
      rintro _ w3 ⟨_, rfl, rfl, rfl⟩
      exact hK _ _ INV.out.inv INV.out.val (congrArg (Value.int .u32) HX20.out)
    · -- 12
      intro o ho listed vs a w' inv hun haft K hK
      obtain rfl := Option.some.inj ho
      refine par_run rfl ?_
      obtain ⟨e29, r29⟩ := inv.get haft 11 29 (by kernel_rfl) (by kernel_rfl)
      have INV := Lib.hid inv
      clear inv haft hun ho
      change vs 11 = .int .u32 X20 at r29
      rw [r29] at e29
      go_simp
      exact hK _ _ INV.out.inv INV.out.val rfl
    · -- 13
      intro o ho listed vs a w' inv hun haft K hK
      obtain rfl := Option.some.inj ho
      refine par_run rfl ?_
      obtain ⟨e18, r18⟩ := inv.get haft 0 18 (by kernel_rfl) (by kernel_rfl)
      obtain ⟨e22, r22⟩ := inv.get haft 4 22 (by kernel_rfl) (by kernel_rfl)
      obtain ⟨e26, r26⟩ := inv.get haft 8 26 (by kernel_rfl) (by kernel_rfl)
      obtain ⟨e30, r30⟩ := inv.get haft 12 30 (by kernel_rfl) (by kernel_rfl)
      have INV := Lib.hid inv
      clear inv haft hun ho
      change vs 0 = .int .u64 G at r18
      change vs 4 = .int .i64 X12 at r22
      change vs 8 = .int .i64 X16 at r26
      change vs 12 = .int .i64 X20 at r30
      rw [r18] at e18
      rw [r22] at e22
      rw [r26] at e26
      rw [r30] at e30
      replace e18 := getD_opt e18
      replace e22 := getD_opt e22
      replace e26 := getD_opt e26
      replace e30 := getD_opt e30
      go_simp
      exact hK _ _ INV.out.inv INV.out.val rfl
    · -- 14
      intro o ho listed vs a w' inv hun haft K hK
      obtain rfl := Option.some.inj ho
      refine par_run rfl ?_
      have INV := Lib.hid inv
      clear inv haft hun ho
      go_simp
      exact hK _ _ INV.out.inv.alloc (fun j hj hl => fromR_mod (Mod.of_alloc _ _) (INV.out.val j hj hl)) ⟨w'.heap.size, rfl, INV.out.inv.size, Or.inl (at_alloc w' _)⟩
    · -- 15
      intro o ho listed vs a w' inv hun haft K hK
      obtain rfl := Option.some.inj ho
      refine par_run rfl ?_
      obtain ⟨e6, r6⟩ := inv.get haft 14 6 (by kernel_rfl) (by kernel_rfl)
      obtain ⟨e31, r31⟩ := inv.get haft 13 31 (by kernel_rfl) (by kernel_rfl)
      have INV := Lib.hid inv
      clear inv haft hun ho
      obtain ⟨b, h6, hb, hat⟩ := r6
      change vs 13 = .agg #[.int .u64 G, .int .i64 X12, .int .i64 X16, .int .i64 X20] at r31
      rw [r31] at e31
      have E6 := Lib.hid e6
      rw [h6] at e6
      have H6 := Lib.hid h6
      have HB0 := Lib.hid hb
      clear r31 h6 hb
      obtain ⟨z0, z1, z2, z3, hat⟩ : ∃ z0 z1 z2 z3, w'.heap[b]? = some (Obj.cells #[z0, z1, z2, z3] 24 (0, 0)) := by
        rcases hat with h | h <;> exact ⟨_, _, _, _, h⟩
      have c0 : w'.cell? ⟨b, 0, none⟩ = some z0 := cell_of_at hat 0
      have c1 : w'.cell? ⟨b, 1, none⟩ = some z1 := cell_of_at hat 1
      have c2 : w'.cell? ⟨b, 2, none⟩ = some z2 := cell_of_at hat 2
      have c3 : w'.cell? ⟨b, 3, none⟩ = some z3 := cell_of_at hat 3
      have f0 : w'.frozen? ⟨b, 0, none⟩ = false := free_of_at hat 0
      have f1 : w'.frozen? ⟨b, 1, none⟩ = false := free_of_at hat 1
      have f2 : w'.frozen? ⟨b, 2, none⟩ = false := free_of_at hat 2
      have f3 : w'.frozen? ⟨b, 3, none⟩ = false := free_of_at hat 3
      have HAT := Lib.hid hat
      clear hat
      go_simp
      have h1 := at_setCell (at_setCell (at_setCell (at_setCell HAT.out 0 (.int .u64 G)) 1 (.int .i64 X12)) 2 (.int .i64 X16)) 3 (.int .i64 X20)
      have hmd : Mod [b] w' _ := (((Mod.of_setCell w' b 0 (.int .u64 G)).same (Mod.of_setCell _ b 1 (.int .i64 X12))).same (Mod.of_setCell _ b 2 (.int .i64 X16))).same (Mod.of_setCell _ b 3 (.int .i64 X20))
      exact hK undef _ (INV.out.inv.trans hmd (fun x hx => Or.inr (by simp at hx; rw [hx]; exact HB0.out))) (fun j hj hl => fromR_store H6.out h1 (INV.out.val j hj hl)) ⟨b, H6.out, HB0.out, h1⟩
    · intro vs w5 X hm hr hslot hold hsize hdef
      obtain ⟨b, hb6, hbA, hat5⟩ := hr 15 (by decide)
      have e6 := hslot 14 6 (by kernel_rfl)
      rw [hb6] at e6
      have e0 := hold 0 (by kernel_rfl)
      have e2 := hold 2 (by kernel_rfl)
      have e32 := hold 32 (by kernel_rfl)
      have e33 := hold 33 (by kernel_rfl)
      have e34 := hold 34 (by kernel_rfl)
      have e35 := hold 35 (by kernel_rfl)
      have e36 := hold 36 (by kernel_rfl)
      have e37 := hold 37 (by kernel_rfl)
      have e38 := hold 38 (by kernel_rfl)
      have e39 := hold 39 (by kernel_rfl)
      have e40 := hold 40 (by kernel_rfl)
      have e41 := hold 41 (by kernel_rfl)
      have e42 := hold 42 (by kernel_rfl)
      have e43 := hold 43 (by kernel_rfl)
      have e44 := hold 44 (by kernel_rfl)
      have e45 := hold 45 (by kernel_rfl)
      have e46 := hold 46 (by kernel_rfl)
      have e47 := hold 47 (by kernel_rfl)
      have e48 := hold 48 (by kernel_rfl)
      have e49 := hold 49 (by kernel_rfl)
      have e7 := hold 7 (by kernel_rfl)
      clear hr hslot hold hb6
      obtain ⟨⟨xs⟩, df⟩ := X
      replace hdef : df = [] := hdef
      subst hdef
      replace hsize : xs.length = 50 := hsize
      obtain ⟨v0, xs0, rfl, hs0⟩ := cons_of hsize
      obtain ⟨v1, xs1, rfl, hs1⟩ := cons_of hs0
      obtain ⟨v2, xs2, rfl, hs2⟩ := cons_of hs1
      obtain ⟨v3, xs3, rfl, hs3⟩ := cons_of hs2
      obtain ⟨v4, xs4, rfl, hs4⟩ := cons_of hs3
      obtain ⟨v5, xs5, rfl, hs5⟩ := cons_of hs4
      obtain ⟨v6, xs6, rfl, hs6⟩ := cons_of hs5
      obtain ⟨v7, xs7, rfl, hs7⟩ := cons_of hs6
      obtain ⟨v8, xs8, rfl, hs8⟩ := cons_of hs7
      obtain ⟨v9, xs9, rfl, hs9⟩ := cons_of hs8
      obtain ⟨v10, xs10, rfl, hs10⟩ := cons_of hs9
      obtain ⟨v11, xs11, rfl, hs11⟩ := cons_of hs10
      obtain ⟨v12, xs12, rfl, hs12⟩ := cons_of hs11
      obtain ⟨v13, xs13, rfl, hs13⟩ := cons_of hs12
      obtain ⟨v14, xs14, rfl, hs14⟩ := cons_of hs13
      obtain ⟨v15, xs15, rfl, hs15⟩ := cons_of hs14
      obtain ⟨v16, xs16, rfl, hs16⟩ := cons_of hs15
      obtain ⟨v17, xs17, rfl, hs17⟩ := cons_of hs16
      obtain ⟨v18, xs18, rfl, hs18⟩ := cons_of hs17
      obtain ⟨v19, xs19, rfl, hs19⟩ := cons_of hs18
      obtain ⟨v20, xs20, rfl, hs20⟩ := cons_of hs19
      obtain ⟨v21, xs21, rfl, hs21⟩ := cons_of hs20
      obtain ⟨v22, xs22, rfl, hs22⟩ := cons_of hs21
      obtain ⟨v23, xs23, rfl, hs23⟩ := cons_of hs22
      obtain ⟨v24, xs24, rfl, hs24⟩ := cons_of hs23
      obtain ⟨v25, xs25, rfl, hs25⟩ := cons_of hs24
      obtain ⟨v26, xs26, rfl, hs26⟩ := cons_of hs25
      obtain ⟨v27, xs27, rfl, hs27⟩ := cons_of hs26
      obtain ⟨v28, xs28, rfl, hs28⟩ := cons_of hs27
      obtain ⟨v29, xs29, rfl, hs29⟩ := cons_of hs28
      obtain ⟨v30, xs30, rfl, hs30⟩ := cons_of hs29
      obtain ⟨v31, xs31, rfl, hs31⟩ := cons_of hs30
      obtain ⟨v32, xs32, rfl, hs32⟩ := cons_of hs31
      obtain ⟨v33, xs33, rfl, hs33⟩ := cons_of hs32
      obtain ⟨v34, xs34, rfl, hs34⟩ := cons_of hs33
      obtain ⟨v35, xs35, rfl, hs35⟩ := cons_of hs34
      obtain ⟨v36, xs36, rfl, hs36⟩ := cons_of hs35
      obtain ⟨v37, xs37, rfl, hs37⟩ := cons_of hs36
      obtain ⟨v38, xs38, rfl, hs38⟩ := cons_of hs37
      obtain ⟨v39, xs39, rfl, hs39⟩ := cons_of hs38
      obtain ⟨v40, xs40, rfl, hs40⟩ := cons_of hs39
      obtain ⟨v41, xs41, rfl, hs41⟩ := cons_of hs40
      obtain ⟨v42, xs42, rfl, hs42⟩ := cons_of hs41
      obtain ⟨v43, xs43, rfl, hs43⟩ := cons_of hs42
      obtain ⟨v44, xs44, rfl, hs44⟩ := cons_of hs43
      obtain ⟨v45, xs45, rfl, hs45⟩ := cons_of hs44
      obtain ⟨v46, xs46, rfl, hs46⟩ := cons_of hs45
      obtain ⟨v47, xs47, rfl, hs47⟩ := cons_of hs46
      obtain ⟨v48, xs48, rfl, hs48⟩ := cons_of hs47
      obtain ⟨v49, xs49, rfl, hs49⟩ := cons_of hs48
      obtain rfl := List.eq_nil_of_length_eq_zero hs49
      clear hsize hs0 hs1 hs2 hs3 hs4 hs5 hs6 hs7 hs8 hs9 hs10 hs11 hs12 hs13 hs14 hs15 hs16 hs17 hs18 hs19 hs20 hs21 hs22 hs23 hs24 hs25 hs26 hs27 hs28 hs29 hs30 hs31 hs32 hs33 hs34 hs35 hs36 hs37 hs38 hs39 hs40 hs41 hs42 hs43 hs44 hs45 hs46 hs47 hs48 hs49
      change v0 = .slice (some ⟨B, off, none⟩) 1016 c at e0
      change v2 = .pointer (some ⟨w.heap.size, 0, none⟩) at e2
      change v6 = _ at e6
      change v32 = undef at e32
      change v33 = undef at e33
      change v34 = undef at e34
      change v35 = undef at e35
      change v36 = undef at e36
      change v37 = undef at e37
      change v38 = undef at e38
      change v39 = undef at e39
      change v40 = undef at e40
      change v41 = undef at e41
      change v42 = undef at e42
      change v43 = undef at e43
      change v44 = undef at e44
      change v45 = undef at e45
      change v46 = undef at e46
      change v47 = undef at e47
      change v48 = undef at e48
      change v49 = undef at e49
      change v7 = undef at e7
      subst e6 e0 e2 e7 e32 e33 e34 e35 e36 e37 e38 e39 e40 e41 e42 e43 e44 e45 e46 e47 e48 e49
      have M5 : Hid (Mod [] w w5) := HM2.out.drew.same hm
      have HAT5 : Hid (w5.heap[w.heap.size]? = some (Obj.cells #[.int .u64 0, .int .i64 0, .int .i64 0, .int .i64 0] 24 (0, 0))) := hm.at (w := w2.drew) HAT2.out (by simp)
      have hb5 := lt_of_at hat5
      have k0 : w5.cell? ⟨b, 0, none⟩ = some (.int .u64 G) := cell_of_at hat5 0
      have k1 : w5.cell? ⟨b, 1, none⟩ = some (.int .i64 X12) := cell_of_at hat5 1
      have k2 : w5.cell? ⟨b, 2, none⟩ = some (.int .i64 X16) := cell_of_at hat5 2
      have k3 : w5.cell? ⟨b, 3, none⟩ = some (.int .i64 X20) := cell_of_at hat5 3
      have HR2 : Hid (rdM l = ⟨G, X12, X16, X20⟩) := HRD.out
      have HA5 : Hid (w.heap.size < w2.heap.size) := lt_of_at HAT2.out
      have HBA : Hid (w2.heap.size ≤ b) := hbA
      clear hm hat5 hbA HAT2 HM2 HB12 HB16 HB20
      generalize hmt : Mt.mk G X12 X16 X20 = M at *
      have hmc : M.cells = #[.int .u64 G, .int .i64 X12, .int .i64 X16, .int .i64 X20] := by rw [← hmt]; rfl
      have HMC := Lib.hid hmc
      have HPAY : ∀ W, Calls Tryd.prog 13 #[.agg #[.int .u64 G, .int .i64 X12, .int .i64 X16, .int .i64 X20]] W (Ret (PayT (payM M) W)) := fun W => by rw [← HMC.out]; exact qpaym_any M W
      have HMB := Lib.hid (payM_nil (m := M))
      have HPL := Lib.hid (payM_len M)
      have HPB : Hid (M.may = true → payM M = M.bytes) := fun h => if_pos h
      clear hmc hmt
      go_wp2_with fail
      refine (HPAY _).mono ?_
      rintro _ w7 ⟨_, rfl, p7, n7, c7, rfl, e7', nil7, t7, m7⟩
      have M7 : Hid (Mod [] w5 w7) := m7
      have T7 := Lib.hid t7
      have E7 := Lib.hid e7'
      have HK0 := Lib.hid k0
      have HK1 := Lib.hid k1
      have HK2 := Lib.hid k2
      have HK3 := Lib.hid k3
      clear nil7 t7 m7 e7' HPAY k0 k1 k2 k3
      rcases Nat.eq_zero_or_pos n7 with h7 | h7
      · have HE : Hid (fromM l = (⟨0, 0, 0, 0⟩, 5)) := fromM_bad (by
          rintro ⟨_, h⟩
          unfold goodM at h
          rw [HR2.out, HMB.out.1 (List.eq_nil_of_length_eq_zero (by rw [← E7.out]; exact h7))] at h
          simp at h)
        subst h7
        have h9 := (M7.out.at HAT5.out (by simp))
        have z0 : w7.cell? ⟨w.heap.size, 0, none⟩ = some (.int .u64 0) := cell_of_at h9 0
        have z1 : w7.cell? ⟨w.heap.size, 1, none⟩ = some (.int .i64 0) := cell_of_at h9 1
        have z2 : w7.cell? ⟨w.heap.size, 2, none⟩ = some (.int .i64 0) := cell_of_at h9 2
        have z3 : w7.cell? ⟨w.heap.size, 3, none⟩ = some (.int .i64 0) := cell_of_at h9 3
        have y0 : w7.frozen? ⟨w.heap.size, 0, none⟩ = false := free_of_at h9 0
        have y1 : w7.frozen? ⟨w.heap.size, 1, none⟩ = false := free_of_at h9 1
        have y2 : w7.frozen? ⟨w.heap.size, 2, none⟩ = false := free_of_at h9 2
        have y3 : w7.frozen? ⟨w.heap.size, 3, none⟩ = false := free_of_at h9 3
        clear h9
        go_wp2
        refine bodyPost_ret (v := .tuple #[.agg #[.int .u64 0, .int .i64 0, .int .i64 0, .int .i64 0], .int .i64 5]) ?_ rfl ?_
        · rw [results_cell_tmp rfl]; go_simp
        · exact .mk ⟨by rw [HE.out]; rfl, (by first | exact res4 (M5.out.same M7.out) | exact M5.out.same M7.out)⟩
      · have hne : ((n7 : Int) == 0) = false := by simp; omega
        have hmay : Hid (M.may = true) := by
          unfold Hid
          cases hm : M.may
          · exfalso
            have := HMB.out.2 hm
            have h2 := E7.out
            rw [this] at h2; simp at h2; omega
          · rfl
        have HPM := Lib.hid (HPB.out hmay.out)
        have E24 : Hid (n7 = 24) := by unfold Hid; rw [E7.out, HPM.out, Mt.bytes_len]
        rw [HPM.out] at T7
        obtain ⟨j0, hj0, hjz0, hjs, hjb⟩ := info_parts infoU8
        have hbase : Hid (w5.heap.size ≤ w5.heap.size) := Nat.le_refl _
        obtain ⟨BS, hBS⟩ : ∃ BS, BS = w5.heap.size := ⟨_, rfl⟩
        have hB5 : b < BS := by rw [hBS]; exact hb5
        have hW5 : w.heap.size < BS := by have := HA5.out; have := HBA.out; omega
        have HBS := Lib.hid hBS
        rw [← hBS] at T7
        clear hBS r4 r12 r16 r20
        have hn24 : n7 ≤ 1016 := by have := E24.out; omega
        go_wp2
        go_loopw [7] (fun o wz => ∃ (m e : Nat) (u : Option Addr), m ≤ 1016 ∧ o = .slice u m e ∧ n7 ≤ m ∧ Tl wz BS 1 u m e (bs (M.bytes ++ List.replicate (m - n7) 0)) ∧ Mod [] w5 wz) (fun o _ => match o with | .slice _ m _ => 1016 - m | _ => 0)
        case atStart => exact ⟨n7, c7, p7, hn24, rfl, Nat.le_refl _, by simpa using T7.out, M7.out⟩
        case round =>
          clear T7 M7
          obtain ⟨m, e, u, hm, rfl, hnm, ht, hmd⟩ := hrel
          have OT := Lib.hid ht
          have MC := Lib.hid hmd
          clear ht hmd
          by_cases hlt : m < 1016
          · have OT2 : Hid (Tl (wr.alloc (.cells #[.int .u8 0] 5)) BS 1 u m e (bs (M.bytes ++ List.replicate (m - n7) 0))) := OT.out.mod (Mod.of_alloc wr _) (by simp)
            have MC2 : Hid (Mod [] w5 (wr.alloc (.cells #[.int .u8 0] 5))) := MC.out.alloc
            have HS5 : Hid (Sl (wr.alloc (.cells #[.int .u8 0] 5)) 1 (some ⟨wr.heap.size, 0, none⟩) 1 1 [.int .u8 0]) := Sl.one_new wr _ _ rfl
            have hs2 : BS ≤ (wr.alloc (.cells #[.int .u8 0] 5)).heap.size := by rw [HBS.out]; exact MC2.out.size
            go_wp2_with (first
              | (at_builtin; go_must (refine wpList_append_tl _ rfl _ _ _ rfl BS 5 j0 _ 1 1 Tryd.underlying25 hj0 hjz0 hjs hjb rfl (by omega) _ _ _ _ rfl OT2.out _ _ _ _ rfl HS5.out (m + 1) rfl (by unfold maxLen; omega) (by omega) hs2 ?_); intro p9 c9 w9 ht9 hm9 hnil9 hor9; (have OT9 := Lib.hid ht9); (have MC9 := Lib.hid (OT2.out.turned (w2 := w) (w0 := w5) HBS.out.symm hm9 MC2.out)); clear ht9 hm9 hnil9 hor9)
              | go_in)
            go_roundw
            case rel => exact ⟨m + 1, c9, p9, by omega, rfl, by omega, by
              have := OT9.out
              rw [show m + 1 - n7 = (m - n7) + 1 from by omega, List.replicate_succ', ← List.append_assoc, bs_append]
              exact this, MC9.out⟩
            case measure => show 1016 - (m + 1) < 1016 - m; omega
          · obtain rfl : m = 1016 := by omega
            have HPAD : Hid (M.bytes ++ List.replicate (1016 - n7) 0 = pad 1016 M.bytes) := by unfold Hid pad; rw [Mt.bytes_len, E24.out]
            rw [HPAD.out] at OT
            have HB1 := Lib.hid (H.out.sl.mod (M5.out.same MC.out) (by simp))
            go_wp2_with fail
            refine (qsame_any _ _ _ _ _ _ (pad 1016 M.bytes) l _ OT.out.sl HB1.out).mono ?_
            rintro _ w10 ⟨_, rfl, rfl, hm10⟩
            have MC10 : Hid (Mod [] w5 w10) := MC.out.same hm10
            clear hm10
            obtain ⟨D, hD⟩ : ∃ D, D = decide (pad 1016 M.bytes = l) := ⟨_, rfl⟩
            rw [← hD]
            have HD := Lib.hid hD
            clear hD
            cases D with
            | false =>
              have HE : Hid (fromM l = (⟨0, 0, 0, 0⟩, 5)) := fromM_bad (by
                rintro ⟨_, h⟩
                unfold goodM at h
                rw [HR2.out, ← HD.out] at h
                simp at h)
              have h9 := (MC10.out.at HAT5.out (by simp))
              have z0 : w10.cell? ⟨w.heap.size, 0, none⟩ = some (.int .u64 0) := cell_of_at h9 0
              have z1 : w10.cell? ⟨w.heap.size, 1, none⟩ = some (.int .i64 0) := cell_of_at h9 1
              have z2 : w10.cell? ⟨w.heap.size, 2, none⟩ = some (.int .i64 0) := cell_of_at h9 2
              have z3 : w10.cell? ⟨w.heap.size, 3, none⟩ = some (.int .i64 0) := cell_of_at h9 3
              have y0 : w10.frozen? ⟨w.heap.size, 0, none⟩ = false := free_of_at h9 0
              have y1 : w10.frozen? ⟨w.heap.size, 1, none⟩ = false := free_of_at h9 1
              have y2 : w10.frozen? ⟨w.heap.size, 2, none⟩ = false := free_of_at h9 2
              have y3 : w10.frozen? ⟨w.heap.size, 3, none⟩ = false := free_of_at h9 3
              clear h9
              go_wp2
              refine bodyPost_ret (v := .tuple #[.agg #[.int .u64 0, .int .i64 0, .int .i64 0, .int .i64 0], .int .i64 5]) ?_ rfl ?_
              · rw [results_cell_tmp rfl]; go_simp
              · exact .mk ⟨by rw [HE.out]; rfl, (by first | exact res4 (M5.out.same MC10.out) | exact M5.out.same MC10.out)⟩
            | true =>
              have HE : Hid (fromM l = (M, 0)) := by
                unfold Hid
                rw [fromM_good HLN.out (by unfold goodM; rw [HR2.out, hmay.out, ← HD.out]; rfl), HR2.out]
              have h9 := (MC10.out.at HAT5.out (by simp))
              have z0 : w10.cell? ⟨w.heap.size, 0, none⟩ = some (.int .u64 0) := cell_of_at h9 0
              have z1 : w10.cell? ⟨w.heap.size, 1, none⟩ = some (.int .i64 0) := cell_of_at h9 1
              have z2 : w10.cell? ⟨w.heap.size, 2, none⟩ = some (.int .i64 0) := cell_of_at h9 2
              have z3 : w10.cell? ⟨w.heap.size, 3, none⟩ = some (.int .i64 0) := cell_of_at h9 3
              have y0 : w10.frozen? ⟨w.heap.size, 0, none⟩ = false := free_of_at h9 0
              have y1 : w10.frozen? ⟨w.heap.size, 1, none⟩ = false := free_of_at h9 1
              have y2 : w10.frozen? ⟨w.heap.size, 2, none⟩ = false := free_of_at h9 2
              have y3 : w10.frozen? ⟨w.heap.size, 3, none⟩ = false := free_of_at h9 3
              clear h9
              have k0 : w10.cell? ⟨b, 0, none⟩ = some (.int .u64 G) := (MC10.out.cell (a := ⟨b, 0, none⟩) (by rw [← HBS.out]; exact hB5) (by simp)).trans HK0.out
              have k1 : w10.cell? ⟨b, 1, none⟩ = some (.int .i64 X12) := (MC10.out.cell (a := ⟨b, 1, none⟩) (by rw [← HBS.out]; exact hB5) (by simp)).trans HK1.out
              have k2 : w10.cell? ⟨b, 2, none⟩ = some (.int .i64 X16) := (MC10.out.cell (a := ⟨b, 2, none⟩) (by rw [← HBS.out]; exact hB5) (by simp)).trans HK2.out
              have k3 : w10.cell? ⟨b, 3, none⟩ = some (.int .i64 X20) := (MC10.out.cell (a := ⟨b, 3, none⟩) (by rw [← HBS.out]; exact hB5) (by simp)).trans HK3.out
              go_wp2
              refine bodyPost_ret (v := .tuple #[.agg #[.int .u64 G, .int .i64 X12, .int .i64 X16, .int .i64 X20], .int .i64 0]) ?_ rfl ?_
              · rw [results_cell_tmp rfl]; go_simp
              · exact .mk ⟨by rw [HE.out]; simp only [HMC.out], (by first | exact res4 (M5.out.same MC10.out) | exact M5.out.same MC10.out)⟩
  · have HE : Hid (fromM l = (⟨0, 0, 0, 0⟩, 5)) := fromM_bad (by rw [HLN.out]; exact fun h => h16 h.1)
    have hne : ((n : Int) != 1016) = true := by simp; omega
    have h9 := HAT0.out
    have z0 : (w.alloc (.cells #[.int .u64 0, .int .i64 0, .int .i64 0, .int .i64 0] 24)).cell? ⟨w.heap.size, 0, none⟩ = some (.int .u64 0) := cell_of_at h9 0
    have z1 : (w.alloc (.cells #[.int .u64 0, .int .i64 0, .int .i64 0, .int .i64 0] 24)).cell? ⟨w.heap.size, 1, none⟩ = some (.int .i64 0) := cell_of_at h9 1
    have z2 : (w.alloc (.cells #[.int .u64 0, .int .i64 0, .int .i64 0, .int .i64 0] 24)).cell? ⟨w.heap.size, 2, none⟩ = some (.int .i64 0) := cell_of_at h9 2
    have z3 : (w.alloc (.cells #[.int .u64 0, .int .i64 0, .int .i64 0, .int .i64 0] 24)).cell? ⟨w.heap.size, 3, none⟩ = some (.int .i64 0) := cell_of_at h9 3
    have y0 : (w.alloc (.cells #[.int .u64 0, .int .i64 0, .int .i64 0, .int .i64 0] 24)).frozen? ⟨w.heap.size, 0, none⟩ = false := free_of_at h9 0
    have y1 : (w.alloc (.cells #[.int .u64 0, .int .i64 0, .int .i64 0, .int .i64 0] 24)).frozen? ⟨w.heap.size, 1, none⟩ = false := free_of_at h9 1
    have y2 : (w.alloc (.cells #[.int .u64 0, .int .i64 0, .int .i64 0, .int .i64 0] 24)).frozen? ⟨w.heap.size, 2, none⟩ = false := free_of_at h9 2
    have y3 : (w.alloc (.cells #[.int .u64 0, .int .i64 0, .int .i64 0, .int .i64 0] 24)).frozen? ⟨w.heap.size, 3, none⟩ = false := free_of_at h9 3
    clear h9
    clear h16
    go_enter Tryd.func15, Tryd.ntmps15
    go_wp2
    refine bodyPost_ret (v := .tuple #[.agg #[.int .u64 0, .int .i64 0, .int .i64 0, .int .i64 0], .int .i64 5]) ?_ rfl ?_
    · rw [results_cell_tmp rfl]; go_simp
    · exact .mk ⟨by rw [HE.out]; rfl, (by first | exact res4 HM0.out | exact HM0.out)⟩
end Go.Proofs.YtbbjfgjbjghdiaaDoor
