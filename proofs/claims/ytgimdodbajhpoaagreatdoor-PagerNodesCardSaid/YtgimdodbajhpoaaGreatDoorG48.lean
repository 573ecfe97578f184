/- The document's Pay of a branch. -/
import Derived.Test.YtgimdodbajhpoaaGreatDoorG47
namespace Go.Proofs.YtgimdodbajhpoaaGreatDoor
open Go.RowKit Go.Maps
set_option linter.unusedSimpArgs false
set_option linter.unusedVariables false

theorem mayBr_keys {ks : List (List Int)} {kids : List Int} (h : mayBr ks kids = true) : ks.length ≤ 400 ∧ kids.length = ks.length + 1 ∧ (∀ x ∈ kids, 2 ≤ x ∧ x ≤ 2147483647) ∧ ∀ i k, ks[i]? = some k → 1 ≤ k.length ∧ k.length ≤ 100 ∧ (brBody ks kids i).length ≤ 1013 := by
  obtain ⟨h1, h2, h3, h4⟩ := mayBr_spec h
  refine ⟨?_, h2, h3, fun i k hk => ⟨(riseL_key h1 (List.mem_of_getElem? hk)).1, (riseL_key h1 (List.mem_of_getElem? hk)).2, ?_⟩⟩
  · have := ksum_len ks; unfold brLen at h4; omega
  · rw [brBody_len ks kids i (by have := (List.getElem?_eq_some_iff.1 hk).1; omega)]
    have e : ksum ks = ksum (ks.take i) + ksum (ks.drop i) := by rw [← ksum_append, List.take_append_drop]
    unfold brLen at h4; omega
set_option maxRecDepth 100000 in
set_option maxHeartbeats 8000000 in
theorem qpay_br (cp : Option Addr) (cn cc : Nat) (xs : List Cv) (kp : Option Addr) (kn kc : Nat) (ks : List Bv) (qp : Option Addr) (qn qc : Nat) (kids : List Int) (w : World) (h : NdIn w true cp cn cc xs kp kn kc ks qp qn qc kids) (hsm : csz xs + kz ks + kids.length ≤ 5000) (hmay : mayBr (ks.map Bv.l) kids = true) :
    Calls Tryz.prog 15 #[.agg #[.bool true, .slice cp cn cc, .slice kp kn kc, .slice qp qn qc]] w (Ret (QPayR (payBr (ks.map Bv.l) kids) w)) := by
  have hkl := h.keys.len
  have hql : kids.length = qn := by have := h.kids.len; simpa using this
  obtain ⟨hkn, hkk, hkr, hkeys⟩ := mayBr_keys hmay
  rw [List.length_map, hkl] at hkn hkk
  have HPV : Hid (payBr (ks.map Bv.l) kids = brHead (ks.map Bv.l) kids ++ brBody (ks.map Bv.l) kids kn) := by unfold Hid payBr brBytes; rw [if_pos hmay, List.length_map, hkl]
  obtain ⟨W0, hW0⟩ : ∃ W0, W0 = w.alloc (.cells #[.bool true, .slice cp cn cc, .slice kp kn kc, .slice qp qn qc] 26) := ⟨_, rfl⟩
  have HM0 : Hid (Mod [] w W0) := by rw [hW0]; exact Mod.of_alloc w _
  have HA0 : Hid (W0.heap[w.heap.size]? = some (.cells #[.bool true, .slice cp cn cc, .slice kp kn kc, .slice qp qn qc] 26 (0, 0))) := by rw [hW0]; exact at_alloc w _
  have HMAY := Lib.hid (qmay_br cp cn cc xs kp kn kc ks qp qn qc kids W0 (h.mod0 HM0.out) hsm)
  rw [hmay] at HMAY
  unfold BoolM at HMAY
  obtain ⟨b2, off2, hp2, hcs2⟩ := h.keys.sl.at_
  have hidx2 := fun W => Sl.idx (P := Tryz.prog) (cap := kc) Tryz.underlying23 sizeRows (fun h => (hp2 h).1) W .i64
  simp only [Nat.mul_one] at hidx2
  have HLT2 : Hid (0 < kn → b2 < w.heap.size) := fun h => (hp2 h).2
  have HG2 : Hid (∀ i, i < kn → ∃ kp kn kc kl, (ks.map Bv.l)[i]? = some kl ∧ BytesIn w kp kn kc kl ∧ w.cell? ⟨b2, off2 + i, none⟩ = some (.slice kp kn kc)) := fun i hi => by
    obtain ⟨kp, kn, kc, kl, hx, h1, h2, d0⟩ := h.keys.get hcs2 i hi
    exact ⟨kp, kn, kc, kl, by rw [List.getElem?_map, hx]; rfl, (h.keys.io _ (List.mem_of_getElem? hx)), d0⟩
  obtain ⟨b3, off3, hp3, hcs3⟩ := h.kids.at_
  have hidx3 := fun W => Sl.idx (P := Tryz.prog) (cap := qc) Tryz.underlying24 sizeKids (fun h => (hp3 h).1) W .i64
  simp only [Nat.mul_one] at hidx3
  have HLT3 : Hid (b3 < w.heap.size) := (hp3 (by omega)).2
  have HG3 : Hid (∀ i, i < qn → ∃ x, kids[i]? = some x ∧ (2 ≤ x ∧ x ≤ 2147483647) ∧ kids.getD i 0 = x ∧ w.cell? ⟨b3, off3 + i, none⟩ = some (.int .i64 x)) := fun i hi => by
    have hk : i < kids.length := by omega
    exact ⟨_, List.getElem?_eq_getElem hk, hkr _ (List.getElem_mem hk), getD_at hk, hcs3 i _ (by rw [List.getElem?_map, List.getElem?_eq_getElem hk]; rfl)⟩
  have HCS := Lib.hid hkeys
  have HKL : Hid ((ks.map Bv.l).length = kn) := by unfold Hid; rw [List.length_map, hkl]
  have HQK : Hid (qn = kn + 1) := by unfold Hid; omega
  have hq0 : 0 < qn := by omega
  generalize ks.map Bv.l = ls at *
  have HWS : Hid (W0.heap.size = w.heap.size + 1) := by rw [hW0]; unfold Hid; simp
  clear h hp2 hcs2 hsm hkl hkeys hmay hp3 hcs3 hkr hkk hql
  obtain ⟨x0, hx0, hx0r, hx0g, e30⟩ := HG3.out 0 hq0
  have HX0 := Lib.hid hx0g
  obtain ⟨hx01, hx02⟩ := hx0r
  have hidx30 := fun W => hidx3 W 0 hq0
  simp only [Nat.add_zero, Int.ofNat_zero] at hidx30
  rw [Nat.add_zero] at e30
  have E30 := Lib.hid e30
  clear hx0 hx0g e30
  go_enter Tryz.func15, Tryz.ntmps15
  go_wp2_with fail
  rw [← hW0]
  clear hW0
  refine HMAY.out.mono ?_
  rintro _ w1 ⟨_, rfl, rfl, m1⟩
  have M1 := Lib.hid m1
  have HA1 := Lib.hid (m1.at HA0.out (by simp))
  have HAW : Hid (w.heap.size = w.heap.size) := rfl
  obtain ⟨A, hA⟩ : ∃ A, A = w.heap.size := ⟨_, rfl⟩
  have hlt := lt_of_at HA1.out
  rw [← hA] at HA1 HWS hlt ⊢
  have d0 : w1.cell? ⟨A, 0, none⟩ = some (.bool true) := cell_of_at HA1.out 0
  have d2 : w1.cell? ⟨A, 2, none⟩ = some (.slice kp kn kc) := cell_of_at HA1.out 2
  have OT : Hid (Tl (w1.alloc (.cells #[.int .u8 2] 5)) w1.heap.size 1 (some ⟨w1.heap.size, 0, none⟩) 1 1 (bs [2])) := Tl.of_own (own_row w1 (bs [2]) 5 w1.heap.size (Nat.le_refl _) (by rw [bs_len]; simp [maxLen])) (bs_one _)
  replace HAW := Lib.hid hA
  have HA0W : Hid (W0.heap[A]? = some (.cells #[.bool true, .slice cp cn cc, .slice kp kn kc, .slice qp qn qc] 26 (0, 0))) := by rw [hA]; exact HA0.out
  clear m1 HMAY HA0 hA
  go_wp2_with (first
    | (go_at_call 32; refine (qbigt_any (kn : Int) 2 _ (by omega) (by omega) (Or.inl rfl)).mono ?_; rintro _ w2 ⟨_, rfl, pb, cb, rfl, tb, mb⟩
       obtain ⟨pa, ca, wa, hra, hta, hma, -, -⟩ := app_bytes w2 w1.heap.size (some ⟨w1.heap.size, 0, none⟩) 1 1 [2] (OT.out.mod mb (by simp)) pb 2 cb (be 2 (kn : Int)) tb.sl (by omega) (by have := mb.size; simp at this; omega)
       have HTA := Lib.hid hta
       have HMA : Hid (Mod [] w1 wa) := ((Mod.of_alloc w1 _).same mb).trans hma (by simp)
       have f3 : wa.cell? ⟨A, 3, none⟩ = some (.slice qp qn qc) := cell_of_at (HMA.out.at HA1.out (by simp)) 3
       have E3 : wa.cell? ⟨b3, off3, none⟩ = some (.int .i64 x0) := (((HM0.out.same M1.out).same HMA.out).cell (a := ⟨b3, off3, none⟩) HLT3.out (by simp)).trans E30.out
       clear tb mb hta hma)
    | (go_at_call 32; refine (qbigt_any x0 4 wa (by omega) (by omega) (Or.inr rfl)).mono ?_; rintro _ w3 ⟨_, rfl, pc, cc3, rfl, tc, mc⟩
       obtain ⟨pd, cd, wd, hrd, htd, hmd, -, -⟩ := app_bytes w3 w1.heap.size pa 3 ca _ (HTA.out.mod mc (by simp)) pc 4 cc3 (be 4 x0) tc.sl (by omega) (by have := HMA.out.size; have := mc.size; omega)
       have HTD := Lib.hid htd
       have HMD : Hid (Mod [] w1 wd) := (HTA.out.mod mc (by simp)).turned (w2 := w) rfl hmd (HMA.out.same mc)
       clear tc mc htd hmd)
    | (at_builtin; refine wpList_append_run rfl _ _ _ _ rfl _ _ _ _ rfl rfl hra ?_)
    | (at_builtin; refine wpList_append_run rfl _ _ _ _ rfl _ _ _ _ rfl rfl hrd ?_)
    | fail)
  have HBH : Hid (brHead ls kids = 2 :: (be 2 (kn : Int) ++ be 4 x0)) := by unfold Hid brHead; rw [HKL.out, HX0.out]
  have HT0 : Hid (Tl wd (A + 1) 1 pd 7 cd (bs (brHead ls kids ++ brBody ls kids 0))) := by
    have h1 := HTD.out.base_le (show A + 1 ≤ w1.heap.size by have := M1.out.size; have := HWS.out; omega)
    rw [HBH.out]
    simpa [Hid, brBody] using h1
  have HATD := Lib.hid (HMD.out.at HA1.out (by simp))
  have HM0D : Hid (Mod [] W0 wd) := M1.out.same HMD.out
  clear hra hrd HTA HTD HMA HMD OT d0 d2 HA1 hlt f3 E3
  go_loopw [3, 4] (fun ov iv wr => ∃ (i m d : Nat) (o : Option Addr), i ≤ kn ∧ iv = .int .i64 i ∧ ov = .slice o m d ∧ m = 7 + (brBody ls kids i).length ∧ Tl wr (A + 1) 1 o m d (bs (brHead ls kids ++ brBody ls kids i)) ∧ wr.heap[A]? = some (.cells #[.bool true, .slice cp cn cc, .slice kp kn kc, .slice qp qn qc] 26 (0, 0)) ∧ Mod [] W0 wr) (fun _ iv _ => kn - (intOf iv).toNat)
  case atStart => exact ⟨0, 7, cd, pd, Nat.zero_le _, rfl, rfl, by simp [brBody], HT0.out, HATD.out, HM0D.out⟩
  case round =>
    clear HT0 HATD HM0D
    obtain ⟨i, m, d, o, hi, rfl, rfl, hm, ht, hat, hmd⟩ := hrel
    have g2 : wr.cell? ⟨A, 2, none⟩ = some (.slice kp kn kc) := cell_of_at hat 2
    have HAT := Lib.hid hat
    have HM := Lib.hid hmd
    have OT := Lib.hid ht
    have HML := Lib.hid hm
    clear hmd ht hm hat
    by_cases hlt : i < kn
    · obtain ⟨xp, xn, xc, xl, hx, hbx, e0⟩ := HG2.out i hlt
      have hbl := HLT2.out (by omega)
      have HMw : Hid (Mod [] w wr) := HM0.out.same HM.out
      rw [← HMw.out.cell (a := ⟨b2, _, none⟩) hbl (by simp)] at e0
      have hbl2 : b2 < wr.heap.size := Nat.lt_of_lt_of_le hbl HMw.out.size
      obtain ⟨hk1, hk2, hflat⟩ := HCS.out i _ hx
      have hxn : xl.length = xn := hbx.len
      have hm1 : m ≤ 1020 := by have := HML.out; omega
      have hxn2 : xn ≤ 100 := by omega
      obtain ⟨y, hy, ⟨hy1, hy2⟩, hyg, ey⟩ := HG3.out (i + 1) (by have := HQK.out; omega)
      have hidy : ∀ W : World, (Instr.indexAt 24 (.slice qp qn qc) (.int .i64 ((i : Int) + 1))).run Tryz.prog W = .ok (.pointer (some ⟨b3, off3 + (i + 1), none⟩)) W := fun W => by
        have h := hidx3 W (i + 1) (by have := HQK.out; omega)
        rw [show ((i + 1 : Nat) : Int) = (i : Int) + 1 by omega] at h; exact h
      have EY := Lib.hid ey
      have HYG := Lib.hid hyg
      have HX := Lib.hid hx
      have HXN := Lib.hid hxn
      have HBX := Lib.hid hbx
      have hwi : IntKind.i64.wrap ((i : Int) + 1) = (i : Int) + 1 := IntWalk.i64_in _ (by omega)
      have hw8 : IntKind.u8.wrap (xn : Int) = (xn : Int) := by rw [IntKind.wrap_u8]; omega
      have hidxi := fun W => hidx2 W i hlt
      have K0 : Hid (wr.cell? ⟨A, 2, none⟩ = some (.slice kp kn kc) ∧ wr.cell? ⟨b2, off2 + i, none⟩ = some (.slice xp xn xc)) := ⟨g2, e0⟩
      have hAl : A < wr.heap.size := lt_of_at HAT.out
      have hbA : b2 ≤ A := by have := HAW.out; omega
      clear hx hbx hflat hk1 hk2 hxn hy hyg ey
      go_wp2
      refine AnyT.start (S := fun w' => w'.cell? ⟨A, 2, none⟩ = some (.slice kp kn kc) ∧ w'.cell? ⟨b2, off2 + i, none⟩ = some (.slice xp xn xc)) (by kernel_rfl) K0.out (fun hS => ?_)
      refine AnyT.take (i := 0) (k := 9) (v := ?_) rfl (by kernel_rfl) (fun _ _ _ h => h) hS (Or.inl ⟨by rfl, fun w' hw' => ?_⟩) ?_
      rotate_left
      · obtain ⟨q1, q2⟩ := hw'
        go_simp
        try rfl
      simp only [Act.put, List.setIfInBounds_toArray, List.set_cons_zero, List.set_cons_succ]
      refine AnyT.take (i := 1) (k := 2) (v := ?_) rfl (by kernel_rfl) (fun _ _ _ h => h) hS (Or.inl ⟨by rfl, fun w' hw' => ?_⟩) ?_
      rotate_left
      · obtain ⟨q1, q2⟩ := hw'
        go_simp
        try rfl
      simp only [Act.put, List.setIfInBounds_toArray, List.set_cons_zero, List.set_cons_succ]
      refine AnyT.take (i := 2) (k := 4) (v := ?_) rfl (by kernel_rfl) (fun _ _ _ h => h) hS (Or.inl ⟨by rfl, fun w' hw' => ?_⟩) ?_
      rotate_left
      · obtain ⟨q1, q2⟩ := hw'
        go_simp
        try rfl
      simp only [Act.put, List.setIfInBounds_toArray, List.set_cons_zero, List.set_cons_succ]
      refine AnyT.take (i := 3) (k := 4) (v := ?_) rfl (by kernel_rfl) (fun _ _ _ h => h) hS (Or.inl ⟨by rfl, fun w' hw' => ?_⟩) ?_
      rotate_left
      · obtain ⟨q1, q2⟩ := hw'
        go_simp
        try rfl
      simp only [Act.put, List.setIfInBounds_toArray, List.set_cons_zero, List.set_cons_succ]
      refine AnyT.take (i := 4) (k := 5) (v := ?_) rfl (by kernel_rfl) (fun _ _ _ h => h) hS (Or.inl ⟨by rfl, fun w' hw' => ?_⟩) ?_
      rotate_left
      · obtain ⟨q1, q2⟩ := hw'
        go_simp
        try rfl
      simp only [Act.put, List.setIfInBounds_toArray, List.set_cons_zero, List.set_cons_succ]
      refine AnyT.take (i := 5) (k := 6) (v := ?_) rfl (by kernel_rfl) (fun _ _ _ h => h) hS (Or.inl ⟨by rfl, fun w' hw' => ?_⟩) ?_
      rotate_left
      · obtain ⟨q1, q2⟩ := hw'
        go_simp
        try rfl
      simp only [Act.put, List.setIfInBounds_toArray, List.set_cons_zero, List.set_cons_succ]
      refine AnyT.take (i := 6) (k := 7) (v := ?_) rfl (by kernel_rfl) (fun _ _ _ h => h) hS (Or.inl ⟨by rfl, fun w' hw' => ?_⟩) ?_
      rotate_left
      · obtain ⟨q1, q2⟩ := hw'
        go_simp
        try rfl
      simp only [Act.put, List.setIfInBounds_toArray, List.set_cons_zero, List.set_cons_succ]
      refine AnyT.take (i := 7) (k := 8) (v := ?_) rfl (by kernel_rfl) (fun _ _ _ h => h) hS (Or.inl ⟨by rfl, fun w' hw' => ?_⟩) ?_
      rotate_left
      · obtain ⟨q1, q2⟩ := hw'
        go_simp
        try rfl
      simp only [Act.put, List.setIfInBounds_toArray, List.set_cons_zero, List.set_cons_succ]
      refine AnyT.take (i := 10) (k := 11) (v := ?_) rfl (by kernel_rfl) (fun _ _ _ h => h) hS (Or.inl ⟨by rfl, fun w' hw' => ?_⟩) ?_
      rotate_left
      · obtain ⟨q1, q2⟩ := hw'
        go_simp
        try rfl
      simp only [Act.put, List.setIfInBounds_toArray, List.set_cons_zero, List.set_cons_succ]
      refine AnyT.take (i := 11) (k := 13) (v := ?_) rfl (by kernel_rfl) (fun _ _ _ h => h) hS (Or.inl ⟨by rfl, fun w' hw' => ?_⟩) ?_
      rotate_left
      · obtain ⟨q1, q2⟩ := hw'
        go_simp
        try rfl
      simp only [Act.put, List.setIfInBounds_toArray, List.set_cons_zero, List.set_cons_succ]
      refine AnyT.take (i := 12) (k := 13) (v := ?_) rfl (by kernel_rfl) (fun _ _ _ h => h) hS (Or.inl ⟨by rfl, fun w' hw' => ?_⟩) ?_
      rotate_left
      · obtain ⟨q1, q2⟩ := hw'
        go_simp
        try rfl
      simp only [Act.put, List.setIfInBounds_toArray, List.set_cons_zero, List.set_cons_succ]
      refine AnyT.take (i := 13) (k := 14) (v := ?_) rfl (by kernel_rfl) (fun _ _ _ h => h) hS (Or.inl ⟨by rfl, fun w' hw' => ?_⟩) ?_
      rotate_left
      · obtain ⟨q1, q2⟩ := hw'
        go_simp
        try rfl
      simp only [Act.put, List.setIfInBounds_toArray, List.set_cons_zero, List.set_cons_succ]
      refine AnyT.take (i := 14) (k := 15) (v := ?_) rfl (by kernel_rfl) (fun _ _ _ h => h) hS (Or.inl ⟨by rfl, fun w' hw' => ?_⟩) ?_
      rotate_left
      · obtain ⟨q1, q2⟩ := hw'
        go_simp
        try rfl
      simp only [Act.put, List.setIfInBounds_toArray, List.set_cons_zero, List.set_cons_succ]
      clear hS
      refine AnyT.run (i := 8) (by kernel_rfl) rfl rfl (fun K hK => ?_)
      go_simp
      have MC : Hid (Mod [] wr (wr.drew.alloc (.cells #[.int .u8 xn] 5))) := (Mod.of_drew wr).alloc
      refine hK _ _ (fun _ => ⟨(MC.out.cell (a := ⟨A, 2, none⟩) hAl (by simp)).trans K0.out.1, (MC.out.cell (a := ⟨b2, _, none⟩) hbl2 (by simp)).trans K0.out.2⟩) ?_
      clear hK K
      have HON : Hid (∀ b, b ∈ (o.map (fun a : Addr => a.block)).toList → A < b) := fun b hb => by
        cases o with
        | none => simp at hb
        | some a => simp at hb; subst hb; have := (OT.out.own a rfl).2.1; omega
      have hbs : A + 1 ≤ wr.heap.size := by omega
      obtain ⟨p6, c6, w6, hr6, ht6, hm6, hn6, hb6⟩ := app_bytes (wr.drew.alloc (.cells #[.int .u8 xn] 5)) (A + 1) o m d _ (OT.out.mod MC.out (by simp)) (some ⟨wr.heap.size, 0, none⟩) 1 1 [(xn : Int)] (Sl.one_new wr.drew _ _ rfl) (by omega) (Nat.le_trans hbs MC.out.size)
      have HT6 := Lib.hid ht6
      have M6 : Hid (Mod (o.map (·.block)).toList wr w6) := (MC.out.mono (by simp)).same hm6
      have K6 : Hid (w6.cell? ⟨A, 2, none⟩ = some (.slice kp kn kc) ∧ w6.cell? ⟨b2, off2 + i, none⟩ = some (.slice xp xn xc)) := ⟨(M6.out.cell (a := ⟨A, 2, none⟩) hAl (fun hb => by have := HON.out _ hb; simp at this)).trans K0.out.1, (M6.out.cell (a := ⟨b2, _, none⟩) hbl2 (fun hb => by have := HON.out _ hb; simp at this; omega)).trans K0.out.2⟩
      clear ht6 hm6 hn6 hb6
      refine AnyT.one (i := 9) (by kernel_rfl) rfl (fun K hK => ?_)
      refine step_append_run rfl _ _ _ _ rfl _ _ _ _ rfl rfl hr6 ?_
      refine hK _ _ (fun _ => K6.out) ?_
      clear hK K hr6
      have HM06 : Hid (Mod [] W0 w6) := OT.out.turned (w2 := w) HWS.out M6.out HM.out
      have HBX6 := Lib.hid (HBX.out.modge (HM0.out.same HM06.out) (by simp))
      obtain ⟨p9, c9, w9, hr9, ht9, hm9, hn9, hb9⟩ := app_bytes w6 (A + 1) p6 (m + 1) c6 _ HT6.out xp xn xc xl HBX6.out.sl (by omega) (Nat.le_trans hbs M6.out.size)
      have HT9 := Lib.hid ht9
      have HM09 : Hid (Mod [] W0 w9) := HT6.out.turned (w2 := w) HWS.out hm9 HM06.out
      have HON6 : Hid (∀ b, b ∈ (p6.map (fun a : Addr => a.block)).toList → A < b) := fun b hb => by
        cases p6 with
        | none => simp at hb
        | some a => simp at hb; subst hb; have := (HT6.out.own a rfl).2.1; omega
      have K9 : Hid (w9.cell? ⟨A, 2, none⟩ = some (.slice kp kn kc) ∧ w9.cell? ⟨b2, off2 + i, none⟩ = some (.slice xp xn xc)) := ⟨(hm9.cell (a := ⟨A, 2, none⟩) (Nat.lt_of_lt_of_le hAl M6.out.size) (fun hb => by have := HON6.out _ hb; simp at this)).trans K6.out.1, (hm9.cell (a := ⟨b2, _, none⟩) (Nat.lt_of_lt_of_le hbl2 M6.out.size) (fun hb => by have := HON6.out _ hb; simp at this; omega)).trans K6.out.2⟩
      clear ht9 hm9 hn9 hb9
      refine AnyT.one (i := 15) (by kernel_rfl) rfl (fun K hK => ?_)
      refine step_append_run rfl _ _ _ _ rfl _ _ _ _ rfl rfl hr9 ?_
      refine hK _ _ (fun _ => K9.out) ?_
      clear hK K hr9
      refine AnyT.run (i := 16) (by kernel_rfl) rfl rfl (fun K hK => ?_)
      go_simp
      refine hK _ _ (fun h => absurd h (by rw [show more _ _ = false from by kernel_rfl]; decide)) ?_
      clear hK K
      refine AnyT.done (by kernel_rfl) ?_ _
      have HAT9 : Hid (w9.heap[A]? = some (.cells #[.bool true, .slice cp cn cc, .slice kp kn kc, .slice qp qn qc] 26 (0, 0))) := HM09.out.at HA0W.out (by simp)
      have h93 : w9.cell? ⟨A, 3, none⟩ = some (.slice qp qn qc) := cell_of_at HAT9.out 3
      have h9y : w9.cell? ⟨b3, off3 + (i + 1), none⟩ = some (.int .i64 y) := ((HM0.out.same HM09.out).cell (a := ⟨b3, _, none⟩) HLT3.out (by simp)).trans EY.out
      obtain ⟨M, hM⟩ : ∃ M, M = m + 1 + xn := ⟨_, rfl⟩
      obtain ⟨L, hL⟩ : ∃ L, L = brHead ls kids ++ brBody ls kids i ++ [(xn : Int)] ++ xl := ⟨_, rfl⟩
      rw [← hM, ← hL] at HT9
      rw [← hM]
      have HMM := Lib.hid hM
      have HLL := Lib.hid hL
      have hMle : M ≤ 1200 := by omega
      have hbs9 : A + 1 ≤ w9.heap.size := by have := HM09.out.size; have := HWS.out; omega
      clear hM hL OT K0 K6 HT6 M6 HBX6 HON g2 e0 MC K9 HON6 HM06
      go_wp2_with (first
        | (go_at_call 32; refine (qbigt_any y 4 w9 (by omega) (by omega) (Or.inr rfl)).mono ?_; rintro _ wb ⟨_, rfl, pb, cb, rfl, tb, mb⟩
           obtain ⟨pe, ce, we, hre, hte, hme, -, -⟩ := app_bytes wb (A + 1) p9 M c9 L (HT9.out.mod mb (by simp)) pb 4 cb (be 4 y) tb.sl (by omega) (Nat.le_trans hbs9 mb.size)
           have HTE := Lib.hid hte
           have HM0E : Hid (Mod [] W0 we) := (HT9.out.mod mb (by simp)).turned (w2 := w) HWS.out hme (HM09.out.same mb)
           clear tb mb hte hme)
        | (at_builtin; refine wpList_append_run rfl _ _ _ _ rfl _ _ _ _ rfl rfl hre ?_)
        | fail)
      have HATE : Hid (we.heap[A]? = some (.cells #[.bool true, .slice cp cn cc, .slice kp kn kc, .slice qp qn qc] 26 (0, 0))) := HM0E.out.at HA0W.out (by simp)
      have HBP : Hid (brPart ls kids i = (xn : Int) :: (xl ++ be 4 y)) := by
        obtain ⟨h1, h2⟩ := List.getElem?_eq_some_iff.1 HX.out
        unfold Hid brPart; rw [getD_at h1, h2, HXN.out, HYG.out]
      have HNE : Hid (M + 4 = 7 + (brBody ls kids (i + 1)).length) := by
        unfold Hid; rw [brBody_succ, HBP.out, HMM.out, HML.out]; simp [be_len, HXN.out]; omega
      have HLE : Hid (L ++ be 4 y = brHead ls kids ++ brBody ls kids (i + 1)) := by
        unfold Hid; rw [brBody_succ, HBP.out, HLL.out]; simp
      rw [HLE.out] at HTE
      clear h93 h9y hre
      go_roundw
      case rel => exact ⟨i + 1, M + 4, ce, pe, by omega, by go_num, rfl, HNE.out, HTE.out, HATE.out, HM0E.out⟩
      case measure => simp [intOf]; omega
    · obtain rfl : i = kn := by omega
      have HFIN : Hid (QPayR (payBr ls kids) w (.slice o m d) wr) := by
        have h1 := OT.out
        have h2 := HML.out
        refine ⟨o, m, d, rfl, ?_, ?_, HM0.out.same HM.out⟩
        · rw [HPV.out, h2, HBH.out]; simp [be_len]; omega
        · rw [HPV.out]; exact h1.sl
      go_wp2
      go_ret
      exact .mk HFIN.out
end Go.Proofs.YtgimdodbajhpoaaGreatDoor
