/- The document's side: a piece, read from its page. -/
import Derived.Test.YtibkhdlddllcjaaDoorQPay
import Derived.Test.YtibkhdlddllcjaaDoorPoolFrom
namespace Go.Proofs.YtibkhdlddllcjaaDoor
open Go.RowKit Go.Maps
set_option linter.unusedSimpArgs false
set_option linter.unusedVariables false

set_option maxRecDepth 100000 in
set_option maxHeartbeats 4000000 in
theorem qfrom_any (p : Option Addr) (n c : Nat) (l : List Int) (w : World) (h : BytesIn w p n c l) :
    Calls Tryd.prog 12 #[.slice p n c] w (Ret (FromR l w)) := by
  have hln := h.len
  have hcm := h.sl.capm; have hle := h.sl.le
  unfold maxLen at hcm
  by_cases h16 : n = 1016
  · have HWF := Lib.hid h.wf
    obtain ⟨B, off, rfl, hBlt, hcs⟩ := h.sl.addr (by omega)
    subst h16
    have d0 := hcs 0 _ (bs_get (by omega))
    have d1 := hcs 1 _ (bs_get (by omega))
    rw [Nat.add_zero] at d0
    have hi0 := fun W => Sl.idx (P := Tryd.prog) (cap := c) (p := some ⟨B, off, none⟩) (size := 1) (b := B) (off := off) Tryd.underlying23 sizeBytes (fun _ => rfl) W .i64 0 (show 0 < 1016 by omega)
    have hi1 := fun W => Sl.idx (P := Tryd.prog) (cap := c) (p := some ⟨B, off, none⟩) (size := 1) (b := B) (off := off) Tryd.underlying23 sizeBytes (fun _ => rfl) W .i64 1 (show 1 < 1016 by omega)
    simp only [Nat.zero_mul, Nat.add_zero, Nat.one_mul, show ((0 : Nat) : Int) = 0 from rfl, show ((1 : Nat) : Int) = 1 from rfl] at hi0 hi1
    have hx0 := HWF.out (l.getD 0 0) (by rw [getD_at (by omega)]; exact List.getElem_mem _)
    have hx1 := HWF.out (l.getD 1 0) (by rw [getD_at (by omega)]; exact List.getElem_mem _)
    have HN : Hid (nOf l = (l.getD 0 0 * 256 + l.getD 1 0).toNat) := rfl
    generalize l.getD 0 0 = x0 at *
    generalize l.getD 1 0 = x1 at *
    obtain ⟨N, hN⟩ : ∃ N : Nat, (N : Int) = x0 * 256 + x1 := ⟨(x0 * 256 + x1).toNat, by omega⟩
    have HNN : Hid (nOf l = N) := by unfold Hid; rw [HN.out, ← hN]; omega
    have hq1 : IntKind.i64.wrap (256 * x0) = 256 * x0 := IntWalk.i64_in _ (by omega)
    have hq2 : IntKind.i64.wrap (256 * x0 + x1) = (N : Int) := by rw [IntWalk.i64_in _ (by omega)]; omega
    have hN2 : N < 65536 := by omega
    have H := Lib.hid h
    have HLN := Lib.hid hln
    clear hN h hln hcs HN
    obtain ⟨p2, r2, b2⟩ := H.out.from_ Tryd.underlying23 sizeBytes 2 (by omega)
    simp only [show ((2 : Nat) : Int) = 2 from rfl] at r2
    have HB2 := Lib.hid b2
    clear b2
    by_cases h84 : N ≤ 84
    · have hgt : ((84 : Int) < (N : Int)) = False := by simp; omega
      go_enter Tryd.func12, Tryd.ntmps12
      go_wp2
      go_quiet (fail)
      go_wp2_with fail
      refine (qget32_any p2 _ _ _ _ (HB2.out.mod (Mod.of_drewN w nq) (by simp))).mono ?_
      rintro _ w1 ⟨_, rfl, rfl, rfl⟩
      have HM1 : Hid (Mod [] w (w.drewN nq)) := Mod.of_drewN w nq
      have HNX : Hid (nextOf l = un4 (l.drop 2) 4) := rfl
      have hnx := un4_range (l := l.drop 2) (fun x hx => HWF.out x (List.mem_of_mem_drop hx)) 4
      generalize un4 (l.drop 2) 4 = nx at *
      have hnx2 : 0 ≤ nx ∧ nx < 4294967296 := hnx
      clear hnx
      have hwn : IntKind.i64.wrap nx = nx := IntWalk.i64_in _ (by omega)
      obtain ⟨i0, hi0, hz0, hz1, hz2⟩ := info_parts infoFreed
      go_wp2
      go_loopw [7, 8] (fun o i wr => ∃ (k d : Nat) (q : Option Addr), k ≤ N ∧ i = .int .i64 k ∧ o = .slice q k d ∧ wr.ownsRow w.heap.size 35 2 (.slice q k d) k (fcells (rd l k)) ∧ Mod [] w wr) (fun _ i _ => N - (intOf i).toNat)
      case atStart => exact ⟨0, 0, none, by omega, rfl, rfl, World.ownsRow_nil _ _ _ _, HM1.out⟩
      case round =>
        clear HM1
        obtain ⟨k, d, q, hk, rfl, rfl, hown, hmd⟩ := hrel
        have HO := Lib.hid hown
        have HM := Lib.hid hmd
        have hsz := hmd.size
        clear hown hmd
        by_cases hlt : k < N
        · obtain ⟨T, hT⟩ : ∃ T : Int, T = 12 * (k : Int) := ⟨_, rfl⟩
          obtain ⟨A, hA⟩ : ∃ A, A = 6 + 12 * k := ⟨_, rfl⟩
          obtain ⟨A4, hA4⟩ : ∃ A4, A4 = 10 + 12 * k := ⟨_, rfl⟩
          obtain ⟨A12, hA12⟩ : ∃ A12, A12 = 18 + 12 * k := ⟨_, rfl⟩
          have hw1 : IntKind.i64.wrap (12 * (k : Int)) = T := by rw [IntWalk.i64_in _ (by omega)]; omega
          have hw2 : IntKind.i64.wrap (6 + T) = (A : Int) := by rw [IntWalk.i64_in _ (by omega)]; omega
          have hw3 : IntKind.i64.wrap (10 + T) = (A4 : Int) := by rw [IntWalk.i64_in _ (by omega)]; omega
          have hw4 : IntKind.i64.wrap (18 + T) = (A12 : Int) := by rw [IntWalk.i64_in _ (by omega)]; omega
          obtain ⟨p4, r4, b4⟩ := H.out.sub Tryd.underlying23 sizeBytes A4 A12 8 (by omega) (by omega)
          obtain ⟨p5, r5, b5⟩ := H.out.from_ Tryd.underlying23 sizeBytes A (by omega)
          have HB4 := Lib.hid (b4.mod HM.out (by simp))
          have HB5 := Lib.hid (b5.mod HM.out (by simp))
          have HR : Hid (rdAt l k = (un4 (l.drop A) 4, un ((l.drop A4).take 8))) := by rw [hA, hA4]; rfl
          clear b4 b5 hT hA hA4 hA12
          go_wp2_with fail
          refine (qunkey_any p4 _ _ _ _ HB4.out).mono ?_
          rintro _ wr ⟨_, rfl, rfl, rfl⟩
          rw [if_pos rfl]
          have hy := rd_wf HWF.out (k + 1) (rdAt l k) (by rw [rd_succ]; simp)
          rw [HR.out] at hy
          go_wp2_with fail
          have hx := un4_range (l := l.drop A) (fun x hx => HWF.out x (List.mem_of_mem_drop hx)) 4
          have hx2 : 0 ≤ un4 (l.drop A) 4 ∧ un4 (l.drop A) 4 < 4294967296 := hx
          refine (qget32_any p5 _ _ _ _ HB5.out).mono ?_
          rintro _ wr ⟨_, rfl, rfl, rfl⟩
          clear hx
          generalize un4 (l.drop A) 4 = X at *
          generalize un ((l.drop A4).take 8) = Y at *
          have hwX : IntKind.i64.wrap X = X := IntWalk.i64_in _ (by omega)
          have HS5 : Hid (Sl (wr.alloc (.cells #[.int .i64 X, .int .u64 Y] 35)) 2 (some ⟨wr.heap.size, 0, none⟩) 1 1 [.int .i64 X, .int .u64 Y]) := Sl.new wr [.int .i64 X, .int .u64 Y] _ 2 1 rfl (by simp [maxLen]) (by intro u hu; simp at hu; rcases hu with rfl | rfl <;> rfl)
          have HO5 : Hid ((wr.alloc (.cells #[.int .i64 X, .int .u64 Y] 35)).ownsRow w.heap.size 35 2 (.slice q k d) k (fcells (rd l k))) := own_mod HO.out (Mod.of_alloc wr _)
          have hsz5 : w.heap.size ≤ (wr.alloc (.cells #[.int .i64 X, .int .u64 Y] 35)).heap.size := Nat.le_trans hsz (Mod.of_alloc wr _).size
          go_wp2_with (first
            | (at_builtin; go_must (refine wpList_append_src _ rfl _ _ _ rfl w.heap.size 35 i0 _ 2 16 Tryd.underlying22 hi0 hz0 hz1 hz2 rfl (by omega) (.slice q k d) k (fcells (rd l k)) rfl HO5.out _ _ _ _ rfl HS5.out (k + 1) rfl (by unfold maxLen; omega) (by omega) hsz5 ?_); intro p6 c6 w6 hown6 hgrow6 hnil6 hlie6; (have HO6 := Lib.hid hown6); (have HG6 := Lib.hid hgrow6); clear hown6 hgrow6 hnil6 hlie6)
            | go_in)
          go_roundw
          case rel => exact ⟨k + 1, c6, p6, by omega, by go_num, rfl, by rw [rd_succ, fcells_append, HR.out]; exact HO6.out, (HM.out.same (Mod.of_alloc wr _)).trans (Mod.of_grown' HG6.out) (fun b hb => Or.inr (by
            have := own_base HO.out b (by simpa using hb); omega))⟩
          case measure => simp [intOf]; omega
        · obtain rfl : k = N := by omega
          go_wp2_with fail
          refine (qpay_any q k d (rd l k) nx _ (Sl.of_own HO.out (fcells_one _)).1 (rd_wf HWF.out _)).mono ?_
          rintro _ w7 ⟨_, rfl, p7, n7, c7, rfl, e7, nil7, t7, m7⟩
          have HM7 : Hid (Mod [] w w7) := HM.out.same m7
          have HP7 := Lib.hid e7
          obtain ⟨wb, HO7, HMB, HT7, M7⟩ : ∃ wb : World, Hid (wb.ownsRow w.heap.size 35 2 (.slice q k d) k (fcells (rd l k))) ∧ Hid (Mod [] w wb) ∧ Hid (Tl w7 wb.heap.size 1 p7 n7 c7 (bs (payO (rd l k) nx))) ∧ Hid (Mod [] wb w7) := ⟨wr, HO, HM, t7, m7⟩
          clear HO HM hsz
          obtain ⟨PP, hPP⟩ : ∃ PP, PP = payO (rd l k) nx := ⟨_, rfl⟩
          have HPP := Lib.hid hPP
          have HG : Hid (goodP l = (mayPay (rd l k) nx && decide (pad 1016 PP = l))) := by
            unfold Hid goodP
            rw [HNN.out, HNX.out, decide_eq_true h84, Bool.true_and, hPP]
          rw [← hPP] at HP7 HT7
          have hPl : Hid (PP.length ≤ 1014) := by unfold Hid; rw [HPP.out]; exact payO_len _ _
          clear m7 e7 t7 hPP nil7
          rcases Nat.eq_zero_or_pos n7 with h7 | h7
          · have HE : Hid (fromP l = ([], 0, 5)) := fromP_bad (by
              rintro ⟨_, h⟩
              rw [HG.out, payO_nil.1 (by rw [← HPP.out]; exact List.eq_nil_of_length_eq_zero (by rw [← HP7.out]; exact h7))] at h
              simp at h)
            subst h7
            go_wp2
            go_ret3
            exact .mk ⟨none, 0, 0, by rw [HE.out]; rfl, by rw [HE.out]; rfl, by rw [HE.out]; exact Sl.nil _ _, HM7.out⟩
          · have hne : ((n7 : Int) == 0) = false := by simp; omega
            have hmay : Hid (mayPay (rd l k) nx = true) := by
              unfold Hid
              cases hm : mayPay (rd l k) nx
              · exfalso
                have := payO_nil.2 hm
                rw [← HPP.out] at this
                have h2 := HP7.out
                rw [this] at h2; simp at h2; omega
              · rfl
            obtain ⟨j0, hj0, hjz0, hjs, hjb⟩ := info_parts infoU8
            clear r2
            go_wp2
            go_loopw [11] (fun o wz => ∃ (m e : Nat) (u : Option Addr), m ≤ 1016 ∧ o = .slice u m e ∧ n7 ≤ m ∧ Tl wz wb.heap.size 1 u m e (bs (PP ++ List.replicate (m - n7) 0)) ∧ Mod [] wb wz) (fun o _ => match o with | .slice _ m _ => 1016 - m | _ => 0)
            case atStart => exact ⟨n7, c7, p7, by rw [HP7.out]; have := hPl.out; omega, rfl, Nat.le_refl _, by simpa using HT7.out, M7.out⟩
            case round =>
              clear HT7 M7
              obtain ⟨m, e, u, hm, rfl, hnm, ht, hmd⟩ := hrel
              have OT := Lib.hid ht
              have MC := Lib.hid hmd
              clear ht hmd
              by_cases hlt : m < 1016
              · have OT2 : Hid (Tl (wr.alloc (.cells #[.int .u8 0] 5)) wb.heap.size 1 u m e (bs (PP ++ List.replicate (m - n7) 0))) := OT.out.mod (Mod.of_alloc wr _) (by simp)
                have MC2 : Hid (Mod [] wb (wr.alloc (.cells #[.int .u8 0] 5))) := MC.out.alloc
                have HS5 : Hid (Sl (wr.alloc (.cells #[.int .u8 0] 5)) 1 (some ⟨wr.heap.size, 0, none⟩) 1 1 [.int .u8 0]) := Sl.one_new wr _ _ rfl
                go_wp2_with (first
                  | (at_builtin; go_must (refine wpList_append_tl _ rfl _ _ _ rfl wb.heap.size 5 j0 _ 1 1 Tryd.underlying23 hj0 hjz0 hjs hjb rfl (by omega) _ _ _ _ rfl OT2.out _ _ _ _ rfl HS5.out (m + 1) rfl (by unfold maxLen; omega) (by omega) MC2.out.size ?_); intro p9 c9 w9 ht9 hm9 hnil9 hor9; (have OT9 := Lib.hid ht9); (have MC9 := Lib.hid (OT2.out.turned (w2 := w) rfl hm9 MC2.out)); clear ht9 hm9 hnil9 hor9)
                  | go_in)
                go_roundw
                case rel => exact ⟨m + 1, c9, p9, by omega, rfl, by omega, by
                  have := OT9.out
                  rw [show m + 1 - n7 = (m - n7) + 1 from by omega, List.replicate_succ', ← List.append_assoc, bs_append]
                  exact this, MC9.out⟩
                case measure => show 1016 - (m + 1) < 1016 - m; omega
              · obtain rfl : m = 1016 := by omega
                have HPAD : Hid (PP ++ List.replicate (1016 - n7) 0 = pad 1016 PP) := by unfold Hid pad; rw [HP7.out]
                rw [HPAD.out] at OT
                have HB1 := Lib.hid (H.out.sl.mod (HMB.out.same MC.out) (by simp))
                go_wp2_with fail
                refine (qsame_any _ _ _ _ _ _ (pad 1016 PP) l _ OT.out.sl HB1.out).mono ?_
                rintro _ w10 ⟨_, rfl, rfl, hm10⟩
                have HM10 := Lib.hid hm10
                clear hm10
                obtain ⟨D, hD⟩ : ∃ D, D = decide (pad 1016 PP = l) := ⟨_, rfl⟩
                rw [← hD]
                have HD := Lib.hid hD
                clear hD
                cases D with
                | false =>
                  have HE : Hid (fromP l = ([], 0, 5)) := fromP_bad (by
                    rintro ⟨_, h⟩
                    rw [HG.out, ← HD.out] at h
                    simp at h)
                  go_wp2
                  go_ret3
                  exact .mk ⟨none, 0, 0, by rw [HE.out]; rfl, by rw [HE.out]; rfl, by rw [HE.out]; exact Sl.nil _ _, (HMB.out.same MC.out).same HM10.out⟩
                | true =>
                  have HE : Hid (fromP l = (rd l k, nx, 0)) := by
                    unfold Hid
                    rw [fromP_good HLN.out (by rw [HG.out, hmay.out, ← HD.out]; rfl), HNN.out, HNX.out]
                  go_wp2
                  go_ret3
                  exact .mk ⟨q, k, d, by rw [HE.out]; rfl, by rw [HE.out]; exact (rd_len _ _).symm, by rw [HE.out]; exact ((Sl.of_own HO7.out (fcells_one _)).1).mod (MC.out.same HM10.out) (by simp), (HMB.out.same MC.out).same HM10.out⟩
    · have HE : Hid (fromP l = ([], 0, 5)) := fromP_bad (by
        rintro ⟨_, h⟩
        unfold goodP at h
        rw [HNN.out, decide_eq_false h84] at h
        simp at h)
      have hgt : ((84 : Int) < (N : Int)) = True := by simp; omega
      go_enter Tryd.func12, Tryd.ntmps12
      go_wp2
      go_quiet (fail)
      go_wp2_with fail
      refine (qget32_any p2 _ _ _ _ (HB2.out.mod (Mod.of_drewN w nq) (by simp))).mono ?_
      rintro _ w1 ⟨_, rfl, rfl, rfl⟩
      have hnx := un4_range (l := l.drop 2) (fun x hx => HWF.out x (List.mem_of_mem_drop hx)) 4
      generalize un4 (l.drop 2) 4 = nx at *
      have hnx2 : 0 ≤ nx ∧ nx < 4294967296 := hnx
      clear hnx
      have hwn : IntKind.i64.wrap nx = nx := IntWalk.i64_in _ (by omega)
      go_wp2
      go_ret3
      exact .mk ⟨none, 0, 0, by rw [HE.out]; rfl, by rw [HE.out]; rfl, by rw [HE.out]; exact Sl.nil _ _, Mod.of_drewN w nq⟩
  · have HE : Hid (fromP l = ([], 0, 5)) := fromP_bad (by rw [hln]; exact fun h => h16 h.1)
    have hne : ((n : Int) != 1016) = true := by simp; omega
    clear h16
    go_enter Tryd.func12, Tryd.ntmps12
    go_wp2
    go_ret3
    exact .mk ⟨none, 0, 0, by rw [HE.out]; rfl, by rw [HE.out]; rfl, by rw [HE.out]; exact Sl.nil _ _, Mod.refl _ _⟩
end Go.Proofs.YtibkhdlddllcjaaDoor
