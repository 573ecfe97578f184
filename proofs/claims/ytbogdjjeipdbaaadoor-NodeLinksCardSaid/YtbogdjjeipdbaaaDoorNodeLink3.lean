/- A link is read by the document. -/
import Derived.Test.YtbogdjjeipdbaaaDoorNodeLink2
namespace Go.Proofs.YtbogdjjeipdbaaaDoor
open Go.RowKit Go.Maps
set_option linter.unusedSimpArgs false
set_option linter.unusedVariables false

set_option maxRecDepth 100000 in
theorem qshort_any (p : Option Addr) (n c : Nat) (b : List Int) (w : World) (h : BytesIn w p n c b) (hn : 6 ≤ n) :
    Calls Tryd.prog 26 #[.slice p n c, .int .i64 4] w (Ret (IntMd (flN b) w)) := by
  have hln := h.len
  have hcm := h.sl.capm; have hle := h.sl.le
  unfold maxLen at hcm
  obtain ⟨bb, off, hp, hlt, hc⟩ := h.sl.addr (by omega)
  subst hp
  have d4 := hc 4 _ (bs_get (by omega))
  have d5 := hc 5 _ (bs_get (by omega))
  have hi4 := fun W => Sl.idx (P := Tryd.prog) (cap := c) (m := n) (size := 1) Tryd.underlying37 sizeBytes (fun _ => rfl) W .i64 4 (by omega) (b := bb) (off := off)
  have hi5 := fun W => Sl.idx (P := Tryd.prog) (cap := c) (m := n) (size := 1) Tryd.underlying37 sizeBytes (fun _ => rfl) W .i64 5 (by omega) (b := bb) (off := off)
  simp only [Nat.mul_one, show ((4 : Nat) : Int) = 4 from rfl, show ((5 : Nat) : Int) = 5 from rfl] at hi4 hi5
  have HV : Hid (flN b = 256 * b.getD 4 0 + b.getD 5 0) := by unfold Hid flN; omega
  have h4 : 0 ≤ b.getD 4 0 ∧ b.getD 4 0 < 256 := by rw [getD_at (by omega)]; exact h.wf _ (List.getElem_mem _)
  have h5 : 0 ≤ b.getD 5 0 ∧ b.getD 5 0 < 256 := by rw [getD_at (by omega)]; exact h.wf _ (List.getElem_mem _)
  generalize b.getD 4 0 = x at *
  generalize b.getD 5 0 = y at *
  obtain ⟨x0, x1⟩ := h4
  obtain ⟨y0, y1⟩ := h5
  have hw1 : IntKind.i64.wrap (256 * x) = 256 * x := IntWalk.i64_in _ (by omega)
  have hw2 : IntKind.i64.wrap (256 * x + y) = 256 * x + y := IntWalk.i64_in _ (by omega)
  have hw3 : IntKind.i64.wrap x = x := IntWalk.i64_in _ (by omega)
  have hw4 : IntKind.i64.wrap y = y := IntWalk.i64_in _ (by omega)
  clear hc h hlt
  go_enter Tryd.func26, Tryd.ntmps26
  go_wp2_with fail
  go_quiet (fail)
  go_wp2
  go_ret
  exact .mk ⟨by rw [HV.out]; rfl, (Mod.refl _ _).drewN⟩

set_option maxRecDepth 100000 in
set_option maxHeartbeats 8000000 in
theorem qfromlink_any (p : Option Addr) (n c : Nat) (b : List Int) (w : World) (h : BytesIn w p n c b) :
    Calls Tryd.prog 15 #[.slice p n c] w (Ret (FLR (fromLinkL b) w)) := by
  by_cases hn : n = 1016
  · subst hn
    have hbl := h.len
    have hle := h.sl.le
    obtain ⟨r0, r1⟩ := flN_range h.wf (by omega)
    obtain ⟨s, hs⟩ : ∃ s : Nat, flN b = s := ⟨(flN b).toNat, by omega⟩
    have H := Lib.hid h
    have HSH := fun W (hm : Mod [] w W) => Lib.hid (qshort_any p 1016 c b W ⟨h.sl.mod hm (by simp), h.wf⟩ (by omega))
    unfold IntMd at HSH
    rw [hs] at r1 HSH
    have HG := fun W (hm : Mod [] w W) => Lib.hid (qget32_any p 1016 c b W ⟨h.sl.mod hm (by simp), h.wf⟩)
    unfold Get32R at HG
    obtain ⟨x0, x1⟩ := un4_range h.wf 4
    replace x1 : un4 b 4 < 4294967296 := x1
    obtain ⟨X, hX⟩ : ∃ X, X = un4 b 4 := ⟨_, rfl⟩
    rw [← hX] at HG x0 x1
    by_cases hs10 : s ≤ 1010
    · by_cases hs1 : 1 ≤ s
      · obtain ⟨p', hsl, hsub, _⟩ := h.sl.sub Tryd.underlying37 sizeBytes 6 (6 + s) .i64 .i64 (by omega) (by omega)
        rw [show 6 + s - 6 = s from by omega] at hsl hsub
        have hsl' : ∀ W, (Instr.slice 37 (.slice p 1016 c) (some (.int .i64 6)) (some (.int .i64 (6 + (s : Int)))) none).run Tryd.prog W = .ok (.slice p' s (c - 6)) W := fun W => hsl W
        have HSUB : Hid (Sl w 1 p' s (c - 6) (bs (flOut b))) := by
          have e : ((bs b).drop (6 * 1)).take (s * 1) = bs (flOut b) := by unfold flOut; rw [hs]; simp [bs, List.map_take, List.map_drop]
          unfold Hid; rw [← e]; exact hsub
        have HOL : Hid ((flOut b).length = s) := by unfold Hid flOut; rw [hs, List.length_take, List.length_drop]; simp; omega
        have HOW : Hid (∀ x ∈ flOut b, 0 ≤ x ∧ x < 256) := fun x hx => h.wf x (List.mem_of_mem_drop (List.mem_of_mem_take hx))
        have HGD : Hid (flGood b ↔ linkOk X (flOut b) ∧ linkL X (flOut b) ++ List.replicate (1016 - (linkL X (flOut b)).length) 0 = b) := by
          unfold Hid flGood
          rw [hbl, ← hX, hs]
          exact ⟨fun ⟨_, _, h1, h2⟩ => ⟨h1, h2.symm⟩, fun ⟨h1, h2⟩ => ⟨rfl, by omega, h1, h2.symm⟩⟩
        have HY : Hid (flGood b → fromLinkL b = (X, flOut b, 0)) := fun h => by rw [fromLink_yes h, hX]
        have hw6 : IntKind.i64.wrap (6 + (s : Int)) = 6 + (s : Int) := IntWalk.i64_in _ (by omega)
        have hwX : IntKind.i64.wrap X = X := IntWalk.i64_in _ (by omega)
        have HB := Lib.hid hbl
        have hg1 : ¬ ((1010 : Int) < (s : Int)) := by omega
        have hg2 : ((s : Int) < 1) = False := by simp; omega
        have hg3 : (1 : Int) ≤ (s : Int) := by omega
        clear h hbl r0 hX hs hsl hsub hle x0 x1 r1
        generalize flOut b = O at *
        obtain ⟨i0, hi0, hz0, hz1, hz2⟩ := info_parts infoU8
        go_enter Tryd.func15, Tryd.ntmps15
        go_wp2_with fail
        refine (HSH _ (Mod.refl _ _)).out.mono ?_
        rintro _ w1 ⟨_, rfl, rfl, m1⟩
        have M1 := Lib.hid m1
        clear m1
        go_wp2_with fail
        refine (HSH _ M1.out).out.mono ?_
        rintro _ w2 ⟨_, rfl, rfl, m2⟩
        have M3 := Lib.hid (M1.out.same m2)
        clear M1 m2
        go_wp2_with fail
        refine (HG _ M3.out).out.mono ?_
        rintro _ w3 ⟨_, rfl, rfl, rfl⟩
        have OT : Hid (Tl (w3.alloc (.cells #[] 5)) w3.heap.size 1 (some ⟨w3.heap.size, 0, none⟩) 0 0 (bs [])) := Tl.of_own (own_row w3 [] _ _ (Nat.le_refl _) (by simp)) (by simp [bs])
        have MC : Hid (Mod [] w3 (w3.alloc (.cells #[] 5))) := Mod.of_alloc w3 _
        go_wp2_with fail
        refine (HSH _ (M3.out.same MC.out)).out.mono ?_
        rintro _ w4 ⟨_, rfl, rfl, m4⟩
        replace MC := Lib.hid (MC.out.same m4)
        replace OT := Lib.hid (OT.out.mod m4 (by simp))
        have S4 := Lib.hid (HSUB.out.mod (M3.out.same MC.out) (by simp))
        have L4 := MC.out.size
        clear m4 HG HSH
        go_wp2_with (first
          | (at_builtin; (refine wpList_append_tl _ rfl _ _ _ rfl w3.heap.size 5 i0 _ 1 1 Tryd.underlying37 hi0 hz0 hz1 hz2 rfl (by omega) _ _ _ _ rfl OT.out _ _ _ _ rfl S4.out s (by omega) (by unfold maxLen; omega) (by omega) L4 ?_); intro o1 d1 w5 ht1 hm1 hnil1 hor1; (replace MC := Lib.hid (OT.out.turned (w2 := w3) rfl hm1 MC.out)); (replace OT := Lib.hid ht1); clear ht1 hm1 hnil1 hor1)
          | fail)
        have M5 : Hid (Mod [] w w5) := M3.out.same MC.out
        have BO : Hid (BytesIn w5 o1 s d1 O) := ⟨OT.out.sl, HOW.out⟩
        have HLK := Lib.hid (qlink_any o1 s d1 O X w5 BO.out)
        unfold PayT at HLK
        clear OT MC M3 S4 L4
        refine HLK.out.mono ?_
        rintro _ w6 ⟨_, rfl, p7, n7, c7, rfl, e7, z7, t7, m7⟩
        have E7 := Lib.hid e7
        have Z7 := Lib.hid z7
        have T7 := Lib.hid t7
        have M57 := Lib.hid m7
        clear e7 z7 t7 m7 HLK
        by_cases h7 : n7 = 0
        · have HNO : Hid (¬ flGood b) := fun h => by
            have := (HGD.out.1 h).1
            have e := E7.out
            rw [linkL_of this, h7, List.length_append, be_len] at e; omega
          subst h7
          go_wp2
          go_ret3
          exact .mk (FLR.no HNO.out (M5.out.same M57.out))
        · have hne : ((n7 : Int) == 0) = false := by simp; omega
          have hn24 : n7 ≤ 1016 := by rw [E7.out]; exact linkL_len _ _
          have HOK : Hid (linkOk X O) := by
            by_cases hk : linkOk X O
            · exact hk
            · have e := E7.out; rw [linkL_no hk] at e; exact absurd e h7
          rw [← E7.out] at HGD
          generalize linkL X O = PP at *
          obtain ⟨BS, hBS⟩ : ∃ BS, BS = w5.heap.size := ⟨_, rfl⟩
          have HBS := Lib.hid hBS
          rw [← hBS] at T7
          clear hBS
          go_wp2
          go_loopw [7] (fun o wz => ∃ (m e : Nat) (u : Option Addr), m ≤ 1016 ∧ o = .slice u m e ∧ n7 ≤ m ∧ Tl wz BS 1 u m e (bs (PP ++ List.replicate (m - n7) 0)) ∧ Mod [] w5 wz) (fun o _ => match o with | .slice _ m _ => 1016 - m | _ => 0)
          case atStart => exact ⟨n7, c7, p7, hn24, rfl, Nat.le_refl _, by simpa using T7.out, M57.out⟩
          case round =>
            clear T7 M57
            obtain ⟨m, e, u, hm, rfl, hnm, ht, hmd⟩ := hrel
            have OT := Lib.hid ht
            have MC := Lib.hid hmd
            clear ht hmd
            by_cases hlt : m < 1016
            · have OT2 : Hid (Tl (wr.alloc (.cells #[.int .u8 0] 5)) BS 1 u m e (bs (PP ++ List.replicate (m - n7) 0))) := OT.out.mod (Mod.of_alloc wr _) (by simp)
              have MC2 : Hid (Mod [] w5 (wr.alloc (.cells #[.int .u8 0] 5))) := MC.out.alloc
              have HS5 : Hid (Sl (wr.alloc (.cells #[.int .u8 0] 5)) 1 (some ⟨wr.heap.size, 0, none⟩) 1 1 [.int .u8 0]) := Sl.one_new wr _ _ rfl
              have hs2 : BS ≤ (wr.alloc (.cells #[.int .u8 0] 5)).heap.size := by rw [HBS.out]; exact MC2.out.size
              go_wp2_with (first
                | (at_builtin; go_must (refine wpList_append_tl _ rfl _ _ _ rfl BS 5 i0 _ 1 1 Tryd.underlying37 hi0 hz0 hz1 hz2 rfl (by omega) _ _ _ _ rfl OT2.out _ _ _ _ rfl HS5.out (m + 1) rfl (by unfold maxLen; omega) (by omega) hs2 ?_); intro p9 c9 w9 ht9 hm9 hnil9 hor9; (have OT9 := Lib.hid ht9); (have MC9 := Lib.hid (OT2.out.turned (w2 := w) (w0 := w5) HBS.out.symm hm9 MC2.out)); clear ht9 hm9 hnil9 hor9)
                | go_in)
              go_roundw
              case rel => exact ⟨m + 1, c9, p9, by omega, rfl, by omega, by
                have := OT9.out
                rw [show m + 1 - n7 = (m - n7) + 1 from by omega, List.replicate_succ', ← List.append_assoc, bs_append]
                exact this, MC9.out⟩
              case measure => show 1016 - (m + 1) < 1016 - m; omega
            · obtain rfl : m = 1016 := by omega
              have HB1 := Lib.hid (H.out.sl.mod (M5.out.same MC.out) (by simp))
              go_wp2_with fail
              refine (qsame_any _ _ _ _ _ _ (PP ++ List.replicate (1016 - n7) 0) b _ OT.out.sl HB1.out).mono ?_
              rintro _ w10 ⟨_, rfl, rfl, hm10⟩
              have MC10 : Hid (Mod [] w5 w10) := MC.out.same hm10
              clear hm10
              obtain ⟨D, hD⟩ : ∃ D, D = decide (PP ++ List.replicate (1016 - n7) 0 = b) := ⟨_, rfl⟩
              rw [← hD]
              have HD := Lib.hid hD
              clear hD
              cases D with
              | false =>
                have HNO : Hid (¬ flGood b) := fun h => by
                  have h1 := (HGD.out.1 h).2
                  have h2 := HD.out
                  rw [decide_eq_true h1] at h2; cases h2
                go_wp2
                go_ret3
                exact .mk (FLR.no HNO.out (M5.out.same MC10.out))
              | true =>
                have HYE := Lib.hid (HY.out (HGD.out.2 ⟨HOK.out, of_decide_eq_true HD.out.symm⟩))
                go_wp2
                go_ret3
                exact .mk (by rw [HYE.out]; exact ⟨o1, s, d1, rfl, ⟨BO.out.sl.mod MC10.out (by simp), BO.out.wf⟩, M5.out.same MC10.out⟩)
      · have HNO : Hid (¬ flGood b) := fun h => by
          have h1 := h.2.2.1.1
          unfold flOut at h1
          rw [List.length_take, hs] at h1; simp at h1; omega
        obtain rfl : s = 0 := by omega
        clear h hbl r0 hX hs hs10 hs1 hle HG x0 x1 r1
        go_enter Tryd.func15, Tryd.ntmps15
        go_wp2_with fail
        refine (HSH _ (Mod.refl _ _)).out.mono ?_
        rintro _ w1 ⟨_, rfl, rfl, m1⟩
        have M1 := Lib.hid m1
        clear m1
        go_wp2_with fail
        refine (HSH _ M1.out).out.mono ?_
        rintro _ w2 ⟨_, rfl, rfl, m2⟩
        have M2 := Lib.hid (M1.out.same m2)
        clear m2 HSH
        go_wp2
        go_ret3
        exact .mk (FLR.no HNO.out M2.out)
    · have HNO : Hid (¬ flGood b) := fun h => by have := h.2.1; omega
      have hgt : ((1010 : Int) < (s : Int)) := by omega
      clear h hbl r0 hX hs hs10 hle HG x0 x1 r1
      go_enter Tryd.func15, Tryd.ntmps15
      go_wp2_with fail
      refine (HSH _ (Mod.refl _ _)).out.mono ?_
      rintro _ w1 ⟨_, rfl, rfl, m1⟩
      have M1 := Lib.hid m1
      clear m1 HSH
      go_wp2
      go_ret3
      exact .mk (FLR.no HNO.out M1.out)
  · have hb : ((n : Int) != 1016) = true := by simp; omega
    have HNO : Hid (¬ flGood b) := fun hg => hn (by rw [← h.len]; exact hg.1)
    clear hn h
    go_enter Tryd.func15, Tryd.ntmps15
    go_wp2
    go_ret3
    exact .mk (FLR.no HNO.out (Mod.refl _ _))
end Go.Proofs.YtbogdjjeipdbaaaDoor
