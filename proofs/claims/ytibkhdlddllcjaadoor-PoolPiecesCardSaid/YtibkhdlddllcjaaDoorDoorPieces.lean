/- PoolPieces: what the law's function returns. -/
import Derived.Test.YtibkhdlddllcjaaDoorDoorTells
namespace Go.Proofs.YtibkhdlddllcjaaDoor
open Go.RowKit Go.Maps
set_option linter.unusedSimpArgs false
set_option linter.unusedVariables false

theorem pcs_cover {n i : Nat} (h : i < pcs n) : i = 0 ∨ 84 * i < n := by unfold pcs at h; split at h <;> omega
theorem pcs_all (n : Nat) : n ≤ 84 * pcs n := by unfold pcs; split <;> omega
theorem mayL_sub {l : List (Int × Int)} {a b : Nat} (h : ∀ j, a ≤ j → j < b → j < l.length → mayPg (l.getD j (0, 0)).1 = true) : mayL ((l.drop a).take (b - a)) = true := by
  unfold mayL
  rw [List.all_eq_true]
  intro q hq
  obtain ⟨j, hj, rfl⟩ := List.mem_iff_getElem.1 hq
  rw [List.length_take, List.length_drop] at hj
  have := h (a + j) (by omega) (by omega) (by omega)
  rw [getD_at (by omega)] at this
  simpa using this

theorem freed_sub {w : World} {p : Option Addr} {n c : Nat} {l : List (Int × Int)} (h : Sl w 2 p n c (fcells l)) (lo hi k : Nat) (hk : lo + k = hi) (h1 : hi ≤ n) :
    ∃ p', (∀ W, (Instr.slice 22 (.slice p n c) (some (.int .i64 lo)) (some (.int .i64 hi)) none).run Tryd.prog W = .ok (.slice p' k (c - lo)) W) ∧ Sl w 2 p' k (c - lo) (fcells ((l.drop lo).take k)) := by
  obtain ⟨p', r, s, _⟩ := h.sub Tryd.underlying22 sizeFreed lo hi .i64 .i64 (by omega) h1
  rw [show hi - lo = k from by omega] at r s
  refine ⟨p', r, ?_⟩
  rwa [fcells_drop, fcells_take] at s
set_option maxRecDepth 100000 in
set_option maxHeartbeats 8000000 in
theorem pieces_law (p : Option Addr) (n c : Nat) (l : List (Int × Int)) (w : World) (hl : FreedIn w p n c l) :
    Calls Tryd.prog 4 #[.slice p n c] w (Ret (TrueR w)) := by
  have HL := Lib.hid hl.sl
  have HG : Hid (∀ x ∈ l, 0 ≤ x.2 ∧ x.2 < 18446744073709551616) := fun x hx => (hl.wf x hx).2
  have HLN := Lib.hid hl.len
  have hcm := hl.sl.capm; have hle := hl.sl.le
  unfold maxLen at hcm
  clear hl
  by_cases hn : n ≤ 300
  · have hgt : ((300 : Int) < (n : Int)) = False := by simp; omega
    obtain ⟨N, hN⟩ : ∃ N, N = pcs n := ⟨_, rfl⟩
    have hN4 : N ≤ 4 := by rw [hN]; unfold pcs; split <;> omega
    have HN := Lib.hid hN
    obtain ⟨i0, hi0, hz0, hz1, hz2⟩ := info_parts infoFreed
    obtain ⟨j0, hj0, hjz, hj1, hj2⟩ := info_parts infoU8
    go_enter Tryd.func4, Tryd.ntmps4
    go_wp2_with fail
    refine (awake_any _).mono ?_
    rintro _ w1 ⟨_, rfl, rfl, m1⟩
    have M1 := Lib.hid m1
    clear m1
    go_wp2_with fail
    refine (pieces_any n _ (by omega)).mono ?_
    rintro _ w1 ⟨_, rfl, rfl, rfl⟩
    rw [← hN]
    clear hN
    go_wp2
    go_loopw [4, 5] (fun o i wr => ∃ (k m d : Nat) (q : Option Addr), k ≤ N ∧ i = .int .i64 k ∧ o = .slice q m d ∧ m = min (84 * k) n ∧ wr.ownsRow w.heap.size 35 2 (.slice q m d) m (fcells (l.take (84 * k))) ∧ Mod [] w wr) (fun _ i _ => N - (intOf i).toNat)
    case atStart => exact ⟨0, 0, 0, none, by omega, rfl, rfl, by omega, World.ownsRow_nil _ _ _ _, M1.out⟩
    case round =>
      clear M1
      obtain ⟨k, m, d, q, hk, rfl, rfl, hm, hown, hmd⟩ := hrel
      have HO := Lib.hid hown
      have MC := Lib.hid hmd
      have HM := Lib.hid hm
      have hm300 : m ≤ 300 := by omega
      clear hown hmd hm
      by_cases hlt : k < N
      · have hcov := Lib.hid (pcs_cover (n := n) (i := k) (by rw [← HN.out]; exact hlt))
        obtain ⟨J, hJ⟩ : ∃ J : Nat, J = 84 * k := ⟨_, rfl⟩
        have hw1 : IntKind.i64.wrap (84 * (k : Int)) = (J : Int) := by rw [IntWalk.i64_in _ (by omega)]; omega
        have hJn : J ≤ n := by have := hcov.out; omega
        have hw2 : IntKind.i64.wrap ((J : Int) + 84) = ((J + 84 : Nat) : Int) := by rw [IntWalk.i64_in _ (by omega)]; omega
        have hw3 : IntKind.i64.wrap ((k : Int) + 1) = ((k + 1 : Nat) : Int) := by rw [IntWalk.i64_in _ (by omega)]; omega
        have hmin1 : ((J : Int) ≤ (n : Int)) = True := by simp; omega
        obtain ⟨E, hE⟩ : ∃ E : Nat, E = J + 84 := ⟨_, rfl⟩
        obtain ⟨K1, hK1⟩ : ∃ K1 : Nat, K1 = k + 1 := ⟨_, rfl⟩
        rw [← hE] at hw2
        rw [← hK1] at hw3
        have HJ := Lib.hid hJ
        have HE := Lib.hid hE
        have HK1 := Lib.hid hK1
        clear hJ hE hK1
        have HMJ : Hid (m = J) := by have := HM.out; have := HJ.out; unfold Hid; omega
        by_cases hEn : E ≤ n
        · have hmin2 : ((E : Int) ≤ (n : Int)) = True := by simp; omega
          have hJE : J ≤ E := by have := HE.out; omega
          obtain ⟨D, hD⟩ : ∃ D, D = E - J := ⟨_, rfl⟩
          have hDT : J + D = E := by omega
          have hTn : E ≤ n := by omega
          obtain ⟨q2, r2, s2⟩ := freed_sub HL.out J E D hDT hTn
          have HD := Lib.hid hDT
          have H2 := Lib.hid s2
          have HPOS : Hid (D = 0 → n = 0) := by have := hcov.out; have := HJ.out; have := HE.out; intro h0; omega
          have hD84 : D ≤ 84 := by have := HE.out; omega
          have hLD : Hid (((l.drop J).take D).length = D) := by unfold Hid; rw [List.length_take, List.length_drop, HLN.out]; omega
          have HNEXT : Hid (E = min (84 * (k + 1)) n ∧ l.take (84 * (k + 1)) = l.take J ++ (l.drop J).take D) := by
            have e1 := HE.out; have e2 := HJ.out
            refine ⟨by omega, ?_⟩
            rw [← List.take_add, hDT]
            rcases Nat.lt_or_ge n (84 * (k + 1)) with h | h
            · rw [List.take_of_length_le (by rw [HLN.out]; omega), List.take_of_length_le (by rw [HLN.out]; omega)]
            · rw [show E = 84 * (k + 1) from by omega]
          clear s2 hD hDT
          go_wp2_with fail
          have hG2 : ∀ x ∈ (l.drop J).take D, 0 ≤ x.2 ∧ x.2 < 18446744073709551616 := fun x hx => HG.out x (List.mem_of_mem_drop (List.mem_of_mem_take hx))
          have HG2 := Lib.hid hG2
          clear hG2
          refine (pay_any q2 D (c - J) ((l.drop J).take D) (K1 : Int) _ (H2.out.mod MC.out (by simp)) HG2.out).mono ?_
          rintro _ w2 ⟨_, rfl, p2, n2, c2, rfl, e2, nil2, s2, m2⟩
          have M2 : Hid (Mod [] w w2) := MC.out.same m2
          have HO2 : Hid (w2.ownsRow w.heap.size 35 2 (.slice q m d) m (fcells (l.take (84 * k)))) := own_mod HO.out m2
          have S2 := Lib.hid s2
          have E2 := Lib.hid e2
          have HKM : Hid (mayPg (K1 : Int) = true) := by have := HK1.out; unfold Hid mayPg; simp; omega
          have hle2 : n2 ≤ 1014 := by rw [e2]; exact payO_len _ _
          clear nil2 s2 m2 e2 MC HO
          rcases Nat.eq_zero_or_pos n2 with h2 | h2
          · subst h2
            obtain ⟨b, off, hp, hcs⟩ := HL.out.at_
            have hidx := fun W => Sl.idx (P := Tryd.prog) (cap := c) Tryd.underlying22 sizeFreed (fun h => (hp h).1) W .i64
            have HLT : Hid (0 < n → b < w.heap.size) := fun h => (hp h).2
            have HCS := Lib.hid hcs
            clear hp hcs r2
            go_wp2
            go_loopw [9] (fun i wz => ∃ x : Nat, J ≤ x ∧ x ≤ E ∧ i = .int .i64 x ∧ (∀ j, J ≤ j → j < x → mayPg (l.getD j (0, 0)).1 = true) ∧ wz = w2) (fun i _ => E - (intOf i).toNat)
            case atStart => exact ⟨J, Nat.le_refl _, by have := HD.out; omega, rfl, by omega, rfl⟩
            case round =>
              obtain ⟨x, hx1, hx2, rfl, hall, rfl⟩ := hrel
              have HA := Lib.hid hall
              clear hall
              by_cases hlt2 : x < E
              · have hxl : x < l.length := by rw [HLN.out]; omega
                have hxn : x < n := by omega
                obtain ⟨g1, g2⟩ := fcells_get l x hxl
                have d0 := HCS.out _ _ g1
                rw [← M2.out.cell (a := ⟨b, _, none⟩) (HLT.out (by omega)) (by simp)] at d0
                have hidx2 := fun W => hidx W x hxn
                obtain ⟨X, hX⟩ : ∃ X, X = (l.getD x (0, 0)).1 := ⟨_, rfl⟩
                rw [← hX] at d0
                have HX := Lib.hid hX
                clear hX g1 g2 hxl hidx
                by_cases hX0 : X < 0
                · have hb : decide (X < 0) = true := decide_eq_true hX0
                  go_wp2
                  go_ret
                  exact .mk ⟨rfl, M2.out⟩
                · have hb : decide (X < 0) = false := decide_eq_false hX0
                  by_cases hX1 : 2147483647 < X
                  · have hb1 : decide (2147483647 < X) = true := decide_eq_true hX1
                    go_wp2
                    go_ret
                    exact .mk ⟨rfl, M2.out⟩
                  · have hb1 : decide (2147483647 < X) = false := decide_eq_false hX1
                    go_wp2
                    go_roundw
                    case rel => exact ⟨x + 1, by omega, by omega, by go_num, (fun j h1 h2 => by
                      rcases Nat.lt_succ_iff_lt_or_eq.1 h2 with h | rfl
                      · exact HA.out j h1 h
                      · rw [← HX.out]; unfold mayPg; exact decide_eq_true (by omega)), by first | rfl | trivial⟩
                    case measure => simp [intOf]; omega
              · exfalso
                have hmay : mayPay ((l.drop J).take D) (K1 : Int) = true := by
                  have h1 := mayL_sub (l := l) (a := J) (b := E) (fun j h1 h2 _ => HA.out j h1 (by omega))
                  rw [show E - J = D from by have := HD.out; omega] at h1
                  unfold mayPay
                  rw [h1, HKM.out, decide_eq_true (by rw [hLD.out]; exact hD84)]; rfl
                have := E2.out
                have h3 : payO ((l.drop J).take D) (K1 : Int) = [] := List.eq_nil_of_length_eq_zero this.symm
                rw [payO_nil, hmay] at h3; cases h3
          · have hne : ((n2 : Int) == 0) = false := by simp; omega
            have hw : IntKind.i64.wrap (1016 - (n2 : Int)) = ((1016 - n2 : Nat) : Int) := by rw [IntWalk.i64_in _ (by omega)]; omega
            have T8 : Hid (Tl (w2.alloc (.cells #[] 5)) w2.heap.size 1 (some ⟨w2.heap.size, 0, none⟩) 0 0 []) := Tl.of_own (own_row w2 [] _ _ (Nat.le_refl _) (by simp)) (by simp)
            have S8 : Hid (Sl (w2.alloc (.cells #[] 5)) 1 p2 n2 c2 (bs (payO ((l.drop J).take D) (K1 : Int)))) := S2.out.mod (Mod.of_alloc w2 _) (by simp)
            have hs8 : w2.heap.size ≤ (w2.alloc (.cells #[] 5)).heap.size := (Mod.of_alloc w2 _).size
            obtain ⟨z, hz⟩ : ∃ z, z = 1016 - n2 := ⟨_, rfl⟩
            rw [← hz] at hw
            have hzn : n2 + z = 1016 := by omega
            have HZ := Lib.hid hzn
            have hmay : Hid (mayPay ((l.drop J).take D) (K1 : Int) = true) := by
              unfold Hid
              cases hmy : mayPay ((l.drop J).take D) (K1 : Int)
              · exfalso
                have := payO_nil.2 hmy
                have h3 := E2.out
                rw [this] at h3; simp at h3; omega
              · rfl
            clear hz hzn S2 r2
            go_wp2_with (first
              | (at_builtin; (refine wpList_append_tl _ rfl _ _ _ rfl w2.heap.size 5 j0 _ 1 1 Tryd.underlying23 hj0 hjz hj1 hj2 rfl (by omega) _ _ _ _ rfl T8.out _ _ _ _ rfl S8.out n2 (by omega) (by unfold maxLen; omega) (by omega) hs8 ?_); intro p9 c9 w9 ht9 hm9 hnil9 hor9; (have T9 := Lib.hid ht9); (have M9 : Hid (Mod [] w2 w9) := T8.out.turned (w2 := w2) (w0 := w2) rfl hm9 (Mod.of_alloc w2 _)); (have hs9 := M9.out.size); clear ht9 hm9 hnil9 hor9)
              | (at_builtin; (refine wpList_append_zeros_tl _ rfl _ _ _ _ rfl w2.heap.size 5 j0 Tryd.underlying23 Tryd.underlying3 hj0 hjz hj1 hj2 _ _ _ (payO ((l.drop J).take D) (K1 : Int)) rfl T9.out z rfl 1016 HZ.out (by omega) hs9 ?_); intro p10 c10 w10 ht10 hm10 hnil10; (have T10 := Lib.hid ht10); (have M10 : Hid (Mod [] w2 w10) := T9.out.turned (w2 := w2) (w0 := w2) rfl hm10 M9.out); clear ht10 hm10 hnil10)
              | fail)
            have W10 : Hid (BytesIn w10 p10 1016 c10 (pad 1016 (payO ((l.drop J).take D) (K1 : Int)))) := ⟨by
              have := T10.out.sl
              rwa [pad_eq _ _ (by rw [← E2.out]; have := HZ.out; omega)] at this, fun x hx => by
              unfold pad at hx
              rcases List.mem_append.1 hx with hx | hx
              · exact payO_wf _ _ x hx
              · rw [List.eq_of_mem_replicate hx]; omega⟩
            have HF := Lib.hid (fromP_payO hmay.out HG2.out)
            refine (from_any p10 1016 c10 _ _ W10.out).mono ?_
            rintro _ w11 ⟨_, rfl, p11, n11, c11, rfl, e11, s11, m11⟩
            rw [HF.out] at s11 e11 ⊢
            obtain rfl : n11 = D := by rw [e11]; exact hLD.out
            have M11 : Hid (Mod [] w w11) := (M2.out.same M10.out).same m11
            have S11 := Lib.hid s11
            have HO11 : Hid (w11.ownsRow w.heap.size 35 2 (.slice q m d) m (fcells (l.take (84 * k)))) := own_mod (own_mod HO2.out M10.out) m11
            have hs11 : w.heap.size ≤ w11.heap.size := M11.out.size
            clear e11 s11 m11 T8 T9 T10 W10 HO2 M2 M9 M10 hs8 hs9 S8
            have HAPP : Hid (∀ (p' : Option Addr) (N9 c' : Nat) (w' : World), N9 = m + n11 → w'.ownsRow w.heap.size 35 2 (.slice p' N9 c') N9 (fcells (l.take (84 * k)) ++ fcells ((l.drop J).take n11)) → N9 = min (84 * K1) n ∧ w'.ownsRow w.heap.size 35 2 (.slice p' N9 c') N9 (fcells (l.take (84 * K1)))) := by
              intro p' N9 c' w' h1 h2
              rw [HK1.out]
              refine ⟨by rw [← HNEXT.out.1, h1, HMJ.out]; exact HD.out, ?_⟩
              rw [HNEXT.out.2, fcells_append, HJ.out]
              rw [HJ.out] at h2
              exact h2
            rcases Nat.eq_zero_or_pos n11 with hD0 | hD0
            · have hn0 := HPOS.out hD0
              subst hD0
              have hbn : ((0 : Int) < (n : Int)) = False := by simp; omega
              have hbn2 : (0 < n) = False := by simp; omega
              clear hn0
              go_wp2_with (first
                | (at_builtin; go_must (refine wpList_append_src _ rfl _ _ _ rfl w.heap.size 35 i0 _ 2 16 Tryd.underlying22 hi0 hz0 hz1 hz2 rfl (by omega) (.slice q m d) m (fcells (l.take (84 * k))) rfl HO11.out _ _ _ _ rfl S11.out m rfl (by unfold maxLen; omega) (by omega) hs11 ?_); intro p12 c12 w12 hown12 hgrow12 hnil12 hlie12; (have HO12 := Lib.hid hown12); (have HG12 := Lib.hid hgrow12); clear hown12 hgrow12 hnil12 hlie12)
                | go_in)
              go_roundw
              case rel => exact ⟨K1, m, c12, p12, by have := HK1.out; omega, rfl, rfl, (HAPP.out p12 m c12 w12 rfl HO12.out).1, (HAPP.out p12 m c12 w12 rfl HO12.out).2, M11.out.trans (Mod.of_grown' HG12.out) (fun b hb => Or.inr (by
                have := own_base HO11.out b (by simpa using hb); omega))⟩
              case measure => have := HK1.out; simp [intOf]; omega
            · have hbn : ((n11 : Int) == 0) = false := by simp; omega
              have hsum : m + n11 ≤ 300 := by have := HD.out; have := HMJ.out; omega
              go_wp2_with (first
                | (at_builtin; go_must (refine wpList_append_src _ rfl _ _ _ rfl w.heap.size 35 i0 _ 2 16 Tryd.underlying22 hi0 hz0 hz1 hz2 rfl (by omega) (.slice q m d) m (fcells (l.take (84 * k))) rfl HO11.out _ _ _ _ rfl S11.out (m + n11) rfl (by unfold maxLen; omega) (by omega) hs11 ?_); intro p12 c12 w12 hown12 hgrow12 hnil12 hlie12; (have HO12 := Lib.hid hown12); (have HG12 := Lib.hid hgrow12); clear hown12 hgrow12 hnil12 hlie12)
                | go_in)
              go_roundw
              case rel => exact ⟨K1, m + n11, c12, p12, by have := HK1.out; omega, rfl, rfl, (HAPP.out p12 (m + n11) c12 w12 rfl HO12.out).1, (HAPP.out p12 (m + n11) c12 w12 rfl HO12.out).2, M11.out.trans (Mod.of_grown' HG12.out) (fun b hb => Or.inr (by
                have := own_base HO11.out b (by simpa using hb); omega))⟩
              case measure => have := HK1.out; simp [intOf]; omega
        · have hmin2 : ((E : Int) ≤ (n : Int)) = False := by simp; omega
          obtain ⟨D, hD⟩ : ∃ D, D = n - J := ⟨_, rfl⟩
          have hDT : J + D = n := by omega
          have hTn : n ≤ n := by omega
          obtain ⟨q2, r2, s2⟩ := freed_sub HL.out J n D hDT hTn
          have HD := Lib.hid hDT
          have H2 := Lib.hid s2
          have HPOS : Hid (D = 0 → n = 0) := by have := hcov.out; have := HJ.out; have := HE.out; intro h0; omega
          have hD84 : D ≤ 84 := by have := HE.out; omega
          have hLD : Hid (((l.drop J).take D).length = D) := by unfold Hid; rw [List.length_take, List.length_drop, HLN.out]; omega
          have HNEXT : Hid (n = min (84 * (k + 1)) n ∧ l.take (84 * (k + 1)) = l.take J ++ (l.drop J).take D) := by
            have e1 := HE.out; have e2 := HJ.out
            refine ⟨by omega, ?_⟩
            rw [← List.take_add, hDT]
            rcases Nat.lt_or_ge n (84 * (k + 1)) with h | h
            · rw [List.take_of_length_le (by rw [HLN.out]; omega), List.take_of_length_le (by rw [HLN.out]; omega)]
            · rw [show n = 84 * (k + 1) from by omega]
          clear s2 hD hDT
          go_wp2_with fail
          have hG2 : ∀ x ∈ (l.drop J).take D, 0 ≤ x.2 ∧ x.2 < 18446744073709551616 := fun x hx => HG.out x (List.mem_of_mem_drop (List.mem_of_mem_take hx))
          have HG2 := Lib.hid hG2
          clear hG2
          refine (pay_any q2 D (c - J) ((l.drop J).take D) (K1 : Int) _ (H2.out.mod MC.out (by simp)) HG2.out).mono ?_
          rintro _ w2 ⟨_, rfl, p2, n2, c2, rfl, e2, nil2, s2, m2⟩
          have M2 : Hid (Mod [] w w2) := MC.out.same m2
          have HO2 : Hid (w2.ownsRow w.heap.size 35 2 (.slice q m d) m (fcells (l.take (84 * k)))) := own_mod HO.out m2
          have S2 := Lib.hid s2
          have E2 := Lib.hid e2
          have HKM : Hid (mayPg (K1 : Int) = true) := by have := HK1.out; unfold Hid mayPg; simp; omega
          have hle2 : n2 ≤ 1014 := by rw [e2]; exact payO_len _ _
          clear nil2 s2 m2 e2 MC HO
          rcases Nat.eq_zero_or_pos n2 with h2 | h2
          · subst h2
            obtain ⟨b, off, hp, hcs⟩ := HL.out.at_
            have hidx := fun W => Sl.idx (P := Tryd.prog) (cap := c) Tryd.underlying22 sizeFreed (fun h => (hp h).1) W .i64
            have HLT : Hid (0 < n → b < w.heap.size) := fun h => (hp h).2
            have HCS := Lib.hid hcs
            clear hp hcs r2
            go_wp2
            go_loopw [9] (fun i wz => ∃ x : Nat, J ≤ x ∧ x ≤ n ∧ i = .int .i64 x ∧ (∀ j, J ≤ j → j < x → mayPg (l.getD j (0, 0)).1 = true) ∧ wz = w2) (fun i _ => n - (intOf i).toNat)
            case atStart => exact ⟨J, Nat.le_refl _, by have := HD.out; omega, rfl, by omega, rfl⟩
            case round =>
              obtain ⟨x, hx1, hx2, rfl, hall, rfl⟩ := hrel
              have HA := Lib.hid hall
              clear hall
              by_cases hlt2 : x < n
              · have hxl : x < l.length := by rw [HLN.out]; omega
                have hxn : x < n := by omega
                obtain ⟨g1, g2⟩ := fcells_get l x hxl
                have d0 := HCS.out _ _ g1
                rw [← M2.out.cell (a := ⟨b, _, none⟩) (HLT.out (by omega)) (by simp)] at d0
                have hidx2 := fun W => hidx W x hxn
                obtain ⟨X, hX⟩ : ∃ X, X = (l.getD x (0, 0)).1 := ⟨_, rfl⟩
                rw [← hX] at d0
                have HX := Lib.hid hX
                clear hX g1 g2 hxl hidx
                by_cases hX0 : X < 0
                · have hb : decide (X < 0) = true := decide_eq_true hX0
                  go_wp2
                  go_ret
                  exact .mk ⟨rfl, M2.out⟩
                · have hb : decide (X < 0) = false := decide_eq_false hX0
                  by_cases hX1 : 2147483647 < X
                  · have hb1 : decide (2147483647 < X) = true := decide_eq_true hX1
                    go_wp2
                    go_ret
                    exact .mk ⟨rfl, M2.out⟩
                  · have hb1 : decide (2147483647 < X) = false := decide_eq_false hX1
                    go_wp2
                    go_roundw
                    case rel => exact ⟨x + 1, by omega, by omega, by go_num, (fun j h1 h2 => by
                      rcases Nat.lt_succ_iff_lt_or_eq.1 h2 with h | rfl
                      · exact HA.out j h1 h
                      · rw [← HX.out]; unfold mayPg; exact decide_eq_true (by omega)), by first | rfl | trivial⟩
                    case measure => simp [intOf]; omega
              · exfalso
                have hmay : mayPay ((l.drop J).take D) (K1 : Int) = true := by
                  have h1 := mayL_sub (l := l) (a := J) (b := n) (fun j h1 h2 _ => HA.out j h1 (by omega))
                  rw [show n - J = D from by have := HD.out; omega] at h1
                  unfold mayPay
                  rw [h1, HKM.out, decide_eq_true (by rw [hLD.out]; exact hD84)]; rfl
                have := E2.out
                have h3 : payO ((l.drop J).take D) (K1 : Int) = [] := List.eq_nil_of_length_eq_zero this.symm
                rw [payO_nil, hmay] at h3; cases h3
          · have hne : ((n2 : Int) == 0) = false := by simp; omega
            have hw : IntKind.i64.wrap (1016 - (n2 : Int)) = ((1016 - n2 : Nat) : Int) := by rw [IntWalk.i64_in _ (by omega)]; omega
            have T8 : Hid (Tl (w2.alloc (.cells #[] 5)) w2.heap.size 1 (some ⟨w2.heap.size, 0, none⟩) 0 0 []) := Tl.of_own (own_row w2 [] _ _ (Nat.le_refl _) (by simp)) (by simp)
            have S8 : Hid (Sl (w2.alloc (.cells #[] 5)) 1 p2 n2 c2 (bs (payO ((l.drop J).take D) (K1 : Int)))) := S2.out.mod (Mod.of_alloc w2 _) (by simp)
            have hs8 : w2.heap.size ≤ (w2.alloc (.cells #[] 5)).heap.size := (Mod.of_alloc w2 _).size
            obtain ⟨z, hz⟩ : ∃ z, z = 1016 - n2 := ⟨_, rfl⟩
            rw [← hz] at hw
            have hzn : n2 + z = 1016 := by omega
            have HZ := Lib.hid hzn
            have hmay : Hid (mayPay ((l.drop J).take D) (K1 : Int) = true) := by
              unfold Hid
              cases hmy : mayPay ((l.drop J).take D) (K1 : Int)
              · exfalso
                have := payO_nil.2 hmy
                have h3 := E2.out
                rw [this] at h3; simp at h3; omega
              · rfl
            clear hz hzn S2 r2
            go_wp2_with (first
              | (at_builtin; (refine wpList_append_tl _ rfl _ _ _ rfl w2.heap.size 5 j0 _ 1 1 Tryd.underlying23 hj0 hjz hj1 hj2 rfl (by omega) _ _ _ _ rfl T8.out _ _ _ _ rfl S8.out n2 (by omega) (by unfold maxLen; omega) (by omega) hs8 ?_); intro p9 c9 w9 ht9 hm9 hnil9 hor9; (have T9 := Lib.hid ht9); (have M9 : Hid (Mod [] w2 w9) := T8.out.turned (w2 := w2) (w0 := w2) rfl hm9 (Mod.of_alloc w2 _)); (have hs9 := M9.out.size); clear ht9 hm9 hnil9 hor9)
              | (at_builtin; (refine wpList_append_zeros_tl _ rfl _ _ _ _ rfl w2.heap.size 5 j0 Tryd.underlying23 Tryd.underlying3 hj0 hjz hj1 hj2 _ _ _ (payO ((l.drop J).take D) (K1 : Int)) rfl T9.out z rfl 1016 HZ.out (by omega) hs9 ?_); intro p10 c10 w10 ht10 hm10 hnil10; (have T10 := Lib.hid ht10); (have M10 : Hid (Mod [] w2 w10) := T9.out.turned (w2 := w2) (w0 := w2) rfl hm10 M9.out); clear ht10 hm10 hnil10)
              | fail)
            have W10 : Hid (BytesIn w10 p10 1016 c10 (pad 1016 (payO ((l.drop J).take D) (K1 : Int)))) := ⟨by
              have := T10.out.sl
              rwa [pad_eq _ _ (by rw [← E2.out]; have := HZ.out; omega)] at this, fun x hx => by
              unfold pad at hx
              rcases List.mem_append.1 hx with hx | hx
              · exact payO_wf _ _ x hx
              · rw [List.eq_of_mem_replicate hx]; omega⟩
            have HF := Lib.hid (fromP_payO hmay.out HG2.out)
            refine (from_any p10 1016 c10 _ _ W10.out).mono ?_
            rintro _ w11 ⟨_, rfl, p11, n11, c11, rfl, e11, s11, m11⟩
            rw [HF.out] at s11 e11 ⊢
            obtain rfl : n11 = D := by rw [e11]; exact hLD.out
            have M11 : Hid (Mod [] w w11) := (M2.out.same M10.out).same m11
            have S11 := Lib.hid s11
            have HO11 : Hid (w11.ownsRow w.heap.size 35 2 (.slice q m d) m (fcells (l.take (84 * k)))) := own_mod (own_mod HO2.out M10.out) m11
            have hs11 : w.heap.size ≤ w11.heap.size := M11.out.size
            clear e11 s11 m11 T8 T9 T10 W10 HO2 M2 M9 M10 hs8 hs9 S8
            have HAPP : Hid (∀ (p' : Option Addr) (N9 c' : Nat) (w' : World), N9 = m + n11 → w'.ownsRow w.heap.size 35 2 (.slice p' N9 c') N9 (fcells (l.take (84 * k)) ++ fcells ((l.drop J).take n11)) → N9 = min (84 * K1) n ∧ w'.ownsRow w.heap.size 35 2 (.slice p' N9 c') N9 (fcells (l.take (84 * K1)))) := by
              intro p' N9 c' w' h1 h2
              rw [HK1.out]
              refine ⟨by rw [← HNEXT.out.1, h1, HMJ.out]; exact HD.out, ?_⟩
              rw [HNEXT.out.2, fcells_append, HJ.out]
              rw [HJ.out] at h2
              exact h2
            rcases Nat.eq_zero_or_pos n11 with hD0 | hD0
            · have hn0 := HPOS.out hD0
              subst hD0
              have hbn : ((0 : Int) < (n : Int)) = False := by simp; omega
              have hbn2 : (0 < n) = False := by simp; omega
              clear hn0
              go_wp2_with (first
                | (at_builtin; go_must (refine wpList_append_src _ rfl _ _ _ rfl w.heap.size 35 i0 _ 2 16 Tryd.underlying22 hi0 hz0 hz1 hz2 rfl (by omega) (.slice q m d) m (fcells (l.take (84 * k))) rfl HO11.out _ _ _ _ rfl S11.out m rfl (by unfold maxLen; omega) (by omega) hs11 ?_); intro p12 c12 w12 hown12 hgrow12 hnil12 hlie12; (have HO12 := Lib.hid hown12); (have HG12 := Lib.hid hgrow12); clear hown12 hgrow12 hnil12 hlie12)
                | go_in)
              go_roundw
              case rel => exact ⟨K1, m, c12, p12, by have := HK1.out; omega, rfl, rfl, (HAPP.out p12 m c12 w12 rfl HO12.out).1, (HAPP.out p12 m c12 w12 rfl HO12.out).2, M11.out.trans (Mod.of_grown' HG12.out) (fun b hb => Or.inr (by
                have := own_base HO11.out b (by simpa using hb); omega))⟩
              case measure => have := HK1.out; simp [intOf]; omega
            · have hbn : ((n11 : Int) == 0) = false := by simp; omega
              have hsum : m + n11 ≤ 300 := by have := HD.out; have := HMJ.out; omega
              go_wp2_with (first
                | (at_builtin; go_must (refine wpList_append_src _ rfl _ _ _ rfl w.heap.size 35 i0 _ 2 16 Tryd.underlying22 hi0 hz0 hz1 hz2 rfl (by omega) (.slice q m d) m (fcells (l.take (84 * k))) rfl HO11.out _ _ _ _ rfl S11.out (m + n11) rfl (by unfold maxLen; omega) (by omega) hs11 ?_); intro p12 c12 w12 hown12 hgrow12 hnil12 hlie12; (have HO12 := Lib.hid hown12); (have HG12 := Lib.hid hgrow12); clear hown12 hgrow12 hnil12 hlie12)
                | go_in)
              go_roundw
              case rel => exact ⟨K1, m + n11, c12, p12, by have := HK1.out; omega, rfl, rfl, (HAPP.out p12 (m + n11) c12 w12 rfl HO12.out).1, (HAPP.out p12 (m + n11) c12 w12 rfl HO12.out).2, M11.out.trans (Mod.of_grown' HG12.out) (fun b hb => Or.inr (by
                have := own_base HO11.out b (by simpa using hb); omega))⟩
              case measure => have := HK1.out; simp [intOf]; omega
      · obtain rfl : k = N := by omega
        have HT : Hid (l.take (84 * k) = l) := List.take_of_length_le (by rw [HLN.out, HN.out]; exact pcs_all n)
        rw [HT.out] at HO
        have SO := Lib.hid (Sl.of_own HO.out (fcells_one _)).1
        have SL := Lib.hid (HL.out.mod MC.out (by simp))
        go_wp2_with fail
        refine (same_freed _ _ _ _ _ _ l l _ SO.out SL.out).mono ?_
        rintro _ w12 ⟨_, rfl, rfl, m12⟩
        rw [decide_eq_true rfl]
        have M12 : Hid (Mod [] w w12) := MC.out.same m12
        clear m12
        go_wp2
        go_ret
        exact .mk ⟨rfl, M12.out⟩
  · have hgt : ((300 : Int) < (n : Int)) = True := by simp; omega
    go_enter Tryd.func4, Tryd.ntmps4
    go_wp2_with fail
    refine (awake_any _).mono ?_
    rintro _ w1 ⟨_, rfl, rfl, m1⟩
    go_wp2
    go_ret
    exact .mk ⟨rfl, m1⟩
end Go.Proofs.YtibkhdlddllcjaaDoor
