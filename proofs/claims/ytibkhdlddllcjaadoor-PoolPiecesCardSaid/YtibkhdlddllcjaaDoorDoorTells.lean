/- PoolTells: what the law's function returns. -/
import Derived.Test.YtibkhdlddllcjaaDoorQFrom
import Derived.Test.YtibkhdlddllcjaaDoorPoolAwakeD
import Derived.Test.YtibkhdlddllcjaaDoorZeros
namespace Go.Proofs.YtibkhdlddllcjaaDoor
open Go.RowKit Go.Maps
set_option linter.unusedSimpArgs false
set_option linter.unusedVariables false

theorem pad_eq (P : List Int) (k : Nat) (h : k + P.length = 1016) : P ++ List.replicate k 0 = pad 1016 P := by unfold pad; rw [show 1016 - P.length = k from by omega]
def TrueR (w : World) (v : Value) (w' : World) : Prop := v = .bool true ∧ Mod [] w w'
set_option maxRecDepth 100000 in
set_option maxHeartbeats 4000000 in
theorem tells_any (p : Option Addr) (n c : Nat) (l : List (Int × Int)) (next : Int) (q : Option Addr) (m d : Nat) (b : List Int) (w : World) (hl : FreedIn w p n c l) (hb : BytesIn w q m d b) :
    Calls Tryd.prog 3 #[.slice p n c, .int .i64 next, .slice q m d] w (Ret (TrueR w)) := by
  have HL := Lib.hid hl.sl
  have HG : Hid (∀ x ∈ l, 0 ≤ x.2 ∧ x.2 < 18446744073709551616) := fun x hx => (hl.wf x hx).2
  have HB := Lib.hid hb
  have HLN := Lib.hid hl.len
  have hcm := hl.sl.capm; have hle := hl.sl.le
  have hdm := hb.sl.capm; have hme := hb.sl.le
  unfold maxLen at hcm hdm
  clear hl hb
  by_cases hn : n ≤ 200
  · by_cases hm : m ≤ 2000
    · have hgt : ((200 : Int) < (n : Int)) = False := by simp; omega
      have hgm : ((2000 : Int) < (m : Int)) = False := by simp; omega
      go_enter Tryd.func3, Tryd.ntmps3
      go_wp2_with fail
      refine (awake_any _).mono ?_
      rintro _ w1 ⟨_, rfl, rfl, m1⟩
      have M1 := Lib.hid m1
      clear m1
      go_wp2_with fail
      refine (pay_any p n c l next _ (HL.out.mod M1.out (by simp)) HG.out).mono ?_
      rintro _ w2 ⟨_, rfl, p2, n2, c2, rfl, e2, nil2, s2, m2⟩
      have M2 : Hid (Mod [] w w2) := M1.out.same m2
      have S2 := Lib.hid s2
      have E2 := Lib.hid e2
      clear nil2 s2 m2 e2 M1
      go_wp2_with fail
      refine (qpay_any p n c l next _ (HL.out.mod M2.out (by simp)) HG.out).mono ?_
      rintro _ w3 ⟨_, rfl, p3, n3, c3, rfl, e3, nil3, t3, m3⟩
      have M3 : Hid (Mod [] w w3) := M2.out.same m3
      have S3 := Lib.hid t3.sl
      replace S2 := Lib.hid (S2.out.mod m3 (by simp))
      clear nil3 t3 m3 e3 M2
      go_wp2_with fail
      refine (qsame_any _ _ _ _ _ _ (payO l next) (payO l next) _ S2.out S3.out).mono ?_
      rintro _ w4 ⟨_, rfl, rfl, m4⟩
      rw [decide_eq_true rfl]
      have M4 : Hid (Mod [] w w4) := M3.out.same m4
      replace S2 := Lib.hid (S2.out.mod m4 (by simp))
      clear m4 S3 M3
      go_wp2_with fail
      refine (pieces_any n _ (by omega)).mono ?_
      rintro _ w4 ⟨_, rfl, rfl, rfl⟩
      go_wp2_with fail
      refine (qpieces_any n _ (by omega)).mono ?_
      rintro _ w4 ⟨_, rfl, rfl, rfl⟩
      go_wp2_with fail
      refine (from_any q m d b _ (HB.out.mod M4.out (by simp))).mono ?_
      rintro _ w5 ⟨_, rfl, p5, n5, c5, rfl, e5, s5, m5⟩
      have M5 : Hid (Mod [] w w5) := M4.out.same m5
      replace S2 := Lib.hid (S2.out.mod m5 (by simp))
      have S5 := Lib.hid s5
      clear s5 m5 e5 M4
      go_wp2_with fail
      refine (qfrom_any q m d b _ (HB.out.mod M5.out (by simp))).mono ?_
      rintro _ w6 ⟨_, rfl, p6, n6, c6, rfl, e6, s6, m6⟩
      have M6 : Hid (Mod [] w w6) := M5.out.same m6
      replace S2 := Lib.hid (S2.out.mod m6 (by simp))
      replace S5 := Lib.hid (S5.out.mod m6 (by simp))
      have S6 := Lib.hid s6
      clear s6 m6 e6 M5
      generalize (fromP b).2.1 = X1 at *
      generalize (fromP b).2.2 = X2 at *
      go_wp2_with fail
      refine (same_freed _ _ _ _ _ _ (fromP b).1 (fromP b).1 _ S5.out S6.out).mono ?_
      rintro _ w7 ⟨_, rfl, rfl, m7⟩
      rw [decide_eq_true rfl]
      have M7 : Hid (Mod [] w w7) := M6.out.same m7
      replace S2 := Lib.hid (S2.out.mod m7 (by simp))
      clear m7 S5 S6 M6
      have hle2 : n2 ≤ 1014 := by rw [E2.out]; exact payO_len l next
      rcases Nat.eq_zero_or_pos n2 with h2 | h2
      · subst h2
        go_wp2
        go_ret
        exact .mk ⟨rfl, M7.out⟩
      · have hne : ((n2 : Int) == 0) = false := by simp; omega
        have hw : IntKind.i64.wrap (1016 - (n2 : Int)) = ((1016 - n2 : Nat) : Int) := by rw [IntWalk.i64_in _ (by omega)]; omega
        obtain ⟨i0, hi0, hz0, hz1, hz2⟩ := info_parts infoU8
        have T8 : Hid (Tl (w7.alloc (.cells #[] 5)) w7.heap.size 1 (some ⟨w7.heap.size, 0, none⟩) 0 0 []) := Tl.of_own (own_row w7 [] _ _ (Nat.le_refl _) (by simp)) (by simp)
        have S8 : Hid (Sl (w7.alloc (.cells #[] 5)) 1 p2 n2 c2 (bs (payO l next))) := S2.out.mod (Mod.of_alloc w7 _) (by simp)
        have hs8 : w7.heap.size ≤ (w7.alloc (.cells #[] 5)).heap.size := (Mod.of_alloc w7 _).size
        obtain ⟨k, hk⟩ : ∃ k, k = 1016 - n2 := ⟨_, rfl⟩
        rw [← hk] at hw
        have hkn : n2 + k = 1016 := by omega
        have HK := Lib.hid hkn
        have M8 : Hid (Mod [] w (w7.alloc (.cells #[] 5))) := M7.out.alloc
        have hmay : Hid (mayPay l next = true) := by
          unfold Hid
          cases hmy : mayPay l next
          · exfalso
            have := payO_nil.2 hmy
            have h3 := E2.out
            rw [this] at h3; simp at h3; omega
          · rfl
        clear hk hkn S2
        go_wp2_with (first
          | (at_builtin; (refine wpList_append_tl _ rfl _ _ _ rfl w7.heap.size 5 i0 _ 1 1 Tryd.underlying23 hi0 hz0 hz1 hz2 rfl (by omega) _ _ _ _ rfl T8.out _ _ _ _ rfl S8.out n2 (by omega) (by unfold maxLen; omega) (by omega) hs8 ?_); intro p9 c9 w9 ht9 hm9 hnil9 hor9; (have T9 := Lib.hid ht9); (have M9 : Hid (Mod [] w7 w9) := T8.out.turned (w2 := w7) (w0 := w7) rfl hm9 (Mod.of_alloc w7 _)); (have hs9 := M9.out.size); clear ht9 hm9 hnil9 hor9)
          | (at_builtin; (refine wpList_append_zeros_tl _ rfl _ _ _ _ rfl w7.heap.size 5 i0 Tryd.underlying23 Tryd.underlying3 hi0 hz0 hz1 hz2 _ _ _ (payO l next) rfl T9.out k rfl 1016 HK.out (by omega) hs9 ?_); intro p10 c10 w10 ht10 hm10 hnil10; (have T10 := Lib.hid ht10); (have M10 : Hid (Mod [] w7 w10) := T9.out.turned (w2 := w7) (w0 := w7) rfl hm10 M9.out); clear ht10 hm10 hnil10)
          | fail)
        have W10 : Hid (BytesIn w10 p10 1016 c10 (pad 1016 (payO l next))) := ⟨by
          have := T10.out.sl
          rwa [pad_eq _ _ (by rw [← E2.out]; have := HK.out; omega)] at this, fun x hx => by
          unfold pad at hx
          rcases List.mem_append.1 hx with hx | hx
          · exact payO_wf _ _ x hx
          · rw [List.eq_of_mem_replicate hx]; omega⟩
        have HF := Lib.hid (fromP_payO hmay.out HG.out)
        refine (from_any p10 1016 c10 _ _ W10.out).mono ?_
        rintro _ w11 ⟨_, rfl, p11, n11, c11, rfl, e11, s11, m11⟩
        rw [HF.out] at s11 ⊢
        have M11 : Hid (Mod [] w w11) := (M7.out.same M10.out).same m11
        have S11 := Lib.hid s11
        have SL := Lib.hid (HL.out.mod M11.out (by simp))
        clear e11 s11 m11
        go_wp2_with fail
        refine (same_freed _ _ _ _ _ _ l l _ S11.out SL.out).mono ?_
        rintro _ w12 ⟨_, rfl, rfl, m12⟩
        rw [decide_eq_true rfl]
        have M12 : Hid (Mod [] w w12) := M11.out.same m12
        clear m12
        go_wp2
        go_ret
        exact .mk ⟨rfl, M12.out⟩
    · have hgt : ((200 : Int) < (n : Int)) = False := by simp; omega
      have hgm : ((2000 : Int) < (m : Int)) = True := by simp; omega
      go_enter Tryd.func3, Tryd.ntmps3
      go_wp2_with fail
      refine (awake_any _).mono ?_
      rintro _ w1 ⟨_, rfl, rfl, m1⟩
      go_wp2
      go_ret
      exact .mk ⟨rfl, m1⟩
  · have hgt : ((200 : Int) < (n : Int)) = True := by simp; omega
    go_enter Tryd.func3, Tryd.ntmps3
    go_wp2_with fail
    refine (awake_any _).mono ?_
    rintro _ w1 ⟨_, rfl, rfl, m1⟩
    go_wp2
    go_ret
    exact .mk ⟨rfl, m1⟩
end Go.Proofs.YtibkhdlddllcjaaDoor
