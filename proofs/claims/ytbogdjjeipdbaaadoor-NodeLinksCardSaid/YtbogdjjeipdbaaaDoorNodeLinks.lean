/- NodeLinks: what the law's function returns. -/
import Derived.Test.YtbogdjjeipdbaaaDoorNodeLink3
import Derived.Test.YtbogdjjeipdbaaaDoorNodeCells
import Derived.Test.YtbogdjjeipdbaaaDoorZeros2
namespace Go.Proofs.YtbogdjjeipdbaaaDoor
open Go.RowKit Go.Maps
set_option linter.unusedSimpArgs false
set_option linter.unusedVariables false

set_option maxRecDepth 100000 in
set_option maxHeartbeats 8000000 in
theorem nlinks_any (next : Int) (p : Option Addr) (n c : Nat) (b : List Int) (q : Option Addr) (m d : Nat) (raw : List Int) (w : World) (h1 : BytesIn w p n c b) (h2 : BytesIn w q m d raw) :
    Calls Tryd.prog 5 #[.int .i64 next, .slice p n c, .slice q m d] w (Ret (TrueR w)) := by
  have HB := fun W (hm : Mod [] w W) => Lib.hid (⟨h1.sl.mod hm (by simp), h1.wf⟩ : BytesIn W p n c b)
  have HR := fun W (hm : Mod [] w W) => Lib.hid (⟨h2.sl.mod hm (by simp), h2.wf⟩ : BytesIn W q m d raw)
  have HBW := Lib.hid h1.wf
  have hcm := h1.sl.capm; have hle := h1.sl.le
  have hcm2 := h2.sl.capm; have hle2 := h2.sl.le
  unfold maxLen at hcm hcm2
  clear h1 h2
  go_enter Tryd.func5, Tryd.ntmps5
  go_wp2_with fail
  refine (awake_any _).mono ?_
  rintro _ w1 ⟨_, rfl, rfl, m1⟩
  have M1 : Hid (Mod [] w w1) := m1
  clear m1
  by_cases hn : n ≤ 2000
  · have hgn : ((2000 : Int) < (n : Int)) = False := by simp; omega
    by_cases hm : m ≤ 2000
    · have hgm : ((2000 : Int) < (m : Int)) = False := by simp; omega
      have HL := fun W hm => Lib.hid (link_any p n c b next W (HB W hm).out)
      have HQL := fun W hm => Lib.hid (qlink_any p n c b next W (HB W hm).out)
      have HF := fun W hm => Lib.hid (fromlink_any q m d raw W (HR W hm).out)
      have HQF := fun W hm => Lib.hid (qfromlink_any q m d raw W (HR W hm).out)
      unfold NPayR at HL
      unfold PayT at HQL
      unfold FLR at HF HQF
      have HLE := Lib.hid (linkL_len next b)
      have HPW := Lib.hid (linkL_wf (next := next) HBW.out)
      have HBACK : Hid (linkL next b ≠ [] → fromLinkL (linkL next b ++ zs (1016 - (linkL next b).length)) = (next, b, 0)) := fun h => by
        by_cases hk : linkOk next b
        · exact fromLink_link hk
        · exact absurd (linkL_no hk) h
      generalize linkL next b = PP at *
      generalize fromLinkL raw = X at *
      obtain ⟨X1, X2, X3⟩ := X
      simp only at HF HQF
      go_wp2_with fail
      refine (HL _ M1.out).out.mono ?_
      rintro _ w2 ⟨_, rfl, p2, n2, c2, rfl, e2, z2, s2, m2⟩
      have S2 := Lib.hid s2
      have E2 := Lib.hid e2
      have M2 : Hid (Mod [] w w2) := M1.out.same m2
      clear e2 z2 s2 m2 HL M1
      go_wp2_with fail
      refine (HQL _ M2.out).out.mono ?_
      rintro _ w3 ⟨_, rfl, p3, n3, c3, rfl, e3, z3, t3, m3⟩
      have S3 := Lib.hid t3.sl
      have M3 : Hid (Mod [] w w3) := M2.out.same m3
      replace S2 := Lib.hid (S2.out.mod m3 (by simp))
      clear e3 z3 t3 m3 HQL M2
      go_wp2_with fail
      refine (qsame_any _ _ _ _ _ _ PP PP _ S2.out S3.out).mono ?_
      rintro _ w4 ⟨_, rfl, rfl, m4⟩
      rw [decide_eq_true rfl]
      have M4 : Hid (Mod [] w w4) := M3.out.same m4
      replace S2 := Lib.hid (S2.out.mod m4 (by simp))
      clear m4 S3 M3
      go_wp2_with fail
      refine (HF _ M4.out).out.mono ?_
      rintro _ w5 ⟨_, rfl, p5, n5, c5, rfl, b5, m5⟩
      have B5 := Lib.hid b5
      have M5 : Hid (Mod [] w w5) := M4.out.same m5
      replace S2 := Lib.hid (S2.out.mod m5 (by simp))
      clear b5 m5 HF M4
      go_wp2_with fail
      refine (HQF _ M5.out).out.mono ?_
      rintro _ w6 ⟨_, rfl, p6, n6, c6, rfl, b6, m6⟩
      have S6 := Lib.hid b6.sl
      have S5 := Lib.hid (B5.out.sl.mod m6 (by simp))
      have M6 : Hid (Mod [] w w6) := M5.out.same m6
      replace S2 := Lib.hid (S2.out.mod m6 (by simp))
      clear b6 m6 HQF M5 B5
      have hx1 : (X1 != X1) = false := by simp
      have hx3 : (X3 != X3) = false := by simp
      go_wp2_with fail
      refine (qsame_any _ _ _ _ _ _ X2 X2 _ S5.out S6.out).mono ?_
      rintro _ w7 ⟨_, rfl, rfl, m7⟩
      rw [decide_eq_true rfl]
      have M7 : Hid (Mod [] w w7) := M6.out.same m7
      replace S2 := Lib.hid (S2.out.mod m7 (by simp))
      clear m7 S5 S6 M6
      by_cases h0 : n2 = 0
      · subst h0
        go_wp2
        go_ret
        exact .mk ⟨rfl, M7.out⟩
      · have hne : ((n2 : Int) == 0) = false := by simp; omega
        have hn2 : n2 ≤ 1016 := by rw [E2.out]; exact HLE.out
        have HBK := Lib.hid (HBACK.out (fun e => by have := E2.out; rw [e] at this; exact h0 this))
        have hw : IntKind.i64.wrap (1016 - (n2 : Int)) = ((1016 - n2 : Nat) : Int) := by rw [IntWalk.i64_in _ (by omega)]; omega
        obtain ⟨i0, hi0, hz0, hz1, hz2⟩ := info_parts infoU8
        have T8 : Hid (Tl (w7.alloc (.cells #[] 5)) w7.heap.size 1 (some ⟨w7.heap.size, 0, none⟩) 0 0 []) := Tl.of_own (own_row w7 [] _ _ (Nat.le_refl _) (by simp)) (by simp)
        have S8 : Hid (Sl (w7.alloc (.cells #[] 5)) 1 p2 n2 c2 (bs PP)) := S2.out.mod (Mod.of_alloc w7 _) (by simp)
        have hs8 : w7.heap.size ≤ (w7.alloc (.cells #[] 5)).heap.size := (Mod.of_alloc w7 _).size
        obtain ⟨k, hk⟩ : ∃ k, k = 1016 - n2 := ⟨_, rfl⟩
        rw [← hk] at hw
        have hkn : n2 + k = 1016 := by omega
        have HK := Lib.hid hkn
        have HZ : Hid (PP ++ List.replicate k 0 = PP ++ zs (1016 - PP.length)) := by unfold Hid zs; rw [← E2.out, hk]
        clear hk hkn S2 HBACK
        go_wp2_with (first
          | (at_builtin; (refine wpList_append_tl _ rfl _ _ _ rfl w7.heap.size 5 i0 _ 1 1 Tryd.underlying37 hi0 hz0 hz1 hz2 rfl (by omega) _ _ _ _ rfl T8.out _ _ _ _ rfl S8.out n2 (by omega) (by unfold maxLen; omega) (by omega) hs8 ?_); intro p12 c12 w12 ht12 hm12 hnil12 hor12; (have T12 := Lib.hid ht12); (have M12 : Hid (Mod [] w7 w12) := T8.out.turned (w2 := w7) (w0 := w7) rfl hm12 (Mod.of_alloc w7 _)); (have hs12 := M12.out.size); clear ht12 hm12 hnil12 hor12)
          | (at_builtin; (refine wpList_append_zeros_tl _ rfl _ _ _ _ rfl w7.heap.size 5 i0 Tryd.underlying37 Tryd.underlying3 hi0 hz0 hz1 hz2 _ _ _ PP rfl T12.out k rfl 1016 HK.out (by omega) hs12 ?_); intro p13 c13 w13 ht13 hm13 hnil13; (have T13 := Lib.hid ht13); (have M13 : Hid (Mod [] w7 w13) := T12.out.turned (w2 := w7) (w0 := w7) rfl hm13 M12.out); clear ht13 hm13 hnil13)
          | fail)
        have W13 : Hid (BytesIn w13 p13 1016 c13 (PP ++ zs (1016 - PP.length))) := ⟨by
          have := T13.out.sl
          rwa [HZ.out] at this, fun x hx => by
            rcases List.mem_append.1 hx with hx | hx
            · exact HPW.out x hx
            · exact zs_wf _ x hx⟩
        have HFB := Lib.hid (fromlink_any p13 1016 c13 _ w13 W13.out)
        rw [HBK.out] at HFB
        unfold FLR at HFB
        have M14 : Hid (Mod [] w w13) := M7.out.same M13.out
        clear W13 T13 M13 T12 M12 T8 S8 M7
        refine HFB.out.mono ?_
        rintro _ w14 ⟨_, rfl, p14, n14, c14, rfl, b14, m14⟩
        have S14 := Lib.hid b14.sl
        have M15 : Hid (Mod [] w w14) := M14.out.same m14
        have SB := Lib.hid (HB _ M15.out).out.sl
        clear b14 m14 HFB M14 HR HB
        have hxn : (next == next) = true := by simp
        go_wp2_with fail
        refine (qsame_any _ _ _ _ _ _ b b _ S14.out SB.out).mono ?_
        rintro _ w15 ⟨_, rfl, rfl, m15⟩
        rw [decide_eq_true rfl]
        have M16 : Hid (Mod [] w w15) := M15.out.same m15
        clear m15 S14 SB M15
        go_wp2
        go_ret
        exact .mk ⟨rfl, M16.out⟩
    · have hgm : ((2000 : Int) < (m : Int)) = True := by simp; omega
      clear HB HR
      go_wp2
      go_ret
      exact .mk ⟨rfl, M1.out⟩
  · have hgn : ((2000 : Int) < (n : Int)) = True := by simp; omega
    clear HB HR
    go_wp2
    go_ret
    exact .mk ⟨rfl, M1.out⟩
end Go.Proofs.YtbogdjjeipdbaaaDoor
