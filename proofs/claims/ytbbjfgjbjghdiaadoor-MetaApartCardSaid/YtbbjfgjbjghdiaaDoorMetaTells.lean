/- MetaTells: what the law's function returns. -/
import Derived.Test.YtbbjfgjbjghdiaaDoorMetaAwake
import Derived.Test.YtbbjfgjbjghdiaaDoorMetaQFrom
import Derived.Test.YtbbjfgjbjghdiaaDoorZeros
namespace Go.Proofs.YtbbjfgjbjghdiaaDoor
open Go.RowKit Go.Maps
set_option linter.unusedSimpArgs false
set_option linter.unusedVariables false

theorem pad_eq (P : List Int) (k : Nat) (h : k + P.length = 1016) : P ++ List.replicate k 0 = pad 1016 P := by unfold pad; rw [show 1016 - P.length = k from by omega]
theorem pad_wf {n : Nat} {l : List Int} (h : ∀ x ∈ l, 0 ≤ x ∧ x < 256) : ∀ x ∈ pad n l, 0 ≤ x ∧ x < 256 := by
  intro x hx
  unfold pad at hx
  rcases List.mem_append.1 hx with hx | hx
  · exact h x hx
  · rw [List.eq_of_mem_replicate hx]; omega
def TrueR (w : World) (v : Value) (w' : World) : Prop := v = .bool true ∧ Mod [] w w'
set_option maxRecDepth 100000 in
set_option maxHeartbeats 4000000 in
theorem mtells_any (M : Mt) (q : Option Addr) (m d : Nat) (b : List Int) (w : World) (hb : BytesIn w q m d b) :
    Calls Tryd.prog 3 #[.agg M.cells, .slice q m d] w (Ret (TrueR w)) := by
  have HB := Lib.hid hb
  have hdm := hb.sl.capm; have hme := hb.sl.le
  unfold maxLen at hdm
  have HPL := Lib.hid (payM_len M)
  have HPW := Lib.hid (payM_wf M)
  have HP0 : Hid (M.may = false → payM M = []) := fun h => payM_nil.2 h
  have HP1 : Hid (M.may = true → 0 < (payM M).length) := fun h => by
    have := payM_nil (m := M)
    rcases Nat.eq_zero_or_pos (payM M).length with h0 | h0
    · rw [this.1 (List.eq_nil_of_length_eq_zero h0)] at h; cases h
    · exact h0
  have HF : Hid (M.may = true → fromM (pad 1016 (payM M)) = (M, 0)) := fun h => fromM_pay h
  have HMAY := fun W => Lib.hid (may_any M W)
  have HQMAY := fun W => Lib.hid (qmay_any M W)
  have HPAY := fun W => Lib.hid (paym_any M W)
  have HQPAY := fun W => Lib.hid (qpaym_any M W)
  generalize payM M = PP at *
  generalize M.may = B at *
  obtain ⟨g, h, r, f⟩ := M
  simp only [Mt.cells] at HMAY HQMAY HPAY HQPAY ⊢
  have HAT : Hid ((w.alloc (.cells #[.int .u64 g, .int .i64 h, .int .i64 r, .int .i64 f] 24)).heap[w.heap.size]? = some (Obj.cells #[.int .u64 g, .int .i64 h, .int .i64 r, .int .i64 f] 24 (0, 0))) := at_alloc w _
  have M0 : Hid (Mod [] w (w.alloc (.cells #[.int .u64 g, .int .i64 h, .int .i64 r, .int .i64 f] 24))) := Mod.of_alloc w _
  clear hb
  go_enter Tryd.func3, Tryd.ntmps3
  go_wp2_with fail
  refine (awake_any _).mono ?_
  rintro _ w1 ⟨_, rfl, rfl, m1⟩
  have HA1 := Lib.hid (m1.at HAT.out (by simp))
  have M1 : Hid (Mod [] w w1) := M0.out.same m1
  clear m1 HAT M0
  have c0 : w1.cell? ⟨w.heap.size, 0, none⟩ = some (.int .u64 g) := cell_of_at HA1.out 0
  have c1 : w1.cell? ⟨w.heap.size, 1, none⟩ = some (.int .i64 h) := cell_of_at HA1.out 1
  have c2 : w1.cell? ⟨w.heap.size, 2, none⟩ = some (.int .i64 r) := cell_of_at HA1.out 2
  have c3 : w1.cell? ⟨w.heap.size, 3, none⟩ = some (.int .i64 f) := cell_of_at HA1.out 3
  by_cases hm : m ≤ 2000
  · have hgm : ((2000 : Int) < (m : Int)) = False := by simp; omega
    go_wp2_with fail
    refine (HPAY _).out.mono ?_
    rintro _ w2 ⟨_, rfl, p2, n2, c2', rfl, e2, nil2, s2, m2⟩
    have M2 : Hid (Mod [] w w2) := M1.out.same m2
    have S2 := Lib.hid s2
    have E2 := Lib.hid e2
    have HA2 := Lib.hid (m2.at HA1.out (by simp))
    have d0 : w2.cell? ⟨w.heap.size, 0, none⟩ = some (.int .u64 g) := cell_of_at HA2.out 0
    have d1 : w2.cell? ⟨w.heap.size, 1, none⟩ = some (.int .i64 h) := cell_of_at HA2.out 1
    have d2 : w2.cell? ⟨w.heap.size, 2, none⟩ = some (.int .i64 r) := cell_of_at HA2.out 2
    have d3 : w2.cell? ⟨w.heap.size, 3, none⟩ = some (.int .i64 f) := cell_of_at HA2.out 3
    clear nil2 s2 m2 e2 c0 c1 c2 c3 HA1 M1
    have MD : Hid (Mod [] w2 w2.drew) := Mod.of_drew w2
    have hAlt : w.heap.size < w2.heap.size := lt_of_at HA2.out
    go_wp2
    go_region_held3 (fun w' => w'.cell? ⟨w.heap.size, 0, none⟩ = some (.int .u64 g) ∧ w'.cell? ⟨w.heap.size, 1, none⟩ = some (.int .i64 h) ∧ w'.cell? ⟨w.heap.size, 2, none⟩ = some (.int .i64 r) ∧ w'.cell? ⟨w.heap.size, 3, none⟩ = some (.int .i64 f))
      (first
        | go_keep
        | exact ⟨cell_of_at (MD.out.at HA2.out (by simp)) 0, cell_of_at (MD.out.at HA2.out (by simp)) 1, cell_of_at (MD.out.at HA2.out (by simp)) 2, cell_of_at (MD.out.at HA2.out (by simp)) 3⟩
        | fail)
      (first
        | (go_at_call 10; refine (HMAY _).out.mono ?_; rintro _ w3 ⟨_, rfl, rfl, m3⟩; (replace MD : Hid (Mod [] w2 w3) := MD.out.same m3); clear m3)
        | (go_at_call 11; refine (HQMAY _).out.mono ?_; rintro _ w4 ⟨_, rfl, rfl, m4⟩; (replace MD : Hid (Mod [] w2 w4) := MD.out.same m4); clear m4)
        | (go_at_call 13; refine (HQPAY _).out.mono ?_; rintro _ w5 ⟨_, rfl, p5, n5, c5, rfl, e5, nil5, t5, m5⟩; (replace MD : Hid (Mod [] w2 w5) := MD.out.same m5); (have S5 := Lib.hid t5.sl); clear e5 nil5 t5 m5)
        | (go_at_call 12; refine (qsame_any _ _ _ _ _ _ PP PP _ (S2.out.mod MD.out (by simp)) S5.out).mono ?_; rintro _ w6 ⟨_, rfl, rfl, m6⟩; (replace MD : Hid (Mod [] w2 w6) := MD.out.same m6); (rw [decide_eq_true rfl]); clear m6)
        | fail)
    all_goals
      rename_i hHeld
      have M6 : Hid (Mod [] w _) := M2.out.same MD.out
      have HA6 := Lib.hid (MD.out.at HA2.out (by simp))
      replace S2 := Lib.hid (S2.out.mod MD.out (by simp))
      clear hHeld d0 d1 d2 d3 HA2 M2 MD S5 HPAY HQPAY
      go_wp2_with fail
      refine (fromm_any q m d b _ (HB.out.mod M6.out (by simp))).mono ?_
      rintro _ w7 ⟨_, rfl, rfl, m7⟩
      have HQF := fun W hW => Lib.hid (qfromm_any q m d b W hW)
      unfold FromMR at HQF
      generalize fromM b = X at *
      obtain ⟨⟨x0, x1, x2, x3⟩, x4⟩ := X
      simp only [Mt.cells] at HQF ⊢
      have M7 : Hid (Mod [] w w7) := M6.out.same m7
      have HA7 := Lib.hid (m7.at HA6.out (by simp))
      replace S2 := Lib.hid (S2.out.mod m7 (by simp))
      clear m7 HA6 M6
      have HAX := Lib.hid (at_alloc w7 (.cells #[.int .u64 x0, .int .i64 x1, .int .i64 x2, .int .i64 x3] 24))
      have M8 : Hid (Mod [] w7 (w7.alloc (.cells #[.int .u64 x0, .int .i64 x1, .int .i64 x2, .int .i64 x3] 24))) := Mod.of_alloc _ _
      go_wp2_with fail
      refine (HQF _ (HB.out.mod (M7.out.same M8.out) (by simp))).out.mono ?_
      rintro _ w9 ⟨_, rfl, rfl, m9⟩
      have M79 : Hid (Mod [] w7 w9) := M8.out.same m9
      have HAX9 := Lib.hid (m9.at HAX.out (by simp))
      have M9 : Hid (Mod [] w w9) := M7.out.same M79.out
      have HA9 := Lib.hid (M79.out.at HA7.out (by simp))
      replace S2 := Lib.hid (S2.out.mod M79.out (by simp))
      clear m9 HA7 M7 M8 M79 HAX HQF
      have e0 : w9.cell? ⟨w7.heap.size, 0, none⟩ = some (.int .u64 x0) := cell_of_at HAX9.out 0
      have e1 : w9.cell? ⟨w7.heap.size, 1, none⟩ = some (.int .i64 x1) := cell_of_at HAX9.out 1
      have e2 : w9.cell? ⟨w7.heap.size, 2, none⟩ = some (.int .i64 x2) := cell_of_at HAX9.out 2
      have e3 : w9.cell? ⟨w7.heap.size, 3, none⟩ = some (.int .i64 x3) := cell_of_at HAX9.out 3
      have l9 : w7.heap.size < w9.heap.size := lt_of_at HAX9.out
      have M10 : Hid (Mod [] w (w9.alloc (.cells #[.int .u64 x0, .int .i64 x1, .int .i64 x2, .int .i64 x3] 24))) := M9.out.alloc
      have M910 : Hid (Mod [] w9 (w9.alloc (.cells #[.int .u64 x0, .int .i64 x1, .int .i64 x2, .int .i64 x3] 24))) := Mod.of_alloc _ _
      have HA10 := Lib.hid (M910.out.at HA9.out (by simp))
      replace S2 := Lib.hid (S2.out.mod M910.out (by simp))
      have k0 : (w9.alloc (.cells #[.int .u64 x0, .int .i64 x1, .int .i64 x2, .int .i64 x3] 24)).cell? ⟨w.heap.size, 0, none⟩ = some (.int .u64 g) := cell_of_at HA10.out 0
      have k1 : (w9.alloc (.cells #[.int .u64 x0, .int .i64 x1, .int .i64 x2, .int .i64 x3] 24)).cell? ⟨w.heap.size, 1, none⟩ = some (.int .i64 h) := cell_of_at HA10.out 1
      have k2 : (w9.alloc (.cells #[.int .u64 x0, .int .i64 x1, .int .i64 x2, .int .i64 x3] 24)).cell? ⟨w.heap.size, 2, none⟩ = some (.int .i64 r) := cell_of_at HA10.out 2
      have k3 : (w9.alloc (.cells #[.int .u64 x0, .int .i64 x1, .int .i64 x2, .int .i64 x3] 24)).cell? ⟨w.heap.size, 3, none⟩ = some (.int .i64 f) := cell_of_at HA10.out 3
      go_wp2_with fail
      clear e0 e1 e2 e3 HAX9 HA9 M9 M910 l9
      generalize (w9.alloc (.cells #[.int .u64 x0, .int .i64 x1, .int .i64 x2, .int .i64 x3] 24)) = w10 at *
      refine (HQMAY _).out.mono ?_
      rintro _ w11 ⟨_, rfl, rfl, m11⟩
      have M11 : Hid (Mod [] w w11) := M10.out.same m11
      have HA11 := Lib.hid (m11.at HA10.out (by simp))
      replace S2 := Lib.hid (S2.out.mod m11 (by simp))
      clear m11 HA10 M10 k0 k1 k2 k3 HMAY HQMAY
      have hn2 : n2 ≤ 24 := by rw [E2.out]; exact HPL.out
      cases B with
      | false =>
        obtain rfl : n2 = 0 := by rw [E2.out, HP0.out rfl]; rfl
        go_wp2
        go_ret
        exact .mk ⟨rfl, M11.out⟩
      | true =>
        have HF' := Lib.hid (HF.out rfl)
        clear HF HP0 HP1
        have hw : IntKind.i64.wrap (1016 - (n2 : Int)) = ((1016 - n2 : Nat) : Int) := by rw [IntWalk.i64_in _ (by omega)]; omega
        obtain ⟨i0, hi0, hz0, hz1, hz2⟩ := info_parts infoU8
        have T8 : Hid (Tl (w11.alloc (.cells #[] 5)) w11.heap.size 1 (some ⟨w11.heap.size, 0, none⟩) 0 0 []) := Tl.of_own (own_row w11 [] _ _ (Nat.le_refl _) (by simp)) (by simp)
        have S8 : Hid (Sl (w11.alloc (.cells #[] 5)) 1 p2 n2 c2' (bs PP)) := S2.out.mod (Mod.of_alloc w11 _) (by simp)
        have hs8 : w11.heap.size ≤ (w11.alloc (.cells #[] 5)).heap.size := (Mod.of_alloc w11 _).size
        obtain ⟨k, hk⟩ : ∃ k, k = 1016 - n2 := ⟨_, rfl⟩
        rw [← hk] at hw
        have hkn : n2 + k = 1016 := by omega
        have HK := Lib.hid hkn
        clear hk hkn S2
        go_wp2_with (first
          | (at_builtin; (refine wpList_append_tl _ rfl _ _ _ rfl w11.heap.size 5 i0 _ 1 1 Tryd.underlying25 hi0 hz0 hz1 hz2 rfl (by omega) _ _ _ _ rfl T8.out _ _ _ _ rfl S8.out n2 (by omega) (by unfold maxLen; omega) (by omega) hs8 ?_); intro p12 c12 w12 ht12 hm12 hnil12 hor12; (have T12 := Lib.hid ht12); (have M12 : Hid (Mod [] w11 w12) := T8.out.turned (w2 := w11) (w0 := w11) rfl hm12 (Mod.of_alloc w11 _)); (have hs12 := M12.out.size); clear ht12 hm12 hnil12 hor12)
          | (at_builtin; (refine wpList_append_zeros_tl _ rfl _ _ _ _ rfl w11.heap.size 5 i0 Tryd.underlying25 Tryd.underlying3 hi0 hz0 hz1 hz2 _ _ _ PP rfl T12.out k rfl 1016 HK.out (by omega) hs12 ?_); intro p13 c13 w13 ht13 hm13 hnil13; (have T13 := Lib.hid ht13); (have M13 : Hid (Mod [] w11 w13) := T12.out.turned (w2 := w11) (w0 := w11) rfl hm13 M12.out); clear ht13 hm13 hnil13)
          | fail)
        have W13 : Hid (BytesIn w13 p13 1016 c13 (pad 1016 PP)) := ⟨by
          have := T13.out.sl
          rwa [pad_eq _ _ (by rw [← E2.out]; have := HK.out; omega)] at this, pad_wf HPW.out⟩
        refine (fromm_any p13 1016 c13 _ _ W13.out).mono ?_
        rintro _ w14 ⟨_, rfl, rfl, m14⟩
        rw [HF'.out]
        simp only [Mt.cells]
        have HA14 := Lib.hid ((M13.out.same m14).at HA11.out (by simp))
        have M14 : Hid (Mod [] w w14) := M11.out.same (M13.out.same m14)
        have k0 : w14.cell? ⟨w.heap.size, 0, none⟩ = some (.int .u64 g) := cell_of_at HA14.out 0
        have k1 : w14.cell? ⟨w.heap.size, 1, none⟩ = some (.int .i64 h) := cell_of_at HA14.out 1
        have k2 : w14.cell? ⟨w.heap.size, 2, none⟩ = some (.int .i64 r) := cell_of_at HA14.out 2
        have k3 : w14.cell? ⟨w.heap.size, 3, none⟩ = some (.int .i64 f) := cell_of_at HA14.out 3
        have l14 : w.heap.size < w14.heap.size := lt_of_at HA14.out
        clear m14 M13 M12 W13 T13 T12 T8 S8 M11 HA11
        go_wp2
        go_ret
        exact .mk ⟨rfl, by first | exact M14.out.alloc | exact M14.out⟩
  · have hgm : ((2000 : Int) < (m : Int)) = True := by simp; omega
    go_wp2
    go_ret
    exact .mk ⟨rfl, M1.out⟩
end Go.Proofs.YtbbjfgjbjghdiaaDoor
