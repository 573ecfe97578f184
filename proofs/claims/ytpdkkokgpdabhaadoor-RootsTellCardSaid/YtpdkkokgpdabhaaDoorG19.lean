/- RootsFull: with as many roots as there may be one more is refused. RootsChange: roots with any one more, without any, and the one of any name. RootsTell: whether they are roots, what their page says, and what a page says. -/
import Derived.Test.YtpdkkokgpdabhaaDoorG18
import Derived.Test.YtpdkkokgpdabhaaDoorG10
namespace Go.Proofs.YtpdkkokgpdabhaaDoor
open Go.RowKit Go.Maps
set_option linter.unusedSimpArgs false
set_option linter.unusedVariables false

theorem lit2_bytes (W : World) (l : List Int) (T : TypeId) (hl : l.length ≤ 1000) : Sl (W.alloc (.cells (bs l).toArray T)) 1 (some ⟨W.heap.size, 0, none⟩) l.length l.length (bs l) :=
  Sl.new W (bs l) T 1 l.length (by rw [bs_len]; omega) (by unfold maxLen; omega) (bs_one _)
def fullR (i : Nat) : Rt := ⟨[109, 97 + (i : Int)], 2 + (i : Int), 1⟩
def fullL (n : Nat) : List Rt := (List.range n).map fullR
theorem fullL_succ (n : Nat) : fullL (n + 1) = fullL n ++ [fullR n] := by simp [fullL, List.range_succ]
theorem fullL_len (n : Nat) : (fullL n).length = n := by simp [fullL]
theorem fullR_wf {i : Nat} (h : i < 12) : (fullR i).wf := ⟨by intro x hx; simp [fullR] at hx; omega, by simp [fullR]⟩
theorem fullL_wf {n : Nat} (h : n ≤ 12) : ∀ r ∈ fullL n, r.wf := by
  intro r hr
  simp only [fullL, List.mem_map, List.mem_range] at hr
  obtain ⟨i, hi, rfl⟩ := hr
  exact fullR_wf (by omega)
theorem fullL_may : mayR (fullL 12) = true := by decide
def maR : Rt := ⟨[109, 97], 99, 5⟩
theorem maR_wf : maR.wf := ⟨by intro x hx; simp [maR] at hx; omega, by decide⟩
theorem ma_str : (⟨#[109, 97]⟩ : ByteArray) = strOfNums [109, 97] := rfl
theorem full_with : withQ (fullL 12) maR = (maR :: (fullL 12).tail, 0) := by decide
theorem full_find : findR (maR :: (fullL 12).tail) [109, 97] = (maR, true) := by decide
theorem full_may2 : mayR (maR :: (fullL 12).tail) = true := by decide
set_option maxRecDepth 100000 in
set_option maxHeartbeats 8000000 in
theorem rfull_any (r : Rt) (w : World) (h : r.wf) : Calls Tryd.prog 6 #[r.val] w (Ret (BoolM true w)) := by
  have HWF := Lib.hid h
  have hlen := h.2
  obtain ⟨l, pg, ct⟩ := r
  have HW1 := fun W p c (hi : RtsIn W p 12 c (fullL 12)) => Lib.hid (rwith_any p 12 c (fullL 12) ⟨l, pg, ct⟩ W hi HWF.out (mayR_rises fullL_may) (by omega))
  have HW2 := fun W p c (hi : RtsIn W p 12 c (fullL 12)) => Lib.hid (qwith_any p 12 c (fullL 12) ⟨l, pg, ct⟩ W hi HWF.out (by omega))
  have HW3 := fun W p c (hi : RtsIn W p 12 c (fullL 12)) => Lib.hid (rwith_any p 12 c (fullL 12) maR W hi maR_wf (mayR_rises fullL_may) (by omega))
  rw [full_with] at HW3
  have HF := fun W p c (hi : RtsIn W p 12 c (maR :: (fullL 12).tail)) => Lib.hid (rfind_any p 12 c (maR :: (fullL 12).tail) [109, 97] W hi maR_wf.1 (mayR_rises full_may2) (by omega))
  rw [full_find] at HF
  unfold WithRes at HW1 HW2 HW3
  unfold FindRes at HF
  generalize hV : withQ (fullL 12) ⟨l, pg, ct⟩ = V at *
  obtain ⟨xs, e⟩ := V
  unfold Rt.val at HW1 HW2 HW3 HF
  unfold maR at HW3 HF
  simp only [← ma_str] at HW3 HF
  have hsz : (strOfNums l).size = l.length := strOfNums_size l
  have HAT := Lib.hid (at_alloc w (.cells #[.string (strOfNums l), .int .i64 pg, .int .i64 ct] 34))
  have HM0 : Hid (Mod [] w (w.alloc (.cells #[.string (strOfNums l), .int .i64 pg, .int .i64 ct] 34))) := Mod.of_alloc w _
  obtain ⟨i0, hi0, hz0, hz1, hz2⟩ := info_parts infoRoot
  have hcat : ∀ W : World, ∀ k : Nat, k < 12 → True := fun _ _ _ => trivial
  clear h hV hcat
  go_enter Tryd.func6, Tryd.ntmps6
  rw [show (Rt.val ⟨l, pg, ct⟩) = .agg #[.string (strOfNums l), .int .i64 pg, .int .i64 ct] from rfl]
  go_wp2_with fail
  refine (awake_any _).mono ?_
  rintro _ w1 ⟨_, rfl, rfl, m1⟩
  have M1 := Lib.hid (HM0.out.same m1)
  obtain ⟨A, hA⟩ : ∃ A, A = w.heap.size := ⟨_, rfl⟩
  have HAT1 : Hid (w1.heap[A]? = some (.cells #[.string (strOfNums l), .int .i64 pg, .int .i64 ct] 34 (0, 0))) := by rw [hA]; exact m1.at HAT.out (by simp)
  rw [← hA]
  obtain ⟨B, hB⟩ : ∃ B, B = w1.heap.size := ⟨_, rfl⟩
  have HB := Lib.hid hB
  have HAB : Hid (A < B) := by unfold Hid; rw [hB]; exact lt_of_at HAT1.out
  have HAE := Lib.hid hA
  clear m1 HAT HM0 hA hB
  go_wp2
  go_loopw [3, 4] (fun ov iv wr => ∃ (i d : Nat) (o : Option Addr), i ≤ 12 ∧ iv = .int .i64 i ∧ ov = .slice o i d ∧ Tl wr B 3 o i d (rcells (fullL i)) ∧ Mod [] w1 wr) (fun _ iv _ => 12 - (intOf iv).toNat)
  case atStart => exact ⟨0, 0, none, by omega, rfl, rfl, Tl.none' _ _ _, Mod.refl _ _⟩
  case round =>
    obtain ⟨i, d, o, hi, rfl, rfl, ht, hm⟩ := hrel
    have OT := Lib.hid ht
    have HM := Lib.hid hm
    clear ht hm
    by_cases hlt : i < 12
    · have hwi : IntKind.i64.wrap ((i : Int) + 1) = (i : Int) + 1 := IntWalk.i64_in _ (by omega)
      have hw2 : IntKind.i64.wrap (97 + (i : Int)) = 97 + (i : Int) := IntWalk.i64_in _ (by omega)
      have hw3 : IntKind.u8.wrap (97 + (i : Int)) = 97 + (i : Int) := by rw [IntKind.wrap_u8]; omega
      have hw4 : IntKind.i64.wrap (2 + (i : Int)) = 2 + (i : Int) := IntWalk.i64_in _ (by omega)
      have hcv := (lit2_bytes wr [109, 97 + (i : Int)] 5 (by simp)).str 23 5 9 Tryd.underlying23 uU8 uStr
      change (convert 23 9 (.slice (some ⟨wr.heap.size, 0, none⟩) 2 2)).run Tryd.prog (wr.alloc (.cells #[.int .u8 109, .int .u8 (97 + (i : Int))] 5)) = _ at hcv
      obtain ⟨W2, hW2⟩ : ∃ W2, W2 = (wr.alloc (.cells #[.int .u8 109, .int .u8 (97 + (i : Int))] 5)).alloc (.cells #[.string (strOfNums [109, 97 + (i : Int)]), .int .i64 (2 + (i : Int)), .int .i64 1] 34) := ⟨_, rfl⟩
      have SR : Hid (Sl W2 3 (some ⟨wr.heap.size + 1, 0, none⟩) 1 1 (rcells [fullR i])) := by
        have := sl_root (wr.alloc (.cells #[.int .u8 109, .int .u8 (97 + (i : Int))] 5)) [109, 97 + (i : Int)] (2 + (i : Int)) 1 34
        rw [hW2]; unfold Hid fullR; simpa using this
      have hmw : Mod [] wr W2 := by rw [hW2]; exact ((Mod.refl [] wr).alloc).alloc
      have OT3 := Lib.hid (OT.out.mod hmw (by simp))
      have HM3 := Lib.hid (HM.out.same hmw)
      have L3 : B ≤ W2.heap.size := by rw [HB.out]; exact HM3.out.size
      rw [hW2] at SR OT3 HM3 L3
      clear hW2 hmw
      go_wp2_with (first
        | (at_builtin; go_must (refine wpList_append_tl _ rfl _ _ _ rfl B 34 i0 _ 3 32 Tryd.underlying22 hi0 hz0 hz1 hz2 rfl (by omega) _ _ _ _ rfl OT3.out _ _ _ _ rfl SR.out (i + 1) rfl (by unfold maxLen; omega) (by omega) L3 ?_); intro p9 c9 w9 ht9 hm9 hnil9 hor9; (have OT9 := Lib.hid ht9); (have MC9 := Lib.hid (OT3.out.turned (w2 := w) HB.out.symm hm9 HM3.out)); clear ht9 hm9 hnil9 hor9)
        | go_in)
      go_roundw
      case rel => exact ⟨i + 1, c9, p9, by omega, by go_num, rfl, by rw [fullL_succ, rcells_append]; exact OT9.out, MC9.out⟩
      case measure => simp [intOf]; omega
    · obtain rfl : i = 12 := by omega
      have HI : Hid (RtsIn wr o 12 d (fullL 12)) := ⟨OT.out.sl, fullL_wf (by omega)⟩
      have HM1 := Lib.hid (M1.out.same HM.out)
      have HAT2 := Lib.hid (HM.out.at HAT1.out (by simp))
      clear OT HM HAT1 M1 hlt
      have hmy : mayR (fullL 12) = true := fullL_may
      have HMY := fun W m => Lib.hid (rsmay_any o 12 d (fullL 12) W (HI.out.mod0 (w' := W) m))
      have HQMY := fun W m => Lib.hid (qsmay_any o 12 d (fullL 12) W (HI.out.mod0 (w' := W) m))
      rw [hmy] at HMY HQMY
      clear hmy
      go_wp2_with fail
      refine (HMY _ (Mod.refl _ _)).out.mono ?_
      rintro _ w2 ⟨_, rfl, rfl, m2⟩
      have M2 := Lib.hid m2
      clear m2
      go_wp2_with fail
      refine (HQMY _ M2.out).out.mono ?_
      rintro _ w3 ⟨_, rfl, rfl, m3⟩
      have M3 := Lib.hid (M2.out.same m3)
      have HAT3 := Lib.hid (M3.out.at HAT2.out (by simp))
      have HI3 := Lib.hid (HI.out.mod0 M3.out)
      have HM3 := Lib.hid (HM1.out.same M3.out)
      clear m3 M2 HMY HQMY
      have k0 : w3.cell? ⟨A, 0, none⟩ = some (.string (strOfNums l)) := cell_of_at HAT3.out 0
      have k1 : w3.cell? ⟨A, 1, none⟩ = some (.int .i64 pg) := cell_of_at HAT3.out 1
      have k2 : w3.cell? ⟨A, 2, none⟩ = some (.int .i64 ct) := cell_of_at HAT3.out 2
      by_cases h100 : 100 < l.length
      · have hz : decide (100 < l.length) = true := by simpa using h100
        go_wp2
        go_ret
        exact .mk ⟨rfl, HM3.out⟩
      have hz : decide (100 < l.length) = false := by simpa using h100
      go_wp2_with fail
      refine (HW1 _ _ _ HI3.out).out.mono ?_
      rintro _ w4 ⟨_, rfl, p4, n4, c4, rfl, in4, m4⟩
      have IN4 := Lib.hid in4
      have HAT4 := Lib.hid (m4.at HAT3.out (by simp))
      have HI4 := Lib.hid (HI3.out.mod0 m4)
      have HM4 := Lib.hid (HM3.out.same m4)
      clear in4 m4 HW1 k0 k1 k2
      have k0 : w4.cell? ⟨A, 0, none⟩ = some (.string (strOfNums l)) := cell_of_at HAT4.out 0
      have k1 : w4.cell? ⟨A, 1, none⟩ = some (.int .i64 pg) := cell_of_at HAT4.out 1
      have k2 : w4.cell? ⟨A, 2, none⟩ = some (.int .i64 ct) := cell_of_at HAT4.out 2
      go_wp2_with fail
      refine (HW2 _ _ _ HI4.out).out.mono ?_
      rintro _ w5 ⟨_, rfl, p5, n5, c5, rfl, in5, m5⟩
      have IN5 := Lib.hid in5
      have IN4b := Lib.hid (IN4.out.mod0 m5)
      have HI5 := Lib.hid (HI4.out.mod0 m5)
      have HM5 := Lib.hid (HM4.out.same m5)
      clear in5 m5 HW2 k0 k1 k2 HAT2 HAT3 HAT4
      go_wp2_with fail
      refine (HW3 _ _ _ HI5.out).out.mono ?_
      rintro _ w6 ⟨_, rfl, p6, n6, c6, rfl, in6, m6⟩
      have hn6 : n6 = 12 := in6.len.symm.trans (by decide)
      subst hn6
      have IN6 := Lib.hid in6
      have IN5b := Lib.hid (IN5.out.mod0 m6)
      have IN4c := Lib.hid (IN4b.out.mod0 m6)
      have HM6 := Lib.hid (HM5.out.same m6)
      clear in6 m6 HW3
      go_wp2_with fail
      refine (HF _ _ _ IN6.out).out.mono ?_
      rintro _ w7 ⟨_, rfl, rfl, m7⟩
      have IN5c := Lib.hid (IN5b.out.mod0 m7)
      have IN4d := Lib.hid (IN4c.out.mod0 m7)
      have HM7 := Lib.hid (HM6.out.same m7)
      have HAT8 := Lib.hid (at_alloc w7 (.cells #[.string ⟨#[109, 97]⟩, .int .i64 99, .int .i64 5] 34))
      have HM8 := Lib.hid (Mod.of_alloc w7 (.cells #[.string ⟨#[109, 97]⟩, .int .i64 99, .int .i64 5] 34))
      have hee : (e == e) = true := by simp
      clear m7 HF
      go_wp2_with fail
      refine (qrsame_any _ _ _ _ _ _ xs xs _ (IN4d.out.mod0 HM8.out) (IN5c.out.mod0 HM8.out)).mono ?_
      rintro _ w9 ⟨_, rfl, rfl, m9⟩
      rw [decide_eq_true rfl]
      have HM9 := Lib.hid ((HM7.out.same HM8.out).same m9)
      have HAT9 := Lib.hid (m9.at HAT8.out (by simp))
      obtain ⟨C, hC⟩ : ∃ C, C = w7.heap.size := ⟨_, rfl⟩
      rw [← hC] at HAT9 ⊢
      have k1 : w9.cell? ⟨C, 1, none⟩ = some (.int .i64 99) := cell_of_at HAT9.out 1
      clear m9 hC
      go_wp2
      go_ret
      exact .mk ⟨rfl, HM9.out⟩
end Go.Proofs.YtpdkkokgpdabhaaDoor
namespace Go.Proofs.YtpdkkokgpdabhaaDoor
open Go.RowKit Go.Maps
set_option linter.unusedSimpArgs false
set_option linter.unusedVariables false

set_option maxRecDepth 100000 in
set_option maxHeartbeats 8000000 in
theorem rchange_any (p : Option Addr) (n c : Nat) (rs : List Rt) (r : Rt) (nm : List Int) (w : World) (h : RtsIn w p n c rs) (hr : r.wf) (hnm : WfL nm) : Calls Tryd.prog 4 #[.slice p n c, r.val, .string (strOfNums nm)] w (Ret (BoolM true w)) := by
  have H := Lib.hid h
  have HWR := Lib.hid hr
  have HNW := Lib.hid hnm
  obtain ⟨l, pg, ct⟩ := r
  have hsz : (strOfNums l).size = l.length := strOfNums_size l
  have hszn : (strOfNums nm).size = nm.length := strOfNums_size nm
  have HAT := Lib.hid (at_alloc w (.cells #[.string (strOfNums l), .int .i64 pg, .int .i64 ct] 34))
  have HM0 : Hid (Mod [] w (w.alloc (.cells #[.string (strOfNums l), .int .i64 pg, .int .i64 ct] 34))) := Mod.of_alloc w _
  clear h hr hnm
  go_enter Tryd.func4, Tryd.ntmps4
  rw [show (Rt.val ⟨l, pg, ct⟩) = .agg #[.string (strOfNums l), .int .i64 pg, .int .i64 ct] from rfl]
  go_wp2_with fail
  refine (awake_any _).mono ?_
  rintro _ w1 ⟨_, rfl, rfl, m1⟩
  obtain ⟨A, hA⟩ : ∃ A, A = w.heap.size := ⟨_, rfl⟩
  have M1 := Lib.hid (HM0.out.same m1)
  have HAT1 : Hid (w1.heap[A]? = some (.cells #[.string (strOfNums l), .int .i64 pg, .int .i64 ct] 34 (0, 0))) := by rw [hA]; exact m1.at HAT.out (by simp)
  rw [← hA]
  have HAE := Lib.hid hA
  clear m1 HAT HM0 hA
  go_wp2_with fail
  refine (qsmay_any p n c rs _ (H.out.mod0 M1.out)).mono ?_
  rintro _ w2 ⟨_, rfl, rfl, m2⟩
  have M2 := Lib.hid (M1.out.same m2)
  have HAT2 := Lib.hid (m2.at HAT1.out (by simp))
  clear m2 HAT1 M1
  have k0 : w2.cell? ⟨A, 0, none⟩ = some (.string (strOfNums l)) := cell_of_at HAT2.out 0
  by_cases hmayn : mayR rs = false
  · rw [hmayn]
    go_wp2
    go_ret
    exact .mk ⟨rfl, M2.out⟩
  have hmay : mayR rs = true := by simpa using hmayn
  rw [hmay]
  clear hmayn
  by_cases h300 : 300 < nm.length
  · have hz : (300 : Int) < (nm.length : Int) := by omega
    go_wp2
    go_ret
    exact .mk ⟨rfl, M2.out⟩
  have hz3 : ¬ ((300 : Int) < (nm.length : Int)) := by omega
  by_cases h301 : 300 < l.length
  · have hz : (300 : Int) < (l.length : Int) := by omega
    go_wp2
    go_ret
    exact .mk ⟨rfl, M2.out⟩
  have hz4 : ¬ ((300 : Int) < (l.length : Int)) := by omega
  have HME := Lib.hid hmay
  have hn12 : n ≤ 12 := by rw [← H.out.len]; exact mayR_len hmay
  have HWO := Lib.hid (with_ok (r := ⟨l, pg, ct⟩) hmay (xs := (withQ rs ⟨l, pg, ct⟩).1) (e := (withQ rs ⟨l, pg, ct⟩).2) rfl)
  have HFW := Lib.hid (find_wf (l := nm) H.out.wf)
  obtain ⟨i0, hi0, hz0, hz1, hz2⟩ := info_parts infoRoot
  have OT : Hid (Tl (w2.alloc (.cells #[] 34)) w2.heap.size 3 (some ⟨w2.heap.size, 0, none⟩) 0 0 []) := Tl.of_own (own_empty' w2 _ _ _ (Nat.le_refl _)) (by simp)
  have MC : Hid (Mod [] w2 (w2.alloc (.cells #[] 34))) := Mod.of_alloc w2 _
  have S5 : Hid (Sl (w2.alloc (.cells #[] 34)) 3 p n c (rcells rs)) := H.out.sl.mod (M2.out.same MC.out) (by simp)
  have hs8 := MC.out.size
  clear h300 h301 hmay
  go_wp2_with (first
    | (at_builtin; go_must (refine wpList_append_tl _ rfl _ _ _ rfl w2.heap.size 34 i0 _ 3 32 Tryd.underlying22 hi0 hz0 hz1 hz2 rfl (by omega) _ _ _ _ rfl OT.out _ _ _ _ rfl S5.out n (by omega) (by unfold maxLen; omega) (by omega) hs8 ?_); intro o3 c3 w3 ht3 hm3 hnil3 hor3; (have T3 : Hid (Tl w3 w2.heap.size 3 o3 n c3 (rcells rs)) := ht3); (have M3 := Lib.hid (OT.out.turned (w2 := w2) (w0 := w2) rfl hm3 MC.out)); (have HAT3 := Lib.hid (M3.out.at HAT2.out (by simp))); (have k0 : w3.cell? ⟨A, 0, none⟩ = some (.string (strOfNums l)) := cell_of_at HAT3.out 0); (have k1 : w3.cell? ⟨A, 1, none⟩ = some (.int .i64 pg) := cell_of_at HAT3.out 1); (have k2 : w3.cell? ⟨A, 2, none⟩ = some (.int .i64 ct) := cell_of_at HAT3.out 2); clear ht3 hm3 hnil3 hor3)
    | fail)
  have OW : Hid (RtsIn w3 o3 n c3 rs) := ⟨T3.out.sl, H.out.wf⟩
  have MW3 := Lib.hid (M2.out.same M3.out)
  have HW1 := Lib.hid (rwith_any o3 n c3 rs ⟨l, pg, ct⟩ w3 OW.out HWR.out (mayR_rises HME.out) hn12)
  have HW2 := fun W hm => Lib.hid (qwith_any p n c rs ⟨l, pg, ct⟩ W (H.out.mod0 (w' := W) hm) HWR.out (by omega))
  unfold WithRes at HW1 HW2
  unfold Rt.val at HW1 HW2
  generalize withQ rs ⟨l, pg, ct⟩ = V at *
  obtain ⟨xs, ec⟩ := V
  simp only at HWO HW1 HW2
  clear OT MC S5 hs8 T3
  refine HW1.out.mono ?_
  rintro _ w4 ⟨_, rfl, p4, n4, c4, rfl, in4, m4⟩
  have IX4 := Lib.hid in4
  have MW4 := Lib.hid (MW3.out.same m4)
  have OW4 := Lib.hid (OW.out.mod0 m4)
  have HAT4 := Lib.hid (m4.at HAT3.out (by simp))
  clear in4 m4 HW1 k0 k1 k2
  have k0 : w4.cell? ⟨A, 0, none⟩ = some (.string (strOfNums l)) := cell_of_at HAT4.out 0
  have k1 : w4.cell? ⟨A, 1, none⟩ = some (.int .i64 pg) := cell_of_at HAT4.out 1
  have k2 : w4.cell? ⟨A, 2, none⟩ = some (.int .i64 ct) := cell_of_at HAT4.out 2
  go_wp2_with fail
  refine (HW2 _ MW4.out).out.mono ?_
  rintro _ w5 ⟨_, rfl, p5, n5, c5, rfl, in5, m5⟩
  have IY5 := Lib.hid in5
  have IX5 := Lib.hid (IX4.out.mod0 m5)
  have MW5 := Lib.hid (MW4.out.same m5)
  have OW5 := Lib.hid (OW4.out.mod0 m5)
  have HAT5 := Lib.hid (m5.at HAT4.out (by simp))
  clear in5 m5 HW2 k0 k1 k2
  go_wp2_with fail
  refine (rfind_any o3 n c3 rs nm _ OW5.out HNW.out (mayR_rises HME.out) (by omega)).mono ?_
  rintro _ w6 ⟨_, rfl, rfl, m6⟩
  generalize hFR : findR rs nm = FR at *
  obtain ⟨⟨fl, fp, fc⟩, fb⟩ := FR
  simp only at HFW
  have IY6 := Lib.hid (IY5.out.mod0 m6)
  have IX6 := Lib.hid (IX5.out.mod0 m6)
  have MW6 := Lib.hid (MW5.out.same m6)
  have OW6 := Lib.hid (OW5.out.mod0 m6)
  have HAT6 := Lib.hid (m6.at HAT5.out (by simp))
  have HQF := fun W hm => Lib.hid (qfind_any p n c rs nm W (H.out.mod0 (w' := W) hm) HNW.out)
  rw [hFR] at HQF
  unfold FindRes at HQF
  unfold Rt.val at HQF ⊢
  simp only at HQF ⊢
  have M7 : Hid (Mod [] w6 (w6.alloc (.cells #[.string (strOfNums fl), .int .i64 fp, .int .i64 fc] 34))) := Mod.of_alloc w6 _
  have HB7 := Lib.hid (at_alloc w6 (.cells #[.string (strOfNums fl), .int .i64 fp, .int .i64 fc] 34))
  clear m6 hFR HAT2 HAT3 HAT4 HAT5 M2 M3 MW3 MW4 MW5 OW4 OW5 IX4 IX5 IY5
  go_wp2_with fail
  refine (HQF _ (MW6.out.same M7.out)).out.mono ?_
  rintro _ w8 ⟨_, rfl, rfl, m8⟩
  have M8 := Lib.hid (M7.out.same m8)
  have HB8 := Lib.hid (m8.at HB7.out (by simp))
  obtain ⟨B, hB⟩ : ∃ B, B = w6.heap.size := ⟨_, rfl⟩
  rw [← hB] at HB8 ⊢
  have M9 : Hid (Mod [] w8 (w8.alloc (.cells #[.string (strOfNums fl), .int .i64 fp, .int .i64 fc] 34))) := Mod.of_alloc w8 _
  have HC9 := Lib.hid (at_alloc w8 (.cells #[.string (strOfNums fl), .int .i64 fp, .int .i64 fc] 34))
  have HB9 := Lib.hid (M9.out.at HB8.out (by simp))
  have hee : (ec != ec) = false := by simp
  clear m8 HQF hB HB7 M7
  go_wp2_with fail
  refine (qrsame_any _ _ _ _ _ _ xs xs _ (IX6.out.mod0 (M8.out.same M9.out)) (IY6.out.mod0 (M8.out.same M9.out))).mono ?_
  rintro _ wa ⟨_, rfl, rfl, ma⟩
  rw [decide_eq_true rfl]
  have MA := Lib.hid ((M8.out.same M9.out).same ma)
  have HBA := Lib.hid (ma.at HB9.out (by simp))
  have HCA := Lib.hid (ma.at HC9.out (by simp))
  obtain ⟨C, hC⟩ : ∃ C, C = w8.heap.size := ⟨_, rfl⟩
  rw [← hC] at HCA ⊢
  have b0 : wa.cell? ⟨B, 0, none⟩ = some (.string (strOfNums fl)) := cell_of_at HBA.out 0
  have b1 : wa.cell? ⟨B, 1, none⟩ = some (.int .i64 fp) := cell_of_at HBA.out 1
  have b2 : wa.cell? ⟨B, 2, none⟩ = some (.int .i64 fc) := cell_of_at HBA.out 2
  have c0 : wa.cell? ⟨C, 0, none⟩ = some (.string (strOfNums fl)) := cell_of_at HCA.out 0
  have c1 : wa.cell? ⟨C, 1, none⟩ = some (.int .i64 fp) := cell_of_at HCA.out 1
  have c2 : wa.cell? ⟨C, 2, none⟩ = some (.int .i64 fc) := cell_of_at HCA.out 2
  have hne := run_neR ⟨fl, fp, fc⟩ ⟨fl, fp, fc⟩ HFW.out HFW.out
  rw [decide_eq_true rfl] at hne
  unfold Rt.val at hne
  simp only at hne
  have hbb : (fb != fb) = false := by simp
  clear ma hC HB8 HB9 HC9 M8 M9
  go_wp2_with fail
  refine (rwithout_any o3 n c3 rs nm _ (OW6.out.mod0 MA.out) HNW.out (by omega)).mono ?_
  rintro _ wb ⟨_, rfl, pb, nb, cb, rfl, inb, mb⟩
  have IB := Lib.hid inb
  have MB := Lib.hid (MA.out.same mb)
  clear inb mb b0 b1 b2 c0 c1 c2 hne
  go_wp2_with fail
  refine (qwithout_any p n c rs nm _ (H.out.mod0 (MW6.out.same MB.out)) HNW.out (by omega)).mono ?_
  rintro _ wc ⟨_, rfl, pc, nc, cc, rfl, inc, mc⟩
  have IC := Lib.hid inc
  have IBC := Lib.hid (IB.out.mod0 mc)
  have MC := Lib.hid (MB.out.same mc)
  clear inc mc
  go_wp2_with fail
  refine (qrsame_any _ _ _ _ _ _ (withoutR rs nm) (withoutR rs nm) _ IBC.out IC.out).mono ?_
  rintro _ wd ⟨_, rfl, rfl, md⟩
  rw [decide_eq_true rfl]
  have MD := Lib.hid (MC.out.same md)
  have MWD := Lib.hid (MW6.out.same MD.out)
  have IXD := Lib.hid (IX6.out.mod0 MD.out)
  have OWD := Lib.hid (OW6.out.mod0 MD.out)
  have HATD := Lib.hid (MD.out.at HAT6.out (by simp))
  have k0 : wd.cell? ⟨A, 0, none⟩ = some (.string (strOfNums l)) := cell_of_at HATD.out 0
  clear md IB IC IBC MA MB MC MD IX6 IY6 OW6 HAT6 MW6 HBA HCA
  obtain ⟨g1, g2, g3, g4⟩ := HWO.out
  have hn4 : n4 ≤ 12 := by rw [← IXD.out.len]; exact g2
  have HG3 := Lib.hid g3
  go_wp2_with fail
  refine (rfind_any p4 n4 c4 xs l _ IXD.out HWR.out.1 g1 (by omega)).mono ?_
  rintro _ we ⟨_, rfl, rfl, me⟩
  have ME := Lib.hid (MWD.out.same me)
  have IXE := Lib.hid (IXD.out.mod0 me)
  have OWE := Lib.hid (OWD.out.mod0 me)
  have HATE := Lib.hid (me.at HATD.out (by simp))
  have HFX : Hid (ec = 0 → findR xs l = (⟨l, pg, ct⟩, true)) := fun h => (HG3.out h).2.1
  clear me g1 g2 g3 g4 IXD OWD HATD MWD k0 HWO
  generalize findR xs l = FX at *
  obtain ⟨⟨zl, zp, zc⟩, zb⟩ := FX
  unfold Rt.val
  simp only
  have MF : Hid (Mod [] we (we.alloc (.cells #[.string (strOfNums zl), .int .i64 zp, .int .i64 zc] 34))) := Mod.of_alloc we _
  have HZF := Lib.hid (at_alloc we (.cells #[.string (strOfNums zl), .int .i64 zp, .int .i64 zc] 34))
  go_wp2_with fail
  refine (qrsame_any _ _ _ _ _ _ rs rs _ (OWE.out.mod0 MF.out) (H.out.mod0 (ME.out.same MF.out))).mono ?_
  rintro _ wg ⟨_, rfl, rfl, mg⟩
  rw [decide_eq_true rfl]
  have MG := Lib.hid ((ME.out.same MF.out).same mg)
  have IXG := Lib.hid (IXE.out.mod0 (MF.out.same mg))
  have HZG := Lib.hid (mg.at HZF.out (by simp))
  have HATG := Lib.hid ((MF.out.same mg).at HATE.out (by simp))
  obtain ⟨D, hD⟩ : ∃ D, D = we.heap.size := ⟨_, rfl⟩
  rw [← hD] at HZG ⊢
  clear mg hD HZF HATE IXE OWE MF ME
  by_cases he0 : ec = 0
  · have h0 : (ec != 0) = false := by simpa using he0
    obtain ⟨hx1, hx2, hx3⟩ := HG3.out he0
    have hfx := HFX.out he0
    injection hfx with e1 e2
    injection e1 with e3 e4 e5
    subst e2; subst e3; subst e4; subst e5
    have k0 : wg.cell? ⟨A, 0, none⟩ = some (.string (strOfNums zl)) := cell_of_at HATG.out 0
    have k1 : wg.cell? ⟨A, 1, none⟩ = some (.int .i64 zp) := cell_of_at HATG.out 1
    have k2 : wg.cell? ⟨A, 2, none⟩ = some (.int .i64 zc) := cell_of_at HATG.out 2
    have z0 : wg.cell? ⟨D, 0, none⟩ = some (.string (strOfNums zl)) := cell_of_at HZG.out 0
    have z1 : wg.cell? ⟨D, 1, none⟩ = some (.int .i64 zp) := cell_of_at HZG.out 1
    have z2 : wg.cell? ⟨D, 2, none⟩ = some (.int .i64 zc) := cell_of_at HZG.out 2
    have heq := run_eqR ⟨zl, zp, zc⟩ ⟨zl, zp, zc⟩ HWR.out.1 HWR.out.1
    rw [decide_eq_true rfl] at heq
    unfold Rt.val at heq
    simp only at heq
    have HX1 := Lib.hid hx1
    clear he0 hx1 hx2 hx3 HFX HG3 HATG HZG
    go_wp2_with fail
    refine (rsmay_any _ _ _ xs _ IXG.out).mono ?_
    rintro _ wh ⟨_, rfl, rfl, mh⟩
    rw [HX1.out]
    have MH := Lib.hid (MG.out.same mh)
    clear mh
    go_wp2
    go_ret
    exact .mk ⟨rfl, MH.out⟩
  · have h0 : (ec != 0) = true := by simpa using he0
    clear he0 HFX HG3 HATG HZG
    go_wp2
    go_ret
    exact .mk ⟨rfl, MG.out⟩
end Go.Proofs.YtpdkkokgpdabhaaDoor
namespace Go.Proofs.YtpdkkokgpdabhaaDoor
open Go.RowKit Go.Maps
set_option linter.unusedSimpArgs false
set_option linter.unusedVariables false

theorem GoodR.uniq {b : List Int} {rs ks : List Rt} (h : GoodR b rs) (g : GoodR b ks) (hw : ∀ r ∈ rs, WfL r.l) (kw : ∀ r ∈ ks, WfL r.l) : rs = ks := by
  have hl : rs.length = ks.length := by have := h.count.1; have := g.count.1; omega
  have h1 := h.parse hw rs.length (Nat.le_refl _)
  have h2 := g.parse kw rs.length (by omega)
  rw [h1] at h2
  injection h2 with h2
  injection h2 with e1 e2
  rwa [List.take_length, hl, List.take_length] at e1
theorem GoodR.self {rs : List Rt} (hm : mayR rs = true) : GoodR (rootsBytes rs ++ List.replicate (1016 - (rootsBytes rs).length) 0) rs := ⟨hm, rfl⟩
set_option maxRecDepth 100000 in
set_option maxHeartbeats 8000000 in
theorem rtell_any (p : Option Addr) (n c : Nat) (rs : List Rt) (q : Option Addr) (m d : Nat) (b : List Int) (w : World) (h : RtsIn w p n c rs) (hb : BytesIn w q m d b) :
    Calls Tryd.prog 3 #[.slice p n c, .slice q m d] w (Ret (BoolM true w)) := by
  have H := Lib.hid h
  have HB := Lib.hid hb
  clear h hb
  go_enter Tryd.func3, Tryd.ntmps3
  go_wp2_with fail
  refine (awake_any _).mono ?_
  rintro _ w1 ⟨_, rfl, rfl, m1⟩
  have M1 := Lib.hid m1
  clear m1
  by_cases h40 : 40 < n
  · have hz : decide (40 < n) = true := by simpa using h40
    go_wp2
    go_ret
    exact .mk ⟨rfl, M1.out⟩
  have hz40 : decide (40 < n) = false := by simpa using h40
  by_cases h2000 : 2000 < m
  · have hz : decide (2000 < m) = true := by simpa using h2000
    go_wp2
    go_ret
    exact .mk ⟨rfl, M1.out⟩
  have hz2000 : decide (2000 < m) = false := by simpa using h2000
  go_wp2_with fail
  refine (rpay_any p n c rs _ (H.out.mod0 M1.out)).mono ?_
  rintro _ w2 ⟨_, rfl, p5, n5, c5, rfl, e5, z5, t5, m5⟩
  have E5 := Lib.hid e5
  have T5 := Lib.hid t5
  have M2 := Lib.hid (M1.out.same m5)
  clear e5 z5 t5 m5
  go_wp2_with fail
  refine (rfrom_any q m d b _ ⟨HB.out.sl.mod M2.out (by simp), HB.out.wf⟩).mono ?_
  rintro _ w3 ⟨v3, rfl, h3⟩
  obtain ⟨xs, x6, n6, c6, e6, hv3, hin3, hm3, hg3⟩ : ∃ (xs : List Rt) (x6 : Option Addr) (n6 c6 : Nat) (e6 : Int), v3 = .tuple #[.slice x6 n6 c6, .int .i64 e6] ∧ RtsIn w3 x6 n6 c6 xs ∧ Mod [] w2 w3 ∧ ((GoodR b xs ∧ e6 = 0) ∨ ((¬ ∃ rs, (∀ x ∈ rs, WfL x.l) ∧ GoodR b rs) ∧ xs = [] ∧ e6 = 5)) := by
    rcases h3 with ⟨xs, hw, hg, x6, n6, c6, hv, hin, hm⟩ | ⟨hno, hv, hm⟩
    · exact ⟨xs, x6, n6, c6, 0, hv, hin, hm, Or.inl ⟨hg, rfl⟩⟩
    · exact ⟨[], none, 0, 0, 5, hv, RtsIn.nil _, hm, Or.inr ⟨hno, rfl, rfl⟩⟩
  subst hv3
  have IN3 := Lib.hid hin3
  have G3 := Lib.hid hg3
  have M3 := Lib.hid (M2.out.same hm3)
  have T5b := Lib.hid (T5.out.mod hm3 (by simp))
  clear h3 hin3 hg3 hm3
  go_wp2_with fail
  refine (qrfrom_any q m d b _ ⟨HB.out.sl.mod M3.out (by simp), HB.out.wf⟩).mono ?_
  rintro _ w4 ⟨v4, rfl, h4⟩
  obtain ⟨y7, n7, c7, hv4, hin4, hm4⟩ : ∃ (y7 : Option Addr) (n7 c7 : Nat), v4 = .tuple #[.slice y7 n7 c7, .int .i64 e6] ∧ RtsIn w4 y7 n7 c7 xs ∧ Mod [] w3 w4 := by
    rcases h4 with ⟨ys, hw, hg, x6, n6, c6, hv, hin, hm⟩ | ⟨hno, hv, hm⟩
    · rcases G3.out with ⟨g, rfl⟩ | ⟨hno, _⟩
      · have e := hg.uniq g (fun r hr => (hw r hr).1) (fun r hr => (IN3.out.wf r hr).1)
        subst e
        exact ⟨x6, n6, c6, hv, hin, hm⟩
      · exact absurd ⟨ys, fun r hr => (hw r hr).1, hg⟩ hno
    · rcases G3.out with ⟨g, rfl⟩ | ⟨_, rfl, rfl⟩
      · exact absurd ⟨xs, fun r hr => (IN3.out.wf r hr).1, g⟩ hno
      · exact ⟨none, 0, 0, hv, RtsIn.nil _, hm⟩
  subst hv4
  have IN3b := Lib.hid (IN3.out.mod0 hm4)
  have IN4 := Lib.hid hin4
  have M4 := Lib.hid (M3.out.same hm4)
  have T5c := Lib.hid (T5b.out.mod hm4 (by simp))
  clear h4 hin4 hm4
  go_wp2_with fail
  refine (rsmay_any p n c rs _ (H.out.mod0 M4.out)).mono ?_
  rintro _ w5 ⟨_, rfl, rfl, m5⟩
  have M5 := Lib.hid (M4.out.same m5)
  have IX5 := Lib.hid (IN3b.out.mod0 m5)
  have IY5 := Lib.hid (IN4.out.mod0 m5)
  have T5d := Lib.hid (T5c.out.mod m5 (by simp))
  clear m5
  go_wp2_with fail
  refine (qsmay_any p n c rs _ (H.out.mod0 M5.out)).mono ?_
  rintro _ w6 ⟨_, rfl, rfl, m6⟩
  have M6 := Lib.hid (M5.out.same m6)
  have IX6 := Lib.hid (IX5.out.mod0 m6)
  have IY6 := Lib.hid (IY5.out.mod0 m6)
  have T6 := Lib.hid (T5d.out.mod m6 (by simp))
  clear m6
  have hmm : (mayR rs != mayR rs) = false := by cases mayR rs <;> rfl
  have hee : (e6 != e6) = false := by simp
  go_wp2_with fail
  refine (qrpay_any p n c rs _ (H.out.mod0 M6.out)).mono ?_
  rintro _ w7 ⟨_, rfl, p8, n8, c8, rfl, e8, z8, t8, m8⟩
  have M7 := Lib.hid (M6.out.same m8)
  have IX7 := Lib.hid (IX6.out.mod0 m8)
  have IY7 := Lib.hid (IY6.out.mod0 m8)
  have T7 := Lib.hid (T6.out.mod m8 (by simp))
  have T8 := Lib.hid t8
  clear e8 z8 t8 m8
  go_wp2_with fail
  refine (qsame_any _ _ _ _ _ _ (payRs rs) (payRs rs) _ T7.out.sl T8.out.sl).mono ?_
  rintro _ w8 ⟨_, rfl, rfl, m8⟩
  rw [decide_eq_true rfl]
  have M8 := Lib.hid (M7.out.same m8)
  have IX8 := Lib.hid (IX7.out.mod0 m8)
  have IY8 := Lib.hid (IY7.out.mod0 m8)
  have T9 := Lib.hid (T7.out.mod m8 (by simp))
  clear m8
  go_wp2_with fail
  refine (qrsame_any _ _ _ _ _ _ xs xs _ IX8.out IY8.out).mono ?_
  rintro _ w9 ⟨_, rfl, rfl, m9⟩
  rw [decide_eq_true rfl]
  have M9 := Lib.hid (M8.out.same m9)
  have T10 := Lib.hid (T9.out.mod m9 (by simp))
  clear m9
  by_cases hmay : mayR rs = true
  · have HPV : Hid (payRs rs = rootsBytes rs) := if_pos hmay
    have h50 : 0 < n5 := by rw [E5.out, HPV.out]; simp [rootsBytes]
    have h51 : n5 ≤ 401 := by rw [E5.out]; exact payRs_len rs
    have hz5 : ((n5 : Int) == 0) = false := by simp; omega
    obtain ⟨k, hk⟩ : ∃ k, k = 1016 - n5 := ⟨_, rfl⟩
    have hwk : IntKind.i64.wrap (1016 - (n5 : Int)) = (k : Int) := by rw [IntWalk.i64_in _ (by omega)]; omega
    have hnk : n5 + k = 1016 := by omega
    have HPK : Hid (payRs rs ++ List.replicate k 0 = rootsBytes rs ++ List.replicate (1016 - (rootsBytes rs).length) 0) := by unfold Hid; rw [HPV.out, hk, E5.out, HPV.out]
    have HNK := Lib.hid hnk
    have HWB : Hid (∀ x ∈ payRs rs ++ List.replicate k 0, 0 ≤ x ∧ x < 256) := fun x hx => by
      rcases List.mem_append.1 hx with hx | hx
      · exact payRs_wf (fun r hr => (H.out.wf r hr).1) x hx
      · have := List.eq_of_mem_replicate hx; omega
    obtain ⟨i0, hi0, hz0, hz1, hz2⟩ := info_parts infoU8
    have OT : Hid (Tl (w9.alloc (.cells #[] 5)) w9.heap.size 1 (some ⟨w9.heap.size, 0, none⟩) 0 0 (bs [])) := Tl.of_own (own_empty' w9 _ _ _ (Nat.le_refl _)) (by simp [bs])
    have S5 : Hid (Sl (w9.alloc (.cells #[] 5)) 1 p5 n5 c5 (bs (payRs rs))) := T10.out.sl.mod (Mod.of_alloc w9 _) (by simp)
    have MC : Hid (Mod [] w9 (w9.alloc (.cells #[] 5))) := Mod.of_alloc w9 _
    have hs8 := MC.out.size
    have hmayN : Hid (mayR rs = true) := hmay
    clear hk hmay hnk
    go_wp2_with (first
      | (at_builtin; go_loud (refine wpList_append_tl _ rfl _ _ _ rfl w9.heap.size 5 i0 _ 1 1 Tryd.underlying23 hi0 hz0 hz1 hz2 rfl (by omega) _ _ _ _ rfl OT.out _ _ _ _ rfl S5.out n5 (by omega) (by unfold maxLen; omega) (by omega) hs8 ?_); intro p12 c12 w12 ht12 hm12 hnil12 hor12; (have T12 : Hid (Tl w12 w9.heap.size 1 p12 n5 c12 (bs (payRs rs))) := ht12); (have M12 := Lib.hid (OT.out.turned (w2 := w9) (w0 := w9) rfl hm12 MC.out)); (have hs12 := M12.out.size); clear ht12 hm12 hnil12 hor12)
      | (at_builtin; go_loud (refine wpList_append_zeros_tl _ rfl _ _ _ _ rfl w9.heap.size 5 i0 Tryd.underlying23 Tryd.underlying3 hi0 hz0 hz1 hz2 _ _ _ (payRs rs) rfl T12.out k rfl 1016 HNK.out (by omega) hs12 ?_); intro p13 c13 w13 ht13 hm13 hnil13; (have T13 := Lib.hid ht13); (have M13 : Hid (Mod [] w9 w13) := T12.out.turned (w2 := w9) (w0 := w9) rfl hm13 M12.out); clear ht13 hm13 hnil13)
      | fail)
    refine (rfrom_any p13 1016 c13 _ _ ⟨T13.out.sl, HWB.out⟩).mono ?_
    rintro _ w14 ⟨v14, rfl, h14⟩
    rcases h14 with ⟨ks, hkw, hkg, x15, n15, c15, rfl, hin15, hm15⟩ | ⟨hno, _⟩
    · have e : ks = rs := by
        rw [HPK.out] at hkg
        exact hkg.uniq (GoodR.self hmayN.out) (fun r hr => (hkw r hr).1) (fun r hr => (H.out.wf r hr).1)
      subst e
      have IN15 := Lib.hid hin15
      have M15 := Lib.hid ((M9.out.same M13.out).same hm15)
      clear hin15 hm15 hkg hkw
      go_wp2_with fail
      refine (qrsame_any _ _ _ _ _ _ ks ks _ IN15.out (H.out.mod0 M15.out)).mono ?_
      rintro _ w16 ⟨_, rfl, rfl, m16⟩
      rw [decide_eq_true rfl]
      have M16 := Lib.hid (M15.out.same m16)
      clear m16
      go_wp2
      go_ret
      exact .mk ⟨rfl, M16.out⟩
    · exact absurd ⟨rs, fun r hr => (H.out.wf r hr).1, by rw [HPK.out]; exact GoodR.self hmayN.out⟩ hno
  · have HPV : Hid (payRs rs = []) := if_neg hmay
    have hmay' : mayR rs = false := by simpa using hmay
    rw [HPV.out] at E5
    obtain rfl : n5 = 0 := E5.out
    clear E5
    go_wp2_with fail
    refine (qsmay_any p n c rs _ (H.out.mod0 M9.out)).mono ?_
    rintro _ w10 ⟨_, rfl, rfl, m10⟩
    rw [hmay']
    have M10 := Lib.hid (M9.out.same m10)
    clear m10
    go_wp2
    go_ret
    exact .mk ⟨rfl, M10.out⟩
end Go.Proofs.YtpdkkokgpdabhaaDoor
