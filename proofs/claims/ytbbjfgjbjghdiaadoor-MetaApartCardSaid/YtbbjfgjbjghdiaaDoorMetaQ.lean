/- The document's meta: its page. -/
import Derived.Test.YtbbjfgjbjghdiaaDoorMeta
import Derived.Test.YtbbjfgjbjghdiaaDoorTlKey
import Derived.Lib.SlBytesConst
namespace Go.Proofs.YtbbjfgjbjghdiaaDoor
open Go.RowKit Go.Maps
set_option linter.unusedSimpArgs false
set_option linter.unusedVariables false

theorem tl_marked (W : World) (T : TypeId) (fz : Nat × Nat) : Tl (W.alloc (.cells #[.int .u8 67, .int .u8 65, .int .u8 77, .int .u8 66] T fz)) W.heap.size 1 (some ⟨W.heap.size, 0, none⟩) 4 4 (bs [67, 65, 77, 66]) := by
  have hat := at_alloc W (.cells #[.int .u8 67, .int .u8 65, .int .u8 77, .int .u8 66] T fz)
  exact ⟨⟨rfl, Nat.le_refl _, by simp [maxLen], bs_one _, W.heap.size, 0, fun _ => ⟨rfl, lt_of_at hat⟩, fun j u hj => by rw [cell_of_at hat, Nat.zero_add]; simpa [bs] using hj⟩, by simp, fun a ha => by cases ha; exact ⟨rfl, Nat.le_refl _, lt_of_at hat⟩, fun a ha j hj => by simp at hj⟩
set_option maxRecDepth 100000 in
set_option maxHeartbeats 4000000 in
theorem qpaym_any (m : Mt) (w : World) : Calls Tryd.prog 13 #[.agg m.cells] w (Ret (PayT (payM m) w)) := by
  have HP1 : Hid (m.may = true → payM m = m.bytes) := fun h => if_pos h
  have HP0 : Hid (m.may = false → payM m = []) := fun h => payM_nil.2 h
  have HSP : Hid (m.may = true → _) := m.may_spec
  have HMAY := fun W => qmay_any m W
  have HBL := Lib.hid m.bytes_len
  have HBB : Hid (m.bytes = [67, 65, 77, 66] ++ be 8 m.gen ++ be 4 m.high ++ be 4 m.root ++ be 4 m.free) := rfl
  obtain ⟨B, hB⟩ : ∃ B, B = m.may := ⟨_, rfl⟩
  rw [← hB] at HP1 HP0 HSP HMAY
  clear hB
  generalize payM m = PP at *
  generalize m.bytes = BB at *
  obtain ⟨g, h, r, f⟩ := m
  simp only [Mt.cells] at HMAY HSP HBB ⊢
  have HMW : Hid (Mod [] w (w.alloc (.cells #[.int .u64 g, .int .i64 h, .int .i64 r, .int .i64 f] 24))) := Mod.of_alloc w _
  have c0 : (w.alloc (.cells #[.int .u64 g, .int .i64 h, .int .i64 r, .int .i64 f] 24)).cell? ⟨w.heap.size, 0, none⟩ = some (.int .u64 g) := cell_of_at (at_alloc w _) 0
  have c1 : (w.alloc (.cells #[.int .u64 g, .int .i64 h, .int .i64 r, .int .i64 f] 24)).cell? ⟨w.heap.size, 1, none⟩ = some (.int .i64 h) := cell_of_at (at_alloc w _) 1
  have c2 : (w.alloc (.cells #[.int .u64 g, .int .i64 h, .int .i64 r, .int .i64 f] 24)).cell? ⟨w.heap.size, 2, none⟩ = some (.int .i64 r) := cell_of_at (at_alloc w _) 2
  have c3 : (w.alloc (.cells #[.int .u64 g, .int .i64 h, .int .i64 r, .int .i64 f] 24)).cell? ⟨w.heap.size, 3, none⟩ = some (.int .i64 f) := cell_of_at (at_alloc w _) 3
  have hBL : w.heap.size < (w.alloc (.cells #[.int .u64 g, .int .i64 h, .int .i64 r, .int .i64 f] 24)).heap.size := lt_of_at (at_alloc w _)
  go_enter Tryd.func13, Tryd.ntmps13
  go_wp2_with fail
  refine (HMAY _).mono ?_
  rintro _ w1 ⟨_, rfl, rfl, m1⟩
  have HM1 : Hid (Mod [] w w1) := HMW.out.same m1
  have hd0 := (m1.cell (a := ⟨w.heap.size, 0, none⟩) hBL (by simp)).trans c0
  have hd1 := (m1.cell (a := ⟨w.heap.size, 1, none⟩) hBL (by simp)).trans c1
  have hd2 := (m1.cell (a := ⟨w.heap.size, 2, none⟩) hBL (by simp)).trans c2
  have hd3 := (m1.cell (a := ⟨w.heap.size, 3, none⟩) hBL (by simp)).trans c3
  have hB1 : w.heap.size < w1.heap.size := Nat.lt_of_lt_of_le hBL m1.size
  clear c0 c1 c2 c3 hBL HMAY m1 HMW
  cases B with
  | false =>
    have HP := Lib.hid (HP0.out rfl)
    go_wp2
    go_ret
    exact .mk ⟨none, 0, 0, rfl, by rw [HP.out]; rfl, by rw [HP.out]; simp, by rw [HP.out]; exact Tl.none' _ _ _, HM1.out⟩
  | true =>
    have HP := Lib.hid (HP1.out rfl)
    obtain ⟨⟨g1, g2⟩, ⟨h1, h2⟩, ⟨r1, r2⟩, ⟨f1, f2⟩⟩ := HSP.out rfl
    have hwh : IntKind.u64.wrap h = h := by rw [IntKind.wrap_u64]; omega
    have hwr : IntKind.u64.wrap r = r := by rw [IntKind.wrap_u64]; omega
    have hwf : IntKind.u64.wrap f = f := by rw [IntKind.wrap_u64]; omega
    obtain ⟨i0, hi0, hz0, hz1, hz2⟩ := info_parts infoU8
    have hcv := Lib.run_convert_bytes_const (P := Tryd.prog) w1 25 5 #[.int .u8 67, .int .u8 65, .int .u8 77, .int .u8 66] 4 4 Tryd.underlying25 uU8
    have W1C : ∀ o (x : Nat), (w1.alloc o).cell? ⟨w.heap.size, x, none⟩ = w1.cell? ⟨w.heap.size, x, none⟩ := fun o x => (Mod.of_alloc w1 o).cell (a := ⟨w.heap.size, x, none⟩) hB1 (by simp)
    have OT : Hid (Tl (w1.alloc (.cells #[.int .u8 67, .int .u8 65, .int .u8 77, .int .u8 66] 5 (4, 5))) w1.heap.size 1 (some ⟨w1.heap.size, 0, none⟩) 4 4 (bs [67, 65, 77, 66])) := tl_marked _ _ _
    have MC : Hid (Mod [] w1 (w1.alloc (.cells #[.int .u8 67, .int .u8 65, .int .u8 77, .int .u8 66] 5 (4, 5)))) := Mod.of_alloc _ _
    have hA := hB1
    have HD0 := Lib.hid hd0
    have HD1 := Lib.hid hd1
    have HD2 := Lib.hid hd2
    have HD3 := Lib.hid hd3
    clear HP0 HP1 HSP
    go_wp2_with fail
    refine (qkey_any g _ (by omega) (by omega)).mono ?_
    rintro _ w2 ⟨_, rfl, q1, n1, c1, rfl, e1', s1', m1⟩
    obtain rfl : n1 = 8 := by rw [e1', be_len]
    replace MC := Lib.hid (MC.out.same m1)
    replace OT := Lib.hid (OT.out.mod m1 (by simp))
    have T1 := Lib.hid (Tl.of_key s1')
    have L1 := MC.out.size
    clear e1' s1' m1
    go_wp2_with (first
      | (at_builtin; (refine wpList_append_tl _ rfl _ _ _ rfl w1.heap.size 5 i0 _ 1 1 Tryd.underlying25 hi0 hz0 hz1 hz2 rfl (by omega) _ _ _ _ rfl OT.out _ _ _ _ rfl T1.out.sl 12 rfl (by unfold maxLen; omega) (by omega) L1 ?_); intro o1 d1 w3 ht1 hm1 hnil1 hor1; (have HO1 : Hid (o1 ≠ none) := fun e => by have := (hnil1.1 e).2; cases this); (replace MC := Lib.hid (OT.out.turned (w2 := w) rfl hm1 MC.out)); (replace OT := Lib.hid ht1); (have hd0 := (MC.out.cell (a := ⟨w.heap.size, 0, none⟩) hA (by simp)).trans HD0.out); (have hd1 := (MC.out.cell (a := ⟨w.heap.size, 1, none⟩) hA (by simp)).trans HD1.out); (have hd2 := (MC.out.cell (a := ⟨w.heap.size, 2, none⟩) hA (by simp)).trans HD2.out); (have hd3 := (MC.out.cell (a := ⟨w.heap.size, 3, none⟩) hA (by simp)).trans HD3.out); clear ht1 hm1 hnil1 hor1)
      | fail)
    refine (qkey_any h _ (by omega) (by omega)).mono ?_
    rintro _ w4 ⟨_, rfl, q2, n2, c2, rfl, e2', s2', m2⟩
    obtain rfl : n2 = 8 := by rw [e2', be_len]
    replace MC := Lib.hid (MC.out.same m2)
    replace OT := Lib.hid (OT.out.mod m2 (by simp))
    obtain ⟨p2, r2, t2, _⟩ := (Tl.of_key s2').sub_key 4 4 rfl (by omega) 4 rfl
    rw [be_drop] at t2
    have T2 := Lib.hid t2
    clear t2
    have L2 := MC.out.size
    clear e2' s2' m2
    go_wp2_with (first
      | (at_builtin; (refine wpList_append_tl _ rfl _ _ _ rfl w1.heap.size 5 i0 _ 1 1 Tryd.underlying25 hi0 hz0 hz1 hz2 rfl (by omega) _ _ _ _ rfl OT.out _ _ _ _ rfl T2.out.sl 16 rfl (by unfold maxLen; omega) (by omega) L2 ?_); intro o2 d2 w5 ht2 hm2 hnil2 hor2; (have HO2 : Hid (o2 ≠ none) := fun e => by have := (hnil2.1 e).2; cases this); (replace MC := Lib.hid (OT.out.turned (w2 := w) rfl hm2 MC.out)); (replace OT := Lib.hid ht2); (have hd0 := (MC.out.cell (a := ⟨w.heap.size, 0, none⟩) hA (by simp)).trans HD0.out); (have hd1 := (MC.out.cell (a := ⟨w.heap.size, 1, none⟩) hA (by simp)).trans HD1.out); (have hd2 := (MC.out.cell (a := ⟨w.heap.size, 2, none⟩) hA (by simp)).trans HD2.out); (have hd3 := (MC.out.cell (a := ⟨w.heap.size, 3, none⟩) hA (by simp)).trans HD3.out); clear ht2 hm2 hnil2 hor2)
      | fail)
    refine (qkey_any r _ (by omega) (by omega)).mono ?_
    rintro _ w6 ⟨_, rfl, q3, n3, c3, rfl, e3', s3', m3⟩
    obtain rfl : n3 = 8 := by rw [e3', be_len]
    replace MC := Lib.hid (MC.out.same m3)
    replace OT := Lib.hid (OT.out.mod m3 (by simp))
    obtain ⟨p3, r3, t3, _⟩ := (Tl.of_key s3').sub_key 4 4 rfl (by omega) 4 rfl
    rw [be_drop] at t3
    have T3 := Lib.hid t3
    clear t3
    have L3 := MC.out.size
    clear e3' s3' m3
    go_wp2_with (first
      | (at_builtin; (refine wpList_append_tl _ rfl _ _ _ rfl w1.heap.size 5 i0 _ 1 1 Tryd.underlying25 hi0 hz0 hz1 hz2 rfl (by omega) _ _ _ _ rfl OT.out _ _ _ _ rfl T3.out.sl 20 rfl (by unfold maxLen; omega) (by omega) L3 ?_); intro o3 d3 w7 ht3 hm3 hnil3 hor3; (have HO3 : Hid (o3 ≠ none) := fun e => by have := (hnil3.1 e).2; cases this); (replace MC := Lib.hid (OT.out.turned (w2 := w) rfl hm3 MC.out)); (replace OT := Lib.hid ht3); (have hd0 := (MC.out.cell (a := ⟨w.heap.size, 0, none⟩) hA (by simp)).trans HD0.out); (have hd1 := (MC.out.cell (a := ⟨w.heap.size, 1, none⟩) hA (by simp)).trans HD1.out); (have hd2 := (MC.out.cell (a := ⟨w.heap.size, 2, none⟩) hA (by simp)).trans HD2.out); (have hd3 := (MC.out.cell (a := ⟨w.heap.size, 3, none⟩) hA (by simp)).trans HD3.out); clear ht3 hm3 hnil3 hor3)
      | fail)
    refine (qkey_any f _ (by omega) (by omega)).mono ?_
    rintro _ w8 ⟨_, rfl, q4, n4, c4, rfl, e4', s4', m4⟩
    obtain rfl : n4 = 8 := by rw [e4', be_len]
    replace MC := Lib.hid (MC.out.same m4)
    replace OT := Lib.hid (OT.out.mod m4 (by simp))
    obtain ⟨p4, r4, t4, _⟩ := (Tl.of_key s4').sub_key 4 4 rfl (by omega) 4 rfl
    rw [be_drop] at t4
    have T4 := Lib.hid t4
    clear t4
    have L4 := MC.out.size
    clear e4' s4' m4
    go_wp2_with (first
      | (at_builtin; (refine wpList_append_tl _ rfl _ _ _ rfl w1.heap.size 5 i0 _ 1 1 Tryd.underlying25 hi0 hz0 hz1 hz2 rfl (by omega) _ _ _ _ rfl OT.out _ _ _ _ rfl T4.out.sl 24 rfl (by unfold maxLen; omega) (by omega) L4 ?_); intro o4 d4 w9 ht4 hm4 hnil4 hor4; (have HO4 : Hid (o4 ≠ none) := fun e => by have := (hnil4.1 e).2; cases this); (replace MC := Lib.hid (OT.out.turned (w2 := w) rfl hm4 MC.out)); (replace OT := Lib.hid ht4); (have hd0 := (MC.out.cell (a := ⟨w.heap.size, 0, none⟩) hA (by simp)).trans HD0.out); (have hd1 := (MC.out.cell (a := ⟨w.heap.size, 1, none⟩) hA (by simp)).trans HD1.out); (have hd2 := (MC.out.cell (a := ⟨w.heap.size, 2, none⟩) hA (by simp)).trans HD2.out); (have hd3 := (MC.out.cell (a := ⟨w.heap.size, 3, none⟩) hA (by simp)).trans HD3.out); clear ht4 hm4 hnil4 hor4)
      | fail)
    have HFIN : Hid (bs [67, 65, 77, 66] ++ bs (be 8 g) ++ bs (be 4 h) ++ bs (be 4 r) ++ bs (be 4 f) = bs PP) := by
      unfold Hid; rw [HP.out, HBB.out]; simp [bs]
    rw [HFIN.out] at OT
    go_ret
    refine .mk ⟨o4, 24, d4, rfl, by rw [HP.out, HBL.out], ⟨fun e => absurd e HO4.out, fun e => by rw [HP.out] at e; have := HBL.out; rw [e] at this; simp at this⟩, OT.out.base_le ?_, HM1.out.same MC.out⟩
    omega
end Go.Proofs.YtbbjfgjbjghdiaaDoor
