/- PagerChains: a value of any length that may be is read again from its chain; dropped, all its pages are freed. -/
import Derived.Test.YtgimdodbajhpoaaDoorG40
import Derived.Test.YtgimdodbajhpoaaDoorG24
import Derived.Test.YtgimdodbajhpoaaDoorG35
import Derived.Test.YtgimdodbajhpoaaDoorG37
namespace Go.Proofs.YtgimdodbajhpoaaDoor
open Go.RowKit Go.Maps
set_option linter.unusedSimpArgs false
set_option linter.unusedVariables false

def HighR (s : PS) (w : World) (v : Value) (w' : World) : Prop := v = .int .i64 s.high ∧ w' = w
theorem high_any (sb bm : Nat) (s : PS) (w : World) (hr : PoolAt w sb bm s) : Calls Tryd.prog 16 #[.pointer (some ⟨sb, 0, none⟩)] w (Ret (HighR s w)) := by
  have c1 : w.cell? ⟨sb, 1, none⟩ = some (.int .i64 s.high) := cell_of_at hr.at_ 1
  go_enter Tryd.func16, Tryd.ntmps16
  go_wp2
  go_ret
  exact .mk ⟨rfl, rfl⟩
theorem nil_freedC (w : World) : FreedIn w none 0 0 [] := ⟨Sl.nil w 2, by simp⟩
set_option maxRecDepth 100000 in
set_option maxHeartbeats 8000000 in
theorem pchains_any (p : Option Addr) (n c : Nat) (l : List Int) (sz ot : Nat) (w : World) (h : BytesIn w p n c l) (hs : sz < 65536) (ho : ot < 65536) :
    Calls Tryd.prog 3 #[.slice p n c, .int .u16 sz, .int .u16 ot] w (Ret (BoolM true w)) := by
  have hwsz : IntKind.i64.wrap (sz : Int) = (sz : Int) := IntWalk.i64_in _ (by omega)
  have hwot : IntKind.i64.wrap (ot : Int) = (ot : Int) := IntWalk.i64_in _ (by omega)
  have HL := Lib.hid h
  clear h
  go_enter Tryd.func3, Tryd.ntmps3
  go_wp2_with fail
  refine (awake_any _).mono ?_
  rintro _ w1 ⟨_, rfl, rfl, m1⟩
  have M1 := Lib.hid m1
  clear m1
  by_cases h12 : 1100 < n
  · have hz : decide (1100 < n) = true := by simpa using h12
    have hzi : (1100 : Int) < (n : Int) := by omega
    go_wp2
    go_ret
    exact .mk ⟨rfl, M1.out⟩
  have hz12 : decide (1100 < n) = false := by simpa using h12
  have hzi12 : ¬ ((1100 : Int) < (n : Int)) := by omega
  clear h12
  go_wp2_with fail
  refine (pnew_any 40 2 none 0 0 [] w1 (nil_freedC w1)).mono ?_
  rintro _ w2 ⟨_, rfl, m2, h2⟩
  rw [show PS.new 40 2 [] = some ⟨40, 2, []⟩ from rfl] at h2
  obtain ⟨sb0, bm0, rfl, hp2, _, _⟩ := h2
  have HP2 := Lib.hid hp2
  have M2 := Lib.hid (M1.out.same m2)
  clear m2 hp2
  go_wp2_with fail
  refine (dnew_any 40 40 w2 (by decide)).mono ?_
  rintro _ w3 ⟨_, rfl, D, Td, rfl, hd3, m3, hdb⟩
  have HD3 := Lib.hid hd3
  have HP3 := Lib.hid (HP2.out.mod m3 (by simp) (by simp))
  have M3 := Lib.hid (M2.out.same m3)
  have HDL : Hid (∀ b ∈ Td, b < w3.heap.size) := by obtain ⟨gs, ws, vs, vw, M, DM, S, hh⟩ := hd3; exact hh.lt
  clear m3 hd3 hdb
  go_wp2_with fail
  refine (pgrnew_any D sb0 bm0 ⟨40, 2, []⟩ 1 0 w3 HP3.out (by omega) (by omega)).mono ?_
  rintro _ w4 ⟨_, rfl, X, T0, rfl, hx4, m4, hxb⟩
  have HX4 : Hid (PgrAt w4 X T0 D (chAt [] 0)) := hx4
  have HD4 := Lib.hid (HD3.out.mod m4 (by simp))
  have M4 := Lib.hid (M3.out.same m4)
  have HTB : Hid (∀ b ∈ T0, w3.heap.size ≤ b) := hxb
  have HS4 : Hid (w3.heap.size ≤ w4.heap.size) := m4.size
  clear m4 hx4 hxb
  obtain ⟨k, hk⟩ : ∃ k, k = min sz 17000 := ⟨_, rfl⟩
  have HK := Lib.hid hk
  clear hk
  go_wp2_with fail
  refine (full2_any p n c sz k l w4 ⟨HL.out.sl.mod M4.out (by simp), HL.out.wf⟩ (by omega) HK.out).mono ?_
  rintro _ w5 ⟨_, rfl, g, v, rfl, hg, hv, m5⟩
  have HV := Lib.hid hv
  have HG := Lib.hid hg
  have HVL := Lib.hid hv.len
  have HX5 := Lib.hid (HX4.out.mod m5 (by simp))
  have HD5 := Lib.hid (HD4.out.mod m5 (by simp))
  have M5 := Lib.hid (M4.out.same m5)
  have HT0 : Hid (∀ b ∈ T0, b < w4.heap.size) := HX4.out.lt
  clear hg hv m5
  by_cases hbad : sz < 1 ∨ 16384 < sz
  · have HKB : Hid (k < 1 ∨ 16384 < k) := by have := HK.out; unfold Hid; omega
    have HKM : Hid (k ≤ 1000000) := by have := HK.out; unfold Hid; omega
    go_wp2_with fail
    refine (putchain_no X _ k k w5 HKB.out HKM.out).mono ?_
    rintro _ w6 ⟨_, rfl, rfl, m6⟩
    have HX6 := Lib.hid (HX5.out.mod m6 (by simp))
    have M6 := Lib.hid (M5.out.same m6)
    clear m6
    by_cases h1 : sz < 1
    · obtain rfl : sz = 0 := by omega
      go_wp2_with fail
      refine (pgrfresh_any X T0 D _ w6 HX6.out).mono ?_
      rintro _ w7 ⟨_, rfl, pf, nf, cf, rfl, rfl, of, m7⟩
      have M7 := Lib.hid (M6.out.same m7)
      clear of m7
      go_wp2
      go_ret
      exact .mk ⟨rfl, M7.out⟩
    · have hz1 : decide (sz < 1) = false := by simpa using h1
      have hzi1 : ¬ ((sz : Int) < 1) := by omega
      have hzi2 : (16384 : Int) < (sz : Int) := by omega
      have hz2 : decide (16384 < sz) = true := by simp; omega
      clear hbad h1
      go_wp2_with fail
      refine (pgrfresh_any X T0 D _ w6 HX6.out).mono ?_
      rintro _ w7 ⟨_, rfl, pf, nf, cf, rfl, rfl, of, m7⟩
      have M7 := Lib.hid (M6.out.same m7)
      clear of m7
      go_wp2
      go_ret
      exact .mk ⟨rfl, M7.out⟩
  have hz1 : decide (sz < 1) = false := by simp; omega
  have hzi1 : ¬ ((sz : Int) < 1) := by omega
  have hzi2 : ¬ ((16384 : Int) < (sz : Int)) := by omega
  have hz2 : decide (16384 < sz) = false := by simp; omega
  have h1 : 1 ≤ sz := by omega
  have h2 : sz ≤ 16384 := by omega
  obtain rfl : k = sz := by have := HK.out; omega
  clear HK hbad
  obtain ⟨sb, bm, M, fv, hx5⟩ := HX5.out
  have HX5' : Hid (PgrAt3 sb bm M w5 X T0 D (chAt [] 0)) := ⟨fv, hx5⟩
  have HSB : Hid (∀ b ∈ [sb, bm, M], b ∈ T0) := fun b hb => hx5.sub b (List.mem_cons_of_mem _ hb)
  clear hx5 HX5
  go_wp2_with fail
  refine (putchain_any X T0 D _ sb bm M _ k k v w5 HX5'.out HV.out h1 h2 (fun a ha hb => by cases ha; have q1 : g < w4.heap.size := HT0.out _ hb; have := HG.out; omega)).mono ?_
  rintro _ w6 ⟨_, rfl, rfl, T6, hx6, m6, ht6⟩
  rw [put_chain (by have := HVL.out; omega)] at hx6 ⊢
  simp only [HVL.out] at hx6 ⊢
  have hx6' : PgrAt w6 X T6 D (chM v) := by obtain ⟨fv, hh⟩ := hx6; exact ⟨sb, bm, M, fv, hh⟩
  have HX6 := Lib.hid hx6'
  have hvS : g ∉ [sb, bm, M] := fun hb => by have q1 := HT0.out _ (HSB.out _ hb); have := HG.out; omega
  have hg5 : g < w5.heap.size := by obtain ⟨b, off, e, hlt, _⟩ := HV.out.sl.addr (by omega); cases e; exact hlt
  have HV6 : Hid (BytesIn w6 (some ⟨g, 0, none⟩) k k v) := ⟨HV.out.sl.mod m6 (fun a ha _ => by cases ha; exact hvS), HV.out.wf⟩
  have HT6 : Hid (∀ b ∈ T6, w3.heap.size ≤ b ∧ b ≠ g) := fun b hb => by
    rcases ht6 b hb with h | h
    · exact ⟨HTB.out b h, fun e => by have := HT0.out b h; have := HG.out; omega⟩
    · have := M5.out.size; have := HG.out; have := HS4.out; exact ⟨by omega, fun e => by omega⟩
  have HW34 : Hid (w.heap.size ≤ w3.heap.size) := M3.out.size
  have M6 : Hid (Mod [] w w6) := M5.out.trans m6 (fun b hb => Or.inr (by have := HTB.out b (HSB.out b hb); have := HW34.out; omega))
  have HD6 := Lib.hid (HD5.out.mod m6 (fun b hb hbs => by have := HDL.out b hb; have := HTB.out b (HSB.out b hbs); omega))
  obtain ⟨N, hN⟩ : ∃ N, N = pieces k := ⟨_, rfl⟩
  have hN1 : 1 ≤ N ∧ N ≤ 17 := by rw [hN]; unfold pieces; omega
  have HN := Lib.hid hN
  have hnr := nx_range (i := N) (by omega)
  have HNR := Lib.hid hnr
  rw [← hN]
  have hwq : IntKind.i64.wrap ((k : Int) + 1009) = (k : Int) + 1009 := IntWalk.i64_in _ (by omega)
  have hqd : ((k : Int) + 1009).tdiv 1010 = (N : Int) := by rw [hN]; unfold pieces; rw [Int.tdiv_eq_ediv_of_nonneg (by omega)]; omega
  have hqd2 : ((k : Int) + 1009) / 1010 = (N : Int) := by rw [hN]; unfold pieces; omega
  have hwN : IntKind.i64.wrap (N : Int) = (N : Int) := IntWalk.i64_in _ (by omega)
  have hw2N : IntKind.i64.wrap (2 + (N : Int)) = 2 + (N : Int) := IntWalk.i64_in _ (by omega)
  have hN0 : (0 : Int) < (N : Int) := by omega
  have HCH : Hid (chainL ((chM v).read (ck0 40)) (k : Int) (needL k) ((needL k).toNat + 1) (nx N) [] [] = (v, pgs N, 0)) := by
    have q := chain_told (l := v) (k := ck0 40) (by rw [HVL.out]; omega) (by rw [HVL.out]; omega)
    rw [HVL.out, ← hN] at q; exact q
  have HCC : Hid ((chainL ((chM v).read (ck0 40)) (ot : Int) (needL ot) ((needL ot).toNat + 1) (nx N) [] []).2.2 = 0 ↔ (ot : Int) = (k : Int)) := by
    have q := chain_code (l := v) (k := ck0 40) (by rw [HVL.out]; omega) (by rw [HVL.out]; omega) (size := (ot : Int))
    rw [HVL.out, ← hN] at q; exact q
  have HDR : Hid ((dropsL (chM v) (pgs N)).s.m.length = N ∧ (dropsL (chM v) (pgs N)).f = [] ∧ (dropsL (chM v) (pgs N)).s.high = 2 + (N : Int)) := by
    have q := chM_drops v
    rw [HVL.out, ← hN] at q
    rw [q]; exact drAt_len _ _
  have HFL : Hid (((chM v).f.map (·.1)).length = N) := by have q := chM_len v; rw [HVL.out, ← hN] at q; exact q
  generalize hH : nx N = H at *
  have HPG : Hid (pgs N = H :: pgs (N - 1)) := by
    obtain ⟨d, rfl⟩ : ∃ d, N = d + 1 := ⟨N - 1, by omega⟩
    rw [← hH]; rfl
  clear hx6 m6 ht6 hx6' hvS hN hH hnr HX4 HX5' HD5 HD4 HV
  go_wp2_with fail
  refine (chain_any X T6 D Td (chM v) (ck0 40) H k w6 HX6.out HD6.out (by have := HNR.out; omega) (by omega)).mono ?_
  rintro _ w7 ⟨_, rfl, q1, n1, c1, q2, n2, c2, rfl, hb7, hn2, ho7, m7⟩
  rw [HCH.out] at hb7 hn2 ho7 ⊢
  simp only at hb7 hn2 ho7 ⊢
  have HB7 := Lib.hid hb7
  obtain rfl : n1 = k := by rw [← hb7.len, HVL.out]
  obtain rfl : n2 = N := by rw [hn2, pgs_len]
  have hS := (Sl.of_own ho7 (ints_one _)).1
  obtain ⟨b7, o7, hp7, hc7⟩ := hS.at_
  have hc0 : w7.cell? ⟨b7, o7 + 0, none⟩ = some (.int .i64 H) := by
    refine hc7 0 _ ?_
    rw [HPG.out]; rfl
  rw [Nat.add_zero] at hc0
  have hidx := fun W => Sl.idx (P := Tryd.prog) (cap := c2) Tryd.underlying37 sizeIntsC (fun h => (hp7 h).1) W .i64 0 (by omega)
  simp only [Nat.zero_mul, Nat.add_zero, Int.ofNat_zero] at hidx
  have hb7lt : b7 < w7.heap.size := (hp7 (by omega)).2
  have HC0 := Lib.hid hc0
  have HV7 : Hid (BytesIn w7 (some ⟨g, 0, none⟩) n1 n1 v) := ⟨HV6.out.sl.mod m7 (by simp), HV6.out.wf⟩
  have HX7 := Lib.hid (HX6.out.mod m7 (by simp))
  have HD7 := Lib.hid (HD6.out.mod m7 (by simp))
  have M7 := Lib.hid (M6.out.same m7)
  clear hb7 hn2 ho7 m7 hS hp7 hc7 hc0
  go_wp2_with fail
  refine (qsame_any _ _ _ _ _ _ v v _ HB7.out.sl HV7.out.sl).mono ?_
  rintro _ w8 ⟨_, rfl, rfl, m8⟩
  rw [decide_eq_true rfl]
  have HX8 := Lib.hid (HX7.out.mod m8 (by simp))
  have M78 := Lib.hid m8
  clear m8
  go_wp2_with fail
  refine (pgrfresh_any X T6 D _ w8 HX8.out).mono ?_
  rintro _ w9 ⟨_, rfl, pf, nf, cf, rfl, hnf, of, m9⟩
  obtain rfl : nf = n2 := by rw [hnf, HFL.out]
  have M79 := Lib.hid (M78.out.same m9)
  have HX9 := Lib.hid (HX8.out.mod m9 (by simp))
  have HD9 := Lib.hid (HD7.out.mod M79.out (by simp))
  have hc0 : w9.cell? ⟨b7, o7, none⟩ = some (.int .i64 H) := (M79.out.cell (a := ⟨b7, o7, none⟩) hb7lt (by simp)).trans HC0.out
  have M9 := Lib.hid (M7.out.same M79.out)
  clear hnf of m9
  go_wp2_with fail
  refine (chain_any X T6 D Td (chM v) (ck0 40) H ot w9 HX9.out HD9.out (by have := HNR.out; omega) (by omega)).mono ?_
  rintro _ w10 ⟨_, rfl, q3, n3, c3, q4, n4, c4, rfl, hb10, hn10, ho10, m10⟩
  generalize hRR : (chainL ((chM v).read (ck0 40)) (ot : Int) (needL ot) ((needL ot).toNat + 1) H [] []) = RR at *
  obtain ⟨r1, r2, code⟩ := RR
  simp only at HCC hn10 hb10 ho10 ⊢
  have HX10 := Lib.hid (HX9.out.mod m10 (by simp))
  have HD10 := Lib.hid (HD9.out.mod m10 (by simp))
  have M10 := Lib.hid (M9.out.same m10)
  clear hb10 hn10 ho10 m10 hRR
  have HEQ : Hid ((code == 0) = ((ot : Int) == (n1 : Int))) := by
    have := HCC.out
    unfold Hid
    by_cases hc : code = 0
    · have h2 := this.1 hc
      rw [beq_iff_eq.2 hc, beq_iff_eq.2 h2]
    · have h2 : ¬ ((ot : Int) = (n1 : Int)) := fun e => hc (this.2 e)
      rw [beq_eq_false_iff_ne.2 hc, beq_eq_false_iff_ne.2 h2]
  have HPR : Hid (∀ x ∈ pgs nf, 2 ≤ x ∧ x < 2 + (nf : Int)) := fun x hx => pgs_range x hx
  have HDC := fun W h1 h2 => Lib.hid (dropchain_any X T6 D Td (chM v) (ck0 40) H n1 W h1 h2 (by have := HNR.out; omega) (by omega) HCH.out (fun x hx => by have := HPR.out x hx; omega) (by rw [pgs_len]; omega))
  generalize dropsL (chM v) (pgs nf) = MD at *
  by_cases hot : ot = n1
  · subst hot
    have hc0 : code = 0 := HCC.out.2 rfl
    subst hc0
    go_wp2_with fail
    refine (HDC w10 HX10.out HD10.out).out.mono ?_
    rintro _ w11 ⟨_, rfl, rfl, hx11, m11⟩
    have HX11 := Lib.hid hx11
    have M11 : Hid (Mod [] w w11) := M10.out.trans m11 (fun b hb => Or.inr (by have := (HT6.out b hb).1; have := HW34.out; omega))
    have HLN : Hid ((MD.f.map (·.1)).length = 0) := by unfold Hid; rw [HDR.out.2.1]; rfl
    clear hx11 m11
    go_wp2_with fail
    refine (pgrfresh_any X T6 D _ w11 HX11.out).mono ?_
    rintro _ w12 ⟨_, rfl, pg, ng, cg, rfl, hng, og, m12⟩
    obtain rfl : ng = 0 := by rw [hng, HLN.out]
    have HX12 := Lib.hid (HX11.out.mod m12 (by simp))
    have M12 := Lib.hid (M11.out.same m12)
    clear hng og m12
    go_wp2_with fail
    refine (pgrpool_any X T6 D _ w12 HX12.out).mono ?_
    rintro _ _ ⟨_, rfl, ⟨sp, bp, rfl, hpl, -, -⟩, rfl⟩
    have HPL := Lib.hid hpl
    clear hpl
    go_wp2_with fail
    refine (list_any sp bp _ w12 HPL.out).mono ?_
    rintro _ w13 ⟨_, rfl, pl, nl, cl, rfl, hnl, ol, m13⟩
    obtain rfl : nl = nf := by rw [hnl, HDR.out.1]
    have HX13 := Lib.hid (HX12.out.mod m13 (by simp))
    have M13 := Lib.hid (M12.out.same m13)
    clear hnl ol m13
    go_wp2_with fail
    refine (pgrpool_any X T6 D _ w13 HX13.out).mono ?_
    rintro _ _ ⟨_, rfl, ⟨sq, bq, rfl, hpq, -, -⟩, rfl⟩
    have HPQ := Lib.hid hpq
    clear hpq
    go_wp2_with fail
    refine (high_any sq bq _ w13 HPQ.out).mono ?_
    rintro _ _ ⟨_, rfl, rfl, rfl⟩
    rw [HDR.out.2.2]
    go_wp2
    go_ret
    exact .mk ⟨by simp, M13.out⟩
  · have hne : (code == 0) = false := by rw [HEQ.out]; simp; omega
    have hne2 : ((ot : Int) == (n1 : Int)) = false := by simp; omega
    have hne3 : ¬ (code = 0) := by simpa using hne
    go_wp2_with fail
    refine (HDC w10 HX10.out HD10.out).out.mono ?_
    rintro _ w11 ⟨_, rfl, rfl, hx11, m11⟩
    have HX11 := Lib.hid hx11
    have M11 : Hid (Mod [] w w11) := M10.out.trans m11 (fun b hb => Or.inr (by have := (HT6.out b hb).1; have := HW34.out; omega))
    have HLN : Hid ((MD.f.map (·.1)).length = 0) := by unfold Hid; rw [HDR.out.2.1]; rfl
    clear hx11 m11
    go_wp2_with fail
    refine (pgrfresh_any X T6 D _ w11 HX11.out).mono ?_
    rintro _ w12 ⟨_, rfl, pg, ng, cg, rfl, hng, og, m12⟩
    obtain rfl : ng = 0 := by rw [hng, HLN.out]
    have HX12 := Lib.hid (HX11.out.mod m12 (by simp))
    have M12 := Lib.hid (M11.out.same m12)
    clear hng og m12
    go_wp2_with fail
    refine (pgrpool_any X T6 D _ w12 HX12.out).mono ?_
    rintro _ _ ⟨_, rfl, ⟨sp, bp, rfl, hpl, -, -⟩, rfl⟩
    have HPL := Lib.hid hpl
    clear hpl
    go_wp2_with fail
    refine (list_any sp bp _ w12 HPL.out).mono ?_
    rintro _ w13 ⟨_, rfl, pl, nl, cl, rfl, hnl, ol, m13⟩
    obtain rfl : nl = nf := by rw [hnl, HDR.out.1]
    have HX13 := Lib.hid (HX12.out.mod m13 (by simp))
    have M13 := Lib.hid (M12.out.same m13)
    clear hnl ol m13
    go_wp2_with fail
    refine (pgrpool_any X T6 D _ w13 HX13.out).mono ?_
    rintro _ _ ⟨_, rfl, ⟨sq, bq, rfl, hpq, -, -⟩, rfl⟩
    have HPQ := Lib.hid hpq
    clear hpq
    go_wp2_with fail
    refine (high_any sq bq _ w13 HPQ.out).mono ?_
    rintro _ _ ⟨_, rfl, rfl, rfl⟩
    rw [HDR.out.2.2]
    go_wp2
    go_ret
    exact .mk ⟨by simp, M13.out⟩
end Go.Proofs.YtgimdodbajhpoaaDoor
