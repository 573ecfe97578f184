/- SnapPlays: the walk. -/
import Derived.Test.YtghpmhpbccgdcaaSnapRef2
import Derived.Test.YtghpmhpbccgdcaaSnapHolds
namespace Go.Proofs.Ytghpmhpbccgdcaa
open Go.RowKit Go.Maps

set_option maxRecDepth 100000 in
set_option maxHeartbeats 1000000 in
theorem plays_any (a : Option Addr) (len cap b off : Nat) (l : Nat → Do) (n : Int) (w : World) (hlen : len ≤ 9223372036854775807)
    (ha : 0 < len → a = some ⟨b, off, none⟩) (hs : Script w b off len l) :
    Calls Try.prog 5 #[.slice a len cap, .int .u64 n] w (Ret (LawR w)) := by
  have hidx := fun W => idx_of (P := Try.prog) (T := 23) (E := 0) (c := 3) (cap := cap) (by kernel_rfl) size23 (by decide) ha W .i64
  go_enter Try.func5, Try.ntmps5
  go_wp2_with fail
  refine (awake_any _).mono ?_
  rintro _ w1 ⟨_, rfl, rfl, m1⟩
  go_wp2_with fail
  refine (new_any _).mono ?_
  rintro _ w2 ⟨_, rfl, sb, bm, rfl, h2, m2, hsb, hbm⟩
  have H2 : Hid (Both w (w2.alloc (.cells #[.slice none 0 0, .int .i64 0] 44)) sb bm w2.heap.size (.slice none 0 0) ⟨[], 0⟩) :=
    ⟨h2.mod (Mod.of_alloc _ _) (by simp) (by simp), ⟨at_alloc _ _, ⟨by simp [snapCells], Or.inl ⟨rfl, rfl⟩⟩, ⟨by decide, by simp, by simp⟩, by simp [Srt], by simp⟩,
      ((m1.below.trans (m2.below.mono m1.size)).alloc (by have := m1.size; have := m2.size; omega) _), by have := m1.size; omega, by have := m1.size; omega, by have := m1.size; have := m2.size; omega, by simp [Value.ownBlock]⟩
  clear m1 m2 h2 hsb hbm
  go_wp2_with fail
  generalize w2.heap.size = qb at *
  generalize w2.alloc (.cells #[.slice none 0 0, .int .i64 0] 44) = w3 at *
  go_loopw [7] (fun i wr => ∃ (s : RS) (v : Value) (k : Nat), k ≤ len ∧ k ≤ 200 ∧ i = .int .i64 k ∧ Both w wr sb bm qb v s ∧ s.last ≤ k) (fun i _ => len - (intOf i).toNat)
  case atStart => exact ⟨⟨[], 0⟩, _, 0, by omega, by omega, rfl, H2.out, by simp⟩
  case round =>
    obtain ⟨s, v, k, hk, hk2, rfl, hr, hl⟩ := hrel
    clear H2
    by_cases hlt : k < len ∧ k < 200
    · obtain ⟨hlt, hlt2⟩ := hlt
      have q0 := hs.c0 k hlt
      have q1 := hs.c1 k hlt
      have q2 := hs.c2 k hlt
      have p1 := hs.w1 k hlt
      have p2 := hs.w2 k hlt
      have hb0 := hs.lt (by omega)
      rw [← hr.bel.cell (p := ⟨b, _, none⟩) hb0] at q0 q1 q2
      generalize l k = d at *
      have HR := Lib.hid hr
      clear hr
      have HS : Hid (s.m.length ≤ 64) := HR.out.q.small
      have hlow := HR.out.p.ok.low
      by_cases c0 : d.kind = 0
      · have e0 : (d.kind == 0) = true := by simp [c0]
        clear c0
        have HO : Hid ((s.open_ d.version).2.last ≤ k + 1) := by unfold RS.open_; split <;> simp [Hid] <;> omega
        go_wp2_with fail
        refine (open_any sb bm s _ _ (HR.out.p.mod (Mod.of_alloc _ _) (by simp) (by simp)) p2.1 p2.2 (by omega)).mono ?_
        rintro _ w4 ⟨_, rfl, rfl, h4, m4⟩
        have H0 := Lib.hid (HR.out.keep (Mod.of_alloc wr (.cells #[.int .i64 d.kind, .int .i64 d.no, .int .u64 d.version] 31)))
        have HF := Lib.hid (H0.out.p.far H0.out.q)
        have g2 : w4.cell? ⟨wr.heap.size, 2, none⟩ = some (.int .u64 d.version) := (m4.cell (a := ⟨wr.heap.size, 2, none⟩) (by simp) (by have := HR.out.p.map.lt; have := lt_of_at HR.out.p.at_; simp; omega)).trans (cell_of_at (at_alloc wr _) 2)
        have H4 := Lib.hid h4
        have M4 := Lib.hid m4
        clear h4 m4
        go_wp2_with fail
        refine (qopen_any qb v s _ _ (H0.out.q.mod M4.out HF.out.1 HF.out.2.1) p2.1 p2.2 (by omega)).mono ?_
        rintro _ w4' ⟨_, rfl, rfl, v', h4'⟩
        have HB := Lib.hid (H0.out.both H4.out M4.out h4')
        clear h4' g2
        clear q0 q1 q2 p1 p2 hidx
        have HNUM : Hid (((s.open_ d.version).2).m.length ≤ 2 ^ 40) := Nat.le_trans HB.out.q.small (by decide)
        have HLAST : Hid (((s.open_ d.version).2).last ≤ k + 1) := HO.out
        go_wp2_with fail
        refine (horizon_any sb bm _ _ _ HB.out.p).mono ?_
        rintro _ w5 ⟨_, rfl, rfl, h5, m5⟩
        have HB5 := Lib.hid (HB.out.keep m5)
        clear h5 m5
        go_wp2_with fail
        refine (qhorizon_any qb _ _ _ _ HB5.out.q).mono ?_
        rintro _ w6 ⟨_, rfl, rfl, rfl⟩
        go_wp2_with fail
        refine (numbers_any sb bm _ _ HB5.out.p HNUM.out).mono ?_
        rintro _ w7 ⟨_, rfl, p7, n7, c7, rfl, e7, hrow7, m7⟩
        have HB7 := Lib.hid (HB5.out.keep m7)
        have HS7 := Lib.hid (Sl.of_own hrow7 (ints_one _)).1
        clear e7 hrow7 m7
        go_wp2_with fail
        refine (qnumbers_any qb _ _ _ HB7.out.q).mono ?_
        rintro _ w8 ⟨_, rfl, p8, n8, c8, rfl, e8, hrow8, m8⟩
        have HB8 := Lib.hid (HB7.out.keep m8)
        have HS8 := Lib.hid (Sl.of_own hrow8 (ints_one _)).1
        have HS7' := Lib.hid (HS7.out.mod m8 (by simp))
        clear e8 hrow8 m8
        go_wp2_with fail
        refine (same_ints _ _ _ _ _ _ _ _ _ HS7'.out HS8.out).mono ?_
        rintro _ w9 ⟨_, rfl, rfl, m9⟩
        have HB9 := Lib.hid (HB8.out.keep m9)
        rw [decide_eq_true rfl]
        clear m9
        go_wp2
        go_roundw
        case rel => exact ⟨_, _, k + 1, by omega, by omega, by go_num, HB9.out, HLAST.out⟩
        case measure => simp [intOf]; omega
      · by_cases c1 : d.kind = 1
        · have e0 : (d.kind == 0) = false := by simp [c0]
          have e1 : (d.kind == 1) = true := by simp [c1]
          clear c0 c1
          have HO : Hid ((s.close d.no).2.last ≤ k + 1) := by unfold RS.close; split <;> simp [Hid] <;> omega
          go_wp2_with fail
          have H0 := Lib.hid ((HR.out.keep (Mod.of_alloc wr (.cells #[.int .i64 d.kind, .int .i64 d.no, .int .u64 d.version] 31))).keep (Mod.of_drew _))
          have HF := Lib.hid (H0.out.p.far H0.out.q)
          have hds : wr.heap.size ≠ sb ∧ wr.heap.size ≠ bm ∧ wr.heap.size ≠ qb ∧ ∀ b, v.ownBlock = some b → b ≠ wr.heap.size := by
            have := HR.out.p.map.lt; have := lt_of_at HR.out.p.at_; have := lt_of_at HR.out.q.at_
            refine ⟨by omega, by omega, by omega, fun b hb => ?_⟩
            have := own_lt HR.out.q.row b hb; omega
          have HD := Lib.hid hds
          have g1 : (wr.alloc (.cells #[.int .i64 d.kind, .int .i64 d.no, .int .u64 d.version] 31)).cell? ⟨wr.heap.size, 1, none⟩ = some (.int .i64 d.no) := cell_of_at (at_alloc wr _) 1
          have hlt4 : wr.heap.size < (wr.alloc (.cells #[.int .i64 d.kind, .int .i64 d.no, .int .u64 d.version] 31)).heap.size := by simp
          clear hds q0 q1 q2 hidx
          generalize wr.heap.size = db at *
          generalize wr.alloc (.cells #[.int .i64 d.kind, .int .i64 d.no, .int .u64 d.version] 31) = W at *
          go_region_held3 (fun w' => w'.cell? ⟨db, 1, none⟩ = some (.int .i64 d.no))
            (first
              | go_keep
              | (exact (M4.out.cell (a := ⟨db, 1, none⟩) hlt4 (by simp; exact ⟨HD.out.1, HD.out.2.1⟩)).trans g1)
              | (exact ((H4'.out.mod.cell (a := ⟨db, 1, none⟩) (Nat.lt_of_lt_of_le hlt4 M4.out.size) (by simp; exact ⟨HD.out.2.2.1, fun e => HD.out.2.2.2 _ e rfl⟩)).trans (M4.out.cell (a := ⟨db, 1, none⟩) hlt4 (by simp; exact ⟨HD.out.1, HD.out.2.1⟩))).trans g1))
            (first
              | (go_at_call 10; refine (close_any sb bm s _ _ H0.out.p p1.1 p1.2).mono ?_; rintro _ w4 ⟨_, rfl, rfl, h4, m4⟩; (have H4 := Lib.hid h4); (have M4 := Lib.hid m4); clear h4 m4)
              | (go_at_call 15; refine (qclose_any qb v s _ _ (H0.out.q.mod M4.out HF.out.1 HF.out.2.1)).mono ?_; rintro _ w4' ⟨_, rfl, rfl, v', h4'⟩; (have H4' := Lib.hid h4'); clear h4'))
          have HB := Lib.hid (H0.out.both H4.out M4.out H4'.out)
          have q0 := True.intro; have q1 := True.intro; have q2 := True.intro; have hidx := True.intro
          clear g1 hlt4
          clear q0 q1 q2 p1 p2 hidx
          have HNUM : Hid (((s.close d.no).2).m.length ≤ 2 ^ 40) := Nat.le_trans HB.out.q.small (by decide)
          have HLAST : Hid (((s.close d.no).2).last ≤ k + 1) := HO.out
          go_wp2_with fail
          refine (horizon_any sb bm _ _ _ HB.out.p).mono ?_
          rintro _ w5 ⟨_, rfl, rfl, h5, m5⟩
          have HB5 := Lib.hid (HB.out.keep m5)
          clear h5 m5
          go_wp2_with fail
          refine (qhorizon_any qb _ _ _ _ HB5.out.q).mono ?_
          rintro _ w6 ⟨_, rfl, rfl, rfl⟩
          go_wp2_with fail
          refine (numbers_any sb bm _ _ HB5.out.p HNUM.out).mono ?_
          rintro _ w7 ⟨_, rfl, p7, n7, c7, rfl, e7, hrow7, m7⟩
          have HB7 := Lib.hid (HB5.out.keep m7)
          have HS7 := Lib.hid (Sl.of_own hrow7 (ints_one _)).1
          clear e7 hrow7 m7
          go_wp2_with fail
          refine (qnumbers_any qb _ _ _ HB7.out.q).mono ?_
          rintro _ w8 ⟨_, rfl, p8, n8, c8, rfl, e8, hrow8, m8⟩
          have HB8 := Lib.hid (HB7.out.keep m8)
          have HS8 := Lib.hid (Sl.of_own hrow8 (ints_one _)).1
          have HS7' := Lib.hid (HS7.out.mod m8 (by simp))
          clear e8 hrow8 m8
          go_wp2_with fail
          refine (same_ints _ _ _ _ _ _ _ _ _ HS7'.out HS8.out).mono ?_
          rintro _ w9 ⟨_, rfl, rfl, m9⟩
          have HB9 := Lib.hid (HB8.out.keep m9)
          rw [decide_eq_true rfl]
          clear m9
          go_wp2
          go_roundw
          case rel => exact ⟨_, _, k + 1, by omega, by omega, by go_num, HB9.out, HLAST.out⟩
          case measure => simp [intOf]; omega
        · have e0 : (d.kind == 0) = false := by simp [c0]
          have e1 : (d.kind == 1) = false := by simp [c1]
          clear c0 c1
          go_wp2_with fail
          have H0 := Lib.hid (HR.out.keep (Mod.of_alloc wr (.cells #[.int .i64 d.kind, .int .i64 d.no, .int .u64 d.version] 31)))
          refine (version_any sb bm s _ _ H0.out.p p1.1 p1.2).mono ?_
          rintro _ w4 ⟨_, rfl, rfl, rfl⟩
          have g1 : (wr.alloc (.cells #[.int .i64 d.kind, .int .i64 d.no, .int .u64 d.version] 31)).cell? ⟨wr.heap.size, 1, none⟩ = some (.int .i64 d.no) := cell_of_at (at_alloc wr _) 1
          go_wp2_with fail
          refine (qversion_any qb v s _ _ H0.out.q).mono ?_
          rintro _ w4 ⟨_, rfl, rfl, rfl⟩
          have HB := H0
          have hl2 : s.last ≤ k + 1 := by omega
          have HL2 := Lib.hid hl2
          clear g1 hl2
          clear q0 q1 q2 p1 p2 hidx
          have HNUM : Hid ((s).m.length ≤ 2 ^ 40) := Nat.le_trans HB.out.q.small (by decide)
          have HLAST : Hid ((s).last ≤ k + 1) := HL2.out
          go_wp2_with fail
          refine (horizon_any sb bm _ _ _ HB.out.p).mono ?_
          rintro _ w5 ⟨_, rfl, rfl, h5, m5⟩
          have HB5 := Lib.hid (HB.out.keep m5)
          clear h5 m5
          go_wp2_with fail
          refine (qhorizon_any qb _ _ _ _ HB5.out.q).mono ?_
          rintro _ w6 ⟨_, rfl, rfl, rfl⟩
          go_wp2_with fail
          refine (numbers_any sb bm _ _ HB5.out.p HNUM.out).mono ?_
          rintro _ w7 ⟨_, rfl, p7, n7, c7, rfl, e7, hrow7, m7⟩
          have HB7 := Lib.hid (HB5.out.keep m7)
          have HS7 := Lib.hid (Sl.of_own hrow7 (ints_one _)).1
          clear e7 hrow7 m7
          go_wp2_with fail
          refine (qnumbers_any qb _ _ _ HB7.out.q).mono ?_
          rintro _ w8 ⟨_, rfl, p8, n8, c8, rfl, e8, hrow8, m8⟩
          have HB8 := Lib.hid (HB7.out.keep m8)
          have HS8 := Lib.hid (Sl.of_own hrow8 (ints_one _)).1
          have HS7' := Lib.hid (HS7.out.mod m8 (by simp))
          clear e8 hrow8 m8
          go_wp2_with fail
          refine (same_ints _ _ _ _ _ _ _ _ _ HS7'.out HS8.out).mono ?_
          rintro _ w9 ⟨_, rfl, rfl, m9⟩
          have HB9 := Lib.hid (HB8.out.keep m9)
          rw [decide_eq_true rfl]
          clear m9
          go_wp2
          go_roundw
          case rel => exact ⟨_, _, k + 1, by omega, by omega, by go_num, HB9.out, HLAST.out⟩
          case measure => simp [intOf]; omega
    · by_cases hlt1 : k < len
      all_goals
        have HR := Lib.hid hr
        clear hr
        go_wp2
        go_ret
        exact .mk ⟨rfl, HR.out.bel⟩
end Go.Proofs.Ytghpmhpbccgdcaa
