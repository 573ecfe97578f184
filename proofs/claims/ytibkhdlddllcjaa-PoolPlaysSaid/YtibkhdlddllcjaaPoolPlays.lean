/- PoolPlays: the walk. -/
import Derived.Test.YtibkhdlddllcjaaPoolOnce
import Derived.Test.YtibkhdlddllcjaaPoolTrim2
import Derived.Test.YtibkhdlddllcjaaPoolClone
namespace Go.Proofs.Ytibkhdlddllcjaa
open Go.RowKit Go.Maps
set_option linter.unusedSimpArgs false
set_option linter.unusedVariables false

structure PBoth (w0 w : World) (sb bm qb : Nat) (v : Value) (s : PS) : Prop where
  p : PoolAt w sb bm s
  q : QPoolAt w qb v s
  bel : Below w0.heap.size w0 w
  h1 : w0.heap.size ≤ sb
  h2 : w0.heap.size ≤ bm
  h3 : w0.heap.size ≤ qb
  h4 : ∀ b, v.ownBlock = some b → w0.heap.size ≤ b
namespace PBoth
variable {w0 w w' : World} {sb bm qb : Nat} {v v' : Value} {s s' : PS}
theorem keep (h : PBoth w0 w sb bm qb v s) (hm : Mod [] w w') : PBoth w0 w' sb bm qb v s :=
  ⟨h.p.mod hm (by simp) (by simp), h.q.mod hm (by simp) (by simp), h.bel.trans (hm.below.mono h.bel.size), h.h1, h.h2, h.h3, h.h4⟩
/-- The program's one has taken a step, then the document's one. -/
theorem both (h : PBoth w0 w sb bm qb v s) {w1 : World} (h1 : PoolAt w1 sb bm s') (m1 : Mod [sb, bm] w w1) (h2 : QPTurn qb v s' w1 w' v') : PBoth w0 w' sb bm qb v' s' := by
  obtain ⟨f1, f2, f3, f4⟩ := h1.far (h.q.mod m1 (h.p.far h.q).1 (h.p.far h.q).2.1)
  have b1 := h.bel.trans (m1.below_of (B := w0.heap.size) h.bel.size (by simp; exact ⟨h.h1, h.h2⟩))
  refine ⟨h1.mod h2.mod f3 f4, h2.at_, b1.trans (h2.mod.below_of (B := w0.heap.size) b1.size (fun b hb => ?_)), h.h1, h.h2, h.h3, fun b hb => ?_⟩
  · rcases List.mem_cons.1 hb with rfl | hb
    · exact h.h3
    · exact h.h4 b (by simpa using hb)
  · rcases h2.lies b hb with hb | hb
    · exact h.h4 b hb
    · exact Nat.le_trans b1.size hb
/-- A clone stands in; the old one may have turned. -/
theorem clone (h : PBoth w0 w sb bm qb v s) {w1 : World} {sb' bm' : Nat} (h1 : PoolAt w1 sb' bm' s) (m1 : Mod [] w w1) (hs : w.heap.size ≤ sb') (hb : w.heap.size ≤ bm') (m2 : Mod [sb, bm] w1 w') : PBoth w0 w' sb' bm' qb v s := by
  have l1 := lt_of_at h.p.at_
  have l2 := h.p.map.lt
  have hk := h.keep m1
  exact ⟨h1.mod m2 (by simp; omega) (by simp; omega), hk.q.mod m2 (h.p.far h.q).1 (h.p.far h.q).2.1, hk.bel.trans (m2.below_of (B := w0.heap.size) hk.bel.size (by simp; exact ⟨h.h1, h.h2⟩)), by have := h.bel.size; omega, by have := h.bel.size; omega, h.h3, h.h4⟩
end PBoth


set_option maxRecDepth 100000 in
set_option maxHeartbeats 2000000 in
theorem plays_any (cap high : Int) (p : Option Addr) (n c : Nat) (l : List (Int × Int)) (a : Option Addr) (len scap b off : Nat) (ds : Nat → Do) (w : World) (hl : FreedIn w p n c l)
    (hlen : len ≤ 9223372036854775807) (ha : 0 < len → a = some ⟨b, off, none⟩) (hs : Script w b off len ds) :
    Calls Try.prog 6 #[.agg #[.int .i64 cap, .int .i64 high, .slice p n c], .slice a len scap] w (Ret (LawR w)) := by
  have hidx := fun W => idx_of (P := Try.prog) (T := 42) (E := 0) (c := 3) (cap := scap) (by kernel_rfl) sizeDo (by decide) ha W .i64
  have HIDX := Lib.hid hidx
  have HS := Lib.hid hs
  clear hidx hs
  have HL := Lib.hid hl
  have hn := hl.sl.capm
  have hn2 := hl.sl.le
  unfold maxLen at hn
  clear hl
  go_enter Try.func6, Try.ntmps6
  go_wp2_with fail
  have hx0 := at_alloc w (.cells #[.int .i64 cap, .int .i64 high, .slice p n c] 24)
  have hb0 : Below w.heap.size w (w.alloc (.cells #[.int .i64 cap, .int .i64 high, .slice p n c] 24)) := (Below.refl _ _).alloc (Nat.le_refl _) _
  have hl0 : FreedIn (w.alloc (.cells #[.int .i64 cap, .int .i64 high, .slice p n c] 24)) p n c l := ⟨HL.out.sl.mod (Mod.of_alloc _ _) (by simp), HL.out.wf⟩
  have hxb : w.heap.size < (w.alloc (.cells #[.int .i64 cap, .int .i64 high, .slice p n c] 24)).heap.size := by simp
  generalize w.alloc (.cells #[.int .i64 cap, .int .i64 high, .slice p n c] 24) = W at *
  refine (awake_any _).mono ?_
  rintro _ w1 ⟨_, rfl, rfl, m1⟩
  have hx1 := m1.at hx0 (by simp)
  have hl1 : FreedIn w1 p n c l := ⟨hl0.sl.mod m1 (by simp), hl0.wf⟩
  have hb1 := hb0.trans (m1.below.mono hb0.size)
  have hs1 := m1.size
  have HX1 := Lib.hid hx1
  have HL1 := Lib.hid hl1
  have HB1 := Lib.hid hb1
  have q2 : w1.cell? ⟨w.heap.size, 2, none⟩ = some (.slice p n c) := cell_of_at hx1 2
  have q1 : w1.cell? ⟨w.heap.size, 1, none⟩ = some (.int .i64 high) := cell_of_at hx1 1
  have q0 : w1.cell? ⟨w.heap.size, 0, none⟩ = some (.int .i64 cap) := cell_of_at hx1 0
  clear hx0 hb0 hl0 m1 hx1 hl1 hb1 HL
  by_cases hbig : 100 < n
  · go_wp2
    go_ret
    exact .mk ⟨rfl, HB1.out⟩
  go_wp2_with fail
  refine (new_any cap high p n c l _ HL1.out).mono ?_
  rintro _ w2 ⟨_, rfl, m2, hnew⟩
  have hx2 := m2.at HX1.out (by simp)
  have HX2 := Lib.hid hx2
  have HL2 : Hid (FreedIn w2 p n c l) := ⟨HL1.out.sl.mod m2 (by simp), HL1.out.wf⟩
  have HB2 := Lib.hid (HB1.out.trans (m2.below.mono HB1.out.size))
  have q2' : w2.cell? ⟨w.heap.size, 2, none⟩ = some (.slice p n c) := cell_of_at hx2 2
  have q1' : w2.cell? ⟨w.heap.size, 1, none⟩ = some (.int .i64 high) := cell_of_at hx2 1
  have q0' : w2.cell? ⟨w.heap.size, 0, none⟩ = some (.int .i64 cap) := cell_of_at hx2 0
  have hs2 := m2.size
  clear hx2 q2 q1 q0 m2
  cases hN : PS.new cap high l with
  | none =>
    rw [hN] at hnew
    subst hnew
    have HN := Lib.hid hN
    clear hN
    go_wp2_with fail
    refine (qnew_any cap high p n c l _ HL2.out).mono ?_
    rintro _ w3 ⟨_, rfl, m3, hnew⟩
    rw [HN.out] at hnew
    subst hnew
    have HB3 := Lib.hid (HB2.out.trans (m3.below.mono HB2.out.size))
    clear m3 q0' q1' q2'
    go_wp2
    go_ret
    exact .mk ⟨rfl, HB3.out⟩
  | some s =>
    rw [hN] at hnew
    obtain ⟨sb, bm, rfl, hp2, hsb, hbm⟩ := hnew
    have HN := Lib.hid hN
    have HP2 := Lib.hid hp2
    clear hN hp2
    go_wp2_with fail
    refine (qnew_any cap high p n c l _ HL2.out).mono ?_
    rintro _ w3 ⟨_, rfl, m3, hnew⟩
    rw [HN.out] at hnew
    obtain ⟨qb, r, rfl, hq3, hqb, hrb⟩ := hnew
    have H3 : Hid (PBoth w w3 sb bm qb r s) := ⟨HP2.out.mod m3 (by simp) (by simp), hq3, HB2.out.trans (m3.below.mono HB2.out.size), by omega, by omega, by omega, fun b hb => by have := hrb b hb; omega⟩
    clear m3 q0' q1' q2' hq3 HX1 HX2 HL1 HL2 HB1 HB2 HP2 HN hxb hs1 hs2 hsb hbm hqb hrb
    go_wp2_with fail
    go_loopw [5, 9] (fun o i wr => ∃ (s : PS) (sb bm : Nat) (v : Value) (k : Nat), k ≤ len ∧ k ≤ 60 ∧ i = .int .i64 k ∧ o = .pointer (some ⟨sb, 0, none⟩) ∧ PBoth w wr sb bm qb v s) (fun _ i _ => len - (intOf i).toNat)
    case atStart => exact ⟨s, sb, bm, r, 0, by omega, by omega, rfl, rfl, H3.out⟩
    case round =>
      obtain ⟨s, sb, bm, v, k, hk, hk2, rfl, rfl, hr⟩ := hrel
      clear H3
      by_cases hlt : k < len
      · by_cases hlt2 : k < 60
        · have q0 := HS.out.c0 k hlt
          have q1 := HS.out.c1 k hlt
          have q2 := HS.out.c2 k hlt
          have p1 := HS.out.w1 k hlt
          have p2 := HS.out.w2 k hlt
          have hb0 := HS.out.lt (by omega)
          rw [← hr.bel.cell (p := ⟨b, _, none⟩) hb0] at q0 q1 q2
          have hidx := HIDX.out
          generalize ds k = e at *
          have HR := Lib.hid hr
          clear hr
          have hX := Mod.of_alloc wr (.cells #[.int .i64 e.kind, .int .i64 e.page, .int .u64 e.gen] 45)
          have H0 := Lib.hid (HR.out.keep hX)
          have HG0 := Lib.hid (at_alloc wr (.cells #[.int .i64 e.kind, .int .i64 e.page, .int .u64 e.gen] 45))
          have hds : wr.heap.size ≠ sb ∧ wr.heap.size ≠ bm ∧ wr.heap.size ≠ qb ∧ ∀ b, v.ownBlock = some b → b ≠ wr.heap.size := by
            have := HR.out.p.map.lt; have := lt_of_at HR.out.p.at_; have := lt_of_at HR.out.q.at_
            refine ⟨by omega, by omega, by omega, fun b hb => ?_⟩
            have := own_lt HR.out.q.row b hb; omega
          have HD := Lib.hid hds
          have HF := Lib.hid (H0.out.p.far H0.out.q)
          have hlt4 : wr.heap.size < (wr.alloc (.cells #[.int .i64 e.kind, .int .i64 e.page, .int .u64 e.gen] 45)).heap.size := by simp
          clear hX hds
          by_cases c0 : e.kind = 0
          · have e0 : (e.kind == 0) = true := by simp [c0]
            clear c0
            go_wp2_with fail
            refine (alloc_any sb bm s e.gen _ H0.out.p).mono ?_
            rintro _ w4 ⟨_, rfl, rfl, h4, m4⟩
            have g2 : w4.cell? ⟨wr.heap.size, 2, none⟩ = some (.int .u64 e.gen) := cell_of_at (m4.at HG0.out (by simp; exact ⟨HD.out.1, HD.out.2.1⟩)) 2
            have H4 := Lib.hid h4
            have M4 := Lib.hid m4
            clear h4 m4 q0 q1 q2 hidx
            go_wp2_with fail
            refine (qalloc_any qb v s e.gen _ (H0.out.q.mod M4.out HF.out.1 HF.out.2.1)).mono ?_
            rintro _ w4' ⟨_, rfl, rfl, vv, h4'⟩
            have HB := Lib.hid (H0.out.both H4.out M4.out h4')
            clear h4' g2 H4 M4 H0 HR HF HD HG0 hlt4
            generalize s.alloc e.gen = r at *
            have Hq := Lib.hid (HB.out.q)
            obtain ⟨g, rc, hgv, hsl⟩ := Hq.out.slice
            have hqa := Hq.out.at_
            have HSL := Lib.hid hsl
            have hqlt := lt_of_at hqa
            rw [hgv] at hqa
            have c1 := cell_of_at hqa 1
            have c2 := cell_of_at hqa 2
            simp only [List.getElem?_toArray, List.getElem?_cons_succ, List.getElem?_cons_zero] at c1 c2
            clear hsl hqa hgv Hq
            go_wp2
            go_region_held3 (fun w' => w'.cell? ⟨qb, 1, none⟩ = some (.int .i64 (r.2).high) ∧ w'.cell? ⟨qb, 2, none⟩ = some (.slice g (r.2).m.length rc))
              (first
                | go_keep
                | (exact ⟨(M10.out.cell (a := ⟨qb, 1, none⟩) hqlt (by simp)).trans c1, (M10.out.cell (a := ⟨qb, 2, none⟩) hqlt (by simp)).trans c2⟩)
                | (exact ⟨((M10.out.same M11.out).cell (a := ⟨qb, 1, none⟩) hqlt (by simp)).trans c1, ((M10.out.same M11.out).cell (a := ⟨qb, 2, none⟩) hqlt (by simp)).trans c2⟩))
              (first
                | (go_at_call 11; refine (high_any sb bm r.2 _ (HB.out.p.mod (Mod.refl [] _).drew (by simp) (by simp))).mono ?_; rintro _ w9' ⟨_, rfl, rfl, rfl⟩)
                | (go_at_call 12; refine (list_any sb bm r.2 _ (HB.out.p.mod (Mod.refl [] _).drew (by simp) (by simp))).mono ?_; rintro _ w10 ⟨_, rfl, p10, n10, c10, rfl, e10, hrow10, m10⟩; (have M10 := Lib.hid ((Mod.refl [] _).drew.same m10)); (have HS10 := Lib.hid (Sl.of_own hrow10 (fcells_one _)).1); clear m10 hrow10 e10)
                | (go_at_call 16; refine (same_freed p10 g n10 (r.2).m.length c10 rc (r.2).m (r.2).m w10 HS10.out (HSL.out.mod M10.out (by simp))).mono ?_; rintro _ w11 ⟨_, rfl, rfl, m11⟩; (have M11 := Lib.hid m11); clear m11; rw [decide_eq_true rfl]))
            have HE := Lib.hid (HB.out.keep (M10.out.same M11.out))
            clear c1 c2
            go_wp2
            go_roundw
            case rel => exact ⟨r.2, sb, bm, vv, k + 1, by omega, by omega, by go_num, rfl, HE.out⟩
            case measure => simp [intOf]; omega
          · have e0 : (e.kind == 0) = false := by simp [c0]
            clear c0
            have hW : Hid (PBoth w (wr.alloc (.cells #[.int .i64 e.kind, .int .i64 e.page, .int .u64 e.gen] 45)) sb bm qb v s) := H0.out
            have HW0 := Lib.hid (H0.out.keep (Mod.of_drew _))
            by_cases c1 : e.kind = 1
            · have e1 : (e.kind == 1) = true := by simp [c1]
              clear c1
              go_wp2
              have g1 : (wr.alloc (.cells #[.int .i64 e.kind, .int .i64 e.page, .int .u64 e.gen] 45)).cell? ⟨wr.heap.size, 1, none⟩ = some (.int .i64 e.page) := cell_of_at HG0.out 1
              have g2 : (wr.alloc (.cells #[.int .i64 e.kind, .int .i64 e.page, .int .u64 e.gen] 45)).cell? ⟨wr.heap.size, 2, none⟩ = some (.int .u64 e.gen) := cell_of_at HG0.out 2
              clear q0 q1 q2 hidx H0 hW HG0
              have HR := True.intro
              generalize wr.heap.size = db at *
              generalize wr.alloc (.cells #[.int .i64 e.kind, .int .i64 e.page, .int .u64 e.gen] 45) = W at *
              go_region_held3 (fun w' => w'.cell? ⟨db, 1, none⟩ = some (.int .i64 e.page) ∧ w'.cell? ⟨db, 2, none⟩ = some (.int .u64 e.gen))
                (first
                  | go_keep
                  | (exact ⟨(M4.out.cell (a := ⟨db, 1, none⟩) hlt4 (by simp; exact ⟨HD.out.1, HD.out.2.1⟩)).trans g1, (M4.out.cell (a := ⟨db, 2, none⟩) hlt4 (by simp; exact ⟨HD.out.1, HD.out.2.1⟩)).trans g2⟩)
                  | (exact ⟨((H4'.out.mod.cell (a := ⟨db, 1, none⟩) (Nat.lt_of_lt_of_le hlt4 M4.out.size) (by simp; exact ⟨HD.out.2.2.1, fun e => HD.out.2.2.2 _ e rfl⟩)).trans (M4.out.cell (a := ⟨db, 1, none⟩) hlt4 (by simp; exact ⟨HD.out.1, HD.out.2.1⟩))).trans g1,
                      ((H4'.out.mod.cell (a := ⟨db, 2, none⟩) (Nat.lt_of_lt_of_le hlt4 M4.out.size) (by simp; exact ⟨HD.out.2.2.1, fun e => HD.out.2.2.2 _ e rfl⟩)).trans (M4.out.cell (a := ⟨db, 2, none⟩) hlt4 (by simp; exact ⟨HD.out.1, HD.out.2.1⟩))).trans g2⟩))
                (first
                  | (go_at_call 13; refine (free_any sb bm s e.page e.gen _ HW0.out.p p2.1 p2.2 p1.1 p1.2).mono ?_; rintro _ w4 ⟨_, rfl, rfl, h4, m4⟩; (have H4 := Lib.hid h4); (have M4 := Lib.hid m4); clear h4 m4)
                  | (go_at_call 18; refine (qfree_any qb v s e.page e.gen _ (HW0.out.q.mod M4.out HF.out.1 HF.out.2.1) p2.1 p2.2).mono ?_; rintro _ w4' ⟨_, rfl, rfl, vv, h4'⟩; (have H4' := Lib.hid h4'); clear h4'))
              have HB := Lib.hid (HW0.out.both H4.out M4.out H4'.out)
              clear g1 g2 hlt4 H4 H4' M4 HW0 HF HD
              generalize s.free e.page e.gen = r at *
              have Hq := Lib.hid (HB.out.q)
              obtain ⟨g, rc, hgv, hsl⟩ := Hq.out.slice
              have hqa := Hq.out.at_
              have HSL := Lib.hid hsl
              have hqlt := lt_of_at hqa
              rw [hgv] at hqa
              have c1 := cell_of_at hqa 1
              have c2 := cell_of_at hqa 2
              simp only [List.getElem?_toArray, List.getElem?_cons_succ, List.getElem?_cons_zero] at c1 c2
              clear hsl hqa hgv Hq
              go_wp2
              go_region_held3 (fun w' => w'.cell? ⟨qb, 1, none⟩ = some (.int .i64 (r.2).high) ∧ w'.cell? ⟨qb, 2, none⟩ = some (.slice g (r.2).m.length rc))
                (first
                  | go_keep
                  | (exact ⟨(M10.out.cell (a := ⟨qb, 1, none⟩) hqlt (by simp)).trans c1, (M10.out.cell (a := ⟨qb, 2, none⟩) hqlt (by simp)).trans c2⟩)
                  | (exact ⟨((M10.out.same M11.out).cell (a := ⟨qb, 1, none⟩) hqlt (by simp)).trans c1, ((M10.out.same M11.out).cell (a := ⟨qb, 2, none⟩) hqlt (by simp)).trans c2⟩))
                (first
                  | (go_at_call 11; refine (high_any sb bm r.2 _ (HB.out.p.mod (Mod.refl [] _).drew (by simp) (by simp))).mono ?_; rintro _ w9' ⟨_, rfl, rfl, rfl⟩)
                  | (go_at_call 12; refine (list_any sb bm r.2 _ (HB.out.p.mod (Mod.refl [] _).drew (by simp) (by simp))).mono ?_; rintro _ w10 ⟨_, rfl, p10, n10, c10, rfl, e10, hrow10, m10⟩; (have M10 := Lib.hid ((Mod.refl [] _).drew.same m10)); (have HS10 := Lib.hid (Sl.of_own hrow10 (fcells_one _)).1); clear m10 hrow10 e10)
                  | (go_at_call 16; refine (same_freed p10 g n10 (r.2).m.length c10 rc (r.2).m (r.2).m w10 HS10.out (HSL.out.mod M10.out (by simp))).mono ?_; rintro _ w11 ⟨_, rfl, rfl, m11⟩; (have M11 := Lib.hid m11); clear m11; rw [decide_eq_true rfl]))
              have HE := Lib.hid (HB.out.keep (M10.out.same M11.out))
              clear c1 c2
              go_wp2
              go_roundw
              case rel => exact ⟨r.2, sb, bm, vv, k + 1, by omega, by omega, by go_num, rfl, HE.out⟩
              case measure => simp [intOf]; omega
            · have e1 : (e.kind == 1) = false := by simp [c1]
              clear c1
              by_cases c2 : e.kind = 2
              · have e2 : (e.kind == 2) = true := by simp [c2]
                clear c2
                go_wp2
                have g1 : (wr.alloc (.cells #[.int .i64 e.kind, .int .i64 e.page, .int .u64 e.gen] 45)).cell? ⟨wr.heap.size, 1, none⟩ = some (.int .i64 e.page) := cell_of_at HG0.out 1
                have g2 : (wr.alloc (.cells #[.int .i64 e.kind, .int .i64 e.page, .int .u64 e.gen] 45)).cell? ⟨wr.heap.size, 2, none⟩ = some (.int .u64 e.gen) := cell_of_at HG0.out 2
                clear q0 q1 q2 hidx H0 hW HG0
                have HR := True.intro
                generalize wr.heap.size = db at *
                generalize wr.alloc (.cells #[.int .i64 e.kind, .int .i64 e.page, .int .u64 e.gen] 45) = W at *
                clear g1
                go_region_held3 (fun w' => w'.cell? ⟨db, 2, none⟩ = some (.int .u64 e.gen))
                  (first
                    | go_keep
                    | (exact (M4.out.cell (a := ⟨db, 2, none⟩) hlt4 (by simp; exact ⟨HD.out.1, HD.out.2.1⟩)).trans g2)
                    | (exact ((H4'.out.mod.cell (a := ⟨db, 2, none⟩) (Nat.lt_of_lt_of_le hlt4 M4.out.size) (by simp; exact ⟨HD.out.2.2.1, fun e => HD.out.2.2.2 _ e rfl⟩)).trans (M4.out.cell (a := ⟨db, 2, none⟩) hlt4 (by simp; exact ⟨HD.out.1, HD.out.2.1⟩))).trans g2))
                  (first
                    | (go_at_call 15; refine (trim_any sb bm s e.gen _ HW0.out.p).mono ?_; rintro _ w4 ⟨_, rfl, rfl, h4, m4⟩; (have H4 := Lib.hid h4); (have M4 := Lib.hid m4); clear h4 m4)
                    | (go_at_call 19; refine (qtrim_any qb v s e.gen _ (HW0.out.q.mod M4.out HF.out.1 HF.out.2.1)).mono ?_; rintro _ w4' ⟨_, rfl, rfl, vv, h4'⟩; (have H4' := Lib.hid h4'); clear h4'))
                have HB := Lib.hid (HW0.out.both H4.out M4.out H4'.out)
                clear g2 hlt4 H4 H4' M4 HW0 HF HD
                generalize s.trim e.gen = r at *
                have Hq := Lib.hid (HB.out.q)
                obtain ⟨g, rc, hgv, hsl⟩ := Hq.out.slice
                have hqa := Hq.out.at_
                have HSL := Lib.hid hsl
                have hqlt := lt_of_at hqa
                rw [hgv] at hqa
                have c1 := cell_of_at hqa 1
                have c2 := cell_of_at hqa 2
                simp only [List.getElem?_toArray, List.getElem?_cons_succ, List.getElem?_cons_zero] at c1 c2
                clear hsl hqa hgv Hq
                go_wp2
                go_region_held3 (fun w' => w'.cell? ⟨qb, 1, none⟩ = some (.int .i64 (r.2).high) ∧ w'.cell? ⟨qb, 2, none⟩ = some (.slice g (r.2).m.length rc))
                  (first
                    | go_keep
                    | (exact ⟨(M10.out.cell (a := ⟨qb, 1, none⟩) hqlt (by simp)).trans c1, (M10.out.cell (a := ⟨qb, 2, none⟩) hqlt (by simp)).trans c2⟩)
                    | (exact ⟨((M10.out.same M11.out).cell (a := ⟨qb, 1, none⟩) hqlt (by simp)).trans c1, ((M10.out.same M11.out).cell (a := ⟨qb, 2, none⟩) hqlt (by simp)).trans c2⟩))
                  (first
                    | (go_at_call 11; refine (high_any sb bm r.2 _ (HB.out.p.mod (Mod.refl [] _).drew (by simp) (by simp))).mono ?_; rintro _ w9' ⟨_, rfl, rfl, rfl⟩)
                    | (go_at_call 12; refine (list_any sb bm r.2 _ (HB.out.p.mod (Mod.refl [] _).drew (by simp) (by simp))).mono ?_; rintro _ w10 ⟨_, rfl, p10, n10, c10, rfl, e10, hrow10, m10⟩; (have M10 := Lib.hid ((Mod.refl [] _).drew.same m10)); (have HS10 := Lib.hid (Sl.of_own hrow10 (fcells_one _)).1); clear m10 hrow10 e10)
                    | (go_at_call 16; refine (same_freed p10 g n10 (r.2).m.length c10 rc (r.2).m (r.2).m w10 HS10.out (HSL.out.mod M10.out (by simp))).mono ?_; rintro _ w11 ⟨_, rfl, rfl, m11⟩; (have M11 := Lib.hid m11); clear m11; rw [decide_eq_true rfl]))
                have HE := Lib.hid (HB.out.keep (M10.out.same M11.out))
                clear c1 c2
                go_wp2
                go_roundw
                case rel => exact ⟨r.2, sb, bm, vv, k + 1, by omega, by omega, by go_num, rfl, HE.out⟩
                case measure => simp [intOf]; omega
              · have e2 : (e.kind == 2) = false := by simp [c2]
                clear c2
                go_wp2_with fail
                refine (clone_any sb bm s _ H0.out.p).mono ?_
                rintro _ w4 ⟨_, rfl, sb2, bm2, rfl, h4, m4, hs4, hb4⟩
                have hx4 := m4.at HG0.out (by simp)
                have g2 : w4.cell? ⟨wr.heap.size, 2, none⟩ = some (.int .u64 e.gen) := cell_of_at hx4 2
                have HX4 := Lib.hid hx4
                have HP4 := Lib.hid (H0.out.p.mod m4 (by simp) (by simp))
                have H4 := Lib.hid h4
                have M4 := Lib.hid m4
                clear h4 m4 hx4 q0 q1 q2 hidx
                go_wp2_with fail
                refine (alloc_any sb bm s e.gen _ HP4.out).mono ?_
                rintro _ w5 ⟨_, rfl, rfl, h5, m5⟩
                have hx5 := m5.at HX4.out (by simp; exact ⟨HD.out.1, HD.out.2.1⟩)
                have g1' : w5.cell? ⟨wr.heap.size, 1, none⟩ = some (.int .i64 e.page) := cell_of_at hx5 1
                have g2' : w5.cell? ⟨wr.heap.size, 2, none⟩ = some (.int .u64 e.gen) := cell_of_at hx5 2
                have H5 := Lib.hid h5
                have M5 := Lib.hid m5
                clear h5 m5 hx5 g2
                go_wp2_with fail
                refine (free_any sb bm _ e.page e.gen _ H5.out p2.1 p2.2 p1.1 p1.2).mono ?_
                rintro _ w6 ⟨_, rfl, rfl, h6, m6⟩
                have HB := Lib.hid (H0.out.clone H4.out M4.out hs4 hb4 (M5.out.same m6))
                clear h6 m6 g1' g2' H5 M5 H4 M4 HP4 HX4 HF HD HG0 HW0 hW H0 HR hlt4 hs4 hb4
                have Hq := Lib.hid (HB.out.q)
                obtain ⟨g, rc, hgv, hsl⟩ := Hq.out.slice
                have hqa := Hq.out.at_
                have HSL := Lib.hid hsl
                have hqlt := lt_of_at hqa
                rw [hgv] at hqa
                have c1 := cell_of_at hqa 1
                have c2 := cell_of_at hqa 2
                simp only [List.getElem?_toArray, List.getElem?_cons_succ, List.getElem?_cons_zero] at c1 c2
                clear hsl hqa hgv Hq
                go_wp2
                go_region_held3 (fun w' => w'.cell? ⟨qb, 1, none⟩ = some (.int .i64 (s).high) ∧ w'.cell? ⟨qb, 2, none⟩ = some (.slice g (s).m.length rc))
                  (first
                    | go_keep
                    | (exact ⟨(M10.out.cell (a := ⟨qb, 1, none⟩) hqlt (by simp)).trans c1, (M10.out.cell (a := ⟨qb, 2, none⟩) hqlt (by simp)).trans c2⟩)
                    | (exact ⟨((M10.out.same M11.out).cell (a := ⟨qb, 1, none⟩) hqlt (by simp)).trans c1, ((M10.out.same M11.out).cell (a := ⟨qb, 2, none⟩) hqlt (by simp)).trans c2⟩))
                  (first
                    | (go_at_call 11; refine (high_any sb2 bm2 s _ (HB.out.p.mod (Mod.refl [] _).drew (by simp) (by simp))).mono ?_; rintro _ w9' ⟨_, rfl, rfl, rfl⟩)
                    | (go_at_call 12; refine (list_any sb2 bm2 s _ (HB.out.p.mod (Mod.refl [] _).drew (by simp) (by simp))).mono ?_; rintro _ w10 ⟨_, rfl, p10, n10, c10, rfl, e10, hrow10, m10⟩; (have M10 := Lib.hid ((Mod.refl [] _).drew.same m10)); (have HS10 := Lib.hid (Sl.of_own hrow10 (fcells_one _)).1); clear m10 hrow10 e10)
                    | (go_at_call 16; refine (same_freed p10 g n10 (s).m.length c10 rc (s).m (s).m w10 HS10.out (HSL.out.mod M10.out (by simp))).mono ?_; rintro _ w11 ⟨_, rfl, rfl, m11⟩; (have M11 := Lib.hid m11); clear m11; rw [decide_eq_true rfl]))
                have HE := Lib.hid (HB.out.keep (M10.out.same M11.out))
                clear c1 c2
                go_wp2
                go_roundw
                case rel => exact ⟨s, sb2, bm2, v, k + 1, by omega, by omega, by go_num, rfl, HE.out⟩
                case measure => simp [intOf]; omega
        · have HR := Lib.hid hr
          clear hr
          have Hq := Lib.hid (HR.out.q)
          obtain ⟨g, rc, hgv, hsl⟩ := Hq.out.slice
          have hqa := Hq.out.at_
          have HSL := Lib.hid hsl
          have hqlt := lt_of_at hqa
          rw [hgv] at hqa
          have c1 := cell_of_at hqa 1
          have c2 := cell_of_at hqa 2
          simp only [List.getElem?_toArray, List.getElem?_cons_succ, List.getElem?_cons_zero] at c1 c2
          clear hsl hqa hgv Hq
          go_wp2
          go_region_held3 (fun w' => w'.cell? ⟨qb, 1, none⟩ = some (.int .i64 (s).high) ∧ w'.cell? ⟨qb, 2, none⟩ = some (.slice g (s).m.length rc))
            (first
              | go_keep
              | (exact ⟨(M10.out.cell (a := ⟨qb, 1, none⟩) hqlt (by simp)).trans c1, (M10.out.cell (a := ⟨qb, 2, none⟩) hqlt (by simp)).trans c2⟩)
              | (exact ⟨((M10.out.same M11.out).cell (a := ⟨qb, 1, none⟩) hqlt (by simp)).trans c1, ((M10.out.same M11.out).cell (a := ⟨qb, 2, none⟩) hqlt (by simp)).trans c2⟩))
            (first
              | (go_at_call 11; refine (high_any sb bm s _ (HR.out.p.mod (Mod.refl [] _).drew (by simp) (by simp))).mono ?_; rintro _ w9' ⟨_, rfl, rfl, rfl⟩)
              | (go_at_call 12; refine (list_any sb bm s _ (HR.out.p.mod (Mod.refl [] _).drew (by simp) (by simp))).mono ?_; rintro _ w10 ⟨_, rfl, p10, n10, c10, rfl, e10, hrow10, m10⟩; (have M10 := Lib.hid ((Mod.refl [] _).drew.same m10)); (have HS10 := Lib.hid (Sl.of_own hrow10 (fcells_one _)).1); clear m10 hrow10 e10)
              | (go_at_call 16; refine (same_freed p10 g n10 (s).m.length c10 rc (s).m (s).m w10 HS10.out (HSL.out.mod M10.out (by simp))).mono ?_; rintro _ w11 ⟨_, rfl, rfl, m11⟩; (have M11 := Lib.hid m11); clear m11; rw [decide_eq_true rfl]))
          go_wp2
          go_ret
          exact .mk ⟨rfl, (HR.out.keep (M10.out.same M11.out)).bel⟩
      · have HR := Lib.hid hr
        clear hr
        have Hq := Lib.hid (HR.out.q)
        obtain ⟨g, rc, hgv, hsl⟩ := Hq.out.slice
        have hqa := Hq.out.at_
        have HSL := Lib.hid hsl
        have hqlt := lt_of_at hqa
        rw [hgv] at hqa
        have c1 := cell_of_at hqa 1
        have c2 := cell_of_at hqa 2
        simp only [List.getElem?_toArray, List.getElem?_cons_succ, List.getElem?_cons_zero] at c1 c2
        clear hsl hqa hgv Hq
        go_wp2
        go_region_held3 (fun w' => w'.cell? ⟨qb, 1, none⟩ = some (.int .i64 (s).high) ∧ w'.cell? ⟨qb, 2, none⟩ = some (.slice g (s).m.length rc))
          (first
            | go_keep
            | (exact ⟨(M10.out.cell (a := ⟨qb, 1, none⟩) hqlt (by simp)).trans c1, (M10.out.cell (a := ⟨qb, 2, none⟩) hqlt (by simp)).trans c2⟩)
            | (exact ⟨((M10.out.same M11.out).cell (a := ⟨qb, 1, none⟩) hqlt (by simp)).trans c1, ((M10.out.same M11.out).cell (a := ⟨qb, 2, none⟩) hqlt (by simp)).trans c2⟩))
          (first
            | (go_at_call 11; refine (high_any sb bm s _ (HR.out.p.mod (Mod.refl [] _).drew (by simp) (by simp))).mono ?_; rintro _ w9' ⟨_, rfl, rfl, rfl⟩)
            | (go_at_call 12; refine (list_any sb bm s _ (HR.out.p.mod (Mod.refl [] _).drew (by simp) (by simp))).mono ?_; rintro _ w10 ⟨_, rfl, p10, n10, c10, rfl, e10, hrow10, m10⟩; (have M10 := Lib.hid ((Mod.refl [] _).drew.same m10)); (have HS10 := Lib.hid (Sl.of_own hrow10 (fcells_one _)).1); clear m10 hrow10 e10)
            | (go_at_call 16; refine (same_freed p10 g n10 (s).m.length c10 rc (s).m (s).m w10 HS10.out (HSL.out.mod M10.out (by simp))).mono ?_; rintro _ w11 ⟨_, rfl, rfl, m11⟩; (have M11 := Lib.hid m11); clear m11; rw [decide_eq_true rfl]))
        go_wp2
        go_ret
        exact .mk ⟨rfl, (HR.out.keep (M10.out.same M11.out)).bel⟩
end Go.Proofs.Ytibkhdlddllcjaa
