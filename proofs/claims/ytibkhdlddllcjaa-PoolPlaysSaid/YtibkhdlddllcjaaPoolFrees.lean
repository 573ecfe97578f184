/- PoolFrees: the walk. -/
import Derived.Test.YtibkhdlddllcjaaPoolTrim
namespace Go.Proofs.Ytibkhdlddllcjaa
open Go.RowKit Go.Maps
set_option linter.unusedSimpArgs false
set_option linter.unusedVariables false

theorem cut_head {x v : Int} {r : List (Int × Int)} (h : Srt ((x, v) :: r)) : cut ((x, v) :: r) x = r := by
  unfold cut
  rw [List.filter_cons, if_neg (by simp), List.filter_eq_self]
  intro p hp
  have := (List.pairwise_cons.1 h).1 p hp
  simp at this ⊢; omega
theorem ins_first {x v : Int} {r : List (Int × Int)} (h : ∀ p ∈ r, x < p.1) : ins x v r = (x, v) :: r := by
  cases r with
  | nil => rfl
  | cons a r => unfold ins; rw [if_pos (h a (by simp))]
theorem look_head (x v : Int) (r : List (Int × Int)) : look ((x, v) :: r) x = some v := by simp [look]
theorem look_first {x : Int} {r : List (Int × Int)} (h : ∀ p ∈ r, x < p.1) : look r x = none := by
  simp only [look, Option.map_eq_none_iff, List.find?_eq_none]
  intro p hp; have := h p hp; simp; omega
theorem alloc_max {s : PS} (hok : s.Ok) (gen : Int) : (s.alloc 18446744073709551615 = ((0, 2), s) ∧ s.m = []) ∨
    ∃ no s1 s2, s.alloc 18446744073709551615 = ((no, 0), s1) ∧ s1.free no gen = (0, s2) ∧ s2.free no gen = (8, s2) ∧ (-9223372036854775808 ≤ no ∧ no ≤ 9223372036854775807) ∧
      ((no = s.high ∧ s2.m.length = s.m.length + 1 ∧ s2.high = s.high + 1) ∨ (no ≠ s.high ∧ s2.m.length = s.m.length ∧ s2.high = s.high)) := by
  obtain ⟨cap, high, m⟩ := s
  have hl := hok.low; have hh := hok.high; have hc := hok.cap
  simp only at hl hh hc
  cases m with
  | nil =>
    by_cases hf : high = cap
    · left; exact ⟨by unfold PS.alloc; simp [hf], rfl⟩
    · right
      refine ⟨high, ⟨cap, high + 1, []⟩, ⟨cap, high + 1, [(high, gen)]⟩, by unfold PS.alloc; simp [hf], ?_, ?_, by omega, Or.inl ⟨rfl, rfl, rfl⟩⟩
      · unfold PS.free; rw [if_neg (by simp only; omega)]; rfl
      · unfold PS.free; rw [if_neg (by simp only; omega), look_head]; rfl
  | cons a r =>
    right
    have hr : ∀ p ∈ r, a.1 < p.1 := (List.pairwise_cons.1 hok.srt).1
    have ha := hok.at_ a (by simp)
    have hw := hok.wf a (by simp)
    simp only at ha
    have hsr : Srt ((a.1, a.2) :: r) := hok.srt
    refine ⟨a.1, ⟨cap, high, r⟩, ⟨cap, high, (a.1, gen) :: r⟩, ?_, ?_, ?_, by omega, Or.inr ⟨by simp only; omega, rfl, rfl⟩⟩
    · unfold PS.alloc; rw [List.find?_cons, decide_eq_true (by omega)]; simp only; rw [show cut (a :: r) a.1 = r from cut_head hsr]
    · unfold PS.free; rw [if_neg (by simp only; omega), look_first hr, ins_first hr]; rfl
    · unfold PS.free; rw [if_neg (by simp only; omega), look_head]; rfl

theorem trim_end (h : Int) (hh : h = 18446744073709551615) : ∀ (n : Nat) (s : PS), s.high.toNat ≤ n → s.Ok → ¬ 2 < (s.trim h).2.high ∨ look (s.trim h).2.m ((s.trim h).2.high - 1) = none := by
  intro n
  induction n with
  | zero => intro s hn hok; have := hok.low; omega
  | succ n ih =>
    intro s hn hok
    by_cases h2 : 2 < s.high
    · cases hl : look s.m (s.high - 1) with
      | none => rw [PS.trim_none hl]; exact Or.inr hl
      | some g =>
        have hg := hok.wf _ (mem_of_look hl)
        simp only at hg
        rw [PS.trim_step h2 hl (by omega)]
        exact ih s.less (by simp [PS.less]; omega) (hok.less h2)
    · rw [PS.trim_low h2]; exact Or.inl h2
/-- Trimmed up to the greatest version no freed page is the last. -/
theorem trim_max {s : PS} (hok : s.Ok) (hok2 : (s.trim 18446744073709551615).2.Ok) : ∀ p ∈ (s.trim 18446744073709551615).2.m, p.1 ≠ (s.trim 18446744073709551615).2.high - 1 := by
  intro p hp he
  have h1 := hok2.at_ p hp
  rcases trim_end _ rfl _ s (Nat.le_refl _) hok with h | h
  · omega
  · rw [← he, look_of_mem hok2.srt hp] at h; cases h


set_option maxRecDepth 100000 in
set_option maxHeartbeats 1000000 in
theorem frees_any (cap high gen : Int) (p : Option Addr) (n c : Nat) (l : List (Int × Int)) (w : World) (hl : FreedIn w p n c l) (hg0 : 0 ≤ gen) (hg1 : gen < 2 ^ 64) :
    Calls Try.prog 5 #[.agg #[.int .i64 cap, .int .i64 high, .slice p n c], .int .u64 gen] w (Ret (LawR w)) := by
  have HL := Lib.hid hl
  have hn := hl.sl.capm
  have hn2 := hl.sl.le
  unfold maxLen at hn
  clear hl
  go_enter Try.func5, Try.ntmps5
  go_wp2_with fail
  have hx0 := at_alloc w (.cells #[.int .i64 cap, .int .i64 high, .slice p n c] 24)
  have hb0 : Below w.heap.size w (w.alloc (.cells #[.int .i64 cap, .int .i64 high, .slice p n c] 24)) := (Below.refl _ _).alloc (Nat.le_refl _) _
  have hl0 : FreedIn (w.alloc (.cells #[.int .i64 cap, .int .i64 high, .slice p n c] 24)) p n c l := ⟨HL.out.sl.mod (Mod.of_alloc _ _) (by simp), HL.out.wf⟩
  have hxb : w.heap.size < (w.alloc (.cells #[.int .i64 cap, .int .i64 high, .slice p n c] 24)).heap.size := by simp
  generalize w.alloc (.cells #[.int .i64 cap, .int .i64 high, .slice p n c] 24) = W at *
  refine (awake_any _).mono ?_
  rintro _ w1 ⟨_, rfl, rfl, m1⟩
  have hx1 := m1.at hx0 (by simp)
  have hl1 : FreedIn w1 p n c l := ⟨hl0.sl.mod m1 (by simp), hl0.wf⟩
  have hb1 := hb0.trans (m1.below.mono hb0.size)
  have hs1 := m1.size
  have HX1 := Lib.hid hx1
  have HL1 := Lib.hid hl1
  have HB1 := Lib.hid hb1
  have q2 : w1.cell? ⟨w.heap.size, 2, none⟩ = some (.slice p n c) := cell_of_at hx1 2
  have q1 : w1.cell? ⟨w.heap.size, 1, none⟩ = some (.int .i64 high) := cell_of_at hx1 1
  have q0 : w1.cell? ⟨w.heap.size, 0, none⟩ = some (.int .i64 cap) := cell_of_at hx1 0
  clear hx0 hb0 hl0 m1 hx1 hl1 hb1 HL
  by_cases hbig : 100 < n
  · go_wp2
    go_ret
    exact .mk ⟨rfl, HB1.out⟩
  go_wp2_with fail
  refine (new_any cap high p n c l _ HL1.out).mono ?_
  rintro _ w2 ⟨_, rfl, m2, hnew⟩
  have hx2 := m2.at HX1.out (by simp)
  have HX2 := Lib.hid hx2
  have HL2 : Hid (FreedIn w2 p n c l) := ⟨HL1.out.sl.mod m2 (by simp), HL1.out.wf⟩
  have HB2 := Lib.hid (HB1.out.trans (m2.below.mono HB1.out.size))
  have q2' : w2.cell? ⟨w.heap.size, 2, none⟩ = some (.slice p n c) := cell_of_at hx2 2
  have q1' : w2.cell? ⟨w.heap.size, 1, none⟩ = some (.int .i64 high) := cell_of_at hx2 1
  have q0' : w2.cell? ⟨w.heap.size, 0, none⟩ = some (.int .i64 cap) := cell_of_at hx2 0
  have hs2 := m2.size
  clear hx2 q2 q1 q0 m2
  cases hN : PS.new cap high l with
  | none =>
    rw [hN] at hnew
    subst hnew
    clear hN
    go_wp2_with fail
    go_ret
    exact .mk ⟨rfl, HB2.out⟩
  | some s =>
    rw [hN] at hnew
    obtain ⟨sb, bm, rfl, hp2, hsb, hbm⟩ := hnew
    have HP2 := Lib.hid hp2
    have hs2' : w.heap.size ≤ sb ∧ w.heap.size ≤ bm := by omega
    clear hN hp2 q0' q1' q2' HX2 HX1 HL2 HL1
    go_wp2_with fail
    refine (list_any sb bm s _ HP2.out).mono ?_
    rintro _ w3 ⟨_, rfl, p3, n3, c3, rfl, e3, hrow3, m3⟩
    have hsm := HP2.out.ok.small
    have HB3 := Lib.hid (HB2.out.trans (m3.below.mono HB2.out.size))
    have HP3 := Lib.hid (HP2.out.mod m3 (by simp) (by simp))
    have HE3 := Lib.hid e3
    clear hrow3 m3 e3
    go_wp2_with fail
    refine (high_any sb bm s _ HP3.out).mono ?_
    rintro _ w3' ⟨_, rfl, rfl, rfl⟩
    go_wp2_with fail
    refine (alloc_any sb bm s _ _ HP3.out).mono ?_
    rintro _ w4 ⟨_, rfl, rfl, h4, m4⟩
    have HB4 := Lib.hid (HB3.out.trans (m4.below_of (B := w.heap.size) HB3.out.size (by simp; exact hs2')))
    have HAM := Lib.hid (alloc_max HP3.out.ok gen)
    rcases HAM.out with ⟨ha, hm0⟩ | ⟨no, s1, s2, ha, hf1, hf2, hno, hcase⟩
    · rw [ha] at h4 ⊢
      obtain rfl : n3 = 0 := by rw [HE3.out, hm0]; rfl
      clear ha hm0 h4 m4 HAM
      go_wp2_with fail
      go_ret
      exact .mk ⟨rfl, HB4.out⟩
    · rw [ha] at h4 ⊢
      have H4 := Lib.hid h4
      have HF1 := Lib.hid hf1
      have HF2 := Lib.hid hf2
      have HCA := Lib.hid hcase
      clear ha h4 m4 HAM hf1 hf2 hcase
      go_wp2_with fail
      refine (free_any sb bm s1 no gen _ H4.out hg0 hg1 hno.1 hno.2).mono ?_
      rintro _ w5 ⟨_, rfl, rfl, h5, m5⟩
      rw [HF1.out] at h5 ⊢
      have H5 := Lib.hid h5
      have HB5 := Lib.hid (HB4.out.trans (m5.below_of (B := w.heap.size) HB4.out.size (by simp; exact hs2')))
      clear h5 m5 H4 HB4 HF1
      go_wp2_with fail
      refine (free_any sb bm s2 no gen _ H5.out hg0 hg1 hno.1 hno.2).mono ?_
      rintro _ w6 ⟨_, rfl, rfl, h6, m6⟩
      rw [HF2.out] at h6 ⊢
      have H6 := Lib.hid h6
      have HB6 := Lib.hid (HB5.out.trans (m6.below_of (B := w.heap.size) HB5.out.size (by simp; exact hs2')))
      clear h6 m6 H5 HB5 HF2
      go_wp2_with fail
      refine (list_any sb bm s2 _ H6.out).mono ?_
      rintro _ w7 ⟨_, rfl, p7, n7, c7, rfl, e7, hrow7, m7⟩
      have HB7 := Lib.hid (HB6.out.trans (m7.below.mono HB6.out.size))
      have HP7 := Lib.hid (H6.out.mod m7 (by simp) (by simp))
      have hsm2 := H6.out.ok.small
      have HE7 := Lib.hid e7
      clear hrow7 m7 H6 HB6 e7
      have he3 := HE3.out
      have he7 := HE7.out
      rcases HCA.out with ⟨k1, k2, k3⟩ | ⟨k1, k2, k3⟩
      · have b1 : (no == s.high) = true := by simp [k1]
        have hh1 := HP3.out.ok.high
        have hh2 := HP3.out.ok.cap
        have hh3 := HP3.out.ok.low
        have w1' : IntKind.i64.wrap ((n3 : Int) + 1) = (n3 : Int) + 1 := IntWalk.i64_in _ (by omega)
        have w2' : IntKind.i64.wrap (s.high + 1) = s.high + 1 := IntWalk.i64_in _ (by omega)
        have b2 : ((n7 : Int) != (n3 : Int) + 1) = false := by simp; omega
        have b3 : (s2.high != s.high + 1) = false := by simp [k3]
        clear k1 k2 HCA he3 he7 k3 hh1 hh2 hh3
        go_wp2_with fail
        refine (high_any sb bm s2 _ HP7.out).mono ?_
        rintro _ w7' ⟨_, rfl, rfl, rfl⟩
        go_wp2_with fail
        refine (trim_any sb bm s2 _ _ HP7.out).mono ?_
        rintro _ w8 ⟨_, rfl, rfl, h8, m8⟩
        have HTM := Lib.hid (trim_max HP7.out.ok h8.ok)
        generalize s2.trim 18446744073709551615 = t at *
        have H8 := Lib.hid h8
        have HB8 := Lib.hid (HB7.out.trans (m8.below_of (B := w.heap.size) HB7.out.size (by simp; exact hs2')))
        clear h8 m8 HP7 HB7
        go_wp2_with fail
        refine (list_any sb bm t.2 _ H8.out).mono ?_
        rintro _ w9 ⟨_, rfl, p9, n9, c9, rfl, e9, hrow9, m9⟩
        have HS9 := Lib.hid (Sl.of_own hrow9 (fcells_one _)).1
        have HP9 := Lib.hid (H8.out.mod m9 (by simp) (by simp))
        have HB9 := Lib.hid (HB8.out.trans (m9.below.mono HB8.out.size))
        have hsm9 := H8.out.ok.small
        have HE9 := Lib.hid e9
        have hz9 : n9 ≤ 2048 := by omega
        clear hrow9 m9 H8 HB8 e9 hsm9
        cases n9 with
        | zero =>
          go_wp2
          go_quiet (fail)
          go_wp2
          go_ret
          exact .mk ⟨rfl, HB9.out.trans ((Mod.refl [] w9).drewN.below.mono HB9.out.size)⟩
        | succ k =>
          generalize hn9 : k + 1 = n9 at *
          have b9 : ((n9 : Int) == 0) = false := by simp; omega
          have wk : IntKind.i64.wrap ((n9 : Int) - 1) = (k : Int) := by rw [IntWalk.i64_in _ (by omega)]; omega
          have hkl : k < t.2.m.length := by have := HE9.out; omega
          obtain ⟨lb, lo, hp9, hcs9⟩ := HS9.out.at_
          have hidx := fun W => Sl.idx (P := Try.prog) (cap := c9) Try.underlying22 sizeFreed (fun h => (hp9 h).1) W .i64
          obtain ⟨lp, hlp⟩ : ∃ lp, lp = (t.2.m.getD k (0, 0)).1 := ⟨_, rfl⟩
          have d0 := hcs9 _ _ (fcells_get t.2.m k hkl).1
          have hll := (hp9 (by omega)).2
          have hok9 := HP9.out.ok
          have hne := HTM.out (t.2.m.getD k (0, 0)) (by rw [getD_at hkl]; exact List.getElem_mem _)
          rw [← hlp] at d0 hne
          have wh : IntKind.i64.wrap (t.2.high - 1) = t.2.high - 1 := IntWalk.i64_in _ (by have := hok9.low; have := hok9.high; have := hok9.cap; omega)
          have b10 : (lp != t.2.high - 1) = true := by simp; exact hne
          have hk9 : k < n9 := by omega
          clear hn9 hkl hp9 hcs9 hlp hne hok9
          go_wp2
          go_region_held3 (fun w' => w'.cell? ⟨lb, lo + k * 2, none⟩ = some (.int .i64 lp))
            (first
              | go_keep
              | (exact (M10.out.cell (a := ⟨lb, lo + k * 2, none⟩) hll (by simp)).trans d0)
              | (exact ((M10.out.same M11.out).cell (a := ⟨lb, lo + k * 2, none⟩) hll (by simp)).trans d0))
            (first
              | (go_at_call 11; refine (high_any sb bm t.2 _ (HP9.out.mod (Mod.refl [] w9).drew (by simp) (by simp))).mono ?_; rintro _ w9' ⟨_, rfl, rfl, rfl⟩)
              | (go_at_call 12; refine (list_any sb bm t.2 _ (HP9.out.mod (Mod.refl [] w9).drew (by simp) (by simp))).mono ?_; rintro _ w10 ⟨_, rfl, p10, n10, c10, rfl, e10, hrow10, m10⟩; (have M10 := Lib.hid ((Mod.refl [] w9).drew.same m10)); (have HS10 := Lib.hid (Sl.of_own hrow10 (fcells_one _)).1); clear m10 hrow10 e10)
              | (go_at_call 16; refine (same_freed p9 p10 n9 n10 c9 c10 t.2.m t.2.m w10 (HS9.out.mod M10.out (by simp)) HS10.out).mono ?_; rintro _ w11 ⟨_, rfl, rfl, m11⟩; (have M11 := Lib.hid m11); clear m11; rw [decide_eq_true rfl]))
          all_goals
            go_wp2
            go_ret
            exact .mk ⟨rfl, HB9.out.trans ((M10.out.same M11.out).below.mono HB9.out.size)⟩
      · have b1 : (no == s.high) = false := by simp [k1]
        obtain rfl : n7 = n3 := by omega
        have b3 : (s2.high != s.high) = false := by simp [k3]
        clear k1 k2 HCA he3 he7 k3
        go_wp2_with fail
        refine (high_any sb bm s2 _ HP7.out).mono ?_
        rintro _ w7' ⟨_, rfl, rfl, rfl⟩
        go_wp2_with fail
        refine (trim_any sb bm s2 _ _ HP7.out).mono ?_
        rintro _ w8 ⟨_, rfl, rfl, h8, m8⟩
        have HTM := Lib.hid (trim_max HP7.out.ok h8.ok)
        generalize s2.trim 18446744073709551615 = t at *
        have H8 := Lib.hid h8
        have HB8 := Lib.hid (HB7.out.trans (m8.below_of (B := w.heap.size) HB7.out.size (by simp; exact hs2')))
        clear h8 m8 HP7 HB7
        go_wp2_with fail
        refine (list_any sb bm t.2 _ H8.out).mono ?_
        rintro _ w9 ⟨_, rfl, p9, n9, c9, rfl, e9, hrow9, m9⟩
        have HS9 := Lib.hid (Sl.of_own hrow9 (fcells_one _)).1
        have HP9 := Lib.hid (H8.out.mod m9 (by simp) (by simp))
        have HB9 := Lib.hid (HB8.out.trans (m9.below.mono HB8.out.size))
        have hsm9 := H8.out.ok.small
        have HE9 := Lib.hid e9
        have hz9 : n9 ≤ 2048 := by omega
        clear hrow9 m9 H8 HB8 e9 hsm9
        cases n9 with
        | zero =>
          go_wp2
          go_quiet (fail)
          go_wp2
          go_ret
          exact .mk ⟨rfl, HB9.out.trans ((Mod.refl [] w9).drewN.below.mono HB9.out.size)⟩
        | succ k =>
          generalize hn9 : k + 1 = n9 at *
          have b9 : ((n9 : Int) == 0) = false := by simp; omega
          have wk : IntKind.i64.wrap ((n9 : Int) - 1) = (k : Int) := by rw [IntWalk.i64_in _ (by omega)]; omega
          have hkl : k < t.2.m.length := by have := HE9.out; omega
          obtain ⟨lb, lo, hp9, hcs9⟩ := HS9.out.at_
          have hidx := fun W => Sl.idx (P := Try.prog) (cap := c9) Try.underlying22 sizeFreed (fun h => (hp9 h).1) W .i64
          obtain ⟨lp, hlp⟩ : ∃ lp, lp = (t.2.m.getD k (0, 0)).1 := ⟨_, rfl⟩
          have d0 := hcs9 _ _ (fcells_get t.2.m k hkl).1
          have hll := (hp9 (by omega)).2
          have hok9 := HP9.out.ok
          have hne := HTM.out (t.2.m.getD k (0, 0)) (by rw [getD_at hkl]; exact List.getElem_mem _)
          rw [← hlp] at d0 hne
          have wh : IntKind.i64.wrap (t.2.high - 1) = t.2.high - 1 := IntWalk.i64_in _ (by have := hok9.low; have := hok9.high; have := hok9.cap; omega)
          have b10 : (lp != t.2.high - 1) = true := by simp; exact hne
          have hk9 : k < n9 := by omega
          clear hn9 hkl hp9 hcs9 hlp hne hok9
          go_wp2
          go_region_held3 (fun w' => w'.cell? ⟨lb, lo + k * 2, none⟩ = some (.int .i64 lp))
            (first
              | go_keep
              | (exact (M10.out.cell (a := ⟨lb, lo + k * 2, none⟩) hll (by simp)).trans d0)
              | (exact ((M10.out.same M11.out).cell (a := ⟨lb, lo + k * 2, none⟩) hll (by simp)).trans d0))
            (first
              | (go_at_call 11; refine (high_any sb bm t.2 _ (HP9.out.mod (Mod.refl [] w9).drew (by simp) (by simp))).mono ?_; rintro _ w9' ⟨_, rfl, rfl, rfl⟩)
              | (go_at_call 12; refine (list_any sb bm t.2 _ (HP9.out.mod (Mod.refl [] w9).drew (by simp) (by simp))).mono ?_; rintro _ w10 ⟨_, rfl, p10, n10, c10, rfl, e10, hrow10, m10⟩; (have M10 := Lib.hid ((Mod.refl [] w9).drew.same m10)); (have HS10 := Lib.hid (Sl.of_own hrow10 (fcells_one _)).1); clear m10 hrow10 e10)
              | (go_at_call 16; refine (same_freed p9 p10 n9 n10 c9 c10 t.2.m t.2.m w10 (HS9.out.mod M10.out (by simp)) HS10.out).mono ?_; rintro _ w11 ⟨_, rfl, rfl, m11⟩; (have M11 := Lib.hid m11); clear m11; rw [decide_eq_true rfl]))
          all_goals
            go_wp2
            go_ret
            exact .mk ⟨rfl, HB9.out.trans ((M10.out.same M11.out).below.mono HB9.out.size)⟩
end Go.Proofs.Ytibkhdlddllcjaa
