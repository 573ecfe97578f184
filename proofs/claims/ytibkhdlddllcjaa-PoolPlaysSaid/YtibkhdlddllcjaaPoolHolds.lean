/- PoolHolds: the walk. -/
import Derived.Test.YtibkhdlddllcjaaPoolAwake
namespace Go.Proofs.Ytibkhdlddllcjaa
open Go.RowKit Go.Maps
set_option linter.unusedSimpArgs false
set_option linter.unusedVariables false

def LawR (w : World) (v : Value) (w' : World) : Prop := v = .bool true ∧ Below w.heap.size w w'

theorem PS.freeAll_ok : ∀ {l : List (Int × Int)} {s s' : PS}, s.Ok → (∀ x ∈ l, 0 ≤ x.2 ∧ x.2 < 2 ^ 64) → s.freeAll l = some s' → s'.Ok ∧ s'.cap = s.cap ∧ s'.high = s.high
  | [], s, s', h, _, e => by simp [PS.freeAll] at e; subst e; exact ⟨h, rfl, rfl⟩
  | p :: r, s, s', h, hw, e => by
    unfold PS.freeAll at e
    split at e
    · rename_i hz
      have h1 : (s.free p.1 p.2).2.Ok ∧ (s.free p.1 p.2).2.cap = s.cap ∧ (s.free p.1 p.2).2.high = s.high := by
        unfold PS.free at hz ⊢
        split
        · exact ⟨h, rfl, rfl⟩
        · split
          · exact ⟨h, rfl, rfl⟩
          · refine ⟨⟨h.cap, h.low, h.high, fun q hq => ?_, fun q hq => ?_, h.srt.ins⟩, rfl, rfl⟩
            · rcases mem_ins hq with rfl | hq
              · simp only; omega
              · exact h.at_ q hq
            · rcases mem_ins hq with rfl | hq
              · exact hw p (by simp)
              · exact h.wf q hq
      obtain ⟨a, b, c⟩ := PS.freeAll_ok h1.1 (fun x hx => hw x (by simp [hx])) e
      exact ⟨a, b.trans h1.2.1, c.trans h1.2.2⟩
    · cases e

/-- What is left when the first i freed pages have been gone through: those that may not be used yet, and the others. -/
def rest (m : List (Int × Int)) (h : Int) (i : Nat) : List (Int × Int) := (m.take i).filter (fun p => !decide (p.2 ≤ h)) ++ m.drop i
theorem rest_zero (m : List (Int × Int)) (h : Int) : rest m h 0 = m := by simp [rest]
theorem rest_skip {m : List (Int × Int)} {h : Int} {i : Nat} (hi : i < m.length) (hg : ¬ (m.getD i (0, 0)).2 ≤ h) : rest m h (i + 1) = rest m h i := by
  unfold rest
  rw [List.take_succ_eq_append_getElem hi, List.filter_append, ← List.getElem_cons_drop hi, getD_at hi] at *
  simp [hg]
theorem rest_sub {m : List (Int × Int)} {h : Int} {i : Nat} : ∀ p ∈ rest m h i, p ∈ m := by
  intro p hp
  rcases List.mem_append.1 hp with hp | hp
  · exact List.mem_of_mem_take (List.mem_filter.1 hp).1
  · exact List.mem_of_mem_drop hp
theorem rest_srt {m : List (Int × Int)} (hs : Srt m) (h : Int) (i : Nat) : Srt (rest m h i) := by
  refine List.Pairwise.sublist ?_ hs
  unfold rest
  conv => rhs; rw [← List.take_append_drop i m]
  exact List.Sublist.append List.filter_sublist (List.Sublist.refl _)
theorem rest_take {s : PS} (hs : Srt s.m) {h : Int} {i : Nat} (hi : i < s.m.length) (hg : (s.m.getD i (0, 0)).2 ≤ h) :
    (⟨s.cap, s.high, rest s.m h i⟩ : PS).alloc h = (((s.m.getD i (0, 0)).1, 0), ⟨s.cap, s.high, rest s.m h (i + 1)⟩) := by
  have hd : s.m.drop i = s.m.getD i (0, 0) :: s.m.drop (i + 1) := by rw [getD_at hi, List.getElem_cons_drop]
  have ht : s.m.take (i + 1) = s.m.take i ++ [s.m.getD i (0, 0)] := by rw [List.take_succ_eq_append_getElem hi, getD_at hi]
  generalize s.m.getD i (0, 0) = x at *
  have hf : (rest s.m h i).find? (fun p => decide (p.2 ≤ h)) = some x := by
    unfold rest
    rw [List.find?_append, List.find?_eq_none.2 (fun p hp => by simpa using (List.mem_filter.1 hp).2), hd, List.find?_cons, decide_eq_true hg]; rfl
  have hc : cut (rest s.m h i) x.1 = rest s.m h (i + 1) := by
    have hr : rest s.m h (i + 1) = (s.m.take i).filter (fun p => !decide (p.2 ≤ h)) ++ s.m.drop (i + 1) := by
      unfold rest
      rw [ht, List.filter_append, List.filter_cons, decide_eq_true hg]; simp
    rw [hr]
    have hsr := rest_srt hs h i
    unfold rest at hsr ⊢
    rw [hd] at hsr ⊢
    unfold cut
    obtain ⟨_, h2, h3⟩ := List.pairwise_append.1 hsr
    have e1 : ((s.m.take i).filter (fun p => !decide (p.2 ≤ h))).filter (fun p => p.1 != x.1) = (s.m.take i).filter (fun p => !decide (p.2 ≤ h)) :=
      List.filter_eq_self.2 (fun p hp => by have := h3 p hp x (by simp); simp; omega)
    have e2 : (s.m.drop (i + 1)).filter (fun p => p.1 != x.1) = s.m.drop (i + 1) :=
      List.filter_eq_self.2 (fun p hp => by have := (List.pairwise_cons.1 h2).1 p hp; simp; omega)
    rw [List.filter_append, List.filter_cons, if_neg (by simp), e1, e2]
  unfold PS.alloc
  simp only [hf, hc]
theorem rest_end {s : PS} {h : Int} : (⟨s.cap, s.high, rest s.m h s.m.length⟩ : PS).alloc h = if s.high = s.cap then ((0, 2), ⟨s.cap, s.high, rest s.m h s.m.length⟩) else ((s.high, 0), ⟨s.cap, s.high + 1, rest s.m h s.m.length⟩) := by
  have hf : (rest s.m h s.m.length).find? (fun p => decide (p.2 ≤ h)) = none := by
    rw [List.find?_eq_none]
    intro p hp
    unfold rest at hp
    rw [List.drop_length, List.append_nil] at hp
    simpa using (List.mem_filter.1 hp).2
  unfold PS.alloc
  simp only [hf]

theorem PoolAt.far {w : World} {sb bm qb : Nat} {v : Value} {s s' : PS} (hp : PoolAt w sb bm s) (hq : QPoolAt w qb v s') :
    qb ∉ [sb, bm] ∧ (∀ b, v.ownBlock = some b → b ∉ [sb, bm]) ∧ sb ∉ qb :: v.ownBlock.toList ∧ bm ∉ qb :: v.ownBlock.toList := by
  have a1 : qb ≠ sb := by rintro rfl; have := hp.at_; rw [hq.at_] at this; simp at this
  have a2 := hp.map.ne_cells hq.at_
  have a3 : ∀ b, v.ownBlock = some b → b ≠ sb ∧ b ≠ bm := by
    intro b hb
    rcases hq.row.2 with ⟨rfl, _⟩ | ⟨g, cap, cur, rfl, _, hg, _⟩
    · simp [Value.ownBlock] at hb
    · simp [Value.ownBlock] at hb; subst hb
      exact ⟨by rintro rfl; rw [hp.at_] at hg; simp at hg, fun e => hp.map.ne_cells hg e.symm⟩
  refine ⟨by simp; exact ⟨a1, fun e => a2 e.symm⟩, fun b hb => by simp; exact a3 b hb, ?_, ?_⟩
  · simp; exact ⟨fun e => a1 e.symm, fun e => (a3 sb e).1 rfl⟩
  · simp; exact ⟨a2, fun e => (a3 bm e).2 rfl⟩

theorem high_q (sb bm : Nat) (s : PS) (w : World) (hr : PoolAt w sb bm s) : Calls Try.prog 11 #[.pointer (some ⟨sb, 0, none⟩)] w fun e w' => e = .returned (.int .i64 s.high) ∧ w' = w :=
  (high_any sb bm s w hr).mono (by rintro _ w' ⟨_, rfl, rfl, rfl⟩; exact ⟨rfl, rfl⟩)
set_option maxRecDepth 100000 in
set_option maxHeartbeats 1000000 in
theorem holds_any (cap high h : Int) (p : Option Addr) (n c : Nat) (l : List (Int × Int)) (w : World) (hl : FreedIn w p n c l) :
    Calls Try.prog 3 #[.agg #[.int .i64 cap, .int .i64 high, .slice p n c], .int .u64 h] w (Ret (LawR w)) := by
  have HL := Lib.hid hl
  have hn := hl.sl.capm
  have hn2 := hl.sl.le
  unfold maxLen at hn
  clear hl
  go_enter Try.func3, Try.ntmps3
  go_wp2_with fail
  have hx0 := at_alloc w (.cells #[.int .i64 cap, .int .i64 high, .slice p n c] 24)
  have hb0 : Below w.heap.size w (w.alloc (.cells #[.int .i64 cap, .int .i64 high, .slice p n c] 24)) := (Below.refl _ _).alloc (Nat.le_refl _) _
  have hl0 : FreedIn (w.alloc (.cells #[.int .i64 cap, .int .i64 high, .slice p n c] 24)) p n c l := ⟨HL.out.sl.mod (Mod.of_alloc _ _) (by simp), HL.out.wf⟩
  have hxb : w.heap.size < (w.alloc (.cells #[.int .i64 cap, .int .i64 high, .slice p n c] 24)).heap.size := by simp
  generalize w.alloc (.cells #[.int .i64 cap, .int .i64 high, .slice p n c] 24) = W at *
  refine (awake_any _).mono ?_
  rintro _ w1 ⟨_, rfl, rfl, m1⟩
  have hx1 := m1.at hx0 (by simp)
  have hl1 : FreedIn w1 p n c l := ⟨hl0.sl.mod m1 (by simp), hl0.wf⟩
  have hb1 := hb0.trans (m1.below.mono hb0.size)
  have hs1 := m1.size
  have HX1 := Lib.hid hx1
  have HL1 := Lib.hid hl1
  have HB1 := Lib.hid hb1
  have q2 : w1.cell? ⟨w.heap.size, 2, none⟩ = some (.slice p n c) := cell_of_at hx1 2
  have q1 : w1.cell? ⟨w.heap.size, 1, none⟩ = some (.int .i64 high) := cell_of_at hx1 1
  have q0 : w1.cell? ⟨w.heap.size, 0, none⟩ = some (.int .i64 cap) := cell_of_at hx1 0
  clear hx0 hb0 hl0 m1 hx1 hl1 hb1 HL
  by_cases hbig : 100 < n
  · go_wp2
    go_ret
    exact .mk ⟨rfl, HB1.out⟩
  go_wp2_with fail
  refine (new_any cap high p n c l _ HL1.out).mono ?_
  rintro _ w2 ⟨_, rfl, m2, hnew⟩
  have hx2 := m2.at HX1.out (by simp)
  have HX2 := Lib.hid hx2
  have HL2 : Hid (FreedIn w2 p n c l) := ⟨HL1.out.sl.mod m2 (by simp), HL1.out.wf⟩
  have HB2 := Lib.hid (HB1.out.trans (m2.below.mono HB1.out.size))
  have q2' : w2.cell? ⟨w.heap.size, 2, none⟩ = some (.slice p n c) := cell_of_at hx2 2
  have q1' : w2.cell? ⟨w.heap.size, 1, none⟩ = some (.int .i64 high) := cell_of_at hx2 1
  have q0' : w2.cell? ⟨w.heap.size, 0, none⟩ = some (.int .i64 cap) := cell_of_at hx2 0
  have hs2 := m2.size
  clear hx2 q2 q1 q0 m2
  cases hN : PS.new cap high l with
  | none =>
    rw [hN] at hnew
    subst hnew
    have HN := Lib.hid hN
    clear hN
    go_wp2_with fail
    refine (qnew_any cap high p n c l _ HL2.out).mono ?_
    rintro _ w3 ⟨_, rfl, m3, hnew⟩
    rw [HN.out] at hnew
    subst hnew
    have HB3 := Lib.hid (HB2.out.trans (m3.below.mono HB2.out.size))
    clear m3 q0' q1' q2'
    go_wp2
    go_ret
    exact .mk ⟨rfl, HB3.out⟩
  | some s =>
    rw [hN] at hnew
    obtain ⟨sb, bm, rfl, hp2, hsb, hbm⟩ := hnew
    have HN := Lib.hid hN
    have HP2 := Lib.hid hp2
    clear hN hp2
    go_wp2_with fail
    refine (qnew_any cap high p n c l _ HL2.out).mono ?_
    rintro _ w3 ⟨_, rfl, m3, hnew⟩
    rw [HN.out] at hnew
    obtain ⟨qb, r, rfl, hq3, hqb, hrb⟩ := hnew
    have HB3 := Lib.hid (HB2.out.trans (m3.below.mono HB2.out.size))
    have HP3 := Lib.hid (HP2.out.mod m3 (by simp) (by simp))
    have HQ3 := Lib.hid hq3
    have hwB := HB1.out.size
    clear m3 q0' q1' q2' hq3
    obtain ⟨hok, hcap, hhigh⟩ : s.Ok ∧ s.cap = cap ∧ s.high = high := by
      have hN := HN.out
      unfold PS.new at hN
      split at hN
      · cases hN
      · exact PS.freeAll_ok (s := ⟨cap, high, []⟩) ⟨by simp only; omega, by simp only; omega, by simp only; omega, by simp, by simp, by simp [Srt]⟩ (fun x hx => (HL2.out.wf x hx).2) hN
    have HOK := Lib.hid hok
    clear hok hcap hhigh
    obtain ⟨g, rc, rfl, hsl⟩ := HQ3.out.slice
    have HFAR := Lib.hid (HP3.out.far HQ3.out)
    obtain ⟨b, off, hp, hcs⟩ := hsl.at_
    have hidx := fun W => Sl.idx (P := Try.prog) (cap := rc) Try.underlying22 sizeFreed (fun h => (hp h).1) W .i64
    have hfb : Hid (0 < s.m.length → b ∉ [sb, bm] ∧ b < w3.heap.size) := fun h0 => ⟨HFAR.out.2.1 b (by rw [(hp h0).1]; rfl), (hp h0).2⟩
    have HCS := Lib.hid hcs
    have hsm := HOK.out.small
    have hcap := HOK.out.cap
    have hlow := HOK.out.low
    have hhi := HOK.out.high
    have hqlt := lt_of_at HQ3.out.at_
    have c2 : w3.cell? ⟨qb, 2, none⟩ = some (.slice g s.m.length rc) := cell_of_at HQ3.out.at_ 2
    have c1 : w3.cell? ⟨qb, 1, none⟩ = some (.int .i64 s.high) := cell_of_at HQ3.out.at_ 1
    have c0 : w3.cell? ⟨qb, 0, none⟩ = some (.int .i64 s.cap) := cell_of_at HQ3.out.at_ 0
    clear hp hcs hsl
    go_wp2_with fail
    go_loopw [9] (fun i wr => ∃ (k : Nat), k ≤ s.m.length ∧ i = .int .i64 k ∧ PoolAt wr sb bm ⟨s.cap, s.high, rest s.m h k⟩ ∧ Mod [sb, bm] w3 wr) (fun i _ => s.m.length - (intOf i).toNat)
    case atStart => exact ⟨0, by omega, rfl, by rw [rest_zero]; exact HP3.out, Mod.refl _ _⟩
    case round =>
      obtain ⟨k, hk, rfl, hr, hmd⟩ := hrel
      have e2 := (hmd.cell (a := ⟨qb, 2, none⟩) hqlt HFAR.out.1).trans c2
      have e1 := (hmd.cell (a := ⟨qb, 1, none⟩) hqlt HFAR.out.1).trans c1
      have e0 := (hmd.cell (a := ⟨qb, 0, none⟩) hqlt HFAR.out.1).trans c0
      have HR := Lib.hid hr
      have HMD := Lib.hid hmd
      clear hr hmd c2 c1 c0
      by_cases hlt : k < s.m.length
      · obtain ⟨g1, g2⟩ := fcells_get s.m k hlt
        have d0 := HCS.out _ _ g1
        have d1 := HCS.out _ _ g2
        rw [← Nat.add_assoc] at d1
        obtain ⟨hfb1, hfb2⟩ := hfb.out (by omega)
        rw [← HMD.out.cell (a := ⟨b, _, none⟩) hfb2 hfb1] at d0 d1
        obtain ⟨x, hx⟩ : ∃ x, x = (s.m.getD k (0, 0)).1 := ⟨_, rfl⟩
        obtain ⟨y, hy⟩ : ∃ y, y = (s.m.getD k (0, 0)).2 := ⟨_, rfl⟩
        by_cases hle : y ≤ h
        · have hA := rest_take (s := s) (h := h) HOK.out.srt hlt (by rw [← hy]; exact hle)
          rw [← hx] at hA d0
          rw [← hy] at d1
          have HA := Lib.hid hA
          clear hA hx hy g1 g2 hfb1 hfb2
          go_wp2_with fail
          refine (alloc_any sb bm _ h _ HR.out).mono ?_
          rintro _ w4 ⟨_, rfl, rfl, h4, m4⟩
          rw [HA.out] at h4 ⊢
          have e2' := (m4.cell (a := ⟨qb, 2, none⟩) (Nat.lt_of_lt_of_le hqlt HMD.out.size) HFAR.out.1).trans e2
          obtain ⟨hfb1, hfb2⟩ := hfb.out (by omega)
          have d0' := (m4.cell (a := ⟨b, off + k * 2, none⟩) (Nat.lt_of_lt_of_le hfb2 HMD.out.size) hfb1).trans d0
          have H4 := Lib.hid h4
          have M4 := Lib.hid (HMD.out.same m4)
          clear h4 m4 e2 e1 e0 d0 d1 hfb1 hfb2
          go_wp2
          go_roundw
          case rel => exact ⟨k + 1, by omega, by go_num, H4.out, M4.out⟩
          case measure => simp [intOf]; omega
        · rw [← hx] at d0
          rw [← hy] at d1
          have HS := Lib.hid (rest_skip (m := s.m) (h := h) hlt (by rw [← hy]; exact hle))
          clear hx hy g1 g2 hfb1 hfb2
          go_wp2
          go_roundw
          case rel => exact ⟨k + 1, by omega, by go_num, by rw [HS.out]; exact HR.out, HMD.out⟩
          case measure => simp [intOf]; omega
      · have hke : k = s.m.length := by omega
        subst hke
        go_wp2_with fail
        refine (alloc_any sb bm _ h _ HR.out).mono ?_
        rintro _ w4 ⟨_, rfl, rfl, h4, m4⟩
        rw [rest_end] at h4 ⊢
        have e1' := (m4.cell (a := ⟨qb, 1, none⟩) (Nat.lt_of_lt_of_le hqlt HMD.out.size) HFAR.out.1).trans e1
        have e0' := (m4.cell (a := ⟨qb, 0, none⟩) (Nat.lt_of_lt_of_le hqlt HMD.out.size) HFAR.out.1).trans e0
        have HB4 : Hid (Below w.heap.size w w4) := HB3.out.trans ((HMD.out.same m4).below_of (B := w.heap.size) HB3.out.size (by simp; omega))
        have H4 := Lib.hid h4
        have M4 := Lib.hid m4
        clear h4 m4 e2 e1 e0
        by_cases hfull : s.high = s.cap
        · have hb1 : (s.high == s.cap) = true := by simp [hfull]
          rw [if_pos hfull]
          clear hfull
          go_wp2
          go_quiet (fail)
          go_wp2
          go_ret
          exact .mk ⟨rfl, HB4.out.trans ((Mod.refl [] w4).drewN.below.mono HB4.out.size)⟩
        · have hb1 : (s.high == s.cap) = false := by simp [hfull]
          rw [if_neg hfull] at H4 ⊢
          clear hfull
          go_wp2
          go_quiet (fail)
          go_wp2
          obtain ⟨w5, hw5⟩ : ∃ w5, w5 = w4.drewN nq := ⟨_, rfl⟩
          have hm5 : Mod [] w4 w5 := hw5 ▸ Mod.of_drewN w4 nq
          rw [← hw5]
          have e5 : w5.cell? ⟨qb, 1, none⟩ = some (.int .i64 s.high) := (hm5.cell (by simpa using Nat.lt_of_lt_of_le hqlt (Nat.le_trans HMD.out.size M4.out.size)) (by simp)).trans e1'
          have H5 := Lib.hid (H4.out.mod hm5 (by simp) (by simp))
          have HM5 := Lib.hid hm5
          clear hw5 hm5 e1' e0'
          go_quiet ((go_at_call 11; exact Calls.quiet_of_same (high_q sb bm _ _ (H5.out.mod (Mod.refl [] w5).drewN (by simp) (by simp)))))
          go_wp2
          go_ret
          exact .mk ⟨rfl, HB4.out.trans ((HM5.out.drewN).below.mono HB4.out.size)⟩
end Go.Proofs.Ytibkhdlddllcjaa
