/- The document's pool, more: Alloc, New; the comparison of two lists of freed pages. -/
import Derived.Test.YtibkhdlddllcjaaPoolRef
namespace Go.Proofs.Ytibkhdlddllcjaa
open Go.RowKit Go.Maps
set_option linter.unusedSimpArgs false
set_option linter.unusedVariables false

theorem erase_cut {m : List (Int × Int)} (h : Srt m) {i : Nat} (hi : i < m.length) : m.take i ++ m.drop (i + 1) = cut m (m.getD i (0, 0)).1 := by
  have hsplit : m = m.take i ++ m[i] :: m.drop (i + 1) := by rw [List.getElem_cons_drop, List.take_append_drop]
  have hp := List.pairwise_iff_getElem.1 h
  rw [getD_at hi]
  obtain ⟨x, hx⟩ : ∃ x, x = m[i] := ⟨_, rfl⟩
  rw [← hx] at hsplit ⊢
  conv => rhs; rw [hsplit]
  unfold cut
  rw [List.filter_append, List.filter_cons, if_neg (by simp)]
  rw [List.filter_eq_self.2, List.filter_eq_self.2]
  · intro p hp'
    obtain ⟨j, hj, rfl⟩ := List.mem_iff_getElem.1 hp'
    rw [List.length_drop] at hj
    rw [List.getElem_drop]
    have := hp i (i + 1 + j) hi (by omega) (by omega)
    rw [hx]; simp; omega
  · intro p hp'
    obtain ⟨j, hj, rfl⟩ := List.mem_iff_getElem.1 hp'
    rw [List.length_take] at hj
    rw [List.getElem_take]
    have := hp j i (by omega) hi (by omega)
    rw [hx]; simp; omega
theorem find_first {m : List (Int × Int)} {h : Int} {k : Nat} (hk : k < m.length) (h1 : ∀ j, j < k → ¬ (m.getD j (0, 0)).2 ≤ h) (h2 : (m.getD k (0, 0)).2 ≤ h) : m.find? (fun p => decide (p.2 ≤ h)) = some (m.getD k (0, 0)) := by
  induction m generalizing k with
  | nil => simp at hk
  | cons a r ih =>
    cases k with
    | zero => rw [List.find?_cons, decide_eq_true (by simpa using h2)]; rfl
    | succ k =>
      have h0 := h1 0 (by omega)
      rw [List.find?_cons, decide_eq_false (by simpa using h0)]
      have := ih (k := k) (by simpa using hk) (fun j hj => by have := h1 (j + 1) (by omega); simpa using this) (by simpa using h2)
      simpa using this

def QAllocR (qb : Nat) (v : Value) (s : PS) (h : Int) (w : World) (r : Value) (w' : World) : Prop :=
  r = .tuple #[.int .i64 (s.alloc h).1.1, .int .i64 (s.alloc h).1.2] ∧ ∃ v', QPTurn qb v (s.alloc h).2 w w' v'
set_option maxRecDepth 100000 in
set_option maxHeartbeats 1000000 in
theorem qalloc_any (qb : Nat) (v : Value) (s : PS) (h : Int) (w : World) (hr : QPoolAt w qb v s) :
    Calls Try.prog 17 #[.pointer (some ⟨qb, 0, none⟩), .int .u64 h] w (Ret (QAllocR qb v s h w)) := by
  have hsm := hr.ok.small
  have hcap := hr.ok.cap
  have hlow := hr.ok.low
  have hhi := hr.ok.high
  have h0 := cell_of_at hr.at_ 2
  obtain ⟨g, cap, rfl, hsl⟩ := hr.slice
  have c2 : w.cell? ⟨qb, 2, none⟩ = some (.slice g s.m.length cap) := h0
  have c1 : w.cell? ⟨qb, 1, none⟩ = some (.int .i64 s.high) := cell_of_at hr.at_ 1
  have c0 : w.cell? ⟨qb, 0, none⟩ = some (.int .i64 s.cap) := cell_of_at hr.at_ 0
  have f1 : w.frozen? ⟨qb, 1, none⟩ = false := free_of_at hr.at_ 1
  have HR := Lib.hid hr
  obtain ⟨b, off, hp, hcs⟩ := hsl.at_
  have hidx := fun W => Sl.idx (P := Try.prog) (cap := cap) Try.underlying22 sizeFreed (fun h => (hp h).1) W .i64
  clear hr hsl h0 hp
  go_enter Try.func17, Try.ntmps17
  go_wp2
  go_loop [6] (fun i => ∃ k : Nat, k ≤ s.m.length ∧ i = .int .i64 k ∧ ∀ j, j < k → ¬ (s.m.getD j (0, 0)).2 ≤ h) (fun i => s.m.length - (intOf i).toNat)
  case atStart => exact ⟨0, by omega, rfl, by omega⟩
  case round =>
    obtain ⟨k, hk, rfl, hall⟩ := hrel
    have HA := Lib.hid hall
    clear hall
    by_cases hlt : k < s.m.length
    · obtain ⟨g1, g2⟩ := fcells_get s.m k hlt
      have d0 := hcs _ _ g1
      have d1 := hcs _ _ g2
      rw [← Nat.add_assoc] at d1
      obtain ⟨x, hx⟩ : ∃ x, x = (s.m.getD k (0, 0)).1 := ⟨_, rfl⟩
      obtain ⟨y, hy⟩ : ∃ y, y = (s.m.getD k (0, 0)).2 := ⟨_, rfl⟩
      rw [← hx] at d0
      rw [← hy] at d1
      have HX := Lib.hid hx
      have HY := Lib.hid hy
      clear hx hy hcs g1 g2
      by_cases hle : y ≤ h
      · have HF : Hid (s.alloc h = ((x, 0), ⟨s.cap, s.high, s.m.take k ++ s.m.drop (k + 1)⟩)) := by
          unfold PS.alloc; rw [find_first hlt HA.out (by rw [← HY.out]; exact hle), erase_cut HR.out.ok.srt hlt, HX.out]; exact rfl
        go_wp2_with fail
        refine (qcut_any qb _ s k w HR.out hlt).mono ?_
        rintro _ w1 ⟨rfl, v', ht⟩
        have HT := Lib.hid ht
        clear ht
        go_wp2
        go_ret2
        exact .mk ⟨by rw [HF.out]; rfl, v', by rw [HF.out]; exact HT.out⟩
      · go_wp2
        go_round
        case rel => exact ⟨k + 1, by omega, by go_num, fun j hj => by
          rcases Nat.lt_succ_iff_lt_or_eq.1 hj with h | rfl
          · exact HA.out j h
          · rw [← HY.out]; exact hle⟩
        case measure => simp [intOf]; omega
    · have hnone : s.m.find? (fun p => decide (p.2 ≤ h)) = none := find_none fun p hp => by
        obtain ⟨j, hj, rfl⟩ := List.mem_iff_getElem.1 hp
        have := HA.out j (by omega)
        rwa [getD_at hj] at this
      clear hcs
      by_cases hfull : s.high = s.cap
      · have HF : Hid (s.alloc h = ((0, 2), s)) := by unfold PS.alloc; rw [hnone]; exact if_pos hfull
        have hge : s.cap ≤ s.high := by omega
        clear hnone hfull
        go_wp2
        go_quiet (fail)
        go_wp2
        go_ret2
        exact .mk ⟨by rw [HF.out]; rfl, _, by rw [HF.out]; exact HR.out.mod (Mod.refl [] w).drewN (by simp) (by simp), (Mod.refl _ w).drewN, fun b hb => Or.inl hb⟩
      · have HF : Hid (s.alloc h = ((s.high, 0), ⟨s.cap, s.high + 1, s.m⟩)) := by unfold PS.alloc; rw [hnone]; exact if_neg hfull
        have hge : ¬ s.cap ≤ s.high := by omega
        clear hnone hfull
        go_wp2
        go_quiet (fail)
        go_wp2
        go_ret2
        have hr := HR.out
        refine .mk ⟨?_, .slice g s.m.length cap, ?_⟩
        · rw [HF.out]; exact tuple2 rfl rfl
        · rw [HF.out]
          exact ⟨⟨at_setCell (by exact hr.at_) 1 _, ownsRow_mod hr.row ((Mod.refl [qb] w).drewN.setCell (Or.inl (by simp))) (fun b hb => by simp; rintro rfl; exact hr.apart hb.symm), ⟨hcap, show (2 : Int) ≤ s.high + 1 by omega, show s.high + 1 ≤ s.cap by omega, fun p hp => show 2 ≤ p.1 ∧ p.1 < s.high + 1 by have := hr.ok.at_ p hp; omega, hr.ok.wf, hr.ok.srt⟩⟩,
            Mod.setCell (b := qb) ((Mod.refl _ w).drewN) (Or.inl (by simp)), fun b hb => Or.inl hb⟩

def SameR (b : Bool) (w : World) (v : Value) (w' : World) : Prop := v = .bool b ∧ Mod [] w w'
theorem getD_ext {l m : List (Int × Int)} (hl : l.length = m.length) (h : ∀ j, j < l.length → l.getD j (0, 0) = m.getD j (0, 0)) : l = m := by
  apply List.ext_getElem hl
  intro i h1 h2
  have := h i h1
  rwa [getD_at h1, getD_at h2] at this
set_option maxRecDepth 100000 in
set_option maxHeartbeats 400000 in
theorem same_freed (p q : Option Addr) (nl nm c d : Nat) (l m : List (Int × Int)) (w : World) (h1 : Sl w 2 p nl c (fcells l)) (h2 : Sl w 2 q nm d (fcells m)) :
    Calls Try.prog 16 #[.slice p nl c, .slice q nm d] w (Ret (SameR (decide (l = m)) w)) := by
  have e1 : l.length = nl := by have := h1.len; rw [fcells_len] at this; omega
  have e2 : m.length = nm := by have := h2.len; rw [fcells_len] at this; omega
  have hc1 := h1.capm; have hd1 := h1.le
  have hc2 := h2.capm; have hd2 := h2.le
  unfold maxLen at hc1 hc2
  obtain ⟨b1, o1, ha1, hx1⟩ := h1.at_
  obtain ⟨b2, o2, ha2, hx2⟩ := h2.at_
  have hi1 := fun W => Sl.idx (P := Try.prog) (cap := c) Try.underlying22 sizeFreed (fun h => (ha1 h).1) W .i64
  have hi2 := fun W => Sl.idx (P := Try.prog) (cap := d) Try.underlying22 sizeFreed (fun h => (ha2 h).1) W .i64
  have E1 := Lib.hid e1
  have E2 := Lib.hid e2
  clear h1 h2 ha1 ha2 e1 e2
  by_cases hl : nl = nm
  · have HL := Lib.hid hl
    have hne : ((nl : Int) != (nm : Int)) = false := by simp [hl]
    clear hl
    go_enter Try.func16, Try.ntmps16
    go_wp2
    go_loopw [5] (fun i wr => ∃ k : Nat, k ≤ nl ∧ i = .int .i64 k ∧ Mod [] w wr ∧ ∀ j, j < k → l.getD j (0, 0) = m.getD j (0, 0)) (fun i _ => nl - (intOf i).toNat)
    case atStart => exact ⟨0, by omega, rfl, Mod.refl _ _, by omega⟩
    case round =>
      obtain ⟨k, hk, rfl, hmd, hall⟩ := hrel
      have HA := Lib.hid hall
      have HM := Lib.hid hmd
      clear hall hmd
      by_cases hlt : k < nl
      · have hlt2 : k < nm := by have := HL.out; omega
        obtain ⟨ga, gb⟩ := fcells_get l k (by have := E1.out; omega)
        obtain ⟨gc, gd⟩ := fcells_get m k (by have := E2.out; omega)
        have d1 := hx1 _ _ ga
        have d2 := hx1 _ _ gb
        have d3 := hx2 _ _ gc
        have d4 := hx2 _ _ gd
        rw [← Nat.add_assoc] at d2 d4
        rw [← HM.out.cell (a := ⟨b1, _, none⟩) (World.block_lt_of_cell? w _ d1) (by simp)] at d1
        rw [← HM.out.cell (a := ⟨b1, _, none⟩) (World.block_lt_of_cell? w _ d2) (by simp)] at d2
        rw [← HM.out.cell (a := ⟨b2, _, none⟩) (World.block_lt_of_cell? w _ d3) (by simp)] at d3
        rw [← HM.out.cell (a := ⟨b2, _, none⟩) (World.block_lt_of_cell? w _ d4) (by simp)] at d4
        obtain ⟨x, hx⟩ : ∃ x, x = l.getD k (0, 0) := ⟨_, rfl⟩
        obtain ⟨y, hy⟩ : ∃ y, y = m.getD k (0, 0) := ⟨_, rfl⟩
        rw [← hx] at d1 d2
        rw [← hy] at d3 d4
        have HX := Lib.hid hx
        have HY := Lib.hid hy
        clear hx hy hx1 hx2 ga gb gc gd
        obtain ⟨x1, x2⟩ := x
        obtain ⟨y1, y2⟩ := y
        simp only at d1 d2 d3 d4
        by_cases h1 : x1 = y1
        · by_cases h2 : x2 = y2
          · have b1 : (x1 == y1) = true := by simp [h1]
            have b2 : (x2 == y2) = true := by simp [h2]
            have HXY : Hid ((x1, x2) = (y1, y2)) := by rw [h1, h2]; exact rfl
            clear h1 h2
            go_wp2
            go_quiet (fail)
            go_wp2
            go_roundw
            case rel => exact ⟨k + 1, by omega, by go_num, HM.out.drewN, fun j hj => by
              rcases Nat.lt_succ_iff_lt_or_eq.1 hj with h | rfl
              · exact HA.out j h
              · rw [← HX.out, ← HY.out]; exact HXY.out⟩
            case measure => simp [intOf]; omega
          · have b1 : (x1 == y1) = true := by simp [h1]
            have b2 : (x2 == y2) = false := by simp [h2]
            have HXY : Hid (¬ (x1, x2) = (y1, y2)) := by intro e; exact h2 (by cases e; rfl)
            clear h1 h2
            go_wp2
            go_quiet (fail)
            go_wp2
            go_ret
            exact .mk ⟨by rw [decide_eq_false (fun e => HXY.out (by rw [HX.out, HY.out, e]))]; rfl, HM.out.drewN⟩
        · have b1 : (x1 == y1) = false := by simp [h1]
          have HXY : Hid (¬ (x1, x2) = (y1, y2)) := by intro e; exact h1 (by cases e; rfl)
          clear h1
          go_wp2
          go_quiet (fail)
          go_wp2
          go_ret
          exact .mk ⟨by rw [decide_eq_false (fun e => HXY.out (by rw [HX.out, HY.out, e]))]; rfl, HM.out.drewN⟩
      · go_wp2
        go_ret
        exact .mk ⟨by rw [getD_ext (by have := E1.out; have := E2.out; have := HL.out; omega) (fun j hj => HA.out j (by have := E1.out; omega))]; simp, HM.out⟩
  · have HL := Lib.hid hl
    have hne : ((nl : Int) != (nm : Int)) = true := by simp; omega
    clear hl
    go_enter Try.func16, Try.ntmps16
    go_wp2
    go_ret
    exact .mk ⟨by rw [decide_eq_false (fun e => HL.out (by rw [← E1.out, ← E2.out, e]))]; rfl, Mod.refl _ _⟩
end Go.Proofs.Ytibkhdlddllcjaa
