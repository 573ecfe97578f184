/- The document's registry, more: Horizon, Numbers; the comparison of two lists of numbers; the program's Numbers. -/
import Derived.Test.YtghpmhpbccgdcaaSnapRef
import Derived.Test.YtghpmhpbccgdcaaKeys
namespace Go.Proofs.Ytghpmhpbccgdcaa
open Go.RowKit Go.Maps

theorem sizeInts (W : World) : (sizeOf (Try.prog.elem 38)).run Try.prog W = .ok 1 W := by kernel_rfl
theorem infoInt : (Try.prog.info? 3).map (fun i => (i.zero, i.size, i.bytes)) = some (some (.int .i64 0), 1, 8) := by kernel_rfl

def QHorR (s : RS) (n : Int) (w : World) (v : Value) (w' : World) : Prop := v = .int .u64 (s.horizon n) ∧ w' = w
theorem foldl_take_succ (m : List (Int × Int)) (n : Int) (k : Nat) (hk : k < m.length) : (m.take (k + 1)).foldl (fun a p => min a p.2) n = min ((m.take k).foldl (fun a p => min a p.2) n) (m.getD k (0, 0)).2 := by
  rw [List.take_succ_eq_append_getElem hk, List.foldl_append, getD_at hk]; rfl
set_option maxRecDepth 100000 in
theorem qhorizon_any (qb : Nat) (v : Value) (s : RS) (n : Int) (w : World) (hr : RefAt w qb v s) :
    Calls Try.prog 17 #[.pointer (some ⟨qb, 0, none⟩), .int .u64 n] w (Ret (QHorR s n w)) := by
  have h0 := cell_of_at hr.at_ 0
  obtain ⟨g, cap, rfl, b, off, hb, _, _, hc⟩ := hr.slice
  have c0 : w.cell? ⟨qb, 0, none⟩ = some (.slice g s.m.length cap) := h0
  have hsm := hr.small
  have hidx := fun W => Sl.idx (P := Try.prog) (cap := cap) Try.underlying42 sizeSnap (fun h => (hb h).1) W .i64
  have HZ : Hid (s.horizon n = s.m.foldl (fun a p => min a p.2) n) := rfl
  clear h0 hb hr
  generalize s.m = m at *
  go_enter Try.func17, Try.ntmps17
  go_wp2
  go_loop [1, 5] (fun y i => ∃ (a : Int) (k : Nat), k ≤ m.length ∧ i = .int .i64 k ∧ y = .int .u64 a ∧ a = (m.take k).foldl (fun a p => min a p.2) n) (fun _ i => m.length - (intOf i).toNat)
  case atStart => exact ⟨n, 0, by omega, rfl, rfl, by simp⟩
  case round =>
    obtain ⟨a, k, hk, rfl, rfl, ha⟩ := hrel
    have HA := Lib.hid ha
    clear ha
    by_cases hlt : k < m.length
    · obtain ⟨d0, d1⟩ := hc k hlt
      obtain ⟨x, hx⟩ : ∃ x, x = (m.getD k (0, 0)).2 := ⟨_, rfl⟩
      rw [← hx] at d1
      have HX := Lib.hid hx
      clear hx hc d0
      by_cases hlx : x < a
      all_goals
        go_wp2
        go_round
        case rel => exact ⟨_, k + 1, by omega, by go_num, rfl, by rw [foldl_take_succ _ _ _ hlt, ← HA.out, ← HX.out]; omega⟩
        case measure => simp [intOf]; omega
    · go_wp2
      go_ret
      exact .mk ⟨by rw [HZ.out, ← List.take_of_length_le (l := m) (i := k) (by omega), ← HA.out]; rfl, rfl⟩

def NumsR (l : List Int) (w : World) (v : Value) (w' : World) : Prop := ∃ p n c, v = .slice p n c ∧ n = l.length ∧ w'.ownsRow w.heap.size 3 1 (.slice p n c) n (ints l) ∧ Mod [] w w'

theorem ints_take_succ (m : List (Int × Int)) (k : Nat) (hk : k < m.length) : ints ((m.take (k + 1)).map (·.1)) = ints ((m.take k).map (·.1)) ++ [.int .i64 (m.getD k (0, 0)).1] := by
  rw [List.take_succ_eq_append_getElem hk, List.map_append, getD_at hk]; simp [ints]
set_option maxRecDepth 100000 in
theorem qnumbers_any (qb : Nat) (v : Value) (s : RS) (w : World) (hr : RefAt w qb v s) :
    Calls Try.prog 19 #[.pointer (some ⟨qb, 0, none⟩)] w (Ret (NumsR (s.m.map (·.1)) w)) := by
  obtain ⟨i0, hi0, hz0, hz1, hz2⟩ := info_parts infoInt
  have h0 := cell_of_at hr.at_ 0
  obtain ⟨g, cap, rfl, b, off, hb, _, _, hc⟩ := hr.slice
  have c0 : w.cell? ⟨qb, 0, none⟩ = some (.slice g s.m.length cap) := h0
  have hqb := lt_of_at hr.at_
  have hsm := hr.small
  have hidx := fun W => Sl.idx (P := Try.prog) (cap := cap) Try.underlying42 sizeSnap (fun h => (hb h).1) W .i64
  have HB := Lib.hid hb
  clear h0 hb hr
  generalize s.m = m at *
  go_enter Try.func19, Try.ntmps19
  go_wp2
  go_loopw [3, 4] (fun o i wr => ∃ (k : Nat) (p : Option Addr) (c : Nat), k ≤ m.length ∧ i = .int .i64 k ∧ o = .slice p k c ∧ wr.ownsRow w.heap.size 3 1 (.slice p k c) k (ints ((m.take k).map (·.1))) ∧ Mod [] w wr) (fun _ i _ => m.length - (intOf i).toNat)
  case atStart => exact ⟨0, none, 0, by omega, rfl, rfl, ⟨by simp [ints], Or.inl ⟨rfl, rfl⟩⟩, Mod.refl _ _⟩
  case round =>
    obtain ⟨k, p, c, hk, rfl, rfl, hown, hm⟩ := hrel
    have HM := Lib.hid hm
    have HO := Lib.hid hown
    have c1 := (hm.cell (a := ⟨qb, 0, none⟩) hqb (by simp)).trans c0
    have hsz := hm.size
    clear hm hown c0
    by_cases hlt : k < m.length
    · obtain ⟨d0, _⟩ := hc k hlt
      obtain ⟨x, hx⟩ : ∃ x, x = (m.getD k (0, 0)).1 := ⟨_, rfl⟩
      rw [← hx, ← HM.out.cell (a := ⟨b, off + k * 2, none⟩) (HB.out (by omega)).2 (by simp)] at d0
      have HX := Lib.hid hx
      clear hx hc
      go_wp2_with (first
        | (at_builtin; go_must (refine wpList_append_src _ rfl _ _ _ rfl w.heap.size 3 i0 _ 1 8 Try.underlying38 hi0 hz0 hz1 hz2 rfl (by omega) (.slice p k c) _ _ rfl (ownsRow_mod HO.out (Mod.of_alloc wr _) (by simp)) _ _ _ [.int .i64 x] rfl (Sl.one_new _ _ _ rfl) (k + 1) (by omega) (by unfold maxLen; omega) (by omega) (by simp; omega) ?_); intro p' c' w1 hown1 hgrow hnil hlie; (have HO1 := Lib.hid hown1); (have HG1 := Lib.hid hgrow); clear hown1 hgrow hnil hlie)
        | go_in)
      go_roundw
      case rel => exact ⟨k + 1, _, _, by omega, by go_num, rfl, by rw [ints_take_succ _ _ hlt, ← HX.out]; exact HO1.out, (HM.out.same (Mod.of_alloc wr _)).trans (Mod.of_grown' HG1.out) (fun b hb => Or.inr (own_base HO.out b (by simpa using hb)))⟩
      case measure => simp [intOf]; omega
    · go_wp2
      go_ret
      have e : k = m.length := by omega
      have hO := HO.out
      rw [List.take_of_length_le (by omega)] at hO
      exact .mk ⟨p, k, c, rfl, by rw [List.length_map, ← e], hO, HM.out⟩

def SameR (w : World) (b : Bool) (v : Value) (w' : World) : Prop := v = .bool b ∧ Mod [] w w'
theorem ints_get {l : List Int} {k : Nat} (hk : k < l.length) : (ints l)[k]? = some (.int .i64 (l.getD k 0)) := by
  rw [getD_at hk, ints, List.getElem?_map, List.getElem?_eq_getElem hk]; rfl
theorem getD_ext {l m : List Int} (hl : l.length = m.length) (h : ∀ j, j < l.length → l.getD j 0 = m.getD j 0) : l = m := by
  apply List.ext_getElem hl
  intro i h1 h2
  have := h i h1
  rwa [getD_at h1, getD_at h2] at this
set_option maxRecDepth 100000 in
theorem same_ints (p q : Option Addr) (nl nm c d : Nat) (l m : List Int) (w : World) (h1 : Sl w 1 p nl c (ints l)) (h2 : Sl w 1 q nm d (ints m)) :
    Calls Try.prog 18 #[.slice p nl c, .slice q nm d] w (Ret (SameR w (decide (l = m)))) := by
  have e1 : l.length = nl := by have := h1.len; simpa [ints] using this
  have e2 : m.length = nm := by have := h2.len; simpa [ints] using this
  have hc1 := h1.capm; have hd1 := h1.le
  have hc2 := h2.capm; have hd2 := h2.le
  unfold maxLen at hc1 hc2
  obtain ⟨b1, o1, ha1, hx1⟩ := h1.at_
  obtain ⟨b2, o2, ha2, hx2⟩ := h2.at_
  have hi1 := fun W => Sl.idx (P := Try.prog) (cap := c) Try.underlying38 sizeInts (fun h => (ha1 h).1) W .i64
  have hi2 := fun W => Sl.idx (P := Try.prog) (cap := d) Try.underlying38 sizeInts (fun h => (ha2 h).1) W .i64
  clear h1 h2 ha1 ha2
  have E1 := Lib.hid e1
  have E2 := Lib.hid e2
  clear e1 e2
  by_cases hl : nl = nm
  · have HL := Lib.hid hl
    have hne : ((nl : Int) != (nm : Int)) = false := by simp [hl]
    go_enter Try.func18, Try.ntmps18
    clear hl
    go_wp2
    go_loopw [5] (fun i wr => ∃ k : Nat, k ≤ nl ∧ i = .int .i64 k ∧ Mod [] w wr ∧ ∀ j, j < k → l.getD j 0 = m.getD j 0) (fun i _ => nl - (intOf i).toNat)
    case atStart => exact ⟨0, by omega, rfl, Mod.refl _ _, by omega⟩
    case round =>
      obtain ⟨k, hk, rfl, hmd, hall⟩ := hrel
      have HA := Lib.hid hall
      have HM := Lib.hid hmd
      clear hall hmd
      by_cases hlt : k < nl
      · have hlt2 : k < nm := by have := HL.out; omega
        have d1 := hx1 k _ (ints_get (l := l) (by have := E1.out; omega))
        have d2 := hx2 k _ (ints_get (l := m) (by have := E2.out; omega))
        rw [← HM.out.cell (a := ⟨b1, o1 + k, none⟩) (World.block_lt_of_cell? w _ d1) (by simp)] at d1
        rw [← HM.out.cell (a := ⟨b2, o2 + k, none⟩) (World.block_lt_of_cell? w _ d2) (by simp)] at d2
        obtain ⟨x, hx⟩ : ∃ x, x = l.getD k 0 := ⟨_, rfl⟩
        obtain ⟨y, hy⟩ : ∃ y, y = m.getD k 0 := ⟨_, rfl⟩
        rw [← hx] at d1
        rw [← hy] at d2
        have HX := Lib.hid hx
        have HY := Lib.hid hy
        clear hx hy hx1 hx2
        by_cases hxy : x = y
        · have hb : (x != y) = false := by simp [hxy]
          have HXY := Lib.hid hxy
          clear hxy
          go_wp2
          go_quiet (fail)
          go_wp2
          go_roundw
          case rel => exact ⟨k + 1, by omega, by go_num, HM.out.same (Mod.of_drewN wr _), fun j hj => by
            rcases Nat.lt_succ_iff_lt_or_eq.1 hj with h | rfl
            · exact HA.out j h
            · rw [← HX.out, ← HY.out]; exact HXY.out⟩
          case measure => simp [intOf]; omega
        · have hb : (x != y) = true := by simp [hxy]
          have HXY := Lib.hid hxy
          clear hxy
          go_wp2
          go_quiet (fail)
          go_wp2
          go_ret
          exact .mk ⟨by rw [decide_eq_false (fun e => HXY.out (by rw [HX.out, HY.out, e]))]; rfl, HM.out.same (Mod.of_drewN wr _)⟩
      · go_wp2
        go_ret
        exact .mk ⟨by rw [getD_ext (by have := E1.out; have := E2.out; have := HL.out; omega) (fun j hj => HA.out j (by have := E1.out; omega))]; simp, HM.out⟩
  · have HL := Lib.hid hl
    have hne : ((nl : Int) != (nm : Int)) = true := by simp; omega
    clear hl
    go_enter Try.func18, Try.ntmps18
    go_wp2
    go_ret
    exact .mk ⟨by rw [decide_eq_false (fun e => HL.out (by rw [← E1.out, ← E2.out, e]))]; rfl, Mod.refl _ _⟩

theorem numbers_any (sb bm : Nat) (s : RS) (w : World) (hr : SnapAt w sb bm s) (hs : s.m.length ≤ 2 ^ 40) :
    Calls Try.prog 13 #[.pointer (some ⟨sb, 0, none⟩)] w (Ret (NumsR (s.m.map (·.1)) w)) := by
  have c0 : w.cell? ⟨sb, 0, none⟩ = some (.map (some bm)) := cell_of_at hr.at_ 0
  have hmap := hr.map
  go_enter Try.func13, Try.ntmps13
  go_wp2_with fail
  refine (keys_calls (some bm) w).mono ?_
  rintro _ w1 ⟨rfl, hw1⟩
  have HW := Lib.hid hw1
  clear hw1
  go_wp2_with fail
  refine (keys_sorted hmap HW.out hs).mono ?_
  rintro _ w2 ⟨p, c, rfl, hrow, hnil, hm⟩
  have HR := Lib.hid hrow
  have HM := Lib.hid hm
  clear hrow hnil hm
  go_wp2
  go_ret
  exact .mk ⟨p, _, c, rfl, by rw [List.length_map], HR.out, HM.out⟩

/-- Both registries, in one state. -/
structure Both (w0 w : World) (sb bm qb : Nat) (v : Value) (s : RS) : Prop where
  p : SnapAt w sb bm s
  q : RefAt w qb v s
  bel : Below w0.heap.size w0 w
  h1 : w0.heap.size ≤ sb
  h2 : w0.heap.size ≤ bm
  h3 : w0.heap.size ≤ qb
  h4 : ∀ b, v.ownBlock = some b → w0.heap.size ≤ b

theorem SnapAt.far {w : World} {sb bm qb : Nat} {v : Value} {s s' : RS} (hp : SnapAt w sb bm s) (hq : RefAt w qb v s') :
    qb ∉ [sb, bm] ∧ (∀ b, v.ownBlock = some b → b ∉ [sb, bm]) ∧ sb ∉ qb :: v.ownBlock.toList ∧ bm ∉ qb :: v.ownBlock.toList := by
  have a1 : qb ≠ sb := by rintro rfl; have := hp.at_; rw [hq.at_] at this; simp at this
  have a2 := hp.map.ne_cells hq.at_
  have a3 : ∀ b, v.ownBlock = some b → b ≠ sb ∧ b ≠ bm := by
    intro b hb
    rcases hq.row.2 with ⟨rfl, _⟩ | ⟨g, cap, cur, rfl, _, hg, _⟩
    · simp [Value.ownBlock] at hb
    · simp [Value.ownBlock] at hb; subst hb
      exact ⟨by rintro rfl; rw [hp.at_] at hg; simp at hg, fun e => hp.map.ne_cells hg e.symm⟩
  refine ⟨by simp; exact ⟨a1, fun e => a2 e.symm⟩, fun b hb => by simp; exact a3 b hb, ?_, ?_⟩
  · simp; exact ⟨fun e => a1 e.symm, fun e => (a3 sb e).1 rfl⟩
  · simp; exact ⟨a2, fun e => (a3 bm e).2 rfl⟩
namespace Both
variable {w0 w w' : World} {sb bm qb : Nat} {v v' : Value} {s s' : RS}
theorem keep (h : Both w0 w sb bm qb v s) (hm : Mod [] w w') : Both w0 w' sb bm qb v s :=
  ⟨h.p.mod hm (by simp) (by simp), h.q.mod hm (by simp) (by simp), h.bel.trans (hm.below.mono h.bel.size), h.h1, h.h2, h.h3, h.h4⟩
/-- The program's one has taken a step, then the document's one. -/
theorem both (h : Both w0 w sb bm qb v s) {w1 : World} (h1 : SnapAt w1 sb bm s') (m1 : Mod [sb, bm] w w1) (h2 : QTurn qb v s' w1 w' v') : Both w0 w' sb bm qb v' s' := by
  obtain ⟨f1, f2, f3, f4⟩ := h1.far (h.q.mod m1 (h.p.far h.q).1 (h.p.far h.q).2.1)
  refine ⟨h1.mod h2.mod f3 f4, h2.at_, ?_, h.h1, h.h2, h.h3, fun b hb => ?_⟩
  · have b1 := h.bel.trans (m1.below_of (B := w0.heap.size) h.bel.size (by simp; exact ⟨h.h1, h.h2⟩))
    exact b1.trans (h2.mod.below_of (B := w0.heap.size) b1.size (by simp; exact ⟨h.h3, fun b hb => h.h4 b hb⟩))
  · rcases h2.lies b hb with h5 | h5
    · exact h.h4 b h5
    · exact Nat.le_trans (Nat.le_trans h.bel.size m1.size) h5
end Both
end Go.Proofs.Ytghpmhpbccgdcaa
