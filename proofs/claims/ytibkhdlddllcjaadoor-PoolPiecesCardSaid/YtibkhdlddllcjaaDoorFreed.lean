/- Lists of freed pages: their cells, and the document's comparison. -/
import Derived.Test.YtibkhdlddllcjaaDoorNum4
namespace Go.Proofs.YtibkhdlddllcjaaDoor
open Go.RowKit Go.Maps
set_option linter.unusedSimpArgs false
set_option linter.unusedVariables false

def fcells (m : List (Int × Int)) : List Value := m.flatMap fun p => [.int .i64 p.1, .int .u64 p.2]
theorem fcells_len (m : List (Int × Int)) : (fcells m).length = m.length * 2 := by
  induction m with
  | nil => rfl
  | cons a r ih => simp [fcells] at ih ⊢; omega
theorem fcells_append (a b : List (Int × Int)) : fcells (a ++ b) = fcells a ++ fcells b := by simp [fcells]
theorem fcells_one (m : List (Int × Int)) : ∀ u ∈ fcells m, u.oneCell' = true := by
  intro u hu; simp [fcells] at hu; obtain ⟨a, b, _, rfl | rfl⟩ := hu <;> rfl
theorem fcells_take (m : List (Int × Int)) (i : Nat) : (fcells m).take (i * 2) = fcells (m.take i) := by
  induction m generalizing i with
  | nil => simp [fcells]
  | cons a r ih =>
    cases i with
    | zero => simp [fcells]
    | succ i => have := ih i; simp only [fcells, List.flatMap_cons, List.take_succ_cons, Nat.succ_mul] at this ⊢; simp [List.take_append, this]
theorem fcells_drop (m : List (Int × Int)) (i : Nat) : (fcells m).drop (i * 2) = fcells (m.drop i) := by
  induction m generalizing i with
  | nil => simp [fcells]
  | cons a r ih =>
    cases i with
    | zero => simp [fcells]
    | succ i => have := ih i; simp only [fcells, List.flatMap_cons, List.drop_succ_cons, Nat.succ_mul] at this ⊢; simp [List.drop_append, this]
theorem fcells_get (m : List (Int × Int)) (i : Nat) (hi : i < m.length) : (fcells m)[i * 2]? = some (.int .i64 (m.getD i (0, 0)).1) ∧ (fcells m)[i * 2 + 1]? = some (.int .u64 (m.getD i (0, 0)).2) := by
  induction m generalizing i with
  | nil => simp at hi
  | cons a r ih =>
    cases i with
    | zero => simp [fcells]
    | succ i =>
      obtain ⟨h1, h2⟩ := ih i (by simpa using hi)
      simp only [fcells, List.flatMap_cons] at h1 h2 ⊢
      constructor
      · rw [show (i + 1) * 2 = i * 2 + 2 by omega, List.getElem?_append_right (by simp)]; simpa using h1
      · rw [show (i + 1) * 2 + 1 = (i * 2 + 1) + 2 by omega, List.getElem?_append_right (by simp)]; simpa using h2

theorem sizeFreed (W : World) : (sizeOf (Tryd.prog.elem 22)).run Tryd.prog W = .ok 2 W := by kernel_rfl
theorem infoFreed : (Tryd.prog.info? 35).map (fun i => (i.zero, i.size, i.bytes)) = some (some (.agg #[.int .i64 0, .int .u64 0]), 2, 16) := by kernel_rfl

/-- A new slice that holds these freed pages. -/

def FSameR (b : Bool) (w : World) (v : Value) (w' : World) : Prop := v = .bool b ∧ Mod [] w w'
theorem fgetD_ext {l m : List (Int × Int)} (hl : l.length = m.length) (h : ∀ j, j < l.length → l.getD j (0, 0) = m.getD j (0, 0)) : l = m := by
  apply List.ext_getElem hl
  intro i h1 h2
  have := h i h1
  rwa [getD_at h1, getD_at h2] at this
set_option maxRecDepth 100000 in
set_option maxHeartbeats 400000 in
theorem same_freed (p q : Option Addr) (nl nm c d : Nat) (l m : List (Int × Int)) (w : World) (h1 : Sl w 2 p nl c (fcells l)) (h2 : Sl w 2 q nm d (fcells m)) :
    Calls Tryd.prog 13 #[.slice p nl c, .slice q nm d] w (Ret (FSameR (decide (l = m)) w)) := by
  have e1 : l.length = nl := by have := h1.len; rw [fcells_len] at this; omega
  have e2 : m.length = nm := by have := h2.len; rw [fcells_len] at this; omega
  have hc1 := h1.capm; have hd1 := h1.le
  have hc2 := h2.capm; have hd2 := h2.le
  unfold maxLen at hc1 hc2
  obtain ⟨b1, o1, ha1, hx1⟩ := h1.at_
  obtain ⟨b2, o2, ha2, hx2⟩ := h2.at_
  have hi1 := fun W => Sl.idx (P := Tryd.prog) (cap := c) Tryd.underlying22 sizeFreed (fun h => (ha1 h).1) W .i64
  have hi2 := fun W => Sl.idx (P := Tryd.prog) (cap := d) Tryd.underlying22 sizeFreed (fun h => (ha2 h).1) W .i64
  have E1 := Lib.hid e1
  have E2 := Lib.hid e2
  clear h1 h2 ha1 ha2 e1 e2
  by_cases hl : nl = nm
  · have HL := Lib.hid hl
    have hne : ((nl : Int) != (nm : Int)) = false := by simp [hl]
    clear hl
    go_enter Tryd.func13, Tryd.ntmps13
    go_wp2
    go_loopw [5] (fun i wr => ∃ k : Nat, k ≤ nl ∧ i = .int .i64 k ∧ Mod [] w wr ∧ ∀ j, j < k → l.getD j (0, 0) = m.getD j (0, 0)) (fun i _ => nl - (intOf i).toNat)
    case atStart => exact ⟨0, by omega, rfl, Mod.refl _ _, by omega⟩
    case round =>
      obtain ⟨k, hk, rfl, hmd, hall⟩ := hrel
      have HA := Lib.hid hall
      have HM := Lib.hid hmd
      clear hall hmd
      by_cases hlt : k < nl
      · have hlt2 : k < nm := by have := HL.out; omega
        obtain ⟨ga, gb⟩ := fcells_get l k (by have := E1.out; omega)
        obtain ⟨gc, gd⟩ := fcells_get m k (by have := E2.out; omega)
        have d1 := hx1 _ _ ga
        have d2 := hx1 _ _ gb
        have d3 := hx2 _ _ gc
        have d4 := hx2 _ _ gd
        rw [← Nat.add_assoc] at d2 d4
        rw [← HM.out.cell (a := ⟨b1, _, none⟩) (World.block_lt_of_cell? w _ d1) (by simp)] at d1
        rw [← HM.out.cell (a := ⟨b1, _, none⟩) (World.block_lt_of_cell? w _ d2) (by simp)] at d2
        rw [← HM.out.cell (a := ⟨b2, _, none⟩) (World.block_lt_of_cell? w _ d3) (by simp)] at d3
        rw [← HM.out.cell (a := ⟨b2, _, none⟩) (World.block_lt_of_cell? w _ d4) (by simp)] at d4
        obtain ⟨x, hx⟩ : ∃ x, x = l.getD k (0, 0) := ⟨_, rfl⟩
        obtain ⟨y, hy⟩ : ∃ y, y = m.getD k (0, 0) := ⟨_, rfl⟩
        rw [← hx] at d1 d2
        rw [← hy] at d3 d4
        have HX := Lib.hid hx
        have HY := Lib.hid hy
        clear hx hy hx1 hx2 ga gb gc gd
        obtain ⟨x1, x2⟩ := x
        obtain ⟨y1, y2⟩ := y
        simp only at d1 d2 d3 d4
        by_cases h1 : x1 = y1
        · by_cases h2 : x2 = y2
          · have b1 : (x1 == y1) = true := by simp [h1]
            have b2 : (x2 == y2) = true := by simp [h2]
            have HXY : Hid ((x1, x2) = (y1, y2)) := by rw [h1, h2]; exact rfl
            clear h1 h2
            go_wp2
            go_quiet (fail)
            go_wp2
            go_roundw
            case rel => exact ⟨k + 1, by omega, by go_num, HM.out.drewN, fun j hj => by
              rcases Nat.lt_succ_iff_lt_or_eq.1 hj with h | rfl
              · exact HA.out j h
              · rw [← HX.out, ← HY.out]; exact HXY.out⟩
            case measure => simp [intOf]; omega
          · have b1 : (x1 == y1) = true := by simp [h1]
            have b2 : (x2 == y2) = false := by simp [h2]
            have HXY : Hid (¬ (x1, x2) = (y1, y2)) := by intro e; exact h2 (by cases e; rfl)
            clear h1 h2
            go_wp2
            go_quiet (fail)
            go_wp2
            go_ret
            exact .mk ⟨by rw [decide_eq_false (fun e => HXY.out (by rw [HX.out, HY.out, e]))]; rfl, HM.out.drewN⟩
        · have b1 : (x1 == y1) = false := by simp [h1]
          have HXY : Hid (¬ (x1, x2) = (y1, y2)) := by intro e; exact h1 (by cases e; rfl)
          clear h1
          go_wp2
          go_quiet (fail)
          go_wp2
          go_ret
          exact .mk ⟨by rw [decide_eq_false (fun e => HXY.out (by rw [HX.out, HY.out, e]))]; rfl, HM.out.drewN⟩
      · go_wp2
        go_ret
        exact .mk ⟨by rw [fgetD_ext (by have := E1.out; have := E2.out; have := HL.out; omega) (fun j hj => HA.out j (by have := E1.out; omega))]; simp, HM.out⟩
  · have HL := Lib.hid hl
    have hne : ((nl : Int) != (nm : Int)) = true := by simp; omega
    clear hl
    go_enter Tryd.func13, Tryd.ntmps13
    go_wp2
    go_ret
    exact .mk ⟨by rw [decide_eq_false (fun e => HL.out (by rw [← E1.out, ← E2.out, e]))]; rfl, Mod.refl _ _⟩
end Go.Proofs.YtibkhdlddllcjaaDoor
