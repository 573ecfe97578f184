/- The document's numbers as bytes: Key, Same. -/
import Derived.Test.YtgimdodbajhpoaaBe
import Derived.Test.YtgimdodbajhpoaaRows
namespace Go.Proofs.Ytgimdodbajhpoaa
open Go.RowKit Go.Maps
set_option linter.unusedSimpArgs false
set_option linter.unusedVariables false

theorem own_lit {w : World} (T : TypeId) (x : Value) (hx : x.oneCell' = true) (base : Nat) (hb : base ≤ w.heap.size) : (w.alloc (.cells #[x] T)).ownsRow base T 1 (.slice (some ⟨w.heap.size, 0, none⟩) 1 1) 1 [x] := by
  refine ⟨by simp, Or.inr ⟨w.heap.size, 1, #[x], rfl, hb, at_alloc w _, by omega, by unfold maxLen; omega, by simp, by simp⟩⟩
theorem infoU8 : (Try.prog.info? 5).map (fun i => (i.zero, i.size, i.bytes)) = some (some (.int .u8 0), 1, 1) := by kernel_rfl

def BytesR (l : List Int) (w : World) (v : Value) (w' : World) : Prop := ∃ p n c, v = .slice p n c ∧ n = l.length ∧ w'.ownsRow w.heap.size 5 1 (.slice p n c) n (bs l) ∧ Mod [] w w'
theorem sizeBytes (W : World) : (sizeOf (Try.prog.elem 23)).run Try.prog W = .ok 1 W := by kernel_rfl
def SameR (w : World) (b : Bool) (v : Value) (w' : World) : Prop := v = .bool b ∧ Mod [] w w'
set_option maxRecDepth 100000 in
theorem qsame_any (p q : Option Addr) (nl nm c d : Nat) (l m : List Int) (w : World) (h1 : Sl w 1 p nl c (bs l)) (h2 : Sl w 1 q nm d (bs m)) :
    Calls Try.prog 12 #[.slice p nl c, .slice q nm d] w (Ret (SameR w (decide (l = m)))) := by
  have e1 : l.length = nl := by have := h1.len; simpa [bs] using this
  have e2 : m.length = nm := by have := h2.len; simpa [bs] using this
  have hc1 := h1.capm; have hd1 := h1.le
  have hc2 := h2.capm; have hd2 := h2.le
  unfold maxLen at hc1 hc2
  obtain ⟨b1, o1, ha1, hx1⟩ := h1.at_
  obtain ⟨b2, o2, ha2, hx2⟩ := h2.at_
  have hi1 := fun W => Sl.idx (P := Try.prog) (cap := c) Try.underlying23 sizeBytes (fun h => (ha1 h).1) W .i64
  have hi2 := fun W => Sl.idx (P := Try.prog) (cap := d) Try.underlying23 sizeBytes (fun h => (ha2 h).1) W .i64
  clear h1 h2 ha1 ha2
  have E1 := Lib.hid e1
  have E2 := Lib.hid e2
  clear e1 e2
  by_cases hl : nl = nm
  · have HL := Lib.hid hl
    have hne : ((nl : Int) != (nm : Int)) = false := by simp [hl]
    go_enter Try.func12, Try.ntmps12
    clear hl
    go_wp2
    go_loopw [5] (fun i wr => ∃ k : Nat, k ≤ nl ∧ i = .int .i64 k ∧ Mod [] w wr ∧ ∀ j, j < k → l.getD j 0 = m.getD j 0) (fun i _ => nl - (intOf i).toNat)
    case atStart => exact ⟨0, by omega, rfl, Mod.refl _ _, by omega⟩
    case round =>
      obtain ⟨k, hk, rfl, hmd, hall⟩ := hrel
      have HA := Lib.hid hall
      have HM := Lib.hid hmd
      clear hall hmd
      by_cases hlt : k < nl
      · have hlt2 : k < nm := by have := HL.out; omega
        have d1 := hx1 k _ (bs_get (l := l) (by have := E1.out; omega))
        have d2 := hx2 k _ (bs_get (l := m) (by have := E2.out; omega))
        rw [← HM.out.cell (a := ⟨b1, o1 + k, none⟩) (World.block_lt_of_cell? w _ d1) (by simp)] at d1
        rw [← HM.out.cell (a := ⟨b2, o2 + k, none⟩) (World.block_lt_of_cell? w _ d2) (by simp)] at d2
        obtain ⟨x, hx⟩ : ∃ x, x = l.getD k 0 := ⟨_, rfl⟩
        obtain ⟨y, hy⟩ : ∃ y, y = m.getD k 0 := ⟨_, rfl⟩
        rw [← hx] at d1
        rw [← hy] at d2
        have HX := Lib.hid hx
        have HY := Lib.hid hy
        clear hx hy hx1 hx2
        by_cases hxy : x = y
        · have hb : (x != y) = false := by simp [hxy]
          have HXY := Lib.hid hxy
          clear hxy
          go_wp2
          go_quiet (fail)
          go_wp2
          go_roundw
          case rel => exact ⟨k + 1, by omega, by go_num, HM.out.same (Mod.of_drewN wr _), fun j hj => by
            rcases Nat.lt_succ_iff_lt_or_eq.1 hj with h | rfl
            · exact HA.out j h
            · rw [← HX.out, ← HY.out]; exact HXY.out⟩
          case measure => simp [intOf]; omega
        · have hb : (x != y) = true := by simp [hxy]
          have HXY := Lib.hid hxy
          clear hxy
          go_wp2
          go_quiet (fail)
          go_wp2
          go_ret
          exact .mk ⟨by rw [decide_eq_false (fun e => HXY.out (by rw [HX.out, HY.out, e]))]; rfl, HM.out.same (Mod.of_drewN wr _)⟩
      · go_wp2
        go_ret
        exact .mk ⟨by rw [getD_ext (by have := E1.out; have := E2.out; have := HL.out; omega) (fun j hj => HA.out j (by have := E1.out; omega))]; simp, HM.out⟩
  · have HL := Lib.hid hl
    have hne : ((nl : Int) != (nm : Int)) = true := by simp; omega
    clear hl
    go_enter Try.func12, Try.ntmps12
    go_wp2
    go_ret
    exact .mk ⟨by rw [decide_eq_false (fun e => HL.out (by rw [← E1.out, ← E2.out, e]))]; rfl, Mod.refl _ _⟩

end Go.Proofs.Ytgimdodbajhpoaa
