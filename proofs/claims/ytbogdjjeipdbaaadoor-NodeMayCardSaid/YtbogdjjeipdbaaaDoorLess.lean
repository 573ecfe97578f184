/- The document's order of rows of bytes. -/
import Derived.Test.YtbogdjjeipdbaaaDoorCompare
import Derived.Test.YtbogdjjeipdbaaaDoorNumRef
namespace Go.Proofs.YtbogdjjeipdbaaaDoor
open Go.RowKit Go.Maps
set_option linter.unusedSimpArgs false
set_option linter.unusedVariables false

theorem less_skip : ∀ {l k : List Int} {i : Nat}, l.take i = k.take i → i ≤ l.length → i ≤ k.length → less l k = less (l.drop i) (k.drop i)
  | _, _, 0, _, _, _ => rfl
  | [], _, i + 1, _, h, _ => by simp at h
  | _ :: _, [], i + 1, _, _, h => by simp at h
  | x :: a, y :: b, i + 1, h, h1, h2 => by
    simp only [List.take_succ_cons, List.cons.injEq] at h
    simp only [less, h.1, if_true, List.drop_succ_cons]
    exact less_skip h.2 (by simpa using h1) (by simpa using h2)
set_option maxRecDepth 100000 in
set_option maxHeartbeats 2000000 in
theorem qless_any (p q : Option Addr) (n m c d : Nat) (l k : List Int) (w : World) (h1 : BytesIn w p n c l) (h2 : BytesIn w q m d k) :
    Calls Tryd.prog 10 #[.slice p n c, .slice q m d] w (Ret fun v w' => v = .bool (less l k) ∧ Mod [] w w') := by
  have hl := h1.len; have hk := h2.len
  have hcm := h1.sl.capm; have hle := h1.sl.le
  have hcm2 := h2.sl.capm; have hle2 := h2.sl.le
  unfold maxLen at hcm hcm2
  obtain ⟨b, off, hp, hcs⟩ := h1.sl.at_
  have hidx := fun W => Sl.idx (P := Tryd.prog) (cap := c) Tryd.underlying37 sizeBytes (fun h => (hp h).1) W .i64
  obtain ⟨b2, off2, hp2, hcs2⟩ := h2.sl.at_
  have hidx2 := fun W => Sl.idx (P := Tryd.prog) (cap := d) Tryd.underlying37 sizeBytes (fun h => (hp2 h).1) W .i64
  simp only [Nat.mul_one] at hidx hidx2
  have HA : Hid (∀ i, i < n → ∃ x, l[i]? = some x ∧ w.cell? ⟨b, off + i, none⟩ = some (.int .u8 x)) := fun i hi => by
    have hi2 : i < l.length := by omega
    exact ⟨_, List.getElem?_eq_getElem hi2, by have := hcs i _ (bs_get hi2); rwa [getD_at hi2] at this⟩
  have HB : Hid (∀ i, i < m → ∃ x, k[i]? = some x ∧ w.cell? ⟨b2, off2 + i, none⟩ = some (.int .u8 x)) := fun i hi => by
    have hi2 : i < k.length := by omega
    exact ⟨_, List.getElem?_eq_getElem hi2, by have := hcs2 i _ (bs_get hi2); rwa [getD_at hi2] at this⟩
  have HLT : Hid (0 < n → b < w.heap.size) := fun h => (hp h).2
  have HLT2 : Hid (0 < m → b2 < w.heap.size) := fun h => (hp2 h).2
  have HL := Lib.hid hl
  have HK := Lib.hid hk
  clear h1 h2 hp hcs hp2 hcs2 hl hk
  go_enter Tryd.func10, Tryd.ntmps10
  go_wp2
  go_loopw [5] (fun iv wr => ∃ i : Nat, i ≤ n ∧ i ≤ m ∧ iv = .int .i64 i ∧ l.take i = k.take i ∧ Mod [] w wr) (fun iv _ => n - (intOf iv).toNat)
  case atStart => exact ⟨0, by omega, by omega, rfl, rfl, Mod.refl _ _⟩
  case round =>
    obtain ⟨i, hi, hj, rfl, ht, hm⟩ := hrel
    have HT := Lib.hid ht
    have HM := Lib.hid hm
    clear ht hm
    by_cases h1 : i < n
    · by_cases h2 : i < m
      · obtain ⟨x, hx, d0⟩ := HA.out i h1
        obtain ⟨y, hy, d1⟩ := HB.out i h2
        rw [← HM.out.cell (a := ⟨b, _, none⟩) (HLT.out (by omega)) (by simp)] at d0
        rw [← HM.out.cell (a := ⟨b2, _, none⟩) (HLT2.out (by omega)) (by simp)] at d1
        have hd1 : l.drop i = x :: l.drop (i + 1) := by
          obtain ⟨g1, g2⟩ := List.getElem?_eq_some_iff.1 hx
          rw [List.drop_eq_getElem_cons g1, g2]
        have hd2 : k.drop i = y :: k.drop (i + 1) := by
          obtain ⟨g1, g2⟩ := List.getElem?_eq_some_iff.1 hy
          rw [List.drop_eq_getElem_cons g1, g2]
        have hless : less l k = less (x :: l.drop (i + 1)) (y :: k.drop (i + 1)) := by
          rw [less_skip HT.out (by rw [HL.out]; exact hi) (by rw [HK.out]; exact hj), hd1, hd2]
        have hwi : IntKind.i64.wrap ((i : Int) + 1) = (i : Int) + 1 := IntWalk.i64_in _ (by omega)
        have hi1 := fun W => hidx W i h1
        have hi2 := fun W => hidx2 W i h2
        by_cases hxy : x = y
        · have HTT : Hid (l.take (i + 1) = k.take (i + 1)) := by
            obtain ⟨g1, g2⟩ := List.getElem?_eq_some_iff.1 hx
            obtain ⟨g3, g4⟩ := List.getElem?_eq_some_iff.1 hy
            unfold Hid; rw [List.take_succ_eq_append_getElem g1, List.take_succ_eq_append_getElem g3, HT.out, g2, g4, hxy]
          have hb : (x != y) = false := by simp [hxy]
          clear hx hy hd1 hd2 hless hxy
          go_wp2_with fail
          go_quiet (fail)
          go_wp2
          go_roundw
          case rel => exact ⟨i + 1, by omega, by omega, by go_num, HTT.out, HM.out.drewN⟩
          case measure => simp [intOf]; omega
        · have HE : Hid (less l k = decide (x < y)) := by rw [hless]; simp [less, hxy, Hid]
          have hb : (x != y) = true := by simp [hxy]
          clear hx hy hd1 hd2 hless hxy
          go_wp2_with fail
          go_quiet (fail)
          go_wp2_with fail
          go_quiet (fail)
          go_wp2
          go_ret
          exact .mk ⟨by rw [HE.out]; rfl, HM.out.drewN.drewN⟩
      · obtain rfl : i = m := by omega
        have HE : Hid (less l k = false) := by
          unfold Hid
          rw [less_skip HT.out (by rw [HL.out]; exact hi) (by rw [HK.out]; exact hj), List.drop_of_length_le (l := k) (by rw [HK.out]; omega)]
          cases l.drop i <;> rfl
        go_wp2
        go_ret
        exact .mk ⟨by rw [HE.out]; simp; omega, HM.out⟩
    · obtain rfl : i = n := by omega
      have HE : Hid (less l k = decide (i < m)) := by
        unfold Hid
        rw [less_skip HT.out (by rw [HL.out]; exact hi) (by rw [HK.out]; exact hj), List.drop_of_length_le (l := l) (by rw [HL.out]; omega)]
        by_cases h3 : i < m
        · rw [decide_eq_true h3, List.drop_eq_getElem_cons (by rw [HK.out]; exact h3)]; rfl
        · rw [decide_eq_false h3, List.drop_of_length_le (by rw [HK.out]; omega)]; rfl
      go_wp2
      go_ret
      exact .mk ⟨by rw [HE.out]; simp, HM.out⟩
end Go.Proofs.YtbogdjjeipdbaaaDoor
