/- What the document fixes ahead of the laws on a pager. -/
import Derived.Lib.SlBytesConst
import Derived.Test.YtgimdodbajhpoaaGreatDoorG31
import Derived.Test.YtgimdodbajhpoaaGreatDoorG24
namespace Go.Proofs.YtgimdodbajhpoaaGreatDoor
open Go.RowKit Go.Maps
set_option linter.unusedSimpArgs false
set_option linter.unusedVariables false

theorem sl_mark (w : World) (T : TypeId) (l : List Int) (fr : Nat × Nat) (hm : l.length ≤ 1000000) : Sl (w.alloc (.cells (bs l).toArray T fr)) 1 (some ⟨w.heap.size, 0, none⟩) l.length l.length (bs l) := by
  have hat : (w.alloc (.cells (bs l).toArray T fr)).heap[w.heap.size]? = some (.cells (bs l).toArray T fr) := at_alloc w _
  refine ⟨by rw [bs_len]; omega, Nat.le_refl _, by unfold maxLen; omega, bs_one _, w.heap.size, 0, fun _ => ⟨rfl, lt_of_at hat⟩, fun j u hj => ?_⟩
  rw [Nat.zero_add, cell_of_at hat, List.getElem?_toArray]; exact hj
theorem nil_freed (w : World) : FreedIn w none 0 0 [] := ⟨Sl.nil w 2, by simp⟩
theorem new20 : PS.new 20 2 [] = some ⟨20, 2, []⟩ := rfl
theorem ck0_there (n : Nat) (no : Int) : (ck0 n).there no = (decide (0 ≤ no) && decide (no < n)) := by unfold Ck.there ck0; rw [List.length_replicate]
theorem ck0_seen {n : Nat} {no : Int} (h0 : 0 ≤ no) (h1 : no < n) : (ck0 n).seen no = List.replicate 1024 0 := by
  unfold Ck.seen ck0
  simp only [Ck.lastOf, List.reverse_nil, List.find?_nil, Option.map_none, Option.getD_none]
  rw [List.getD_eq_getElem?_getD, List.getElem?_replicate, if_pos (by omega)]; rfl
/-- A disk of zeros has no page but, maybe, number 0. -/
theorem ck0_load (n : Nat) {no : Int} (h : no ≠ 0) : (ck0 n).load no = ([], 4) := by
  unfold Ck.load
  by_cases hth : (ck0 n).there no = true
  · have hb := hth
    rw [ck0_there] at hb
    simp only [Bool.and_eq_true, decide_eq_true_eq] at hb
    rw [ck0_seen hb.1 hb.2, if_neg]
    rintro ⟨_, hok⟩
    unfold okPage at hok
    rw [Bool.and_eq_true] at hok
    have h2 := hok.2
    have e : un4 (((List.replicate 1024 (0 : Int)).drop 1016).take 4) 4 = 0 := by
      rw [List.drop_replicate, List.take_replicate]; decide
    rw [e] at h2
    have : ((0 : Int) != no) = true := by simp; omega
    rw [this] at h2; cases h2
  · rw [if_neg (fun h => hth h.1)]
def awM0 : Pm := ⟨⟨20, 2, []⟩, 1, 0, []⟩
theorem aw_put : awM0.put [97] = ((2, 0), ⟨⟨20, 3, []⟩, 1, 0, [(2, [97])]⟩) := rfl
theorem aw_drop : (⟨⟨20, 3, []⟩, 1, 0, [(2, [97])]⟩ : Pm).drop 2 = ⟨⟨20, 3, [(2, 0)]⟩, 1, 0, []⟩ := rfl
theorem aw_put2 : (⟨⟨20, 3, [(2, 0)]⟩, 1, 0, []⟩ : Pm).put [98] = ((2, 0), ⟨⟨20, 3, []⟩, 1, 0, [(2, [98])]⟩) := rfl
theorem aw_read : (⟨⟨20, 3, []⟩, 1, 0, [(2, [98])]⟩ : Pm).read (ck0 20) 2 = (pad 1016 [98], 0) := rfl
theorem aw_read9 : (⟨⟨20, 3, []⟩, 1, 0, [(2, [98])]⟩ : Pm).read (ck0 20) 9 = ([], 4) := ck0_load 20 (by decide)
/-- A pager's own pool. -/
theorem pgrpool_any (X : Nat) (T : List Nat) (D : Nat) (m : Pm) (w : World) (h : PgrAt w X T D m) :
    Calls Tryz.prog 16 #[.pointer (some ⟨X, 0, none⟩)] w (Ret fun v w' => (∃ sb bm, v = .pointer (some ⟨sb, 0, none⟩) ∧ PoolAt w sb bm m.s ∧ sb ∈ T ∧ bm ∈ T) ∧ w = w') := by
  obtain ⟨sb, bm, M, fv, h⟩ := h
  have c1 : w.cell? ⟨X, 1, none⟩ = some (.pointer (some ⟨sb, 0, none⟩)) := cell_of_at h.at_ 1
  have H := Lib.hid h
  clear h
  go_enter Tryz.func16, Tryz.ntmps16
  go_wp2
  go_ret
  exact .mk ⟨⟨sb, bm, rfl, H.out.pool, H.out.sub _ (by simp), H.out.sub _ (by simp)⟩, rfl⟩
set_option maxRecDepth 100000 in
set_option maxHeartbeats 8000000 in
theorem awake_any (w : World) : Calls Tryz.prog 4 #[] w (Ret (BoolM true w)) := by
  go_enter Tryz.func4, Tryz.ntmps4
  go_wp2_with fail
  refine (dnew_any 20 20 w (by decide)).mono ?_
  rintro _ w1 ⟨_, rfl, D, Td, rfl, hd1, m1, hdb⟩
  have HD1 := Lib.hid hd1
  have M1 := Lib.hid m1
  have HDB := Lib.hid hdb
  have HDL : Hid (∀ b ∈ Td, b < w1.heap.size) := by obtain ⟨gs, ws, vs, vw, M, DM, S, hh⟩ := hd1; exact hh.lt
  clear hd1 m1 hdb
  go_wp2_with fail
  refine (pnew_any 20 2 none 0 0 [] w1 (nil_freed w1)).mono ?_
  rintro _ w2 ⟨_, rfl, m2, h2⟩
  rw [new20] at h2
  obtain ⟨sb, bm, rfl, hp2, hsb, hbm⟩ := h2
  have HP2 := Lib.hid hp2
  have M2 := Lib.hid m2
  have HD2 := Lib.hid (HD1.out.mod m2 (by simp))
  have HSZ := m2.size
  clear m2 hp2 hsb hbm
  go_wp2_with fail
  refine (pgrnew_any D sb bm ⟨20, 2, []⟩ 1 0 w2 HP2.out (by omega) (by omega)).mono ?_
  rintro _ w3 ⟨_, rfl, X, T, rfl, hx3, m3, hxb⟩
  have HX3 : Hid (PgrAt w3 X T D awM0) := hx3
  have M3 := Lib.hid m3
  have HD3 := Lib.hid (HD2.out.mod m3 (by simp))
  have HTD : Hid (∀ b ∈ Td, b ∉ T) := fun b hb ht => by have := HDL.out b hb; have := hxb b ht; omega
  have HW1 : Hid (∀ b ∈ T, w1.heap.size ≤ b) := fun b hb => by have := hxb b hb; omega
  clear m3 hx3 hxb
  go_wp2_with fail
  refine (pgrpool_any X T D awM0 w3 HX3.out).mono ?_
  rintro _ _ ⟨_, rfl, ⟨sb3, bm3, rfl, _⟩, rfl⟩
  have hcv := Lib.run_convert_bytes_const (P := Tryz.prog) w3 40 5 #[.int .u8 97] 1 1 Tryz.underlying40 uU8
  have hX3lt := Lib.hid (HX3.out.lt)
  have MK : Hid (Mod [] w3 (w3.alloc (.cells #[.int .u8 97] 5 (1, 2)))) := Mod.of_alloc _ _
  go_wp2_with fail
  refine (pgrput_any X T D awM0 _ 1 1 [97] _ (HX3.out.mod MK.out (by simp)) ⟨sl_mark w3 5 [97] (1, 2) (by simp), by simp⟩ (fun a ha _ hb => by cases ha; have := hX3lt.out _ hb; simp at this)).mono ?_
  rintro _ w4 ⟨_, rfl, rfl, T4, hx4, m4, ht4⟩
  rw [aw_put] at hx4
  rw [show (awM0.put [97]).1.1 = 2 from rfl, show (awM0.put [97]).1.2 = 0 from rfl]
  have HX4 : Hid (PgrAt w4 X T4 D ⟨⟨20, 3, []⟩, 1, 0, [(2, [97])]⟩) := hx4
  have M4 : Hid (Mod T w3 w4) := (MK.out.mono (by simp)).same m4
  have HTD4 : Hid (∀ b ∈ Td, b ∉ T4) := fun b hb h4 => by
    rcases ht4 b h4 with h | h
    · exact HTD.out b hb h
    · have := HDL.out b hb; have := M3.out.size; have := MK.out.size; omega
  have HB4 : Hid (∀ b ∈ T4, w1.heap.size ≤ b) := fun b hb => by
    rcases ht4 b hb with h | h
    · exact HW1.out b h
    · have := M3.out.size; have := MK.out.size; omega
  have HD4 := Lib.hid (HD3.out.mod M4.out HTD.out)
  have MW4 : Hid (Mod [] w1 w4) := (M2.out.same M3.out).trans M4.out (fun b hb => Or.inr (HW1.out b hb))
  clear hx4 m4 ht4 hcv MK hX3lt
  go_wp2_with fail
  refine (pgrdrop_any X T4 D _ 2 w4 HX4.out (by omega)).mono ?_
  rintro _ w5 ⟨rfl, hx5, m5⟩
  rw [aw_drop] at hx5
  have HX5 := Lib.hid hx5
  have M5 := Lib.hid m5
  have HD5 := Lib.hid (HD4.out.mod m5 HTD4.out)
  have MW5 : Hid (Mod [] w1 w5) := MW4.out.trans m5 (fun b hb => Or.inr (HB4.out b hb))
  clear hx5 m5
  have hcv := Lib.run_convert_bytes_const (P := Tryz.prog) w5 40 5 #[.int .u8 98] 1 1 Tryz.underlying40 uU8
  have hX5lt := Lib.hid (HX5.out.lt)
  have MK : Hid (Mod [] w5 (w5.alloc (.cells #[.int .u8 98] 5 (1, 2)))) := Mod.of_alloc _ _
  go_wp2_with fail
  refine (pgrput_any X T4 D _ _ 1 1 [98] _ (HX5.out.mod MK.out (by simp)) ⟨sl_mark w5 5 [98] (1, 2) (by simp), by simp⟩ (fun a ha _ hb => by cases ha; have := hX5lt.out _ hb; simp at this)).mono ?_
  rintro _ w6 ⟨_, rfl, rfl, T6, hx6, m6, ht6⟩
  rw [aw_put2] at hx6 ⊢
  have HX6 : Hid (PgrAt w6 X T6 D ⟨⟨20, 3, []⟩, 1, 0, [(2, [98])]⟩) := hx6
  have M6 : Hid (Mod T4 w5 w6) := (MK.out.mono (by simp)).same m6
  have HTD6 : Hid (∀ b ∈ Td, b ∉ T6) := fun b hb h4 => by
    rcases ht6 b h4 with h | h
    · exact HTD4.out b hb h
    · have := HDL.out b hb; have := MW5.out.size; have := MK.out.size; omega
  have HD6 := Lib.hid (HD5.out.mod M6.out HTD4.out)
  have MW6 : Hid (Mod [] w1 w6) := MW5.out.trans M6.out (fun b hb => Or.inr (HB4.out b hb))
  clear hx6 m6 ht6 hcv MK hX5lt
  simp only
  go_wp2_with fail
  refine (pgrread_any X T6 D Td _ (ck0 20) 2 w6 HX6.out HD6.out (by omega)).mono ?_
  rintro _ w7 ⟨_, rfl, p7, n7, c7, rfl, e7, b7, t7, m7⟩
  rw [aw_read] at e7 b7 t7 ⊢
  obtain rfl : n7 = 1016 := by rw [e7]; exact pad_len (by simp)
  have B7 := Lib.hid b7
  have HX7 := Lib.hid (HX6.out.mod m7 (by simp))
  have HD7 := Lib.hid (HD6.out.mod m7 (by simp))
  have MW7 := Lib.hid (MW6.out.same m7)
  clear e7 b7 t7 m7
  simp only
  go_wp2_with fail
  refine (pgrread_any X T6 D Td _ (ck0 20) 9 w7 HX7.out HD7.out (by omega)).mono ?_
  rintro _ w8 ⟨_, rfl, p8, n8, c8, rfl, e8, b8, t8, m8⟩
  rw [aw_read9] at e8 b8 t8 ⊢
  have B7b := Lib.hid (B7.out.sl.mod m8 (by simp))
  have MW8 := Lib.hid (MW7.out.same m8)
  clear e8 b8 t8 m8
  obtain ⟨b1, o1, rfl, hb1, hc1⟩ := B7b.out.addr (by omega)
  have d0 : w8.cell? ⟨b1, o1, none⟩ = some (.int .u8 98) := hc1 0 _ rfl
  have hi0 := fun W => Sl.idx (P := Tryz.prog) (cap := c7) (m := 1016) (size := 1) Tryz.underlying40 sizeBytes (fun _ => rfl) W .i64 0 (by omega) (b := b1) (off := o1)
  simp only [Nat.mul_one, Nat.add_zero, show ((0 : Nat) : Int) = 0 from rfl] at hi0
  have MFIN := Lib.hid (M1.out.same MW8.out)
  clear hc1
  simp only
  go_wp2
  go_ret
  exact .mk ⟨rfl, MFIN.out⟩
end Go.Proofs.YtgimdodbajhpoaaGreatDoor
