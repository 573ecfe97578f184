/- A pager: Set. -/
import Derived.Test.YtgimdodbajhpoaaPagerRead
namespace Go.Proofs.Ytgimdodbajhpoaa
open Go.RowKit Go.Maps
set_option linter.unusedSimpArgs false
set_option linter.unusedVariables false

def Pm.set (m : Pm) (no : Int) (l : List Int) : Int × Pm := if (lookG m.f no).isSome = true ∧ l.length ≤ 1016 then (0, ⟨m.s, m.gen, m.hor, insG no l m.f⟩) else (1, m)
set_option maxRecDepth 100000 in
set_option maxHeartbeats 4000000 in
theorem pgrset_any (X : Nat) (T : List Nat) (D : Nat) (m : Pm) (no : Int) (p : Option Addr) (n c : Nat) (l : List Int) (w : World) (h : PgrAt w X T D m) (hl : BytesIn w p n c l) (h0 : -9223372036854775808 ≤ no ∧ no ≤ 9223372036854775807) :
    Calls Try.prog 10 #[.pointer (some ⟨X, 0, none⟩), .int .i64 no, .slice p n c] w (Ret (PgrR X T D (m.set no l).2 (.int .i64 (m.set no l).1) w)) := by
  have hln := hl.len
  obtain ⟨sb, bm, M, fv, h⟩ := h
  have c4 : w.cell? ⟨X, 4, none⟩ = some (.map (some M)) := cell_of_at h.at_ 4
  have hXlt := lt_of_at h.at_
  have hkey := keyOf_int_mk (P := Try.prog) Try.underlying3 (a := no) (WalkArith.wf_i64 (by omega))
  have HMAP := Lib.hid h.map
  have hhas := has_mapG heldF fv no
  have HFL : Hid (lookG m.f no = (lookG fv no).map Fp.l) := by unfold Hid; rw [← h.fl, mapV_look]
  have H := Lib.hid h
  have HL := Lib.hid hl
  have HLN := Lib.hid hln
  cases hl2 : lookG fv no with
  | none =>
    rw [hl2] at hhas HFL
    have HHAS : Hid (Maps.has (mapG heldF fv) (.int .i64 no) = false) := hhas
    have HV : Hid (m.set no l = (1, m)) := by unfold Hid Pm.set; rw [if_neg (by rw [HFL.out]; simp)]
    clear h h0 hhas hl2 HFL hl hln
    go_enter Try.func10, Try.ntmps10
    go_wp2_with (first
      | (at_lookup; (refine wpList_lookup_own_ok _ rfl _ _ 55 rfl 3 23 lawInt Try.underlying55 heldR (zeroSl _) (.held (.slice none 0 0)) [] rfl M _ _ rfl HMAP.out _ _ rfl hkey ?_); intro v ps hv; (rw [HHAS.out]); clear hv)
      | fail)
    go_ret
    exact .mk ⟨by rw [HV.out] <;> rfl, T, by rw [HV.out]; exact ⟨sb, bm, M, fv, H.out⟩, Mod.refl _ _, fun b hb => Or.inl hb⟩
  | some g =>
    rw [hl2] at hhas HFL
    have HHAS : Hid (Maps.has (mapG heldF fv) (.int .i64 no) = true) := hhas
    have HNO : Hid (0 ≤ no ∧ no < 2048) := (h.small _ (lookG_mem hl2)).2
    by_cases hbig : 1016 < n
    · have HV : Hid (m.set no l = (1, m)) := by unfold Hid Pm.set; rw [if_neg (by omega)]
      have hz : (1016 : Int) < (n : Int) := by omega
      clear h h0 hhas hl2 HFL hl hln
      go_enter Try.func10, Try.ntmps10
      go_wp2_with (first
        | (at_lookup; (refine wpList_lookup_own_ok _ rfl _ _ 55 rfl 3 23 lawInt Try.underlying55 heldR (zeroSl _) (.held (.slice none 0 0)) [] rfl M _ _ rfl HMAP.out _ _ rfl hkey ?_); intro v ps hv; (rw [HHAS.out]); clear hv)
        | fail)
      go_ret
      exact .mk ⟨by rw [HV.out] <;> rfl, T, by rw [HV.out]; exact ⟨sb, bm, M, fv, H.out⟩, Mod.refl _ _, fun b hb => Or.inl hb⟩
    · have HV : Hid (m.set no l = (0, ⟨m.s, m.gen, m.hor, insG no l m.f⟩)) := by unfold Hid Pm.set; rw [if_pos ⟨by rw [HFL.out]; rfl, by omega⟩]
      have hz : ¬ ((1016 : Int) < (n : Int)) := by omega
      have hn16 : n ≤ 1016 := by omega
      clear h h0 hhas hl2 HFL hl hln hbig
      go_enter Try.func10, Try.ntmps10
      go_wp2_with (first
        | (at_lookup; (refine wpList_lookup_own_ok _ rfl _ _ 55 rfl 3 23 lawInt Try.underlying55 heldR (zeroSl _) (.held (.slice none 0 0)) [] rfl M _ _ rfl HMAP.out _ _ rfl hkey ?_); intro v ps hv; (rw [HHAS.out]); clear hv)
        | fail)
      refine AnyT.start (S := fun w' => w'.cell? ⟨X, 4, none⟩ = some (.map (some M))) (by kernel_rfl) c4 (fun hS => ?_)
      refine AnyT.take (i := 0) (k := 1) (v := ?_) rfl (by kernel_rfl) (fun _ _ _ h => h) hS (Or.inl ⟨by rfl, fun w' hw' => ?_⟩) ?_
      rotate_left
      · go_simp
        try rfl
      simp only [Act.put, List.setIfInBounds_toArray, List.set_cons_zero, List.set_cons_succ]
      refine AnyT.take (i := 1) (k := 2) (v := ?_) rfl (by kernel_rfl) (fun _ _ _ h => h) hS (Or.inl ⟨by rfl, fun w' hw' => ?_⟩) ?_
      rotate_left
      · go_simp
        try rfl
      simp only [Act.put, List.setIfInBounds_toArray, List.set_cons_zero, List.set_cons_succ]
      refine AnyT.take (i := 2) (k := 3) (v := ?_) rfl (by kernel_rfl) (fun _ _ _ h => h) hS (Or.inl ⟨by rfl, fun w' hw' => ?_⟩) ?_
      rotate_left
      · go_simp
        try rfl
      simp only [Act.put, List.setIfInBounds_toArray, List.set_cons_zero, List.set_cons_succ]
      refine AnyT.take (i := 3) (k := 7) (v := ?_) rfl (by kernel_rfl) (fun _ _ _ h => h) hS (Or.inl ⟨by rfl, fun w' hw' => ?_⟩) ?_
      rotate_left
      · go_simp
        try rfl
      simp only [Act.put, List.setIfInBounds_toArray, List.set_cons_zero, List.set_cons_succ]
      refine AnyT.take (i := 4) (k := 7) (v := ?_) rfl (by kernel_rfl) (fun _ _ _ h => h) hS (Or.inl ⟨by rfl, fun w' hw' => ?_⟩) ?_
      rotate_left
      · go_simp
        try rfl
      simp only [Act.put, List.setIfInBounds_toArray, List.set_cons_zero, List.set_cons_succ]
      refine AnyT.take (i := 5) (k := 6) (v := ?_) rfl (by kernel_rfl) (fun _ _ _ h => h) hS (Or.inl ⟨by rfl, fun w' hw' => ?_⟩) ?_
      rotate_left
      · go_simp
        try rfl
      simp only [Act.put, List.setIfInBounds_toArray, List.set_cons_zero, List.set_cons_succ]
      clear hS
      refine AnyT.run (i := 6) (by kernel_rfl) rfl rfl (fun K hK => ?_)
      go_simp
      refine (clone_any2 p n c l w.drew (HL.out.sl.mod (Mod.of_drew w) (by simp)) (by omega)).mono ?_
      rintro _ w5 ⟨_, rfl, p5, n5, c5, rfl, e5, o5, m5⟩
      obtain rfl : n5 = n := by rw [e5, HLN.out]
      have O5 : Hid (w5.ownsRow w.heap.size 5 1 (.slice p5 n5 c5) n5 (bs l)) := o5
      have M5 : Hid (Mod [] w w5) := (Mod.of_drew w).same m5
      have hc5 := (M5.out.cell (a := ⟨X, 4, none⟩) hXlt (by simp)).trans c4
      refine hK _ _ (fun _ => hc5) ?_
      clear hK K e5 o5 m5
      obtain ⟨w6, hrun, own6, turn6⟩ := (ownsMap_mod H.out.map M5.out (by simp)).store (t := 55) lawInt Try.underlying55 (by have := H.out.few; unfold maxLen; omega) hkey (heldR_mk (.slice p5 n5 c5))
      have M6 : Hid (Mod [M] w5 w6) := Mod.of_grown turn6.grown
      refine AnyT.run (i := 7) (by kernel_rfl) rfl rfl (fun K hK => ?_)
      refine oper_mapUpdate _ _ _ _ rfl _ _ _ rfl rfl rfl hrun ?_
      refine hK _ _ (fun h => absurd h (by rw [show more _ _ = false from by kernel_rfl]; decide)) ?_
      clear hK K hrun hc5
      refine AnyT.done (by kernel_rfl) ?_ _
      have HST := Lib.hid (H.out.store M5.out O5.out HL.out.wf hn16 HNO.out.1 HNO.out.2 own6 M6.out)
      clear own6 turn6
      go_wp2
      go_ret
      obtain ⟨T', fv', g1, g2⟩ := HST.out
      exact .mk ⟨by rw [HV.out] <;> rfl, T', by rw [HV.out]; exact ⟨sb, bm, M, fv', g1⟩, (M5.out.mono (by simp)).same (M6.out.mono (fun b hb => Or.inl (H.out.sub b (by simp at hb ⊢; simp [hb])))), g2⟩
end Go.Proofs.Ytgimdodbajhpoaa
