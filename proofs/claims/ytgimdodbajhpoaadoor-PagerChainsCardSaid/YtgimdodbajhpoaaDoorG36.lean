/- A pager: Drop, Fresh, Pool. -/
import Derived.Test.YtgimdodbajhpoaaDoorG29
import Derived.Test.YtgimdodbajhpoaaDoorG35
namespace Go.Proofs.YtgimdodbajhpoaaDoor
open Go.RowKit Go.Maps
set_option linter.unusedSimpArgs false
set_option linter.unusedVariables false

theorem PgrIn.repool {w w2 : World} {X : Nat} {T : List Nat} {D : Nat} {m : Pm} {sb bm M : Nat} {fv : List (Int × Fp)} (h : PgrIn w X T D m sb bm M fv) {s2 : PS} (hp : PoolAt w2 sb bm s2) (hm : Mod [sb, bm] w w2) : PgrIn w2 X T D ⟨s2, m.gen, m.hor, m.f⟩ sb bm M fv := by
  obtain ⟨n1, n2, n3, n4, n5⟩ := h.ne
  exact ⟨hm.at h.at_ (by simp; exact ⟨n1, n2⟩), hp, ownsMap_mod h.map hm (by simp; exact ⟨fun e => n4 e.symm, h.nemap⟩), h.nemap, h.srt, h.fl,
    fun x hx => ⟨⟨(h.pg x hx).1.sl.mod hm (fun a ha _ hb => ((h.pg x hx).2.1 a ha).2 (by simp at hb ⊢; rcases hb with e | e <;> simp [e])), (h.pg x hx).1.wf⟩, (h.pg x hx).2⟩, h.sub, fun b hb => Nat.lt_of_lt_of_le (h.lt b hb) hm.size, h.small, h.g0, h.h0⟩
theorem PgrIn.cut {w w2 : World} {X : Nat} {T : List Nat} {D : Nat} {m : Pm} {sb bm M : Nat} {fv : List (Int × Fp)} (h : PgrIn w X T D m sb bm M fv) {no : Int} {n : Nat} (hmap : w2.ownsMap Tryd.prog 3 heldR M n ((mapG heldF fv).del (.int .i64 no))) (hm : Mod [M] w w2) : PgrIn w2 X T D ⟨m.s, m.gen, m.hor, cutG m.f no⟩ sb bm M (cutG fv no) := by
  obtain ⟨n1, n2, n3, n4, n5⟩ := h.ne
  rw [del_mapG] at hmap
  have ht := ownsMap_tight hmap
  rw [size_mapG] at ht
  have hsub : ∀ x ∈ cutG fv no, x ∈ fv := fun x hx => (List.mem_filter.1 hx).1
  exact ⟨hm.at h.at_ (by simpa using n3), h.pool.mod hm (by simpa using n4) (by simpa using fun e => h.nemap (Eq.symm e)), ht, h.nemap, h.srt.cut no, by rw [mapV_cut, h.fl],
    fun x hx => ⟨⟨(h.pg x (hsub x hx)).1.sl.mod hm (fun a ha _ hb => ((h.pg x (hsub x hx)).2.1 a ha).2 (by simp at hb ⊢; simp [hb])), (h.pg x (hsub x hx)).1.wf⟩, (h.pg x (hsub x hx)).2⟩, h.sub, fun b hb => Nat.lt_of_lt_of_le (h.lt b hb) hm.size, fun x hx => h.small x (hsub x hx), h.g0, h.h0⟩

def Pm.drop (m : Pm) (no : Int) : Pm := if (lookG m.f no).isSome = true then ⟨(m.s.free no 0).2, m.gen, m.hor, cutG m.f no⟩ else ⟨(m.s.free no m.gen).2, m.gen, m.hor, m.f⟩
set_option maxRecDepth 100000 in
set_option maxHeartbeats 4000000 in
theorem pgrdrop_in (X : Nat) (T : List Nat) (D : Nat) (m : Pm) (sb bm M : Nat) (no : Int) (w : World) (h : PgrAt3 sb bm M w X T D m) (h0 : -9223372036854775808 ≤ no ∧ no ≤ 9223372036854775807) :
    Calls Tryd.prog 18 #[.pointer (some ⟨X, 0, none⟩), .int .i64 no] w (EndR0 fun w' => PgrAt3 sb bm M w' X T D (m.drop no) ∧ Mod [sb, bm, M] w w') := by
  obtain ⟨fv, h⟩ := h
  have c1 : w.cell? ⟨X, 1, none⟩ = some (.pointer (some ⟨sb, 0, none⟩)) := cell_of_at h.at_ 1
  have c2 : w.cell? ⟨X, 2, none⟩ = some (.int .u64 m.gen) := cell_of_at h.at_ 2
  have c4 : w.cell? ⟨X, 4, none⟩ = some (.map (some M)) := cell_of_at h.at_ 4
  have hXlt := lt_of_at h.at_
  have hkey := keyOf_int_mk (P := Tryd.prog) Tryd.underlying3 (a := no) (WalkArith.wf_i64 (by omega))
  have HMAP := Lib.hid h.map
  have hhas := has_mapG heldF fv no
  have HFL : Hid (lookG m.f no = (lookG fv no).map Fp.l) := by unfold Hid; rw [← h.fl, mapV_look]
  have H := Lib.hid h
  have H0 := Lib.hid h0
  obtain ⟨n1, n2, n3, n4, n5⟩ := h.ne
  have hsbT : ∀ b ∈ [sb, bm], b ∈ T := fun b hb => h.sub b (by simp at hb ⊢; rcases hb with rfl | rfl <;> simp)
  have hMT : ∀ b ∈ [M], b ∈ T := fun b hb => h.sub b (by simp at hb ⊢; simp [hb])
  cases hl : lookG fv no with
  | some g =>
    rw [hl] at hhas HFL
    have HHAS : Hid (Maps.has (mapG heldF fv) (.int .i64 no) = true) := hhas
    have HV : Hid (m.drop no = ⟨(m.s.free no 0).2, m.gen, m.hor, cutG m.f no⟩) := by unfold Hid Pm.drop; rw [if_pos (by rw [HFL.out]; rfl)]
    clear h hhas hl HFL h0 c2
    go_enter Tryd.func18, Tryd.ntmps18
    go_wp2_with (first
      | (at_lookup; (refine wpList_lookup_own_ok _ rfl _ _ 57 rfl 3 22 lawInt Tryd.underlying57 heldR (zeroSl _) (.held (.slice none 0 0)) [] rfl M _ _ rfl HMAP.out _ _ rfl hkey ?_); intro v ps hv; (rw [HHAS.out]); clear hv)
      | (at_delete; (refine wpList_delete_own _ rfl _ _ _ _ rfl 22 lawInt Tryd.underlying57 _ M _ _ rfl HMAP.out _ _ rfl hkey ?_); intro w2 hown2 hturn2; (have M2 : Hid (Mod [M] w w2) := Mod.of_grown hturn2.grown); (have H2 := Lib.hid (H.out.cut hown2 M2.out)); (have d1 : w2.cell? ⟨X, 1, none⟩ = some (.pointer (some ⟨sb, 0, none⟩)) := cell_of_at H2.out.at_ 1); clear hown2 hturn2)
      | fail)
    refine (free_any sb bm m.s no 0 w2 H2.out.pool (by omega) (by omega) H0.out.1 H0.out.2).mono ?_
    rintro _ w3 ⟨_, rfl, rfl, hp3, m3⟩
    have HP3 := Lib.hid hp3
    have M3 := Lib.hid m3
    clear hp3 m3
    go_wp2
    go_end0
    refine ⟨rfl, by rw [HV.out]; exact ⟨_, H2.out.repool HP3.out M3.out⟩, (M2.out.mono (fun b hb => Or.inl (by simp at hb ⊢; simp [hb]))).same (M3.out.mono (fun b hb => Or.inl (by simp at hb ⊢; rcases hb with e | e <;> simp [e])))⟩
  | none =>
    rw [hl] at hhas HFL
    have HHAS : Hid (Maps.has (mapG heldF fv) (.int .i64 no) = false) := hhas
    have HV : Hid (m.drop no = ⟨(m.s.free no m.gen).2, m.gen, m.hor, m.f⟩) := by unfold Hid Pm.drop; rw [if_neg (by rw [HFL.out]; simp)]
    have HG := Lib.hid h.g0
    clear h hhas hl HFL h0
    go_enter Tryd.func18, Tryd.ntmps18
    go_wp2_with (first
      | (at_lookup; (refine wpList_lookup_own_ok _ rfl _ _ 57 rfl 3 22 lawInt Tryd.underlying57 heldR (zeroSl _) (.held (.slice none 0 0)) [] rfl M _ _ rfl HMAP.out _ _ rfl hkey ?_); intro v ps hv; (rw [HHAS.out]); clear hv)
      | fail)
    go_region_held3 (fun w' => w'.cell? ⟨X, 1, none⟩ = some (.pointer (some ⟨sb, 0, none⟩)) ∧ w'.cell? ⟨X, 2, none⟩ = some (.int .u64 m.gen))
      (first
        | go_keep
        | (exact ⟨(M3.out.cell (a := ⟨X, 1, none⟩) hXlt (by simp; exact ⟨n1, n2⟩)).trans c1, (M3.out.cell (a := ⟨X, 2, none⟩) hXlt (by simp; exact ⟨n1, n2⟩)).trans c2⟩))
      (first
        | (go_at_call 20; refine (free_any sb bm m.s no m.gen _ (H.out.pool.mod (Mod.of_drew w) (by simp) (by simp)) HG.out.1 HG.out.2 H0.out.1 H0.out.2).mono ?_; rintro _ w3 ⟨_, rfl, rfl, h3, m3⟩; (have H3 := Lib.hid h3); (have M3 : Hid (Mod [sb, bm] w w3) := ((Mod.of_drew w).mono (by simp)).same m3); clear h3 m3)
        | fail)
    all_goals
      go_wp2
      go_end0
      exact ⟨rfl, by rw [HV.out]; exact ⟨fv, H.out.repool H3.out M3.out⟩, M3.out.mono (fun b hb => Or.inl (by simp at hb ⊢; rcases hb with e | e <;> simp [e]))⟩

theorem pgrdrop_any (X : Nat) (T : List Nat) (D : Nat) (m : Pm) (no : Int) (w : World) (h : PgrAt w X T D m) (h0 : -9223372036854775808 ≤ no ∧ no ≤ 9223372036854775807) :
    Calls Tryd.prog 18 #[.pointer (some ⟨X, 0, none⟩), .int .i64 no] w (EndR0 fun w' => PgrAt w' X T D (m.drop no) ∧ Mod T w w') := by
  obtain ⟨sb, bm, M, fv, h⟩ := h
  refine (pgrdrop_in X T D m sb bm M no w ⟨fv, h⟩ h0).mono ?_
  rintro _ w' ⟨rfl, ⟨fv', h'⟩, hm⟩
  exact ⟨rfl, ⟨sb, bm, M, fv', h'⟩, hm.mono (fun b hb => Or.inl (h.sub b (List.mem_cons_of_mem _ hb)))⟩

/-- Numbers of a call's own. -/
def IntsR (l : List Int) (w : World) (v : Value) (w' : World) : Prop := ∃ p n c, v = .slice p n c ∧ n = l.length ∧ w'.ownsRow w.heap.size 3 1 (.slice p n c) n (ints l) ∧ Mod [] w w'
set_option maxRecDepth 100000 in
theorem pgrfresh_any (X : Nat) (T : List Nat) (D : Nat) (m : Pm) (w : World) (h : PgrAt w X T D m) :
    Calls Tryd.prog 10 #[.pointer (some ⟨X, 0, none⟩)] w (Ret (IntsR (m.f.map (·.1)) w)) := by
  obtain ⟨sb, bm, M, fv, h⟩ := h
  have c4 : w.cell? ⟨X, 4, none⟩ = some (.map (some M)) := cell_of_at h.at_ 4
  have hfv := h.few
  have HK : Hid (fv.map (·.1) = m.f.map (·.1)) := by unfold Hid; rw [← h.fl]; simp [mapV]
  have H := Lib.hid h
  clear h
  go_enter Tryd.func10, Tryd.ntmps10
  go_wp2_with fail
  refine (keys_calls (some M) w).mono ?_
  rintro _ w1 ⟨rfl, hw1⟩
  have HW1 := Lib.hid hw1
  clear hw1
  go_wp2_with fail
  refine (keys_sortedG H.out.map H.out.srt HW1.out (by omega)).mono ?_
  rintro _ w2 ⟨p, c, rfl, hrow, _, hm⟩
  have HR := Lib.hid hrow
  have HM := Lib.hid hm
  clear hrow hm
  go_wp2
  go_ret
  exact .mk ⟨p, fv.length, c, rfl, by rw [← HK.out, List.length_map], by rw [← HK.out]; exact HR.out, HM.out⟩
end Go.Proofs.YtgimdodbajhpoaaDoor
