/- A pager: Drop, Fresh, Pool. Flush: each new page is framed and written, in the order of the pages' numbers. -/
import Derived.Test.YtgimdodbajhpoaaGreatDoorG30
import Derived.Test.YtgimdodbajhpoaaGreatDoorG19
import Derived.Test.YtgimdodbajhpoaaGreatDoorG28
namespace Go.Proofs.YtgimdodbajhpoaaGreatDoor
open Go.RowKit Go.Maps
set_option linter.unusedSimpArgs false
set_option linter.unusedVariables false

theorem PgrIn.repool {w w2 : World} {X : Nat} {T : List Nat} {D : Nat} {m : Pm} {sb bm M : Nat} {fv : List (Int × Fp)} (h : PgrIn w X T D m sb bm M fv) {s2 : PS} (hp : PoolAt w2 sb bm s2) (hm : Mod [sb, bm] w w2) : PgrIn w2 X T D ⟨s2, m.gen, m.hor, m.f⟩ sb bm M fv := by
  obtain ⟨n1, n2, n3, n4, n5⟩ := h.ne
  exact ⟨hm.at h.at_ (by simp; exact ⟨n1, n2⟩), hp, ownsMap_mod h.map hm (by simp; exact ⟨fun e => n4 e.symm, h.nemap⟩), h.nemap, h.srt, h.fl,
    fun x hx => ⟨⟨(h.pg x hx).1.sl.mod hm (fun a ha _ hb => ((h.pg x hx).2.1 a ha).2 (by simp at hb ⊢; rcases hb with e | e <;> simp [e])), (h.pg x hx).1.wf⟩, (h.pg x hx).2⟩, h.sub, fun b hb => Nat.lt_of_lt_of_le (h.lt b hb) hm.size, h.small, h.g0, h.h0⟩
theorem PgrIn.cut {w w2 : World} {X : Nat} {T : List Nat} {D : Nat} {m : Pm} {sb bm M : Nat} {fv : List (Int × Fp)} (h : PgrIn w X T D m sb bm M fv) {no : Int} {n : Nat} (hmap : w2.ownsMap Tryz.prog 3 heldR M n ((mapG heldF fv).del (.int .i64 no))) (hm : Mod [M] w w2) : PgrIn w2 X T D ⟨m.s, m.gen, m.hor, cutG m.f no⟩ sb bm M (cutG fv no) := by
  obtain ⟨n1, n2, n3, n4, n5⟩ := h.ne
  rw [del_mapG] at hmap
  have ht := ownsMap_tight hmap
  rw [size_mapG] at ht
  have hsub : ∀ x ∈ cutG fv no, x ∈ fv := fun x hx => (List.mem_filter.1 hx).1
  exact ⟨hm.at h.at_ (by simpa using n3), h.pool.mod hm (by simpa using n4) (by simpa using fun e => h.nemap (Eq.symm e)), ht, h.nemap, h.srt.cut no, by rw [mapV_cut, h.fl],
    fun x hx => ⟨⟨(h.pg x (hsub x hx)).1.sl.mod hm (fun a ha _ hb => ((h.pg x (hsub x hx)).2.1 a ha).2 (by simp at hb ⊢; simp [hb])), (h.pg x (hsub x hx)).1.wf⟩, (h.pg x (hsub x hx)).2⟩, h.sub, fun b hb => Nat.lt_of_lt_of_le (h.lt b hb) hm.size, fun x hx => h.small x (hsub x hx), h.g0, h.h0⟩

def Pm.drop (m : Pm) (no : Int) : Pm := if (lookG m.f no).isSome = true then ⟨(m.s.free no 0).2, m.gen, m.hor, cutG m.f no⟩ else ⟨(m.s.free no m.gen).2, m.gen, m.hor, m.f⟩
set_option maxRecDepth 100000 in
set_option maxHeartbeats 4000000 in
theorem pgrdrop_in (X : Nat) (T : List Nat) (D : Nat) (m : Pm) (sb bm M : Nat) (no : Int) (w : World) (h : PgrAt3 sb bm M w X T D m) (h0 : -9223372036854775808 ≤ no ∧ no ≤ 9223372036854775807) :
    Calls Tryz.prog 17 #[.pointer (some ⟨X, 0, none⟩), .int .i64 no] w (EndR0 fun w' => PgrAt3 sb bm M w' X T D (m.drop no) ∧ Mod [sb, bm, M] w w') := by
  obtain ⟨fv, h⟩ := h
  have c1 : w.cell? ⟨X, 1, none⟩ = some (.pointer (some ⟨sb, 0, none⟩)) := cell_of_at h.at_ 1
  have c2 : w.cell? ⟨X, 2, none⟩ = some (.int .u64 m.gen) := cell_of_at h.at_ 2
  have c4 : w.cell? ⟨X, 4, none⟩ = some (.map (some M)) := cell_of_at h.at_ 4
  have hXlt := lt_of_at h.at_
  have hkey := keyOf_int_mk (P := Tryz.prog) Tryz.underlying3 (a := no) (WalkArith.wf_i64 (by omega))
  have HMAP := Lib.hid h.map
  have hhas := has_mapG heldF fv no
  have HFL : Hid (lookG m.f no = (lookG fv no).map Fp.l) := by unfold Hid; rw [← h.fl, mapV_look]
  have H := Lib.hid h
  have H0 := Lib.hid h0
  obtain ⟨n1, n2, n3, n4, n5⟩ := h.ne
  have hsbT : ∀ b ∈ [sb, bm], b ∈ T := fun b hb => h.sub b (by simp at hb ⊢; rcases hb with rfl | rfl <;> simp)
  have hMT : ∀ b ∈ [M], b ∈ T := fun b hb => h.sub b (by simp at hb ⊢; simp [hb])
  cases hl : lookG fv no with
  | some g =>
    rw [hl] at hhas HFL
    have HHAS : Hid (Maps.has (mapG heldF fv) (.int .i64 no) = true) := hhas
    have HV : Hid (m.drop no = ⟨(m.s.free no 0).2, m.gen, m.hor, cutG m.f no⟩) := by unfold Hid Pm.drop; rw [if_pos (by rw [HFL.out]; rfl)]
    clear h hhas hl HFL h0 c2
    go_enter Tryz.func17, Tryz.ntmps17
    go_wp2_with (first
      | (at_lookup; (refine wpList_lookup_own_ok _ rfl _ _ 68 rfl 3 40 lawInt Tryz.underlying68 heldR (zeroSl _) (.held (.slice none 0 0)) [] rfl M _ _ rfl HMAP.out _ _ rfl hkey ?_); intro v ps hv; (rw [HHAS.out]); clear hv)
      | (at_delete; (refine wpList_delete_own _ rfl _ _ _ _ rfl 40 lawInt Tryz.underlying68 _ M _ _ rfl HMAP.out _ _ rfl hkey ?_); intro w2 hown2 hturn2; (have M2 : Hid (Mod [M] w w2) := Mod.of_grown hturn2.grown); (have H2 := Lib.hid (H.out.cut hown2 M2.out)); (have d1 : w2.cell? ⟨X, 1, none⟩ = some (.pointer (some ⟨sb, 0, none⟩)) := cell_of_at H2.out.at_ 1); clear hown2 hturn2)
      | fail)
    refine (free_any sb bm m.s no 0 w2 H2.out.pool (by omega) (by omega) H0.out.1 H0.out.2).mono ?_
    rintro _ w3 ⟨_, rfl, rfl, hp3, m3⟩
    have HP3 := Lib.hid hp3
    have M3 := Lib.hid m3
    clear hp3 m3
    go_wp2
    go_end0
    refine ⟨rfl, by rw [HV.out]; exact ⟨_, H2.out.repool HP3.out M3.out⟩, (M2.out.mono (fun b hb => Or.inl (by simp at hb ⊢; simp [hb]))).same (M3.out.mono (fun b hb => Or.inl (by simp at hb ⊢; rcases hb with e | e <;> simp [e])))⟩
  | none =>
    rw [hl] at hhas HFL
    have HHAS : Hid (Maps.has (mapG heldF fv) (.int .i64 no) = false) := hhas
    have HV : Hid (m.drop no = ⟨(m.s.free no m.gen).2, m.gen, m.hor, m.f⟩) := by unfold Hid Pm.drop; rw [if_neg (by rw [HFL.out]; simp)]
    have HG := Lib.hid h.g0
    clear h hhas hl HFL h0
    go_enter Tryz.func17, Tryz.ntmps17
    go_wp2_with (first
      | (at_lookup; (refine wpList_lookup_own_ok _ rfl _ _ 68 rfl 3 40 lawInt Tryz.underlying68 heldR (zeroSl _) (.held (.slice none 0 0)) [] rfl M _ _ rfl HMAP.out _ _ rfl hkey ?_); intro v ps hv; (rw [HHAS.out]); clear hv)
      | fail)
    go_region_held3 (fun w' => w'.cell? ⟨X, 1, none⟩ = some (.pointer (some ⟨sb, 0, none⟩)) ∧ w'.cell? ⟨X, 2, none⟩ = some (.int .u64 m.gen))
      (first
        | go_keep
        | (exact ⟨(M3.out.cell (a := ⟨X, 1, none⟩) hXlt (by simp; exact ⟨n1, n2⟩)).trans c1, (M3.out.cell (a := ⟨X, 2, none⟩) hXlt (by simp; exact ⟨n1, n2⟩)).trans c2⟩))
      (first
        | (go_at_call 22; refine (free_any sb bm m.s no m.gen _ (H.out.pool.mod (Mod.of_drew w) (by simp) (by simp)) HG.out.1 HG.out.2 H0.out.1 H0.out.2).mono ?_; rintro _ w3 ⟨_, rfl, rfl, h3, m3⟩; (have H3 := Lib.hid h3); (have M3 : Hid (Mod [sb, bm] w w3) := ((Mod.of_drew w).mono (by simp)).same m3); clear h3 m3)
        | fail)
    all_goals
      go_wp2
      go_end0
      exact ⟨rfl, by rw [HV.out]; exact ⟨fv, H.out.repool H3.out M3.out⟩, M3.out.mono (fun b hb => Or.inl (by simp at hb ⊢; rcases hb with e | e <;> simp [e]))⟩

theorem pgrdrop_any (X : Nat) (T : List Nat) (D : Nat) (m : Pm) (no : Int) (w : World) (h : PgrAt w X T D m) (h0 : -9223372036854775808 ≤ no ∧ no ≤ 9223372036854775807) :
    Calls Tryz.prog 17 #[.pointer (some ⟨X, 0, none⟩), .int .i64 no] w (EndR0 fun w' => PgrAt w' X T D (m.drop no) ∧ Mod T w w') := by
  obtain ⟨sb, bm, M, fv, h⟩ := h
  refine (pgrdrop_in X T D m sb bm M no w ⟨fv, h⟩ h0).mono ?_
  rintro _ w' ⟨rfl, ⟨fv', h'⟩, hm⟩
  exact ⟨rfl, ⟨sb, bm, M, fv', h'⟩, hm.mono (fun b hb => Or.inl (h.sub b (List.mem_cons_of_mem _ hb)))⟩

/-- Numbers of a call's own. -/
def IntsR (l : List Int) (w : World) (v : Value) (w' : World) : Prop := ∃ p n c, v = .slice p n c ∧ n = l.length ∧ w'.ownsRow w.heap.size 3 1 (.slice p n c) n (ints l) ∧ Mod [] w w'
set_option maxRecDepth 100000 in
theorem pgrfresh_any (X : Nat) (T : List Nat) (D : Nat) (m : Pm) (w : World) (h : PgrAt w X T D m) :
    Calls Tryz.prog 29 #[.pointer (some ⟨X, 0, none⟩)] w (Ret (IntsR (m.f.map (·.1)) w)) := by
  obtain ⟨sb, bm, M, fv, h⟩ := h
  have c4 : w.cell? ⟨X, 4, none⟩ = some (.map (some M)) := cell_of_at h.at_ 4
  have hfv := h.few
  have HK : Hid (fv.map (·.1) = m.f.map (·.1)) := by unfold Hid; rw [← h.fl]; simp [mapV]
  have H := Lib.hid h
  clear h
  go_enter Tryz.func29, Tryz.ntmps29
  go_wp2_with fail
  refine (keys_calls (some M) w).mono ?_
  rintro _ w1 ⟨rfl, hw1⟩
  have HW1 := Lib.hid hw1
  clear hw1
  go_wp2_with fail
  refine (keys_sortedG H.out.map H.out.srt HW1.out (by omega)).mono ?_
  rintro _ w2 ⟨p, c, rfl, hrow, _, hm⟩
  have HR := Lib.hid hrow
  have HM := Lib.hid hm
  clear hrow hm
  go_wp2
  go_ret
  exact .mk ⟨p, fv.length, c, rfl, by rw [← HK.out, List.length_map], by rw [← HK.out]; exact HR.out, HM.out⟩
end Go.Proofs.YtgimdodbajhpoaaGreatDoor
namespace Go.Proofs.YtgimdodbajhpoaaGreatDoor
open Go.RowKit Go.Maps
set_option linter.unusedSimpArgs false
set_option linter.unusedVariables false

/-- The disk behind a Flush. -/
def Ck.pushes (k : Ck) (f : List (Int × List Int)) : Ck := ⟨k.safe, k.wait ++ f.map (fun p => (p.1, fr p.1 p.2)), k.left, k.down⟩
theorem Ck.write_push {k : Ck} {no : Int} {l : List Int} (ht : k.there no = true) (hl : l.length = 1024) (hd : k.down = false) (h0 : k.left = 0) : k.write no l = (0, k.push no l) := by
  unfold Ck.write
  rw [if_neg (by simp [ht, hl]), if_neg (by simp [hd])]
  have e : (k.push no l).tick = (k.push no l, false) := by
    unfold Ck.tick
    rw [if_pos (show (k.push no l).left = 0 from h0)]
  rw [e]; simp
theorem Ck.pushes_zero (k : Ck) : k.pushes [] = k := by unfold Ck.pushes; simp
theorem Ck.pushes_step {k : Ck} {f : List (Int × List Int)} {j : Nat} {x : Int × List Int} (h : f[j]? = some x) : (k.pushes (f.take j)).push x.1 (fr x.1 x.2) = k.pushes (f.take (j + 1)) := by
  unfold Ck.pushes Ck.push
  rw [List.take_add_one, h]
  simp
theorem own_from {w : World} {base : Nat} {e : TypeId} {size : Nat} {P : Option Addr} {n C n' : Nat} {xs : List Value} (h : w.ownsRow base e size (.slice P n C) n' xs) : ∀ a, P = some a → base ≤ a.block := by
  intro a ha
  rcases h.2 with ⟨e, _⟩ | ⟨g, cap, cur, e, hg, _⟩
  · rw [ha] at e; cases e
  · rw [ha] at e; injection e with e; injection e with e; subst e; exact hg
theorem sizeInts (W : World) : (sizeOf (Tryz.prog.elem 24)).run Tryz.prog W = .ok 1 W := by kernel_rfl
theorem DiskAt.lt {w : World} {D : Nat} {T : List Nat} {k : Ck} (h : DiskAt w D T k) : ∀ b ∈ T, b < w.heap.size := by
  obtain ⟨gs, ws, vs, vw, M, DM, S, hh⟩ := h; exact hh.lt
set_option maxRecDepth 100000 in
set_option maxHeartbeats 4000000 in
theorem flush_any (X : Nat) (T : List Nat) (D : Nat) (Td : List Nat) (m : Pm) (k : Ck) (w : World) (h : PgrAt w X T D m) (hd : DiskAt w D Td k) (hdis : ∀ b ∈ Td, b ∉ T) (hdn : k.down = false) (hlf : k.left = 0)
    (hin : ∀ p ∈ m.f, k.there p.1 = true) (hfew : k.wait.length + m.f.length ≤ 1000000) :
    Calls Tryz.prog 14 #[.pointer (some ⟨X, 0, none⟩)] w (Ret (DkR D Td (k.pushes m.f) (.int .i64 0) w)) := by
  have HFR := Lib.hid (pgrfresh_any X T D m w h)
  obtain ⟨sb, bm, M, fv, h⟩ := h
  have c0 : w.cell? ⟨X, 0, none⟩ = some (.pointer (some ⟨D, 0, none⟩)) := cell_of_at h.at_ 0
  have c4 : w.cell? ⟨X, 4, none⟩ = some (.map (some M)) := cell_of_at h.at_ 4
  have hXT : X ∈ T := h.sub X (by simp)
  have hXlt : X < w.heap.size := h.lt X hXT
  have hXd : X ∉ Td := fun hb => hdis _ hb hXT
  have hMd : M ∉ Td := fun hb => hdis _ hb (h.sub M (by simp))
  have HDL := Lib.hid hd.lt
  have HD0 := Lib.hid hd
  have H := Lib.hid h
  have HDIS := Lib.hid hdis
  have HDN := Lib.hid hdn
  have HLF := Lib.hid hlf
  have HIN := Lib.hid hin
  have HFEW := Lib.hid hfew
  clear h hd hdis hdn hlf hin hfew hXT
  go_enter Tryz.func14, Tryz.ntmps14
  go_wp2_with fail
  refine HFR.out.mono ?_
  rintro _ w1 ⟨_, rfl, P, n, C, rfl, e1, o1, m1⟩
  have hnm : n = m.f.length := by rw [e1, List.length_map]
  have HN := Lib.hid hnm
  have hS := (Sl.of_own o1 (ints_one _)).1
  obtain ⟨b, off, hp, hcs⟩ := hS.at_
  have hidx := fun W => Sl.idx (P := Tryz.prog) (cap := C) Tryz.underlying24 sizeInts (fun h => (hp h).1) W .i64
  have HLT : Hid (0 < n → b < w1.heap.size ∧ b ∉ Td) := fun h => ⟨(hp h).2, fun hb => by
    have h1 := own_from o1 _ (hp h).1
    have h2 := HDL.out b hb
    simp only at h1
    omega⟩
  have HCE : Hid (∀ (i : Nat) (x : Int × List Int), m.f[i]? = some x → w1.cell? ⟨b, off + i, none⟩ = some (.int .i64 x.1)) := fun i x hx => by
    refine hcs i _ ?_
    simp [ints, hx]
  have HD1 := Lib.hid (HD0.out.mod m1 (by simp))
  have M1 := Lib.hid m1
  have hn2 : n ≤ 2048 := by rw [hnm, ← H.out.len]; exact H.out.few
  clear HFR HD0 e1 hnm o1 hS hp hcs m1
  go_wp2
  go_loopw [11] (fun jv wx => ∃ (j : Nat) (W0 : World) (Tj : List Nat), j ≤ n ∧ W0 = wx ∧ jv = .int .i64 j ∧ DiskAt W0 D Tj (k.pushes (m.f.take j)) ∧ (∀ b ∈ Tj, b ∈ Td ∨ w1.heap.size ≤ b) ∧ Mod Td w1 W0) (fun jv _ => n - (intOf jv).toNat)
  case atStart => exact ⟨0, _, Td, by omega, rfl, rfl, by rw [List.take_zero, Ck.pushes_zero]; exact HD1.out, fun b hb => Or.inl hb, Mod.refl _ _⟩
  case round =>
    obtain ⟨j, W0, Tj, hj, rfl, rfl, hdj, htj, hmj⟩ := hrel
    have HDJ := Lib.hid hdj
    have HTJ := Lib.hid htj
    have HMJ := Lib.hid hmj
    clear hdj htj hmj
    by_cases hlt : j < n
    · obtain ⟨x, hx⟩ : ∃ x, m.f[j]? = some x := ⟨_, List.getElem?_eq_getElem (by have := HN.out; omega)⟩
      have HX := Lib.hid hx
      have hcell := HCE.out j x hx
      have hb1 := (HLT.out (by omega)).1
      have hb2 := (HLT.out (by omega)).2
      rw [← HMJ.out.cell (a := ⟨b, _, none⟩) hb1 hb2] at hcell
      have HMW : Hid (Mod Td w W0) := (M1.out.mono (by simp)).same HMJ.out
      have hc0 := c0
      rw [← HMW.out.cell (a := ⟨X, _, none⟩) hXlt hXd] at hc0
      have hc4 := c4
      rw [← HMW.out.cell (a := ⟨X, _, none⟩) hXlt hXd] at hc4
      have hji := fun W => hidx W j hlt
      simp only [Nat.mul_one] at hji
      have hwi : IntKind.i64.wrap ((j : Int) + 1) = (j : Int) + 1 := IntWalk.i64_in _ (by omega)
      have hxm : x ∈ m.f := List.mem_of_getElem? hx
      obtain ⟨y, hy, hyx⟩ : ∃ y ∈ fv, (y.1, y.2.l) = x := by
        rw [← H.out.fl] at hxm
        obtain ⟨y, hy, e⟩ := List.mem_map.1 hxm
        exact ⟨y, hy, e⟩
      obtain ⟨no, g⟩ := y
      obtain ⟨no', l⟩ := x
      simp only [Prod.mk.injEq] at hyx
      obtain ⟨rfl, hgl⟩ := hyx
      have HG := Lib.hid hgl
      obtain ⟨pg1, pg2, pg3⟩ := H.out.pg _ hy
      obtain ⟨hgn, hno0, hno1⟩ := H.out.small _ hy
      simp only at pg1 pg2 hgn hno0 hno1
      have HPG : Hid (BytesIn W0 g.p g.n g.c l) := by
        rw [← hgl]
        exact ⟨pg1.sl.mod HMW.out (fun a ha _ hb => HDIS.out _ hb (pg2 a ha).1), pg1.wf⟩
      have hlk : (Instr.lookup 68 (.map (some M)) (.int .i64 no) false).run Tryz.prog W0 = .ok (.slice g.p g.n g.c) W0 := by
        have hkey := keyOf_int_mk (P := Tryz.prog) Tryz.underlying3 (a := no) (WalkArith.wf_i64 (by omega))
        obtain ⟨v, ps, hrun, hv⟩ := (ownsMap_mod H.out.map HMW.out hMd).lookup lawInt Tryz.underlying68 (zeroSl W0) (heldR_mk _) hkey
        rw [atKey_mapG, lookG_of_mem H.out.srt hy] at hv
        have := held_inv hv
        rw [hrun, this]; rfl
      have HIX := HIN.out _ hxm
      have HIT : Hid ((k.pushes (m.f.take j)).there no = true) := HIX
      have hfj : Hid ((k.pushes (m.f.take j)).wait.length ≤ 1000000) := by
        have := HFEW.out
        unfold Hid Ck.pushes
        simp only [List.length_append, List.length_map, List.length_take]
        omega
      clear hx hxm hgl hy pg1 pg2 pg3 HIX
      go_wp2_with fail
      refine (frame_any no g.p g.n g.c l _ HPG.out (by omega) (by omega) hgn).mono ?_
      rintro _ w3 ⟨_, rfl, fb, rfl, hfb, fat, m3⟩
      have HLN := Lib.hid (fr_len (no := no) (l := l) (by have := HPG.out.len; omega))
      have HPGE : Hid (BytesIn w3 (some ⟨fb, 0, none⟩) 1024 1024 (fr no l)) := by
        refine ⟨⟨by rw [bs_len, HLN.out], Nat.le_refl _, by simp [maxLen], bs_one _, fb, 0, fun _ => ⟨rfl, lt_of_at fat⟩, fun j u hj => ?_⟩, fr_wf HPG.out.wf⟩
        rw [cell_of_at fat, Nat.zero_add, List.getElem?_toArray]; exact hj
      have M3 := Lib.hid m3
      have hc0' := hc0
      rw [← M3.out.cell (a := ⟨X, _, none⟩) (Nat.lt_of_lt_of_le hXlt HMW.out.size) (by simp)] at hc0'
      clear hfb fat m3
      go_wp2_with fail
      refine (dwrite_any D Tj (k.pushes (m.f.take j)) no _ _ _ (fr no l) _ (HDJ.out.mod M3.out (by simp)) HPGE.out (by simp) hfj.out).mono ?_
      rintro _ w4 ⟨_, rfl, rfl, T4, hd4, m4, ht4⟩
      rw [Ck.write_push HIT.out HLN.out HDN.out HLF.out] at hd4 ⊢
      rw [Ck.pushes_step (x := (no, l)) HX.out] at hd4
      have HD4 := Lib.hid hd4
      have M4 := Lib.hid m4
      have HT4 := Lib.hid ht4
      clear hd4 m4 ht4
      simp only
      go_wp2
      go_roundw
      case rel =>
        refine ⟨j + 1, _, T4, by omega, rfl, by go_num, HD4.out, fun b hb => ?_, ?_⟩
        · rcases HT4.out b hb with h | h
          · exact HTJ.out b h
          · exact Or.inr (Nat.le_trans HMJ.out.size (Nat.le_trans M3.out.size h))
        · exact (HMJ.out.same (M3.out.mono (by simp))).trans M4.out HTJ.out
      case measure => simp [intOf]; omega
    · obtain rfl : j = n := by omega
      have HFIN : Hid (m.f.take j = m.f) := by unfold Hid; rw [HN.out, List.take_length]
      have HMW : Hid (Mod Td w W0) := (M1.out.mono (by simp)).same HMJ.out
      go_wp2
      go_ret
      exact .mk ⟨rfl, Tj, by rw [HFIN.out] at HDJ; exact HDJ.out, HMW.out, fun b hb => (HTJ.out b hb).elim Or.inl (fun h => Or.inr (Nat.le_trans M1.out.size h))⟩
end Go.Proofs.YtgimdodbajhpoaaGreatDoor
