/- The document's May. -/
import Derived.Test.YtgimdodbajhpoaaGreatDoorG37
import Derived.Test.YtgimdodbajhpoaaGreatDoorG38
namespace Go.Proofs.YtgimdodbajhpoaaGreatDoor
open Go.RowKit Go.Maps
set_option linter.unusedSimpArgs false
set_option linter.unusedVariables false

theorem mayBr_long {ks : List (List Int)} {kids : List Int} (h : 1016 < brLen ks) : mayBr ks kids = false := by unfold mayBr; rw [decide_eq_false (by omega : ¬ brLen ks ≤ 1016)]; simp
theorem mayBr_kid {ks : List (List Int)} {kids : List Int} {x : Int} (h : x ∈ kids) (hx : mayPgN x = false) : mayBr ks kids = false := by
  unfold mayBr
  have : kids.all mayPgN = false := by
    rw [List.all_eq_false]; exact ⟨x, h, by rw [hx]; simp⟩
  rw [this]; simp
theorem mayLeaf_long {cs : List Cl} (h : 1016 < leafLen cs) : mayLeaf cs = false := by unfold mayLeaf; rw [decide_eq_false (by omega : ¬ leafLen cs ≤ 1016)]; simp
theorem mayLeaf_cell {cs : List Cl} {x : Cl} (h : x ∈ cs) (hx : mayCl x = false) : mayLeaf cs = false := by
  unfold mayLeaf
  have : cs.all mayCl = false := by
    rw [List.all_eq_false]; exact ⟨x, h, by rw [hx]; simp⟩
  rw [this]; simp
set_option maxRecDepth 100000 in
set_option maxHeartbeats 4000000 in
theorem qmay_br (cp : Option Addr) (cn cc : Nat) (xs : List Cv) (kp : Option Addr) (kn kc : Nat) (ks : List Bv) (qp : Option Addr) (qn qc : Nat) (kids : List Int) (w : World) (h : NdIn w true cp cn cc xs kp kn kc ks qp qn qc kids) (hsm : csz xs + kz ks + kids.length ≤ 5000) :
    Calls Tryz.prog 6 #[.agg #[.bool true, .slice cp cn cc, .slice kp kn kc, .slice qp qn qc]] w (Ret (BoolM (mayBr (ks.map Bv.l) kids) w)) := by
  have hql : kids.length = qn := by have := h.kids.len; simpa using this
  have hkl := h.keys.len
  have hqn : qn ≤ 5000 := by omega
  have hkn : kn ≤ 5000 := by have := kz_len ks; omega
  have HM0 := Lib.hid (Mod.of_alloc w (.cells #[.bool true, .slice cp cn cc, .slice kp kn kc, .slice qp qn qc] 26))
  have HA0 := Lib.hid (at_alloc w (.cells #[.bool true, .slice cp cn cc, .slice kp kn kc, .slice qp qn qc] 26))
  have HLEN := Lib.hid (qlen_br cp cn cc xs kp kn kc ks qp qn qc kids _ (h.mod0 HM0.out) hsm)
  obtain ⟨b2, off2, hp2, hcs2⟩ := h.kids.at_
  have hidx2 := fun W => Sl.idx (P := Tryz.prog) (cap := qc) Tryz.underlying24 sizeKids (fun h => (hp2 h).1) W .i64
  simp only [Nat.mul_one] at hidx2
  have HLT2 : Hid (0 < qn → b2 < w.heap.size) := fun h => (hp2 h).2
  have HG2 : Hid (∀ i, i < qn → ∃ x, kids[i]? = some x ∧ w.cell? ⟨b2, off2 + i, none⟩ = some (.int .i64 x)) := fun i hi => by
    have hk : i < kids.length := by omega
    exact ⟨_, List.getElem?_eq_getElem hk, hcs2 i _ (by rw [List.getElem?_map, List.getElem?_eq_getElem hk]; rfl)⟩
  have HKEYS := fun W hm => Lib.hid (qkeys_any kp kn kc ks W (h.keys.mod0 (w' := W) hm))
  have HV : Hid (1016 < brLen (ks.map Bv.l) → mayBr (ks.map Bv.l) kids = false) := mayBr_long
  have HVK : Hid (∀ x ∈ kids, mayPgN x = false → mayBr (ks.map Bv.l) kids = false) := fun x hx => mayBr_kid hx
  have HVE : Hid (brLen (ks.map Bv.l) ≤ 1016 → kids.all mayPgN = true → mayBr (ks.map Bv.l) kids = (riseL (ks.map Bv.l) && decide (qn = kn + 1))) := fun h1 h2 => by
    unfold mayBr; rw [h2, decide_eq_true h1, hql, List.length_map, hkl]; simp
  have HQL := Lib.hid hql
  have hbl0 : brLen (ks.map Bv.l) ≤ 100000 := by
    have e : ∀ l : List Bv, (∀ k ∈ l, k.In w) → ksum (l.map Bv.l) ≤ 5 * kz l := by
      intro l
      induction l with
      | nil => intro _; simp [ksum, kz]
      | cons a r ih =>
        intro hl
        have h1 := ih (fun k hk => hl k (by simp [hk]))
        have h2 := (hl a (by simp)).len
        simp only [ksum, kz, List.map_cons, List.sum_cons] at h1 ⊢
        omega
    have := e ks h.keys.io
    unfold brLen; omega
  generalize brLen (ks.map Bv.l) = BL at *
  generalize mayBr (ks.map Bv.l) kids = MB at *
  have c0 : (w.alloc (.cells #[.bool true, .slice cp cn cc, .slice kp kn kc, .slice qp qn qc] 26)).cell? ⟨w.heap.size, 0, none⟩ = some (.bool true) := cell_of_at HA0.out 0
  have c1 : (w.alloc (.cells #[.bool true, .slice cp cn cc, .slice kp kn kc, .slice qp qn qc] 26)).cell? ⟨w.heap.size, 1, none⟩ = some (.slice cp cn cc) := cell_of_at HA0.out 1
  have c2 : (w.alloc (.cells #[.bool true, .slice cp cn cc, .slice kp kn kc, .slice qp qn qc] 26)).cell? ⟨w.heap.size, 2, none⟩ = some (.slice kp kn kc) := cell_of_at HA0.out 2
  have c3 : (w.alloc (.cells #[.bool true, .slice cp cn cc, .slice kp kn kc, .slice qp qn qc] 26)).cell? ⟨w.heap.size, 3, none⟩ = some (.slice qp qn qc) := cell_of_at HA0.out 3
  clear h hp2 hcs2 hsm hkl hql
  go_enter Tryz.func6, Tryz.ntmps6
  go_wp2_with fail
  refine HLEN.out.mono ?_
  rintro _ w1 ⟨_, rfl, rfl, m1⟩
  have M1 := Lib.hid (HM0.out.same m1)
  have HA1 := Lib.hid (m1.at HA0.out (by simp))
  obtain ⟨A, hA⟩ : ∃ A, A = w.heap.size := ⟨_, rfl⟩
  have d0 : w1.cell? ⟨w.heap.size, 0, none⟩ = some (.bool true) := cell_of_at HA1.out 0
  rw [← hA] at HA1 d0 ⊢
  clear m1 c0 c1 c2 c3 HLEN HA0 HM0 hA
  by_cases hbig : 1016 < BL
  · have HF : Hid (MB = false) := HV.out hbig
    have hz : (1016 : Int) < (BL : Int) := by omega
    clear hbig
    go_wp2
    go_ret
    exact .mk ⟨by rw [HF.out]; rfl, M1.out⟩
  have hz : ¬ ((1016 : Int) < (BL : Int)) := by omega
  have HBL : Hid (BL ≤ 1016) := by unfold Hid; omega
  clear hbig
  go_wp2
  go_loopw [3] (fun iv wr => ∃ i : Nat, i ≤ qn ∧ iv = .int .i64 i ∧ (kids.take i).all mayPgN = true ∧ wr.heap[A]? = some (.cells #[.bool true, .slice cp cn cc, .slice kp kn kc, .slice qp qn qc] 26 (0, 0)) ∧ Mod [] w wr) (fun iv _ => qn - (intOf iv).toNat)
  case atStart => exact ⟨0, by omega, rfl, rfl, HA1.out, M1.out⟩
  case round =>
    obtain ⟨i, hi, rfl, hall, hat, hm⟩ := hrel
    have g3 : wr.cell? ⟨A, 3, none⟩ = some (.slice qp qn qc) := cell_of_at hat 3
    have g2 : wr.cell? ⟨A, 2, none⟩ = some (.slice kp kn kc) := cell_of_at hat 2
    have HALL := Lib.hid hall
    have HAT := Lib.hid hat
    have HM := Lib.hid hm
    clear hall hat hm HA1 M1 d0
    by_cases hlt : i < qn
    · obtain ⟨x, hx, e0⟩ := HG2.out i hlt
      have hbl := HLT2.out (by omega)
      rw [← HM.out.cell (a := ⟨b2, _, none⟩) hbl (by simp)] at e0
      have HX := Lib.hid hx
      have hwi : IntKind.i64.wrap ((i : Int) + 1) = (i : Int) + 1 := IntWalk.i64_in _ (by omega)
      have hidxi := fun W => hidx2 W i hlt
      have HF : Hid (mayPgN x = false → MB = false) := HVK.out x (List.mem_of_getElem? hx)
      have HT : Hid (mayPgN x = true → (kids.take (i + 1)).all mayPgN = true) := fun h => by
        obtain ⟨h1, h2⟩ := List.getElem?_eq_some_iff.1 hx
        rw [List.take_succ_eq_append_getElem h1, List.all_append, HALL.out, h2]; simp [h]
      clear hx
      go_wp2_with fail
      refine (qpage_any x wr).mono ?_
      rintro _ _ ⟨_, rfl, rfl, rfl⟩
      generalize mayPgN x = P at *
      cases P with
      | false =>
        go_wp2
        go_ret
        exact .mk ⟨by rw [HF.out (by trivial)]; rfl, HM.out⟩
      | true =>
        go_wp2
        go_roundw
        case rel => exact ⟨i + 1, by omega, by go_num, HT.out (by trivial), HAT.out, HM.out⟩
        case measure => simp [intOf]; omega
    · obtain rfl : i = qn := by omega
      have HE : Hid (MB = (riseL (ks.map Bv.l) && decide (i = kn + 1))) := HVE.out HBL.out (by have := HALL.out; rwa [List.take_of_length_le (by rw [HQL.out]; omega)] at this)
      have hwk : IntKind.i64.wrap ((kn : Int) + 1) = (kn : Int) + 1 := IntWalk.i64_in _ (by omega)
      go_wp2_with fail
      refine (HKEYS wr HM.out).out.mono ?_
      rintro _ w2 ⟨_, rfl, rfl, m2⟩
      have h2 : w2.cell? ⟨A, 2, none⟩ = some (.slice kp kn kc) := cell_of_at (m2.at HAT.out (by simp)) 2
      have h3 : w2.cell? ⟨A, 3, none⟩ = some (.slice qp i qc) := cell_of_at (m2.at HAT.out (by simp)) 3
      have M2 := Lib.hid (HM.out.same m2)
      clear m2
      generalize riseL (ks.map Bv.l) = RL at *
      cases RL with
      | false =>
        go_wp2
        go_ret
        exact .mk ⟨by rw [HE.out]; rfl, M2.out⟩
      | true =>
        go_wp2
        go_ret
        refine .mk ⟨?_, M2.out⟩
        rw [HE.out]
        show Value.bool ((i : Int) == (kn : Int) + 1) = _
        congr 1
        clear hwk
        rw [Bool.true_and, Bool.eq_iff_iff]
        simp only [beq_iff_eq, decide_eq_true_eq]
        omega
set_option maxRecDepth 100000 in
set_option maxHeartbeats 8000000 in
theorem qmay_leaf (cp : Option Addr) (cn cc : Nat) (xs : List Cv) (kp : Option Addr) (kn kc : Nat) (ks : List Bv) (qp : Option Addr) (qn qc : Nat) (kids : List Int) (w : World) (h : NdIn w false cp cn cc xs kp kn kc ks qp qn qc kids) (hsm : csz xs + kz ks + kids.length ≤ 5000) :
    Calls Tryz.prog 6 #[.agg #[.bool false, .slice cp cn cc, .slice kp kn kc, .slice qp qn qc]] w (Ret (BoolM (mayLeaf (xs.map Cv.pl)) w)) := by
  have hxl := h.cells.len
  have hcn : cn ≤ 5000 := by have := csz_len xs; omega
  obtain ⟨i0, hi0, hy0, hy1, hy2⟩ := info_parts infoSl
  have HM0 := Lib.hid (Mod.of_alloc w (.cells #[.bool false, .slice cp cn cc, .slice kp kn kc, .slice qp qn qc] 26))
  have HA0 := Lib.hid (at_alloc w (.cells #[.bool false, .slice cp cn cc, .slice kp kn kc, .slice qp qn qc] 26))
  have HLEN := Lib.hid (qlen_leaf cp cn cc xs kp kn kc ks qp qn qc kids _ (h.mod0 HM0.out) hsm)
  obtain ⟨b2, off2, hp2, hcs2⟩ := h.cells.sl.at_
  have hidx2 := fun W => Sl.idx (P := Tryz.prog) (cap := cc) Tryz.underlying22 sizeRCells (fun h => (hp2 h).1) W .i64
  have HLT2 : Hid (0 < cn → b2 < w.heap.size) := fun h => (hp2 h).2
  have HG2 : Hid (∀ i, i < cn → ∃ kp kn kc kl ip im ic il sz hd, xs[i]? = some (⟨⟨kp, kn, kc, kl⟩, ⟨ip, im, ic, il⟩, sz, hd⟩ : Cv) ∧ il.length = im ∧ w.cell? ⟨b2, off2 + i * 4, none⟩ = some (.slice kp kn kc) ∧ w.cell? ⟨b2, off2 + i * 4 + 1, none⟩ = some (.slice ip im ic) ∧
      w.cell? ⟨b2, off2 + i * 4 + 2, none⟩ = some (.int .i64 sz) ∧ w.cell? ⟨b2, off2 + i * 4 + 3, none⟩ = some (.int .i64 hd)) := fun i hi => by
    obtain ⟨kp, kn, kc, kl, ip, im, ic, il, sz, hd, hx, _, _, _, d0, d1, d2, d3⟩ := h.cells.get hcs2 i hi
    exact ⟨kp, kn, kc, kl, ip, im, ic, il, sz, hd, hx, (h.cells.io _ (List.mem_of_getElem? hx)).2.len, d0, d1, d2, d3⟩
  have HKEYS := fun p c W (hm : Mod [] w W) (hs : Sl W 1 p cn c ((xs.map Cv.k).map Bv.val)) => Lib.hid (qkeys_any p cn c (xs.map Cv.k) W ⟨hs, fun k hk => by
    obtain ⟨x, hx, rfl⟩ := List.mem_map.1 hk
    exact (h.cells.io x hx).1.mod0 hm⟩)
  have hkk : (xs.map Cv.k).map Bv.l = (xs.map Cv.pl).map Cl.key := by simp [Function.comp_def, Cv.pl]
  rw [hkk] at HKEYS
  have HV : Hid (1016 < leafLen (xs.map Cv.pl) → mayLeaf (xs.map Cv.pl) = false) := mayLeaf_long
  have HVK : Hid (∀ x ∈ xs, mayCl x.pl = false → mayLeaf (xs.map Cv.pl) = false) := fun x hx => mayLeaf_cell (List.mem_map_of_mem hx)
  have HVE : Hid (leafLen (xs.map Cv.pl) ≤ 1016 → (xs.map Cv.pl).all mayCl = true → mayLeaf (xs.map Cv.pl) = riseL ((xs.map Cv.pl).map Cl.key)) := fun h1 h2 => by
    unfold mayLeaf; rw [h2, decide_eq_true h1]; simp
  have HXL := Lib.hid hxl
  have hbl0 : leafLen (xs.map Cv.pl) ≤ 100000 := by
    have e : ∀ l : List Cv, (∀ x ∈ l, x.k.In w ∧ x.i.In w) → lsum (l.map Cv.pl) ≤ 9 * csz l := by
      intro l
      induction l with
      | nil => intro _; simp [lsum, csz]
      | cons a r ih =>
        intro hl
        have h1 := ih (fun k hk => hl k (by simp [hk]))
        have h2 := (hl a (by simp)).1.len
        have h3 := (hl a (by simp)).2.len
        simp only [lsum, csz, List.map_cons, List.sum_cons, clLen, Cv.pl] at h1 ⊢
        split <;> omega
    have := e xs h.cells.io
    unfold leafLen; omega
  generalize leafLen (xs.map Cv.pl) = BL at *
  generalize riseL ((xs.map Cv.pl).map Cl.key) = RL at *
  generalize mayLeaf (xs.map Cv.pl) = MB at *
  have c0 : (w.alloc (.cells #[.bool false, .slice cp cn cc, .slice kp kn kc, .slice qp qn qc] 26)).cell? ⟨w.heap.size, 0, none⟩ = some (.bool false) := cell_of_at HA0.out 0
  have c1 : (w.alloc (.cells #[.bool false, .slice cp cn cc, .slice kp kn kc, .slice qp qn qc] 26)).cell? ⟨w.heap.size, 1, none⟩ = some (.slice cp cn cc) := cell_of_at HA0.out 1
  have c2 : (w.alloc (.cells #[.bool false, .slice cp cn cc, .slice kp kn kc, .slice qp qn qc] 26)).cell? ⟨w.heap.size, 2, none⟩ = some (.slice kp kn kc) := cell_of_at HA0.out 2
  have c3 : (w.alloc (.cells #[.bool false, .slice cp cn cc, .slice kp kn kc, .slice qp qn qc] 26)).cell? ⟨w.heap.size, 3, none⟩ = some (.slice qp qn qc) := cell_of_at HA0.out 3
  clear h hp2 hcs2 hsm hxl hkk
  go_enter Tryz.func6, Tryz.ntmps6
  go_wp2_with fail
  refine HLEN.out.mono ?_
  rintro _ w1 ⟨_, rfl, rfl, m1⟩
  have M1 := Lib.hid (HM0.out.same m1)
  have HA1 := Lib.hid (m1.at HA0.out (by simp))
  obtain ⟨A, hA⟩ : ∃ A, A = w.heap.size := ⟨_, rfl⟩
  have d0 : w1.cell? ⟨w.heap.size, 0, none⟩ = some (.bool false) := cell_of_at HA1.out 0
  have HAW : Hid (A = w.heap.size) := hA
  rw [← hA] at HA1 d0 ⊢
  clear m1 c0 c1 c2 c3 HLEN HA0 HM0 hA
  by_cases hbig : 1016 < BL
  · have HF : Hid (MB = false) := HV.out hbig
    have hz : (1016 : Int) < (BL : Int) := by omega
    clear hbig
    go_wp2
    go_ret
    exact .mk ⟨by rw [HF.out]; rfl, M1.out⟩
  have hz : ¬ ((1016 : Int) < (BL : Int)) := by omega
  have HBL : Hid (BL ≤ 1016) := by unfold Hid; omega
  clear hbig
  go_wp2
  go_loopw [4, 5] (fun lv iv wr => ∃ (i : Nat) (p : Option Addr) (c : Nat), i ≤ cn ∧ lv = .slice p i c ∧ iv = .int .i64 i ∧ ((xs.take i).map Cv.pl).all mayCl = true ∧ wr.ownsRow (A + 1) 40 1 (.slice p i c) i (((xs.take i).map Cv.k).map Bv.val) ∧ wr.heap[A]? = some (.cells #[.bool false, .slice cp cn cc, .slice kp kn kc, .slice qp qn qc] 26 (0, 0)) ∧ Mod [] w wr) (fun _ iv _ => cn - (intOf iv).toNat)
  case atStart => exact ⟨0, none, 0, by omega, rfl, rfl, rfl, World.ownsRow_nil _ _ _ _, HA1.out, M1.out⟩
  case round =>
    obtain ⟨i, p, c, hi, rfl, rfl, hall, hrow, hat, hm⟩ := hrel
    have g1 : wr.cell? ⟨A, 1, none⟩ = some (.slice cp cn cc) := cell_of_at hat 1
    have HALL := Lib.hid hall
    have HAT := Lib.hid hat
    have HM := Lib.hid hm
    have HROW := Lib.hid hrow
    have hsz : A + 1 ≤ wr.heap.size := by have := lt_of_at hat; omega
    clear hall hat hm HA1 M1 d0 hrow
    by_cases hlt : i < cn
    · obtain ⟨xp, xn, xc, xl, yp, yn, yc, yl, sz, hd, hx, hyl, e0, e1, e2, e3⟩ := HG2.out i hlt
      have hbl := HLT2.out (by omega)
      rw [← HM.out.cell (a := ⟨b2, _, none⟩) hbl (by simp)] at e0 e1 e2 e3
      have HYL := Lib.hid hyl
      have hwi : IntKind.i64.wrap ((i : Int) + 1) = (i : Int) + 1 := IntWalk.i64_in _ (by omega)
      have hidxi := fun W => hidx2 W i hlt
      obtain ⟨cl, hcl⟩ : ∃ cl : Cl, cl = ⟨xl, yl, sz, hd⟩ := ⟨_, rfl⟩
      have HF : Hid (mayCl cl = false → MB = false) := by rw [hcl]; exact HVK.out _ (List.mem_of_getElem? hx)
      have HT : Hid (mayCl cl = true → ((xs.take (i + 1)).map Cv.pl).all mayCl = true) := fun h => by
        obtain ⟨h1, h2⟩ := List.getElem?_eq_some_iff.1 hx
        rw [List.take_succ_eq_append_getElem h1, List.map_append, List.all_append, HALL.out, h2]
        rw [hcl] at h; simp [Cv.pl, h]
      have HKX : Hid (((xs.take (i + 1)).map Cv.k).map Bv.val = ((xs.take i).map Cv.k).map Bv.val ++ [.slice xp xn xc]) := by
        obtain ⟨h1, h2⟩ := List.getElem?_eq_some_iff.1 hx
        unfold Hid
        rw [List.take_succ_eq_append_getElem h1, List.map_append, List.map_append, h2]; rfl
      have HC : Hid (mayCl cl = if sz = 0 ∧ hd = 0 then decide (yn ≤ 200) else decide (200 < sz) && decide (sz ≤ 16384) && mayPgN hd && decide (yn = 0)) := by unfold Hid; rw [hcl, ← hyl]; rfl
      clear hx hyl hcl
      have HSRC : Hid (Sl ((wr.alloc (.cells #[.slice xp xn xc, .slice yp yn yc, .int .i64 sz, .int .i64 hd] 57)).alloc (.cells #[.slice xp xn xc] 40)) 1 (some ⟨wr.heap.size + 1, 0, none⟩) 1 1 [.slice xp xn xc]) := by
        have h := Sl.one_new (wr.alloc (.cells #[.slice xp xn xc, .slice yp yn yc, .int .i64 sz, .int .i64 hd] 57)) (.slice xp xn xc) 40 rfl
        rw [World.size_alloc] at h; exact h
      have MA : Hid (Mod [] wr ((wr.alloc (.cells #[.slice xp xn xc, .slice yp yn yc, .int .i64 sz, .int .i64 hd] 57)).alloc (.cells #[.slice xp xn xc] 40))) := (Mod.of_alloc wr _).alloc
      have HB : Hid (((wr.alloc (.cells #[.slice xp xn xc, .slice yp yn yc, .int .i64 sz, .int .i64 hd] 57)).alloc (.cells #[.slice xp xn xc] 40)).heap[wr.heap.size]? = some (.cells #[.slice xp xn xc, .slice yp yn yc, .int .i64 sz, .int .i64 hd] 57 (0, 0))) := at_alloc_other (at_alloc wr _) _
      by_cases hs0 : sz = 0
      · have HP : Hid (mayPgN hd = mayPgN hd) := rfl
        have hz0 : (sz == 0) = true := by simpa using hs0
        have hz9 : decide (200 < sz) = false := decide_eq_false (by omega)
        by_cases hh0 : hd = 0
        · have hz5 : (hd == 0) = true := by simpa using hh0
          by_cases hy : yn ≤ 200
          · have hgood : mayCl cl = true := by rw [HC.out, if_pos ⟨hs0, hh0⟩, decide_eq_true hy]
            have hz1 : decide ((yn : Int) ≤ 200) = true := decide_eq_true (by omega)
            clear hs0 hh0
            go_wp2_with (first
              | (at_builtin; refine wpList_append_src _ rfl _ _ _ rfl (A + 1) 40 i0 _ 1 24 Tryz.underlying23 hi0 hy0 hy1 hy2 rfl (by omega) (.slice p i c) i _ rfl (ownsRow_mod HROW.out MA.out (by simp)) (some ⟨wr.heap.size + 1, 0, none⟩) 1 1 [.slice xp xn xc] rfl HSRC.out (i + 1) (by omega) (by unfold maxLen; omega) (by omega) (by simp; omega) ?_; intro p4 c4 w4 hown4 hgrow4 _ hlie4; (have hm4 : Mod (Value.slice p i c).ownBlock.toList ((wr.alloc (.cells #[.slice xp xn xc, .slice yp yn yc, .int .i64 sz, .int .i64 hd] 57)).alloc (.cells #[.slice xp xn xc] 40)) w4 := Mod.of_grown' hgrow4); (have hB4 := hm4.at HB.out (fun hb => by have := own_lt HROW.out _ (by simpa using hb); omega)); (have k2 : w4.cell? ⟨wr.heap.size, 2, none⟩ = some (.int .i64 sz) := cell_of_at hB4 2); (have k3 : w4.cell? ⟨wr.heap.size, 3, none⟩ = some (.int .i64 hd) := cell_of_at hB4 3); (have k1 : w4.cell? ⟨wr.heap.size, 1, none⟩ = some (.slice yp yn yc) := cell_of_at hB4 1); (have HATN : Hid (w4.heap[A]? = some (.cells #[.bool false, .slice cp cn cc, .slice kp kn kc, .slice qp qn qc] 26 (0, 0))) := hm4.at (MA.out.at HAT.out (by simp)) (fun hb => by have := own_base HROW.out _ (by simpa using hb); omega)); (have HMN : Hid (Mod [] w w4) := (HM.out.same MA.out).trans hm4 (fun b hb => Or.inr (by have := own_base HROW.out b (by simpa using hb); have := HAW.out; omega))); (have HRW : Hid (w4.ownsRow (A + 1) 40 1 (.slice p4 (i + 1) c4) (i + 1) (((xs.take (i + 1)).map Cv.k).map Bv.val)) := by unfold Hid; rw [HKX.out]; exact hown4); clear hown4 hgrow4 hlie4 hm4 hB4)
              | (go_at_call 20; refine (qpage_any hd _).mono ?_; rintro _ _ ⟨_, rfl, rfl, rfl⟩; rw [HP.out])
              | fail)
            go_wp2
            go_roundw
            case rel => exact ⟨i + 1, _, _, by omega, rfl, by go_num, HT.out hgood, HRW.out, HATN.out, HMN.out⟩
            case measure => simp [intOf]; omega
          · have hbad : mayCl cl = false := by rw [HC.out, if_pos ⟨hs0, hh0⟩, decide_eq_false hy]
            have hz1 : decide ((yn : Int) ≤ 200) = false := decide_eq_false (by omega)
            clear hs0 hh0
            go_wp2_with (first
              | (at_builtin; refine wpList_append_src _ rfl _ _ _ rfl (A + 1) 40 i0 _ 1 24 Tryz.underlying23 hi0 hy0 hy1 hy2 rfl (by omega) (.slice p i c) i _ rfl (ownsRow_mod HROW.out MA.out (by simp)) (some ⟨wr.heap.size + 1, 0, none⟩) 1 1 [.slice xp xn xc] rfl HSRC.out (i + 1) (by omega) (by unfold maxLen; omega) (by omega) (by simp; omega) ?_; intro p4 c4 w4 hown4 hgrow4 _ hlie4; (have hm4 : Mod (Value.slice p i c).ownBlock.toList ((wr.alloc (.cells #[.slice xp xn xc, .slice yp yn yc, .int .i64 sz, .int .i64 hd] 57)).alloc (.cells #[.slice xp xn xc] 40)) w4 := Mod.of_grown' hgrow4); (have hB4 := hm4.at HB.out (fun hb => by have := own_lt HROW.out _ (by simpa using hb); omega)); (have k2 : w4.cell? ⟨wr.heap.size, 2, none⟩ = some (.int .i64 sz) := cell_of_at hB4 2); (have k3 : w4.cell? ⟨wr.heap.size, 3, none⟩ = some (.int .i64 hd) := cell_of_at hB4 3); (have k1 : w4.cell? ⟨wr.heap.size, 1, none⟩ = some (.slice yp yn yc) := cell_of_at hB4 1); (have HATN : Hid (w4.heap[A]? = some (.cells #[.bool false, .slice cp cn cc, .slice kp kn kc, .slice qp qn qc] 26 (0, 0))) := hm4.at (MA.out.at HAT.out (by simp)) (fun hb => by have := own_base HROW.out _ (by simpa using hb); omega)); (have HMN : Hid (Mod [] w w4) := (HM.out.same MA.out).trans hm4 (fun b hb => Or.inr (by have := own_base HROW.out b (by simpa using hb); have := HAW.out; omega))); (have HRW : Hid (w4.ownsRow (A + 1) 40 1 (.slice p4 (i + 1) c4) (i + 1) (((xs.take (i + 1)).map Cv.k).map Bv.val)) := by unfold Hid; rw [HKX.out]; exact hown4); clear hown4 hgrow4 hlie4 hm4 hB4)
              | (go_at_call 20; refine (qpage_any hd _).mono ?_; rintro _ _ ⟨_, rfl, rfl, rfl⟩; rw [HP.out])
              | fail)
            go_wp2
            go_ret
            exact .mk ⟨by rw [HF.out hbad]; rfl, HMN.out⟩
        · have hbad : mayCl cl = false := by rw [HC.out, if_neg (fun h => hh0 h.2), hz9]; rfl
          have hz1 : (hd == 0) = false := by simpa using hh0
          clear hs0 hh0
          go_wp2_with (first
            | (at_builtin; refine wpList_append_src _ rfl _ _ _ rfl (A + 1) 40 i0 _ 1 24 Tryz.underlying23 hi0 hy0 hy1 hy2 rfl (by omega) (.slice p i c) i _ rfl (ownsRow_mod HROW.out MA.out (by simp)) (some ⟨wr.heap.size + 1, 0, none⟩) 1 1 [.slice xp xn xc] rfl HSRC.out (i + 1) (by omega) (by unfold maxLen; omega) (by omega) (by simp; omega) ?_; intro p4 c4 w4 hown4 hgrow4 _ hlie4; (have hm4 : Mod (Value.slice p i c).ownBlock.toList ((wr.alloc (.cells #[.slice xp xn xc, .slice yp yn yc, .int .i64 sz, .int .i64 hd] 57)).alloc (.cells #[.slice xp xn xc] 40)) w4 := Mod.of_grown' hgrow4); (have hB4 := hm4.at HB.out (fun hb => by have := own_lt HROW.out _ (by simpa using hb); omega)); (have k2 : w4.cell? ⟨wr.heap.size, 2, none⟩ = some (.int .i64 sz) := cell_of_at hB4 2); (have k3 : w4.cell? ⟨wr.heap.size, 3, none⟩ = some (.int .i64 hd) := cell_of_at hB4 3); (have k1 : w4.cell? ⟨wr.heap.size, 1, none⟩ = some (.slice yp yn yc) := cell_of_at hB4 1); (have HATN : Hid (w4.heap[A]? = some (.cells #[.bool false, .slice cp cn cc, .slice kp kn kc, .slice qp qn qc] 26 (0, 0))) := hm4.at (MA.out.at HAT.out (by simp)) (fun hb => by have := own_base HROW.out _ (by simpa using hb); omega)); (have HMN : Hid (Mod [] w w4) := (HM.out.same MA.out).trans hm4 (fun b hb => Or.inr (by have := own_base HROW.out b (by simpa using hb); have := HAW.out; omega))); (have HRW : Hid (w4.ownsRow (A + 1) 40 1 (.slice p4 (i + 1) c4) (i + 1) (((xs.take (i + 1)).map Cv.k).map Bv.val)) := by unfold Hid; rw [HKX.out]; exact hown4); clear hown4 hgrow4 hlie4 hm4 hB4)
            | (go_at_call 20; refine (qpage_any hd _).mono ?_; rintro _ _ ⟨_, rfl, rfl, rfl⟩; rw [HP.out])
            | fail)
          go_wp2
          go_ret
          exact .mk ⟨by rw [HF.out hbad]; rfl, HMN.out⟩
      · have hz0 : (sz == 0) = false := by simpa using hs0
        have HC2 : Hid (mayCl cl = (decide (200 < sz) && decide (sz ≤ 16384) && mayPgN hd && decide (yn = 0))) := by unfold Hid; rw [HC.out, if_neg (fun h => hs0 h.1)]
        by_cases hs2 : 200 < sz
        · have hz2 : decide (200 < sz) = true := decide_eq_true hs2
          by_cases hs3 : sz ≤ 16384
          · have hz3 : decide (sz ≤ 16384) = true := decide_eq_true hs3
            obtain ⟨P, hP⟩ : ∃ P, mayPgN hd = P := ⟨_, rfl⟩
            have HP := Lib.hid hP
            clear hP
            cases P with
            | false =>
              have hbad : mayCl cl = false := by rw [HC2.out, HP.out]; simp
              go_wp2_with (first
                | (at_builtin; refine wpList_append_src _ rfl _ _ _ rfl (A + 1) 40 i0 _ 1 24 Tryz.underlying23 hi0 hy0 hy1 hy2 rfl (by omega) (.slice p i c) i _ rfl (ownsRow_mod HROW.out MA.out (by simp)) (some ⟨wr.heap.size + 1, 0, none⟩) 1 1 [.slice xp xn xc] rfl HSRC.out (i + 1) (by omega) (by unfold maxLen; omega) (by omega) (by simp; omega) ?_; intro p4 c4 w4 hown4 hgrow4 _ hlie4; (have hm4 : Mod (Value.slice p i c).ownBlock.toList ((wr.alloc (.cells #[.slice xp xn xc, .slice yp yn yc, .int .i64 sz, .int .i64 hd] 57)).alloc (.cells #[.slice xp xn xc] 40)) w4 := Mod.of_grown' hgrow4); (have hB4 := hm4.at HB.out (fun hb => by have := own_lt HROW.out _ (by simpa using hb); omega)); (have k2 : w4.cell? ⟨wr.heap.size, 2, none⟩ = some (.int .i64 sz) := cell_of_at hB4 2); (have k3 : w4.cell? ⟨wr.heap.size, 3, none⟩ = some (.int .i64 hd) := cell_of_at hB4 3); (have k1 : w4.cell? ⟨wr.heap.size, 1, none⟩ = some (.slice yp yn yc) := cell_of_at hB4 1); (have HATN : Hid (w4.heap[A]? = some (.cells #[.bool false, .slice cp cn cc, .slice kp kn kc, .slice qp qn qc] 26 (0, 0))) := hm4.at (MA.out.at HAT.out (by simp)) (fun hb => by have := own_base HROW.out _ (by simpa using hb); omega)); (have HMN : Hid (Mod [] w w4) := (HM.out.same MA.out).trans hm4 (fun b hb => Or.inr (by have := own_base HROW.out b (by simpa using hb); have := HAW.out; omega))); (have HRW : Hid (w4.ownsRow (A + 1) 40 1 (.slice p4 (i + 1) c4) (i + 1) (((xs.take (i + 1)).map Cv.k).map Bv.val)) := by unfold Hid; rw [HKX.out]; exact hown4); clear hown4 hgrow4 hlie4 hm4 hB4)
                | (go_at_call 20; refine (qpage_any hd _).mono ?_; rintro _ _ ⟨_, rfl, rfl, rfl⟩; rw [HP.out])
                | fail)
              go_wp2
              go_ret
              exact .mk ⟨by rw [HF.out hbad]; rfl, HMN.out⟩
            | true =>
              by_cases hy : yn = 0
              · have hgood : mayCl cl = true := by rw [HC2.out, HP.out, hz2, hz3, decide_eq_true hy]; rfl
                have hz4 : ((yn : Int) == 0) = true := by simp; omega
                clear hy
                go_wp2_with (first
                  | (at_builtin; refine wpList_append_src _ rfl _ _ _ rfl (A + 1) 40 i0 _ 1 24 Tryz.underlying23 hi0 hy0 hy1 hy2 rfl (by omega) (.slice p i c) i _ rfl (ownsRow_mod HROW.out MA.out (by simp)) (some ⟨wr.heap.size + 1, 0, none⟩) 1 1 [.slice xp xn xc] rfl HSRC.out (i + 1) (by omega) (by unfold maxLen; omega) (by omega) (by simp; omega) ?_; intro p4 c4 w4 hown4 hgrow4 _ hlie4; (have hm4 : Mod (Value.slice p i c).ownBlock.toList ((wr.alloc (.cells #[.slice xp xn xc, .slice yp yn yc, .int .i64 sz, .int .i64 hd] 57)).alloc (.cells #[.slice xp xn xc] 40)) w4 := Mod.of_grown' hgrow4); (have hB4 := hm4.at HB.out (fun hb => by have := own_lt HROW.out _ (by simpa using hb); omega)); (have k2 : w4.cell? ⟨wr.heap.size, 2, none⟩ = some (.int .i64 sz) := cell_of_at hB4 2); (have k3 : w4.cell? ⟨wr.heap.size, 3, none⟩ = some (.int .i64 hd) := cell_of_at hB4 3); (have k1 : w4.cell? ⟨wr.heap.size, 1, none⟩ = some (.slice yp yn yc) := cell_of_at hB4 1); (have HATN : Hid (w4.heap[A]? = some (.cells #[.bool false, .slice cp cn cc, .slice kp kn kc, .slice qp qn qc] 26 (0, 0))) := hm4.at (MA.out.at HAT.out (by simp)) (fun hb => by have := own_base HROW.out _ (by simpa using hb); omega)); (have HMN : Hid (Mod [] w w4) := (HM.out.same MA.out).trans hm4 (fun b hb => Or.inr (by have := own_base HROW.out b (by simpa using hb); have := HAW.out; omega))); (have HRW : Hid (w4.ownsRow (A + 1) 40 1 (.slice p4 (i + 1) c4) (i + 1) (((xs.take (i + 1)).map Cv.k).map Bv.val)) := by unfold Hid; rw [HKX.out]; exact hown4); clear hown4 hgrow4 hlie4 hm4 hB4)
                  | (go_at_call 20; refine (qpage_any hd _).mono ?_; rintro _ _ ⟨_, rfl, rfl, rfl⟩; rw [HP.out])
                  | fail)
                go_wp2
                go_roundw
                case rel => exact ⟨i + 1, _, _, by omega, rfl, by go_num, HT.out hgood, HRW.out, HATN.out, HMN.out⟩
                case measure => simp [intOf]; omega
              · have hbad : mayCl cl = false := by rw [HC2.out, decide_eq_false hy]; simp
                have hz4 : ((yn : Int) == 0) = false := by simp; omega
                go_wp2_with (first
                  | (at_builtin; refine wpList_append_src _ rfl _ _ _ rfl (A + 1) 40 i0 _ 1 24 Tryz.underlying23 hi0 hy0 hy1 hy2 rfl (by omega) (.slice p i c) i _ rfl (ownsRow_mod HROW.out MA.out (by simp)) (some ⟨wr.heap.size + 1, 0, none⟩) 1 1 [.slice xp xn xc] rfl HSRC.out (i + 1) (by omega) (by unfold maxLen; omega) (by omega) (by simp; omega) ?_; intro p4 c4 w4 hown4 hgrow4 _ hlie4; (have hm4 : Mod (Value.slice p i c).ownBlock.toList ((wr.alloc (.cells #[.slice xp xn xc, .slice yp yn yc, .int .i64 sz, .int .i64 hd] 57)).alloc (.cells #[.slice xp xn xc] 40)) w4 := Mod.of_grown' hgrow4); (have hB4 := hm4.at HB.out (fun hb => by have := own_lt HROW.out _ (by simpa using hb); omega)); (have k2 : w4.cell? ⟨wr.heap.size, 2, none⟩ = some (.int .i64 sz) := cell_of_at hB4 2); (have k3 : w4.cell? ⟨wr.heap.size, 3, none⟩ = some (.int .i64 hd) := cell_of_at hB4 3); (have k1 : w4.cell? ⟨wr.heap.size, 1, none⟩ = some (.slice yp yn yc) := cell_of_at hB4 1); (have HATN : Hid (w4.heap[A]? = some (.cells #[.bool false, .slice cp cn cc, .slice kp kn kc, .slice qp qn qc] 26 (0, 0))) := hm4.at (MA.out.at HAT.out (by simp)) (fun hb => by have := own_base HROW.out _ (by simpa using hb); omega)); (have HMN : Hid (Mod [] w w4) := (HM.out.same MA.out).trans hm4 (fun b hb => Or.inr (by have := own_base HROW.out b (by simpa using hb); have := HAW.out; omega))); (have HRW : Hid (w4.ownsRow (A + 1) 40 1 (.slice p4 (i + 1) c4) (i + 1) (((xs.take (i + 1)).map Cv.k).map Bv.val)) := by unfold Hid; rw [HKX.out]; exact hown4); clear hown4 hgrow4 hlie4 hm4 hB4)
                  | (go_at_call 20; refine (qpage_any hd _).mono ?_; rintro _ _ ⟨_, rfl, rfl, rfl⟩; rw [HP.out])
                  | fail)
                go_wp2
                go_ret
                exact .mk ⟨by rw [HF.out hbad]; rfl, HMN.out⟩
          · have HP : Hid (mayPgN hd = mayPgN hd) := rfl
            have hz3 : decide (sz ≤ 16384) = false := decide_eq_false hs3
            have hbad : mayCl cl = false := by rw [HC2.out, hz3]; simp
            go_wp2_with (first
              | (at_builtin; refine wpList_append_src _ rfl _ _ _ rfl (A + 1) 40 i0 _ 1 24 Tryz.underlying23 hi0 hy0 hy1 hy2 rfl (by omega) (.slice p i c) i _ rfl (ownsRow_mod HROW.out MA.out (by simp)) (some ⟨wr.heap.size + 1, 0, none⟩) 1 1 [.slice xp xn xc] rfl HSRC.out (i + 1) (by omega) (by unfold maxLen; omega) (by omega) (by simp; omega) ?_; intro p4 c4 w4 hown4 hgrow4 _ hlie4; (have hm4 : Mod (Value.slice p i c).ownBlock.toList ((wr.alloc (.cells #[.slice xp xn xc, .slice yp yn yc, .int .i64 sz, .int .i64 hd] 57)).alloc (.cells #[.slice xp xn xc] 40)) w4 := Mod.of_grown' hgrow4); (have hB4 := hm4.at HB.out (fun hb => by have := own_lt HROW.out _ (by simpa using hb); omega)); (have k2 : w4.cell? ⟨wr.heap.size, 2, none⟩ = some (.int .i64 sz) := cell_of_at hB4 2); (have k3 : w4.cell? ⟨wr.heap.size, 3, none⟩ = some (.int .i64 hd) := cell_of_at hB4 3); (have k1 : w4.cell? ⟨wr.heap.size, 1, none⟩ = some (.slice yp yn yc) := cell_of_at hB4 1); (have HATN : Hid (w4.heap[A]? = some (.cells #[.bool false, .slice cp cn cc, .slice kp kn kc, .slice qp qn qc] 26 (0, 0))) := hm4.at (MA.out.at HAT.out (by simp)) (fun hb => by have := own_base HROW.out _ (by simpa using hb); omega)); (have HMN : Hid (Mod [] w w4) := (HM.out.same MA.out).trans hm4 (fun b hb => Or.inr (by have := own_base HROW.out b (by simpa using hb); have := HAW.out; omega))); (have HRW : Hid (w4.ownsRow (A + 1) 40 1 (.slice p4 (i + 1) c4) (i + 1) (((xs.take (i + 1)).map Cv.k).map Bv.val)) := by unfold Hid; rw [HKX.out]; exact hown4); clear hown4 hgrow4 hlie4 hm4 hB4)
              | (go_at_call 20; refine (qpage_any hd _).mono ?_; rintro _ _ ⟨_, rfl, rfl, rfl⟩; rw [HP.out])
              | fail)
            go_wp2
            go_ret
            exact .mk ⟨by rw [HF.out hbad]; rfl, HMN.out⟩
        · have HP : Hid (mayPgN hd = mayPgN hd) := rfl
          have hz2 : decide (200 < sz) = false := decide_eq_false hs2
          have hbad : mayCl cl = false := by rw [HC2.out, hz2]; rfl
          go_wp2_with (first
            | (at_builtin; refine wpList_append_src _ rfl _ _ _ rfl (A + 1) 40 i0 _ 1 24 Tryz.underlying23 hi0 hy0 hy1 hy2 rfl (by omega) (.slice p i c) i _ rfl (ownsRow_mod HROW.out MA.out (by simp)) (some ⟨wr.heap.size + 1, 0, none⟩) 1 1 [.slice xp xn xc] rfl HSRC.out (i + 1) (by omega) (by unfold maxLen; omega) (by omega) (by simp; omega) ?_; intro p4 c4 w4 hown4 hgrow4 _ hlie4; (have hm4 : Mod (Value.slice p i c).ownBlock.toList ((wr.alloc (.cells #[.slice xp xn xc, .slice yp yn yc, .int .i64 sz, .int .i64 hd] 57)).alloc (.cells #[.slice xp xn xc] 40)) w4 := Mod.of_grown' hgrow4); (have hB4 := hm4.at HB.out (fun hb => by have := own_lt HROW.out _ (by simpa using hb); omega)); (have k2 : w4.cell? ⟨wr.heap.size, 2, none⟩ = some (.int .i64 sz) := cell_of_at hB4 2); (have k3 : w4.cell? ⟨wr.heap.size, 3, none⟩ = some (.int .i64 hd) := cell_of_at hB4 3); (have k1 : w4.cell? ⟨wr.heap.size, 1, none⟩ = some (.slice yp yn yc) := cell_of_at hB4 1); (have HATN : Hid (w4.heap[A]? = some (.cells #[.bool false, .slice cp cn cc, .slice kp kn kc, .slice qp qn qc] 26 (0, 0))) := hm4.at (MA.out.at HAT.out (by simp)) (fun hb => by have := own_base HROW.out _ (by simpa using hb); omega)); (have HMN : Hid (Mod [] w w4) := (HM.out.same MA.out).trans hm4 (fun b hb => Or.inr (by have := own_base HROW.out b (by simpa using hb); have := HAW.out; omega))); (have HRW : Hid (w4.ownsRow (A + 1) 40 1 (.slice p4 (i + 1) c4) (i + 1) (((xs.take (i + 1)).map Cv.k).map Bv.val)) := by unfold Hid; rw [HKX.out]; exact hown4); clear hown4 hgrow4 hlie4 hm4 hB4)
            | (go_at_call 20; refine (qpage_any hd _).mono ?_; rintro _ _ ⟨_, rfl, rfl, rfl⟩; rw [HP.out])
            | fail)
          go_wp2
          go_ret
          exact .mk ⟨by rw [HF.out hbad]; rfl, HMN.out⟩
    · obtain rfl : i = cn := by omega
      have HE : Hid (MB = RL) := HVE.out HBL.out (by have := HALL.out; rwa [List.take_of_length_le (by rw [HXL.out]; omega)] at this)
      have HSL := Lib.hid ((Sl.of_own HROW.out (by intro u hu; obtain ⟨k, _, rfl⟩ := List.mem_map.1 hu; rfl)).1)
      rw [List.take_of_length_le (by rw [HXL.out]; omega)] at HSL
      go_wp2_with fail
      refine (HKEYS p c wr HM.out HSL.out).out.mono ?_
      rintro _ w2 ⟨_, rfl, rfl, m2⟩
      have M2 := Lib.hid (HM.out.same m2)
      clear m2
      go_wp2
      go_ret
      exact .mk ⟨by rw [HE.out]; rfl, M2.out⟩
end Go.Proofs.YtgimdodbajhpoaaGreatDoor
