/- A branch is read from its page: the loop. -/
import Derived.Test.YtgimdodbajhpoaaGreatDoorG41
namespace Go.Proofs.YtgimdodbajhpoaaGreatDoor
open Go.RowKit Go.Maps
set_option linter.unusedSimpArgs false
set_option linter.unusedVariables false

def BranchR (R N : Nat) (ks : List (List Int)) (kids : List Int) (z : List Int) (w : World) (v : Value) (w' : World) : Prop :=
  ∃ B kv, v = .iface 49 (.pointer (some ⟨B, 0, none⟩)) ∧ BrN w' B kv kids ∧ BrA w.heap.size w' B kv ∧ kv.map Bv.l = ks ∧ RdAt w' R N z false ∧ Mod [R] w w'
set_option maxRecDepth 100000 in
set_option maxHeartbeats 16000000 in
theorem rbranch_any (R N : Nat) (ks : List (List Int)) (kids : List Int) (z : List Int) (w : World) (h : RdAt w R N (be 4 (kids.getD 0 0) ++ brFrom ks kids 0 z) false) (hk : ∀ k ∈ ks, k.length ≤ 255) (hkl : kids.length = ks.length + 1) (hkd : ∀ x ∈ kids, 0 ≤ x ∧ x ≤ 2147483647) (hn : ks.length ≤ 100000) (hNw : N ≤ w.heap.size) :
    Calls Tryz.prog 50 #[.pointer (some ⟨R, 0, none⟩), .int .i64 ks.length] w (Ret (BranchR R N ks kids z w)) := by
  have hRl : R < w.heap.size := h.lt
  obtain ⟨k0, hk0⟩ : ∃ k0, k0 = kids.getD 0 0 := ⟨_, rfl⟩
  have hk0r : 0 ≤ k0 ∧ k0 ≤ 2147483647 := by rw [hk0, getD_at (by omega)]; exact hkd _ (List.getElem_mem _)
  rw [← hk0] at h
  obtain ⟨u1, u2, u3⟩ := be4_read (v := k0) (by omega) (by omega) (brFrom ks kids 0 z)
  have HPG := Lib.hid (rpage_any R N _ false w h)
  unfold PageR at HPG
  rw [u1, u2, u3] at HPG
  obtain ⟨n, hnl⟩ : ∃ n, n = ks.length := ⟨_, rfl⟩
  have HST : Hid (∀ i, i < n → ∃ k x, ks[i]? = some k ∧ kids[i + 1]? = some x ∧ k.length ≤ 255 ∧ (0 ≤ x ∧ x ≤ 2147483647) ∧ brFrom ks kids i z = (k.length : Int) :: (k ++ (be 4 x ++ brFrom ks kids (i + 1) z))) := fun i hi => by
    have h1 : i < ks.length := by omega
    have h2 : i + 1 < kids.length := by omega
    refine ⟨_, _, List.getElem?_eq_getElem h1, List.getElem?_eq_getElem h2, hk _ (List.getElem_mem _), hkd _ (List.getElem_mem _), ?_⟩
    rw [brFrom_step h1]; unfold brPart; rw [getD_at h1, getD_at h2]; simp
  have HEND : Hid (brFrom ks kids n z = z) := by rw [hnl]; exact brFrom_end _ _ _
  have HKL : Hid (ks.length = n) := hnl.symm
  have HKL2 : Hid (kids.length = n + 1) := by rw [hnl]; exact hkl
  have HK0 : Hid (kids.take 1 = [k0]) := by unfold Hid; rw [hk0, List.take_succ_eq_append_getElem (by omega), getD_at (by omega)]; simp
  obtain ⟨i0, hi0, hz0, hz1, hz2⟩ := info_parts infoKey
  obtain ⟨i1, hi1, hy0, hy1, hy2⟩ := info_parts infoInt
  rw [← hnl]
  rw [← hnl] at hn
  clear h hk hkl hkd u1 u2 u3 hk0 hnl
  go_enter Tryz.func50, Tryz.ntmps50
  go_wp2_with fail
  refine HPG.out.mono ?_
  rintro _ w1 ⟨_, rfl, rfl, r1, m1⟩
  obtain ⟨B, hB⟩ : ∃ B, B = w1.heap.size + 1 := ⟨_, rfl⟩
  have HST0 : Hid (BrSt w ((w1.alloc (.cells #[.int .i64 k0] 3)).alloc (.cells #[.slice none 0 0, .slice (some ⟨w1.heap.size, 0, none⟩) 1 1] 77)) R B N [] [k0] none 0 (some ⟨w1.heap.size, 0, none⟩) 1 (brFrom ks kids 0 z)) := by
    have hm : Mod [] w1 ((w1.alloc (.cells #[.int .i64 k0] 3)).alloc (.cells #[.slice none 0 0, .slice (some ⟨w1.heap.size, 0, none⟩) 1 1] 77)) := (Mod.refl [] w1).alloc.alloc
    refine ⟨at_alloc' _ _ (by rw [hB]; simp), World.ownsRow_nil _ _ _ _, ?_, by simp, r1.mod hm (by simp) (by simp), m1.trans hm (by simp), by have := m1.size; omega, hRl, hNw, by simp⟩
    have h1 := own_row w1 [.int .i64 k0] 3 w.heap.size m1.size (by simp [maxLen])
    exact ownsRow_mod h1 (Mod.of_alloc _ _) (by simp)
  have HBE := Lib.hid hB
  clear r1 m1 HPG
  go_wp2
  rw [← hB]
  clear hB
  go_loopw [6] (fun iv wr => ∃ (i : Nat) (kv : List Bv) (kp qp : Option Addr) (kc qc : Nat), i ≤ n ∧ iv = .int .i64 i ∧ kv.map Bv.l = ks.take i ∧ BrSt w wr R B N kv (kids.take (i + 1)) kp kc qp qc (brFrom ks kids i z)) (fun iv _ => n - (intOf iv).toNat)
  case atStart => exact ⟨0, [], none, _, 0, 1, by omega, rfl, rfl, by rw [HK0.out]; exact HST0.out⟩
  case round =>
    obtain ⟨i, kv, kp, qp, kc, qc, hi, rfl, hkv, hst⟩ := hrel
    have hkvl : kv.length = i := by have := congrArg List.length hkv; rw [List.length_map, List.length_take, HKL.out] at this; omega
    have hkil : (kids.take (i + 1)).length = i + 1 := by rw [List.length_take, HKL2.out]; omega
    have HKV := Lib.hid hkv
    have HS := Lib.hid hst
    have HKVL := Lib.hid hkvl
    have HKIL := Lib.hid hkil
    have f1 := hst.rdr.bad_cell
    clear hkv HST0 hkvl hkil
    by_cases hlt : i < n
    · obtain ⟨k, x, hkk, hxx, hk255, hxr, hbf⟩ := HST.out i hlt
      have HKK := Lib.hid hkk
      have HXX := Lib.hid hxx
      have hrd := hst.rdr
      rw [hbf] at hrd
      have HRD := Lib.hid hrd
      have hat := hst.at_
      rw [HKVL.out, HKIL.out] at hat
      have b0 : wr.cell? ⟨B, 0, none⟩ = some (.slice kp i kc) := cell_of_at hat 0
      have b1 : wr.frozen? ⟨B, 0, none⟩ = false := free_of_at hat 0
      have hRB : B ∉ [R] := by have := hst.hR; have := hst.bB; simp; omega
      have hBl := lt_of_at hat
      have HAT := Lib.hid hat
      have HRB := Lib.hid hRB
      have hmw := hst.mod.size
      have hwi : IntKind.i64.wrap ((i : Int) + 1) = (i : Int) + 1 := IntWalk.i64_in _ (by omega)
      clear hkk hxx hbf hrd hst hat hRB
      go_wp2
      refine AnyT.start (S := fun w' => w'.cell? ⟨B, 0, none⟩ = some (.slice kp i kc) ∧ w'.frozen? ⟨B, 0, none⟩ = false) (by kernel_rfl) ⟨b0, b1⟩ (fun hS => ?_)
      refine AnyT.take (i := 0) (k := 9) (v := ?_) rfl (by kernel_rfl) (fun _ _ _ h => h) hS (Or.inl ⟨by rfl, fun w' hw' => ?_⟩) ?_
      rotate_left
      · go_simp
        try rfl
      simp only [Act.put, List.setIfInBounds_toArray, List.set_cons_zero, List.set_cons_succ]
      refine AnyT.take (i := 1) (k := 2) (v := ?_) rfl (by kernel_rfl) (fun _ _ _ h => h) hS (Or.inl ⟨by rfl, fun w' hw' => ?_⟩) ?_
      rotate_left
      · go_simp
        try rfl
      simp only [Act.put, List.setIfInBounds_toArray, List.set_cons_zero, List.set_cons_succ]
      refine AnyT.take (i := 2) (k := 3) (v := ?_) rfl (by kernel_rfl) (fun _ _ _ h => h) hS (Or.inl ⟨by rfl, fun w' hw' => ?_⟩) ?_
      rotate_left
      · go_simp
        try rfl
      simp only [Act.put, List.setIfInBounds_toArray, List.set_cons_zero, List.set_cons_succ]
      refine AnyT.take (i := 3) (k := 4) (v := ?_) rfl (by kernel_rfl) (fun _ _ _ h => h) hS (Or.inl ⟨by rfl, fun w' hw' => ?_⟩) ?_
      rotate_left
      · go_simp
        try rfl
      simp only [Act.put, List.setIfInBounds_toArray, List.set_cons_zero, List.set_cons_succ]
      refine AnyT.take (i := 4) (k := 8) (v := ?_) rfl (by kernel_rfl) (fun _ _ _ h => h) hS (Or.inl ⟨by rfl, fun w' hw' => ?_⟩) ?_
      rotate_left
      · go_simp
        try rfl
      simp only [Act.put, List.setIfInBounds_toArray, List.set_cons_zero, List.set_cons_succ]
      refine AnyT.take (i := 5) (k := 6) (v := ?_) rfl (by kernel_rfl) (fun _ _ _ h => h) hS (Or.inl ⟨by rfl, fun w' hw' => ?_⟩) ?_
      rotate_left
      · go_simp
        try rfl
      simp only [Act.put, List.setIfInBounds_toArray, List.set_cons_zero, List.set_cons_succ]
      refine AnyT.run (i := 6) (by kernel_rfl) rfl rfl (fun K hK => ?_)
      go_simp
      refine (rkey_any R N k (be 4 x ++ brFrom ks kids (i + 1) z) _ (HRD.out.mod (Mod.of_drew wr) (by simp) (by simp)) hk255).mono ?_
      rintro _ w3 ⟨_, rfl, q, m, d, rfl, hbq, hqb, hr3, hm3⟩
      have hm3' : Mod [R] wr w3 := ((Mod.of_drew wr).mono (by simp)).same hm3
      have hB3 := hm3'.at HAT.out HRB.out
      refine hK _ _ (fun _ => ⟨cell_of_at hB3 0, free_of_at hB3 0⟩) ?_
      clear hK K hS
      have hS : w3.cell? ⟨B, 0, none⟩ = some (.slice kp i kc) ∧ w3.frozen? ⟨B, 0, none⟩ = false := ⟨cell_of_at hB3 0, free_of_at hB3 0⟩
      have HM3 := Lib.hid hm3'
      have HB3 := Lib.hid hB3
      have HBQ := Lib.hid hbq
      have HQB := Lib.hid hqb
      have HR3 := Lib.hid hr3
      clear hm3 hm3' hB3 hbq hqb hr3 b0 b1
      refine AnyT.run (i := 7) (by kernel_rfl) rfl rfl (fun K hK => ?_)
      go_simp
      have hm7 : Mod [] w3 (w3.alloc (.cells #[.slice q m d] 40)) := Mod.of_alloc _ _
      have hB7 := hm7.at HB3.out (by simp)
      refine hK _ _ (fun _ => ⟨cell_of_at hB7 0, free_of_at hB7 0⟩) ?_
      clear hK K hS
      have HSRC : Hid (Sl (w3.alloc (.cells #[.slice q m d] 40)) 1 (some ⟨w3.heap.size, 0, none⟩) 1 1 [.slice q m d]) := Sl.one_new w3 (.slice q m d) 40 rfl
      have HM7 : Hid (Mod [R] wr (w3.alloc (.cells #[.slice q m d] 40))) := HM3.out.trans hm7 (by simp)
      have HR7 := Lib.hid (HR3.out.mod hm7 (by simp) (by simp))
      have HM37 := Lib.hid hm7
      have HBQ7 : Hid (BytesIn (w3.alloc (.cells #[.slice q m d] 40)) q m d k) := ⟨HBQ.out.sl.mod hm7 (by simp), HBQ.out.wf⟩
      have HB7 := Lib.hid hB7
      clear hm7 hB7
      generalize (w3.alloc (.cells #[.slice q m d] 40)) = W7 at *
      have hS : W7.cell? ⟨B, 0, none⟩ = some (.slice kp i kc) ∧ W7.frozen? ⟨B, 0, none⟩ = false := ⟨cell_of_at HB7.out 0, free_of_at HB7.out 0⟩
      refine AnyT.one (i := 8) (by kernel_rfl) rfl (fun K hK => ?_)
      have hKrow := HS.out.keys
      rw [HKVL.out] at hKrow
      have hRK : R ∉ (Value.slice kp i kc).ownBlock.toList := fun hb => by have := own_base hKrow R (by simpa using hb); have := HS.out.hR; omega
      have hBK : B ∉ (Value.slice kp i kc).ownBlock.toList := owned_ne hKrow HAT.out (by decide)
      refine step_append_src _ rfl _ _ _ rfl w.heap.size 40 i0 _ 1 24 Tryz.underlying23 hi0 hz0 hz1 hz2 rfl (by omega) (.slice kp i kc) i _ rfl (ownsRow_mod hKrow HM7.out (fun b hb hx => by simp at hx; subst hx; exact hRK (by simpa using hb))) _ _ _ _ rfl HSRC.out (i + 1) (by omega) (by unfold maxLen; omega) (by omega) (Nat.le_trans hmw HM7.out.size) ?_
      intro p4 c4 w4 hown4 hgrow4 _ hlie4
      have hm4 : Mod (Value.slice kp i kc).ownBlock.toList W7 w4 := Mod.of_grown' hgrow4
      have hB4 := hm4.at HB7.out hBK
      refine hK _ _ (fun _ => ⟨cell_of_at hB4 0, free_of_at hB4 0⟩) ?_
      clear hK K hS
      have hS : w4.cell? ⟨B, 0, none⟩ = some (.slice kp i kc) ∧ w4.frozen? ⟨B, 0, none⟩ = false := ⟨cell_of_at hB4 0, free_of_at hB4 0⟩
      have hnew := HS.out.key (k := ⟨q, m, d, k⟩) (wa := W7) (w4 := w4) (p3 := p4) (c3 := c4) HM7.out HR7.out HBQ7.out (fun a ha => ⟨(HQB.out a ha).1, (HQB.out a ha).2.mod HM37.out (by simp)⟩) (by rw [HKVL.out]; exact hown4) (by rw [HKVL.out]; exact hm4) (by rw [HKVL.out]; exact hlie4)
      rw [HKVL.out] at hnew
      have HNEW := Lib.hid hnew
      clear hown4 hgrow4 hlie4 hm4 hB4 hnew hKrow hRK hBK
      refine AnyT.take (i := 9) (k := 10) (v := ?_) rfl (by kernel_rfl) (fun _ _ _ h => h) hS (Or.inl ⟨by rfl, fun w' hw' => ?_⟩) ?_
      rotate_left
      · go_simp
        try rfl
      simp only [Act.put, List.setIfInBounds_toArray, List.set_cons_zero, List.set_cons_succ]
      refine AnyT.take (i := 10) (k := 11) (v := ?_) rfl (by kernel_rfl) (fun _ _ _ h => h) hS (Or.inl ⟨by rfl, fun w' hw' => ?_⟩) ?_
      rotate_left
      · go_simp
        try rfl
      simp only [Act.put, List.setIfInBounds_toArray, List.set_cons_zero, List.set_cons_succ]
      obtain ⟨hS0, hS1⟩ := hS
      refine AnyT.run (i := 11) (by kernel_rfl) rfl rfl (fun K hK => ?_)
      go_simp
      refine hK _ _ (fun h => absurd h (by rw [show more _ _ = false from by kernel_rfl]; decide)) ?_
      clear hK K hS0 hS1
      refine AnyT.done (by kernel_rfl) ?_ _
      generalize (w4.setCell ⟨B, 0, none⟩ (.slice p4 (i + 1) c4)) = w5 at *
      have hrd := HNEW.out.rdr
      have HRD5 := Lib.hid hrd
      have hat := HNEW.out.at_
      rw [HKIL.out] at hat
      have b0 : w5.cell? ⟨B, 1, none⟩ = some (.slice qp (i + 1) qc) := cell_of_at hat 1
      have b1 : w5.frozen? ⟨B, 1, none⟩ = false := free_of_at hat 1
      have HAT5 := Lib.hid hat
      have hmw5 := HNEW.out.mod.size
      clear hrd hat HM3 HB3 HBQ HQB HR3 HM7 HR7 HBQ7 HB7 HSRC HRD HAT HS
      have hx4 := be4_read (v := x) (by omega) (by omega) (brFrom ks kids (i + 1) z)
      obtain ⟨v1, v2, v3⟩ := hx4
      have HPX := fun W (hm : Mod [] w5 W) => Lib.hid (rpage_any R N _ false W (HRD5.out.mod hm (by simp) (by simp)))
      unfold PageR at HPX
      simp only [v1, v2, v3] at HPX
      clear v1 v2 v3
      go_wp2
      refine AnyT.start (S := fun w' => w'.cell? ⟨B, 1, none⟩ = some (.slice qp (i + 1) qc) ∧ w'.frozen? ⟨B, 1, none⟩ = false) (by kernel_rfl) ⟨b0, b1⟩ (fun hS => ?_)
      refine AnyT.take (i := 0) (k := 9) (v := ?_) rfl (by kernel_rfl) (fun _ _ _ h => h) hS (Or.inl ⟨by rfl, fun w' hw' => ?_⟩) ?_
      rotate_left
      · go_simp
        try rfl
      simp only [Act.put, List.setIfInBounds_toArray, List.set_cons_zero, List.set_cons_succ]
      refine AnyT.take (i := 1) (k := 2) (v := ?_) rfl (by kernel_rfl) (fun _ _ _ h => h) hS (Or.inl ⟨by rfl, fun w' hw' => ?_⟩) ?_
      rotate_left
      · go_simp
        try rfl
      simp only [Act.put, List.setIfInBounds_toArray, List.set_cons_zero, List.set_cons_succ]
      refine AnyT.take (i := 2) (k := 3) (v := ?_) rfl (by kernel_rfl) (fun _ _ _ h => h) hS (Or.inl ⟨by rfl, fun w' hw' => ?_⟩) ?_
      rotate_left
      · go_simp
        try rfl
      simp only [Act.put, List.setIfInBounds_toArray, List.set_cons_zero, List.set_cons_succ]
      refine AnyT.take (i := 3) (k := 4) (v := ?_) rfl (by kernel_rfl) (fun _ _ _ h => h) hS (Or.inl ⟨by rfl, fun w' hw' => ?_⟩) ?_
      rotate_left
      · go_simp
        try rfl
      simp only [Act.put, List.setIfInBounds_toArray, List.set_cons_zero, List.set_cons_succ]
      refine AnyT.take (i := 4) (k := 8) (v := ?_) rfl (by kernel_rfl) (fun _ _ _ h => h) hS (Or.inl ⟨by rfl, fun w' hw' => ?_⟩) ?_
      rotate_left
      · go_simp
        try rfl
      simp only [Act.put, List.setIfInBounds_toArray, List.set_cons_zero, List.set_cons_succ]
      refine AnyT.take (i := 5) (k := 6) (v := ?_) rfl (by kernel_rfl) (fun _ _ _ h => h) hS (Or.inl ⟨by rfl, fun w' hw' => ?_⟩) ?_
      rotate_left
      · go_simp
        try rfl
      simp only [Act.put, List.setIfInBounds_toArray, List.set_cons_zero, List.set_cons_succ]
      refine AnyT.run (i := 6) (by kernel_rfl) rfl rfl (fun K hK => ?_)
      go_simp
      refine (HPX _ (Mod.of_drew w5)).out.mono ?_
      rintro _ w3 ⟨_, rfl, rfl, hr3, hm3⟩
      have hm3' : Mod [R] w5 w3 := ((Mod.of_drew w5).mono (by simp)).same hm3
      have hB3 := hm3'.at HAT5.out HRB.out
      refine hK _ _ (fun _ => ⟨cell_of_at hB3 1, free_of_at hB3 1⟩) ?_
      clear hK K hS
      have hS : w3.cell? ⟨B, 1, none⟩ = some (.slice qp (i + 1) qc) ∧ w3.frozen? ⟨B, 1, none⟩ = false := ⟨cell_of_at hB3 1, free_of_at hB3 1⟩
      have HM3 := Lib.hid hm3'
      have HB3 := Lib.hid hB3
      have HR3 := Lib.hid hr3
      clear hm3 hm3' hB3 hr3 b0 b1 HPX
      refine AnyT.run (i := 7) (by kernel_rfl) rfl rfl (fun K hK => ?_)
      go_simp
      have hm7 : Mod [] w3 (w3.alloc (.cells #[.int .i64 x] 3)) := Mod.of_alloc _ _
      have hB7 := hm7.at HB3.out (by simp)
      refine hK _ _ (fun _ => ⟨cell_of_at hB7 1, free_of_at hB7 1⟩) ?_
      clear hK K hS
      have HSRC : Hid (Sl (w3.alloc (.cells #[.int .i64 x] 3)) 1 (some ⟨w3.heap.size, 0, none⟩) 1 1 [.int .i64 x]) := Sl.one_new w3 (.int .i64 x) 3 rfl
      have HM7 : Hid (Mod [R] w5 (w3.alloc (.cells #[.int .i64 x] 3))) := HM3.out.trans hm7 (by simp)
      have HR7 := Lib.hid (HR3.out.mod hm7 (by simp) (by simp))
      have HB7 := Lib.hid hB7
      clear hm7 hB7
      generalize (w3.alloc (.cells #[.int .i64 x] 3)) = W7 at *
      have hS : W7.cell? ⟨B, 1, none⟩ = some (.slice qp (i + 1) qc) ∧ W7.frozen? ⟨B, 1, none⟩ = false := ⟨cell_of_at HB7.out 1, free_of_at HB7.out 1⟩
      refine AnyT.one (i := 8) (by kernel_rfl) rfl (fun K hK => ?_)
      have hQrow := HNEW.out.kids
      rw [HKIL.out] at hQrow
      have hRQ : R ∉ (Value.slice qp (i + 1) qc).ownBlock.toList := fun hb => by have := own_base hQrow R (by simpa using hb); have := HNEW.out.hR; omega
      have hBQ : B ∉ (Value.slice qp (i + 1) qc).ownBlock.toList := owned_ne hQrow HAT5.out (by decide)
      refine step_append_src _ rfl _ _ _ rfl w.heap.size 3 i1 _ 1 8 Tryz.underlying24 hi1 hy0 hy1 hy2 rfl (by omega) (.slice qp (i + 1) qc) (i + 1) _ rfl (ownsRow_mod hQrow HM7.out (fun b hb hx => by simp at hx; subst hx; exact hRQ (by simpa using hb))) _ _ _ _ rfl HSRC.out (i + 1 + 1) (by omega) (by unfold maxLen; omega) (by omega) (Nat.le_trans hmw5 HM7.out.size) ?_
      intro p6 c6 w6 hown6 hgrow6 _ hlie6
      have hm6 : Mod (Value.slice qp (i + 1) qc).ownBlock.toList W7 w6 := Mod.of_grown' hgrow6
      have hB6 := hm6.at HB7.out hBQ
      refine hK _ _ (fun _ => ⟨cell_of_at hB6 1, free_of_at hB6 1⟩) ?_
      clear hK K hS
      have hS : w6.cell? ⟨B, 1, none⟩ = some (.slice qp (i + 1) qc) ∧ w6.frozen? ⟨B, 1, none⟩ = false := ⟨cell_of_at hB6 1, free_of_at hB6 1⟩
      have hnew := HNEW.out.kid (x := x) (wa := W7) (w4 := w6) (p3 := p6) (c3 := c6) HM7.out HR7.out (by rw [HKIL.out]; exact hown6) (by rw [HKIL.out]; exact hm6) (by rw [HKIL.out]; exact hlie6)
      rw [HKIL.out] at hnew
      have HNEW2 := Lib.hid hnew
      clear hown6 hgrow6 hlie6 hm6 hB6 hnew hQrow hRQ hBQ
      refine AnyT.take (i := 9) (k := 10) (v := ?_) rfl (by kernel_rfl) (fun _ _ _ h => h) hS (Or.inl ⟨by rfl, fun w' hw' => ?_⟩) ?_
      rotate_left
      · go_simp
        try rfl
      simp only [Act.put, List.setIfInBounds_toArray, List.set_cons_zero, List.set_cons_succ]
      refine AnyT.take (i := 10) (k := 11) (v := ?_) rfl (by kernel_rfl) (fun _ _ _ h => h) hS (Or.inl ⟨by rfl, fun w' hw' => ?_⟩) ?_
      rotate_left
      · go_simp
        try rfl
      simp only [Act.put, List.setIfInBounds_toArray, List.set_cons_zero, List.set_cons_succ]
      obtain ⟨hS0, hS1⟩ := hS
      refine AnyT.run (i := 11) (by kernel_rfl) rfl rfl (fun K hK => ?_)
      go_simp
      refine hK _ _ (fun h => absurd h (by rw [show more _ _ = false from by kernel_rfl]; decide)) ?_
      clear hK K hS0 hS1
      refine AnyT.done (by kernel_rfl) ?_ _
      generalize (w6.setCell ⟨B, 1, none⟩ (.slice p6 (i + 1 + 1) c6)) = w8 at *
      have HKT : Hid (kids.take (i + 1 + 1) = kids.take (i + 1) ++ [x]) := by
        obtain ⟨h1, h2⟩ := List.getElem?_eq_some_iff.1 HXX.out
        unfold Hid; rw [List.take_succ_eq_append_getElem h1, h2]
      have HKV2 : Hid ((kv ++ [(⟨q, m, d, k⟩ : Bv)]).map Bv.l = ks.take (i + 1)) := by
        obtain ⟨h1, h2⟩ := List.getElem?_eq_some_iff.1 HKK.out
        unfold Hid; rw [List.map_append, HKV.out, List.take_succ_eq_append_getElem h1, h2]; rfl
      clear HM3 HB3 HR3 HM7 HR7 HB7 HSRC HRD5 HAT5 HNEW
      go_wp2
      go_roundw
      case rel => exact ⟨i + 1, _, p4, p6, c4, c6, by omega, by go_num, HKV2.out, by rw [HKT.out]; exact HNEW2.out⟩
      case measure => simp [intOf]; omega
    · obtain rfl : i = n := by omega
      have HF : Hid (BranchR R N ks kids z w (.iface 49 (.pointer (some ⟨B, 0, none⟩))) wr) := by
        have hb := HS.out
        have hkt : kids.take (i + 1) = kids := List.take_of_length_le (by rw [HKL2.out]; omega)
        rw [hkt] at hb
        refine ⟨B, kv, rfl, ⟨⟨kp, kv.length, kc, qp, kids.length, qc, hb.at_, (Sl.of_own hb.keys (by intro u hu; obtain ⟨x, _, rfl⟩ := List.mem_map.1 hu; rfl)).1, NbS.of_own hb.keys (by simp), (Sl.of_own hb.kids (by intro u hu; obtain ⟨x, _, rfl⟩ := List.mem_map.1 hu; rfl)).1, NbS.of_own hb.kids (by simp)⟩, fun k hk => ⟨(hb.ap k hk).io, fun a ha hn => Nb.of_bytes ((hb.ap k hk).nb a ha hn)⟩⟩, ⟨hb.bB, fun p n c q m d he => ?_, hb.age⟩, ?_, ?_, hb.mod⟩
        · have e9 := hb.at_.symm.trans he
          simp only [Option.some.injEq, Obj.cells.injEq, Array.mk.injEq, List.cons.injEq, Value.slice.injEq, and_true] at e9
          obtain ⟨⟨rfl, _, _⟩, rfl, _, _⟩ := e9
          exact ⟨fun a e => own_base hb.keys _ (by rw [e]; rfl), fun a e => own_base hb.kids _ (by rw [e]; rfl)⟩
        · rw [HKV.out, List.take_of_length_le (by rw [HKL.out]; omega)]
        · have h1 := hb.rdr; rw [HEND.out] at h1; exact h1
      clear hst
      go_wp2
      go_ret
      exact .mk HF.out
end Go.Proofs.YtgimdodbajhpoaaGreatDoor
