/- Roots: where a name stands, or belongs; the program's Find. Roots: the program's Find, and a list's clone. Roots: a name's closure, and where it is first. Roots: what goes out of a list of the call's own; the program's Without. -/
import Derived.Laws.CopyRow
import Derived.Test.YtpdkkokgpdabhaaDoorG06
namespace Go.Proofs.YtpdkkokgpdabhaaDoor
open Go.RowKit Go.Maps
set_option linter.unusedSimpArgs false
set_option linter.unusedVariables false

def CmpR (l l2 : List Int) (w : World) (v : Value) (w' : World) : Prop := v = .int .i64 (cmpL l l2) ∧ Mod [] w w'
set_option maxRecDepth 100000 in
theorem pcmp_any (l : List Int) (pg ct : Int) (l2 : List Int) (w : World) : Calls Tryd.prog 50 #[.agg #[.string (strOfNums l), .int .i64 pg, .int .i64 ct], .string (strOfNums l2)] w (Ret (CmpR l l2 w)) := by
  have c0 : (w.alloc (.cells #[.string (strOfNums l), .int .i64 pg, .int .i64 ct] 34)).cell? ⟨w.heap.size, 0, none⟩ = some (.string (strOfNums l)) := cell_of_at (at_alloc w _) 0
  go_enter Tryd.func50, Tryd.ntmps50
  go_wp2_with fail
  refine (scompare_any l l2 _).mono ?_
  rintro _ w2 ⟨_, rfl, rfl, rfl⟩
  go_wp2
  go_ret
  exact .mk ⟨rfl, Mod.of_alloc w _⟩
/-- Names that rise. -/
def risesR (rs : List Rt) : Prop := ∀ i j, i < j → j < rs.length → less (rs.getD i default).l (rs.getD j default).l = true
theorem less_trans : ∀ {a b c : List Int}, less a b = true → less b c = true → less a c = true
  | [], [], _, h, _ => by simp [less] at h
  | [], _ :: _, [], _, h => by simp [less] at h
  | [], _ :: _, _ :: _, _, _ => rfl
  | _ :: _, [], _, h, _ => by simp [less] at h
  | _ :: _, _ :: _, [], _, h => by simp [less] at h
  | x :: a, y :: b, z :: c, h1, h2 => by
    rw [less] at h1 h2 ⊢
    by_cases e1 : x = y
    · subst e1
      rw [if_pos rfl] at h1
      by_cases e2 : x = z
      · subst e2
        rw [if_pos rfl] at h2 ⊢
        exact less_trans h1 h2
      · rw [if_neg e2] at h2 ⊢; exact h2
    · rw [if_neg e1] at h1
      have h1' : x < y := of_decide_eq_true h1
      by_cases e2 : y = z
      · subst e2
        rw [if_neg e1]; exact h1
      · rw [if_neg e2] at h2
        have h2' : y < z := of_decide_eq_true h2
        rw [if_neg (by omega)]; exact decide_eq_true (by omega)
theorem rises_of {rs : List Rt} (h : rtTo rs rs.length = true) : risesR rs := by
  intro i j hij hj
  induction j with
  | zero => omega
  | succ j ih =>
    have h1 := rtTo_le h hj
    unfold rtAt at h1
    simp only [Nat.add_sub_cancel, Bool.and_eq_true, Bool.or_eq_true, beq_iff_eq] at h1
    have h2 : less (rs.getD j default).l (rs.getD (j + 1) default).l = true := by
      rcases h1.2 with h | h
      · omega
      · exact h
    rcases Nat.lt_succ_iff_lt_or_eq.1 hij with h3 | rfl
    · exact less_trans (ih h3 (by omega)) h2
    · exact h2
theorem mayR_rises {rs : List Rt} (h : mayR rs = true) : risesR rs := by
  unfold mayR at h; rw [Bool.and_eq_true] at h; exact rises_of h.1
def foundR (rs : List Rt) (l : List Int) : Bool := decide (posR rs l < rs.length) && decide ((rs.getD (posR rs l) default).l = l)
theorem less_asymm {a b : List Int} (h : less a b = true) : less b a = false := by
  cases h2 : less b a with
  | false => rfl
  | true => have := less_trans h h2; rw [less_irrefl] at this; cases this
theorem less_tri {a b : List Int} (h1 : less a b = false) (h2 : a ≠ b) : less b a = true := by
  induction a generalizing b with
  | nil => cases b with
    | nil => exact absurd rfl h2
    | cons y b => simp [less] at h1
  | cons x a ih =>
    cases b with
    | nil => rfl
    | cons y b =>
      rw [less] at h1 ⊢
      by_cases e : x = y
      · subst e
        rw [if_pos rfl] at h1 ⊢
        exact ih h1 (fun e => h2 (by rw [e]))
      · rw [if_neg e] at h1
        have h3 : ¬ x < y := of_decide_eq_false h1
        rw [if_neg (Ne.symm e)]; exact decide_eq_true (by omega)
def PlaceR (rs : List Rt) (l : List Int) (w : World) (v : Value) (w' : World) : Prop := v = .tuple #[.int .i64 (posR rs l), .bool (foundR rs l)] ∧ Mod [] w w'
set_option maxRecDepth 100000 in
set_option maxHeartbeats 8000000 in
theorem bsearch_any (p : Option Addr) (n c : Nat) (rs : List Rt) (l : List Int) (w : World) (h : RtsIn w p n c rs) (hw : WfL l) (hs : risesR rs) (hn : n ≤ 1000000) :
    Calls Tryd.prog 49 #[.slice p n c, .string (strOfNums l), .func (.func 50) #[] #[]] w (Ret (PlaceR rs l w)) := by
  have hln := h.len
  have hcm := h.sl.capm; have hle := h.sl.le
  unfold maxLen at hcm
  obtain ⟨b, off, hp, hcs⟩ := h.sl.at_
  have hidx := fun W => Sl.idx (P := Tryd.prog) (cap := c) Tryd.underlying22 sizeRoots (fun h => (hp h).1) W .i64
  have HLT : Hid (0 < n → b < w.heap.size) := fun h => (hp h).2
  have HG := Lib.hid (fun i hi => h.get hcs i hi)
  have HS : Hid (∀ i j, i < j → j < n → less (rs.getD i default).l (rs.getD j default).l = true) := fun i j h1 h2 => hs i j h1 (by rw [hln]; exact h2)
  have HPOS : Hid (∀ i, i ≤ n → (∀ j, j < i → less (rs.getD j default).l l = true) → (i = n ∨ less (rs.getD i default).l l = false) → posR rs l = i) := fun i h1 h2 h3 => posR_of (by rw [hln]; exact h1) h2 (by rw [hln]; exact h3)
  have HF : Hid (foundR rs l = (decide (posR rs l < n) && decide ((rs.getD (posR rs l) default).l = l))) := by unfold Hid foundR; rw [hln]
  have HW := Lib.hid hw
  clear h hw hs hp hcs hln
  go_enter Tryd.func49, Tryd.ntmps49
  go_wp2
  go_loopw [9, 10] (fun iv jv wr => ∃ i j : Nat, i ≤ j ∧ j ≤ n ∧ iv = .int .i64 i ∧ jv = .int .i64 j ∧ (∀ k, k < i → less (rs.getD k default).l l = true) ∧ (∀ k, j ≤ k → k < n → less (rs.getD k default).l l = false) ∧ Mod [] w wr) (fun iv jv _ => (intOf jv).toNat - (intOf iv).toNat)
  case atStart => exact ⟨0, n, by omega, by omega, rfl, rfl, by omega, by omega, Mod.refl _ _⟩
  case round =>
    obtain ⟨i, j, hij, hjn, rfl, rfl, h1, h2, hm⟩ := hrel
    have H1 := Lib.hid h1
    have H2 := Lib.hid h2
    have HM := Lib.hid hm
    clear h1 h2 hm
    by_cases hlt : i < j
    · obtain ⟨k, hk⟩ : ∃ k, k = (i + j) / 2 := ⟨_, rfl⟩
      have hki : i ≤ k := by omega
      have hkj : k < j := by omega
      have hkn : k < n := by omega
      have hw1 : IntKind.i64.wrap ((i : Int) + (j : Int)) = (i : Int) + (j : Int) := IntWalk.i64_in _ (by omega)
      have hw2 : IntKind.u64.wrap ((i : Int) + (j : Int)) = (i : Int) + (j : Int) := by rw [IntKind.wrap_u64]; omega
      have hw3 : ((i : Int) + (j : Int)) / 2 = (k : Int) := by omega
      have hw4 : IntKind.u64.wrap (k : Int) = (k : Int) := by rw [IntKind.wrap_u64]; omega
      have hw5 : IntKind.i64.wrap (k : Int) = (k : Int) := IntWalk.i64_in _ (by omega)
      have hw6 : IntKind.i64.wrap ((k : Int) + 1) = (k : Int) + 1 := IntWalk.i64_in _ (by omega)
      obtain ⟨l2, pg, ct, hr, hwf, d0, d1, d2⟩ := HG.out k hkn
      rw [← HM.out.cell (a := ⟨b, _, none⟩) (HLT.out (by omega)) (by simp)] at d0 d1 d2
      have j1 := fun W => hidx W k hkn
      have HCN := Lib.hid (cmpL_neg hwf.1 HW.out)
      have HR := Lib.hid hr
      have HCMP := fun W => Lib.hid (pcmp_any l2 pg ct l W)
      unfold CmpR at HCMP
      generalize cmpL l2 l = C at *
      have HK := Lib.hid hk
      clear hk hr hwf
      go_wp2_with fail
      refine (HCMP _).out.mono ?_
      rintro _ w2 ⟨_, rfl, rfl, m2⟩
      have M2 := Lib.hid (HM.out.same m2)
      clear m2 HCMP d0 d1 d2
      cases hL : less l2 l with
      | true =>
        have hC : C < 0 := by have := HCN.out; rw [hL] at this; have := of_decide_eq_false this; omega
        have HX : Hid (less (rs.getD k default).l l = true) := by unfold Hid; rw [HR.out]; exact hL
        clear hL
        go_wp2
        go_roundw
        case rel => exact ⟨k + 1, j, by omega, by omega, by go_num, rfl, fun x hx => by
          rcases Nat.lt_succ_iff_lt_or_eq.1 hx with h | rfl
          · exact less_trans (HS.out x k h hkn) HX.out
          · exact HX.out, H2.out, M2.out⟩
        case measure => simp [intOf]; omega
      | false =>
        have hC : ¬ C < 0 := by have := HCN.out; rw [hL] at this; have := of_decide_eq_true this; omega
        have HX : Hid (less (rs.getD k default).l l = false) := by unfold Hid; rw [HR.out]; exact hL
        clear hL
        go_wp2
        go_roundw
        case rel => exact ⟨i, k, by omega, by omega, rfl, rfl, H1.out, (fun x h3 h4 => by
          rcases Nat.eq_or_lt_of_le h3 with rfl | h
          · exact HX.out
          · cases hy : less (rs.getD x default).l l with
            | false => rfl
            | true => have := less_trans (HS.out k x h h4) hy; rw [HX.out] at this; cases this), M2.out⟩
        case measure => simp [intOf]; omega
    · obtain rfl : i = j := by omega
      have HP : Hid (posR rs l = i) := HPOS.out i hjn H1.out (by
        rcases Nat.eq_or_lt_of_le hjn with h | h
        · exact Or.inl h
        · exact Or.inr (H2.out i (Nat.le_refl _) h))
      rw [HP.out] at HF
      by_cases hin : i < n
      · have hz1 : decide (i < n) = true := by simp; omega
        have hz2 : decide ((i : Int) < (n : Int)) = true := by simp; omega
        obtain ⟨l2, pg, ct, hr, hwf, d0, d1, d2⟩ := HG.out i hin
        rw [← HM.out.cell (a := ⟨b, _, none⟩) (HLT.out (by omega)) (by simp)] at d0 d1 d2
        have j1 := fun W => hidx W i hin
        have HCS := Lib.hid (cmpL_spec hwf.1 HW.out)
        have HCMP := fun W => Lib.hid (pcmp_any l2 pg ct l W)
        unfold CmpR at HCMP
        have HE : Hid ((cmpL l2 l == 0) = foundR rs l) := by
          unfold Hid
          rw [HF.out, hz1, hr, Bool.true_and, HCS.out]
          by_cases e : l2 = l
          · simp [e]
          · rw [if_neg e]
            cases less l2 l <;> simp [e]
        generalize cmpL l2 l = C at *
        clear hr hwf
        go_wp2_with fail
        refine (HCMP _).out.mono ?_
        rintro _ w2 ⟨_, rfl, rfl, m2⟩
        have M2 := Lib.hid (HM.out.same m2)
        clear m2 HCMP d0 d1 d2
        go_wp2
        go_ret2
        exact .mk ⟨by rw [HP.out, ← HE.out] <;> rfl, M2.out⟩
      · have hz1 : decide (i < n) = false := by simp; omega
        have hz2 : decide ((i : Int) < (n : Int)) = false := by simp; omega
        have HE : Hid (foundR rs l = false) := by unfold Hid; rw [HF.out, hz1]; rfl
        go_wp2
        go_ret2
        exact .mk ⟨by rw [HP.out, HE.out] <;> rfl, HM.out⟩
set_option maxRecDepth 100000 in
theorem place_any (p : Option Addr) (n c : Nat) (rs : List Rt) (l : List Int) (w : World) (h : RtsIn w p n c rs) (hw : WfL l) (hs : risesR rs) (hn : n ≤ 1000000) :
    Calls Tryd.prog 33 #[.slice p n c, .string (strOfNums l)] w (Ret (PlaceR rs l w)) := by
  go_enter Tryd.func33, Tryd.ntmps33
  go_wp2_with fail
  refine (bsearch_any p n c rs l _ h hw hs hn).mono ?_
  rintro _ w2 ⟨_, rfl, rfl, m2⟩
  have M2 := Lib.hid m2
  clear m2
  go_wp2
  go_ret2
  exact .mk ⟨rfl, M2.out⟩
end Go.Proofs.YtpdkkokgpdabhaaDoor
namespace Go.Proofs.YtpdkkokgpdabhaaDoor
open Go.RowKit Go.Maps
set_option linter.unusedSimpArgs false
set_option linter.unusedVariables false

theorem posR_spec : ∀ (rs : List Rt) (l : List Int), posR rs l ≤ rs.length ∧ (∀ j, j < posR rs l → less (rs.getD j default).l l = true) ∧ (posR rs l = rs.length ∨ less (rs.getD (posR rs l) default).l l = false)
  | [], l => ⟨Nat.le_refl _, by intro j hj; simp [posR] at hj, Or.inl rfl⟩
  | x :: t, l => by
    obtain ⟨h1, h2, h3⟩ := posR_spec t l
    unfold posR
    by_cases h : less x.l l = true
    · rw [if_pos h]
      refine ⟨by simp; omega, fun j hj => ?_, ?_⟩
      · cases j with
        | zero => exact h
        | succ j => exact h2 j (by omega)
      · rcases h3 with h3 | h3
        · exact Or.inl (by simp [h3])
        · exact Or.inr h3
    · rw [if_neg h]
      refine ⟨by simp, by omega, Or.inr ?_⟩
      have : less x.l l = false := by simpa using h
      exact this
theorem findR_pos {rs : List Rt} {l : List Int} (hs : risesR rs) : findR rs l = if foundR rs l = true then (rs.getD (posR rs l) default, true) else (default, false) := by
  obtain ⟨h1, h2, h3⟩ := posR_spec rs l
  have hne : ∀ j, j < posR rs l → (rs.getD j default).l ≠ l := fun j hj e => by have := h2 j hj; rw [e, less_irrefl] at this; cases this
  by_cases hf : foundR rs l = true
  · rw [if_pos hf]
    unfold foundR at hf
    simp only [Bool.and_eq_true, decide_eq_true_eq] at hf
    exact findR_at hf.1 hne hf.2
  · rw [if_neg hf]
    refine findR_none fun j hj e => ?_
    rcases Nat.lt_trichotomy j (posR rs l) with h | h | h
    · exact hne j h e
    · subst h
      exact hf (by unfold foundR; rw [decide_eq_true hj, decide_eq_true e]; rfl)
    · have h4 := hs (posR rs l) j h hj
      rw [e] at h4
      rcases h3 with h5 | h5
      · omega
      · rw [h5] at h4; cases h4
set_option maxRecDepth 100000 in
set_option maxHeartbeats 4000000 in
theorem rfind_any (p : Option Addr) (n c : Nat) (rs : List Rt) (l : List Int) (w : World) (h : RtsIn w p n c rs) (hw : WfL l) (hs : risesR rs) (hn : n ≤ 1000000) :
    Calls Tryd.prog 18 #[.slice p n c, .string (strOfNums l)] w (Ret (FindRes (findR rs l) w)) := by
  obtain ⟨b1, o1, ha1, hx1⟩ := h.sl.at_
  have hi1 := fun W => Sl.idx (P := Tryd.prog) (cap := c) Tryd.underlying22 sizeRoots (fun h => (ha1 h).1) W .i64
  have G1 := Lib.hid (fun i hi => h.get hx1 i hi)
  have L1 : Hid (0 < n → b1 < w.heap.size) := fun h => (ha1 h).2
  have HPL := fun W (hm : Mod [] w W) => Lib.hid (place_any p n c rs l W (h.mod0 hm) hw hs hn)
  unfold PlaceR at HPL
  have HFI := Lib.hid (findR_pos (l := l) hs)
  have HFO : Hid (foundR rs l = true → posR rs l < n) := fun h2 => by
    unfold foundR at h2; simp only [Bool.and_eq_true, decide_eq_true_eq] at h2; rw [← h.len]; exact h2.1
  have HAT0 := Lib.hid (at_alloc w (.cells #[.string ⟨#[]⟩, .int .i64 0, .int .i64 0] 34))
  have HM0 : Hid (Mod [] w (w.alloc (.cells #[.string ⟨#[]⟩, .int .i64 0, .int .i64 0] 34))) := Mod.of_alloc w _
  generalize posR rs l = k at *
  generalize foundR rs l = F at *
  clear h ha1 hx1 hw hs
  go_enter Tryd.func18, Tryd.ntmps18
  go_wp2_with fail
  refine (HPL _ HM0.out).out.mono ?_
  rintro _ w2 ⟨_, rfl, rfl, m2⟩
  have M2 := Lib.hid (HM0.out.same m2)
  have HAT2 := Lib.hid (m2.at HAT0.out (by simp))
  obtain ⟨A, hA⟩ : ∃ A, A = w.heap.size := ⟨_, rfl⟩
  rw [← hA] at HAT2 ⊢
  have HLA : Hid (w.heap.size ≤ A) := by unfold Hid; omega
  clear m2 HPL HAT0 HM0 hA
  have c0 : w2.cell? ⟨A, 0, none⟩ = some (.string ⟨#[]⟩) := cell_of_at HAT2.out 0
  have c1 : w2.cell? ⟨A, 1, none⟩ = some (.int .i64 0) := cell_of_at HAT2.out 1
  have c2 : w2.cell? ⟨A, 2, none⟩ = some (.int .i64 0) := cell_of_at HAT2.out 2
  have f0 : w2.frozen? ⟨A, 0, none⟩ = false := free_of_at HAT2.out 0
  have f1 : w2.frozen? ⟨A, 1, none⟩ = false := free_of_at HAT2.out 1
  have f2 : w2.frozen? ⟨A, 2, none⟩ = false := free_of_at HAT2.out 2
  cases F with
  | true =>
    have hkn := HFO.out rfl
    obtain ⟨l2, pg, ct, hr, hwf, d0, d1, d2⟩ := G1.out k hkn
    rw [← M2.out.cell (a := ⟨b1, _, none⟩) (L1.out (by omega)) (by simp)] at d0 d1 d2
    have j1 := fun W => hi1 W k hkn
    have HE : Hid (findR rs l = (⟨l2, pg, ct⟩, true)) := by unfold Hid; rw [HFI.out, if_pos rfl, hr]
    clear hr hwf
    go_wp2
    have h1 := at_setCell (at_setCell (at_setCell HAT2.out 0 (.string (strOfNums l2))) 1 (.int .i64 pg)) 2 (.int .i64 ct)
    have hmd : Mod [A] w2 _ := ((Mod.of_setCell w2 A 0 (.string (strOfNums l2))).same (Mod.of_setCell _ A 1 (.int .i64 pg))).same (Mod.of_setCell _ A 2 (.int .i64 ct))
    have HMM := Lib.hid (M2.out.trans hmd (fun x hx => Or.inr (by simp at hx; rw [hx]; exact HLA.out)))
    have g0 := cell_of_at h1 0
    have g1 := cell_of_at h1 1
    have g2 := cell_of_at h1 2
    clear h1 hmd
    refine bodyPost_ret (v := .tuple #[.agg #[.string (strOfNums l2), .int .i64 pg, .int .i64 ct], .bool true]) ?_ rfl ?_
    · rw [results_cell_tmp rfl]; go_simp
    · exact .mk ⟨by rw [HE.out]; rfl, HMM.out⟩
  | false =>
    have HE : Hid (findR rs l = (default, false)) := by unfold Hid; rw [HFI.out, if_neg (by simp)]
    go_wp2
    have h1 := at_setCell (at_setCell (at_setCell HAT2.out 0 (.string ⟨#[]⟩)) 1 (.int .i64 0)) 2 (.int .i64 0)
    have hmd : Mod [A] w2 _ := ((Mod.of_setCell w2 A 0 (.string ⟨#[]⟩)).same (Mod.of_setCell _ A 1 (.int .i64 0))).same (Mod.of_setCell _ A 2 (.int .i64 0))
    have HMM := Lib.hid (M2.out.trans hmd (fun x hx => Or.inr (by simp at hx; rw [hx]; exact HLA.out)))
    have g0 := cell_of_at h1 0
    have g1 := cell_of_at h1 1
    have g2 := cell_of_at h1 2
    clear h1 hmd
    refine bodyPost_ret (v := .tuple #[.agg #[.string ⟨#[]⟩, .int .i64 0, .int .i64 0], .bool false]) ?_ rfl ?_
    · rw [results_cell_tmp rfl]; go_simp
    · exact .mk ⟨by rw [HE.out]; rfl, HMM.out⟩

/-- A clone: an own list. -/
def CloneR (rs : List Rt) (w : World) (v : Value) (w' : World) : Prop := ∃ p n c, v = .slice p n c ∧ n = rs.length ∧ w'.ownsRow w.heap.size 34 3 (.slice p n c) n (rcells rs) ∧ (∀ r ∈ rs, r.wf) ∧ Mod [] w w'
set_option maxRecDepth 100000 in
set_option maxHeartbeats 4000000 in
theorem rclone_any (q : Option Addr) (n d : Nat) (rs : List Rt) (w : World) (h : RtsIn w q n d rs) (hn : n ≤ 1000000) :
    Calls Tryd.prog 32 #[.slice q n d] w (Ret (CloneR rs w)) := by
  have q22 : ∀ (W : World) (a : Option Addr) (n c n' c' : Nat), (binOp .eql 22 (.slice a n c) (.slice none n' c')).run Tryd.prog W = .ok (.bool a.isNone) W := fun W a n c n' c' => Lib.run_eql_slice_nil W _ _ a n c n' c' Tryd.underlying22
  have HL := Lib.hid h.len
  have HWF := Lib.hid h.wf
  cases q with
  | none =>
    have hn0 : rs = [] := by
      rcases Nat.eq_zero_or_pos n with h0 | h0
      · exact List.eq_nil_of_length_eq_zero (by rw [h.len, h0])
      · obtain ⟨_, _, e, _⟩ := h.sl.addr h0; cases e
    subst hn0
    clear h HL HWF
    go_enter Tryd.func32, Tryd.ntmps32
    go_wp2
    go_ret
    exact .mk ⟨none, 0, 0, rfl, rfl, by simpa [rcells] using World.ownsRow_nil w w.heap.size 34 3, by simp, Mod.refl _ _⟩
  | some a =>
    obtain ⟨i0, hi0, hz0, hz1, hz2⟩ := info_parts infoRoot
    have HO : Hid ((w.alloc (.cells #[] 34)).ownsRow w.heap.size 34 3 (.slice (some ⟨w.heap.size, 0, none⟩) 0 0) 0 []) := own_empty' w _ _ _ (Nat.le_refl _)
    have MC : Hid (Mod [] w (w.alloc (.cells #[] 34))) := Mod.of_alloc w _
    have S1 := Lib.hid (h.sl.mod MC.out (by simp))
    have L1 := MC.out.size
    clear h
    go_enter Tryd.func32, Tryd.ntmps32
    go_wp2_with (first
      | (at_builtin; go_must (refine wpList_append_src _ rfl _ _ _ rfl w.heap.size 34 i0 _ 3 32 Tryd.underlying22 hi0 hz0 hz1 hz2 rfl (by omega) (.slice (some ⟨w.heap.size, 0, none⟩) 0 0) 0 _ rfl HO.out _ _ _ _ rfl S1.out n (by omega) (by unfold maxLen; omega) (by omega) L1 ?_); intro p3 c3 w3 hown3 hgrow3 hnil3 hlie3; (have HO3 := Lib.hid hown3); (have HM3 : Hid (Mod [] w w3) := MC.out.trans (Mod.of_grown' hgrow3) (fun b hb => Or.inr (by simp [Value.ownBlock] at hb; omega))); clear hown3 hgrow3 hnil3 hlie3)
      | go_in)
    go_ret
    exact .mk ⟨p3, n, c3, rfl, HL.out.symm, by simpa using HO3.out, HWF.out, HM3.out⟩
end Go.Proofs.YtpdkkokgpdabhaaDoor
namespace Go.Proofs.YtpdkkokgpdabhaaDoor
open Go.RowKit Go.Maps
set_option linter.unusedSimpArgs false
set_option linter.unusedVariables false

set_option maxRecDepth 100000 in
theorem wdel_any (l2 : List Int) (pg ct : Int) (l : List Int) (X : Nat) (w : World) (hc : w.cell? ⟨X, 0, none⟩ = some (.string (strOfNums l))) (h1 : WfL l2) (h2 : WfL l) :
    Calls Tryd.prog 36 #[.agg #[.string (strOfNums l2), .int .i64 pg, .int .i64 ct], .pointer (some ⟨X, 0, none⟩)] w (Ret (BoolM (decide (l2 = l)) w)) := by
  have hX : X < w.heap.size := World.block_lt_of_cell? w _ hc
  have HM : Hid (Mod [] w (w.alloc (.cells #[.string (strOfNums l2), .int .i64 pg, .int .i64 ct] 34))) := Mod.of_alloc w _
  have c0 : (w.alloc (.cells #[.string (strOfNums l2), .int .i64 pg, .int .i64 ct] 34)).cell? ⟨w.heap.size, 0, none⟩ = some (.string (strOfNums l2)) := cell_of_at (at_alloc w _) 0
  have d0 : (w.alloc (.cells #[.string (strOfNums l2), .int .i64 pg, .int .i64 ct] 34)).cell? ⟨X, 0, none⟩ = some (.string (strOfNums l)) := (HM.out.cell (a := ⟨X, 0, none⟩) hX (by simp)).trans hc
  have hcmp := str_beq h1 h2
  generalize decide (l2 = l) = D at *
  clear h1 h2 hX hc
  go_enter Tryd.func36, Tryd.ntmps36
  go_wp2
  go_ret
  exact .mk ⟨rfl, HM.out⟩
def IdxR (rs : List Rt) (n : Nat) (l : List Int) (w : World) (v : Value) (w' : World) : Prop :=
  ((∃ k : Nat, k < n ∧ (∀ j, j < k → (rs.getD j default).l ≠ l) ∧ (rs.getD k default).l = l ∧ v = .int .i64 k) ∨ ((∀ j, j < n → (rs.getD j default).l ≠ l) ∧ v = .int .i64 (-1))) ∧ Mod [] w w'
set_option maxRecDepth 100000 in
set_option maxHeartbeats 4000000 in
theorem indexf_any (p : Option Addr) (n c : Nat) (rs : List Rt) (l : List Int) (X : Nat) (w : World) (h : RtsIn w p n c rs) (hw : WfL l) (hc : w.cell? ⟨X, 0, none⟩ = some (.string (strOfNums l))) :
    Calls Tryd.prog 54 #[.slice p n c, .func (.func 36) #[] #[.pointer (some ⟨X, 0, none⟩)]] w (Ret (IdxR rs n l w)) := by
  have hX : X < w.heap.size := World.block_lt_of_cell? w _ hc
  have hcm := h.sl.capm; have hle := h.sl.le
  unfold maxLen at hcm
  obtain ⟨b1, o1, ha1, hx1⟩ := h.sl.at_
  have hi1 := fun W => Sl.idx (P := Tryd.prog) (cap := c) Tryd.underlying22 sizeRoots (fun h => (ha1 h).1) W .i64
  have G1 := Lib.hid (fun i hi => h.get hx1 i hi)
  have L1 : Hid (0 < n → b1 < w.heap.size) := fun h => (ha1 h).2
  have HDEL := fun l2 pg ct (h1 : WfL l2) W (hm : Mod [] w W) => Lib.hid (wdel_any l2 pg ct l X W ((hm.cell (a := ⟨X, 0, none⟩) hX (by simp)).trans hc) h1 hw)
  clear h ha1 hx1 hc hX
  go_enter Tryd.func54, Tryd.ntmps54
  go_wp2
  go_loopw [8] (fun i wr => ∃ k : Nat, k ≤ n ∧ i = .int .i64 k ∧ Mod [] w wr ∧ ∀ j, j < k → (rs.getD j default).l ≠ l) (fun i _ => n - (intOf i).toNat)
  case atStart => exact ⟨0, by omega, rfl, Mod.refl _ _, by omega⟩
  case round =>
    obtain ⟨k, hk, rfl, hmd, hall⟩ := hrel
    have HA := Lib.hid hall
    have HM := Lib.hid hmd
    clear hall hmd
    by_cases hlt : k < n
    · obtain ⟨l2, pg, ct, hr, hwf, d0, d1, d2⟩ := G1.out k hlt
      rw [← HM.out.cell (a := ⟨b1, _, none⟩) (L1.out (by omega)) (by simp)] at d0 d1 d2
      have j1 := fun W => hi1 W k hlt
      have hwi : IntKind.i64.wrap ((k : Int) + 1) = (k : Int) + 1 := IntWalk.i64_in _ (by omega)
      have HD := HDEL l2 pg ct hwf.1 wr HM.out
      unfold BoolM at HD
      have HR := Lib.hid hr
      clear hr hwf
      go_wp2_with fail
      refine HD.out.mono ?_
      rintro _ w2 ⟨_, rfl, rfl, m2⟩
      have M2 := Lib.hid (HM.out.same m2)
      clear m2 HD d0 d1 d2
      by_cases he : l2 = l
      · rw [decide_eq_true he]
        have HE : Hid ((rs.getD k default).l = l) := by unfold Hid; rw [HR.out]; exact he
        clear he
        go_wp2
        go_ret
        exact .mk ⟨Or.inl ⟨k, hlt, HA.out, HE.out, rfl⟩, M2.out⟩
      · rw [decide_eq_false he]
        have HNX : Hid (∀ j, j < k + 1 → (rs.getD j default).l ≠ l) := fun j hj => by
          rcases Nat.lt_succ_iff_lt_or_eq.1 hj with h | rfl
          · exact HA.out j h
          · rw [HR.out]; exact he
        clear he
        go_wp2
        go_roundw
        case rel => exact ⟨k + 1, by omega, by go_num, M2.out, HNX.out⟩
        case measure => simp [intOf]; omega
    · obtain rfl : k = n := by omega
      go_wp2
      go_ret
      exact .mk ⟨Or.inr ⟨HA.out, rfl⟩, HM.out⟩

theorem rcells_set : ∀ {cs : List Rt} {i : Nat} (hi : i < cs.length) (v : Rt), (((rcells cs).set (i * 3) (.string (strOfNums v.l))).set (i * 3 + 1) (.int .i64 v.page)).set (i * 3 + 2) (.int .i64 v.count) = rcells (cs.set i v)
  | [], i, hi, v => by simp at hi
  | a :: r, 0, _, v => by simp [rcells, Rt.cells]
  | a :: r, i + 1, hi, v => by
    have ih := rcells_set (cs := r) (i := i) (by simpa using hi) v
    have e : rcells (a :: r) = a.cells ++ rcells r := rfl
    have e2 : rcells ((a :: r).set (i + 1) v) = a.cells ++ rcells (r.set i v) := rfl
    rw [e, e2, ← ih, show (i + 1) * 3 = a.cells.length + i * 3 from by simp [Rt.cells]; omega]
    simp only [List.set_append_right, Nat.le_add_right, Nat.add_sub_cancel_left, Nat.add_assoc, List.length_set]
/-- A row of roots in its own block. -/
structure OwnB (w : World) (g : Nat) (cs : List Rt) (sp : List Value) : Prop where
  at_ : w.heap[g]? = some (.cells (rcells cs ++ sp).toArray 34 (0, 0))
theorem OwnB.cell {w : World} {g : Nat} {cs : List Rt} {sp : List Value} (h : OwnB w g cs sp) {i : Nat} (hi : i < cs.length) (j : Nat) (hj : j < 3) : w.cell? ⟨g, i * 3 + j, none⟩ = (cs[i]).cells[j]? := by
  rw [cell_of_at h.at_, List.getElem?_toArray, List.getElem?_append_left (by rw [rcells_len]; omega), rcells_at hi j hj]
theorem OwnB.mod {w w' : World} {g : Nat} {cs : List Rt} {sp : List Value} (h : OwnB w g cs sp) (hm : Mod [] w w') : OwnB w' g cs sp := ⟨hm.at h.at_ (by simp)⟩
theorem OwnB.set {w : World} {g : Nat} {cs : List Rt} {sp : List Value} (h : OwnB w g cs sp) {i : Nat} (hi : i < cs.length) (v : Rt) :
    OwnB (((w.setCell ⟨g, i * 3, none⟩ (.string (strOfNums v.l))).setCell ⟨g, i * 3 + 1, none⟩ (.int .i64 v.page)).setCell ⟨g, i * 3 + 2, none⟩ (.int .i64 v.count)) g (cs.set i v) sp := by
  have h1 := at_setCell (at_setCell (at_setCell h.at_ (i * 3) (.string (strOfNums v.l))) (i * 3 + 1) (.int .i64 v.page)) (i * 3 + 2) (.int .i64 v.count)
  refine ⟨h1.trans ?_⟩
  congr 2
  simp only [List.setIfInBounds_toArray]
  congr 1
  rw [List.set_append_left _ _ (by rw [rcells_len]; omega), List.set_append_left _ _ (by rw [List.length_set, rcells_len]; omega), List.set_append_left _ _ (by rw [List.length_set, List.length_set, rcells_len]; omega), rcells_set hi]
end Go.Proofs.YtpdkkokgpdabhaaDoor
namespace Go.Proofs.YtpdkkokgpdabhaaDoor
open Go.RowKit Go.Maps
set_option linter.unusedSimpArgs false
set_option linter.unusedVariables false

theorem zeroRoot (W : World) : (zeroValue 34).run Tryd.prog W = .ok (.agg #[.string ⟨#[]⟩, .int .i64 0, .int .i64 0]) W := by kernel_rfl
theorem zeros_one (m : Nat) : ∀ v ∈ (Builtin.zeroCells #[Value.string ⟨#[]⟩, .int .i64 0, .int .i64 0] m).toList, v.oneCell' = true := by
  intro v hv
  simp only [Builtin.zeroCells, Array.toList_map, List.mem_map] at hv
  obtain ⟨i, _, rfl⟩ := hv
  have h3 : i % (#[Value.string ⟨#[]⟩, Value.int .i64 0, .int .i64 0] : Array Value).size < 3 := Nat.mod_lt _ (by decide)
  generalize i % (#[Value.string ⟨#[]⟩, Value.int .i64 0, .int .i64 0] : Array Value).size = k at *
  match k, h3 with
  | 0, _ => rfl
  | 1, _ => rfl
  | 2, _ => rfl
theorem zeros_len (m : Nat) : (Builtin.zeroCells #[Value.string ⟨#[]⟩, .int .i64 0, .int .i64 0] m).toList.length = m * 3 := by
  rw [Array.length_toList, size_zeroCells]; rfl
theorem Mod.of_setRow (w : World) (g : Nat) (cs : Array Value) : Mod [g] w (w.setRow g cs) :=
  ⟨rfl, rfl, rfl, by simp, fun k _ hk => setRow_other w g k cs (by simpa using hk)⟩
/-- The end of an own row is made zeros. -/
theorem run_clearR {w : World} {g : Nat} {cs : List Rt} {sp : List Value} (h : OwnB w g cs sp) (i c : Nat) (hi : i < cs.length) :
    ∃ w', (∀ ty, (Builtin.clear_ #[22] ty #[.slice (some ⟨g, i * 3, none⟩) (cs.length - i) c]).run Tryd.prog w = .ok (.tuple #[]) w') ∧ (∃ X, w'.heap[g]? = some (.cells (rcells (cs.take i) ++ X).toArray 34 (0, 0))) ∧ Mod [g] w w' := by
  have hl := zeros_len (cs.length - i)
  have hst := run_storeCells_at Tryd.prog g (i * 3) 34 (Builtin.zeroCells #[Value.string ⟨#[]⟩, .int .i64 0, .int .i64 0] (cs.length - i)).toList 0 _ w h.at_
    (by rw [hl]; simp [rcells_len]; omega) (zeros_one _)
  simp only [Nat.add_zero] at hst
  obtain ⟨Z, hZ⟩ : ∃ Z, Z = (Builtin.zeroCells #[Value.string ⟨#[]⟩, .int .i64 0, .int .i64 0] (cs.length - i)).toList := ⟨_, rfl⟩
  rw [← hZ] at hst hl
  obtain ⟨NR, hNR, hst⟩ : ∃ NR : Array Value, NR = (rcells (cs.take i) ++ (Z ++ (rcells cs ++ sp).drop (i * 3 + Z.length))).toArray ∧ (storeCells ⟨g, i * 3, none⟩ Z 0).run Tryd.prog w = .ok () (w.setRow g NR) := by
    refine ⟨_, rfl, hst.trans ?_⟩
    congr 3
    rw [List.append_assoc]
    show (rcells cs ++ sp).take (i * 3) ++ _ = _
    rw [List.take_append_of_le_length (by rw [rcells_len]; omega), rcells_take]
  refine ⟨w.setRow g NR, fun ty => ?_, ⟨_, by rw [setRow_heap w g _ NR _ _ h.at_, hNR]⟩, Mod.of_setRow w g _⟩
  obtain ⟨m, hm⟩ : ∃ m, cs.length - i = m + 1 := ⟨cs.length - i - 1, by omega⟩
  rw [hm] at hZ ⊢
  rw [hZ] at hst
  simp [Builtin.clear_, run_underlying Tryd.underlying22, zeroRoot, Value.cells, hst]
theorem RtsIn.of_own {w : World} {g n c : Nat} {cs : List Rt} {sp : List Value} (h : OwnB w g cs sp) (hn : cs.length = n) (hc : n ≤ c) (hm : c ≤ maxLen) (hw : ∀ r ∈ cs, r.wf) : RtsIn w (some ⟨g, 0, none⟩) n c cs :=
  ⟨⟨by rw [rcells_len, hn], hc, hm, rcells_one _, g, 0, fun _ => ⟨rfl, lt_of_at h.at_⟩, fun j u hj => by
    rw [Nat.zero_add, cell_of_at h.at_, List.getElem?_toArray, List.getElem?_append_left (List.getElem?_eq_some_iff.1 hj).1]; exact hj⟩, hw⟩

theorem set_take {cs : List Rt} {i : Nat} (hi : i < cs.length) (x : Rt) : (cs.set i x).take (i + 1) = cs.take i ++ [x] := by
  rw [List.set_eq_take_append_cons_drop, if_pos hi, show cs.take i ++ x :: cs.drop (i + 1) = (cs.take i ++ [x]) ++ cs.drop (i + 1) by simp]
  exact List.take_left' (by simp; omega)
def DelR (rs : List Rt) (g : Nat) (w : World) (v : Value) (w' : World) : Prop := ∃ p n c, v = .slice p n c ∧ RtsIn w' p n c rs ∧ Mod [g] w w'
set_option maxRecDepth 100000 in
set_option maxHeartbeats 8000000 in
theorem delf_any (g n c : Nat) (rs : List Rt) (sp : List Value) (l : List Int) (X : Nat) (w : World) (h : OwnB w g rs sp) (hl : rs.length = n) (hnc : n ≤ c) (hcm : c ≤ maxLen) (hwf : ∀ r ∈ rs, r.wf) (hw : WfL l) (hc : w.cell? ⟨X, 0, none⟩ = some (.string (strOfNums l))) (hXg : X ≠ g) :
    Calls Tryd.prog 35 #[.slice (some ⟨g, 0, none⟩) n c, .func (.func 36) #[] #[.pointer (some ⟨X, 0, none⟩)]] w (Ret (DelR (withoutR rs l) g w)) := by
  have hX : X < w.heap.size := World.block_lt_of_cell? w _ hc
  have HIN := Lib.hid (RtsIn.of_own h hl hnc hcm hwf)
  have HIX := Lib.hid (indexf_any (some ⟨g, 0, none⟩) n c rs l X w HIN.out hw hc)
  unfold IdxR at HIX
  have hidx := fun W => Sl.idx (P := Tryd.prog) (p := some ⟨g, 0, none⟩) (m := n) (cap := c) (b := g) (off := 0) Tryd.underlying22 sizeRoots (fun _ => rfl) W .i64
  simp only [Nat.zero_add] at hidx
  have HDEL := fun l2 pg ct (h1 : WfL l2) W (hm : Mod [g] w W) => Lib.hid (wdel_any l2 pg ct l X W ((hm.cell (a := ⟨X, 0, none⟩) hX (by simpa using hXg)).trans hc) h1 hw)
  unfold BoolM at HDEL
  have HOB := Lib.hid h
  have HL := Lib.hid hl
  have HWF := Lib.hid hwf
  unfold maxLen at hcm
  clear h hl hwf hw hc hX hXg
  go_enter Tryd.func35, Tryd.ntmps35
  go_wp2_with fail
  refine HIX.out.mono ?_
  rintro _ w1 ⟨_, rfl, hv, m1⟩
  have M1 := Lib.hid m1
  clear m1 HIX
  rcases hv with ⟨k, hk, hne, heq, rfl⟩ | ⟨hne, rfl⟩
  · have HNE := Lib.hid hne
    have HEQ := Lib.hid heq
    have hwk : IntKind.i64.wrap ((k : Int) + 1) = (k : Int) + 1 := IntWalk.i64_in _ (by omega)
    have hk1 : ((k : Int) == -1) = false := by first | (simp; done) | (simp; omega)
    clear hne heq
    have HS0 : Hid (rs.take k = withoutR (rs.take (k + 1)) l) := by
      unfold Hid
      rw [withoutR_take (by rw [HL.out]; exact hk), if_pos HEQ.out, List.append_nil]
      unfold withoutR
      refine (List.filter_eq_self.2 fun r hr => ?_).symm
      obtain ⟨i, hi, rfl⟩ := List.mem_iff_getElem.1 hr
      have hik : i < k := by rw [List.length_take] at hi; omega
      have := HNE.out i hik
      have hin : i < rs.length := by rw [HL.out]; omega
      rw [List.getElem_take]
      simpa [List.getD_eq_getElem?_getD, hin] using this
    have HOB1 := Lib.hid (HOB.out.mod M1.out)
    have M1g : Hid (Mod [g] w w1) := M1.out.mono (by simp)
    go_wp2
    go_loopw [5, 6] (fun iv jv wr => ∃ (i j : Nat) (cs : List Rt), i < j ∧ j ≤ n ∧ iv = .int .i64 i ∧ jv = .int .i64 j ∧ OwnB wr g cs sp ∧ cs.length = n ∧ cs.take i = withoutR (rs.take j) l ∧ cs.drop j = rs.drop j ∧ (∀ r ∈ cs, r.wf) ∧ Mod [g] w wr) (fun _ jv _ => n - (intOf jv).toNat)
    case atStart => exact ⟨k, k + 1, rs, by omega, by omega, rfl, by go_num, HOB1.out, HL.out, HS0.out, rfl, HWF.out, M1g.out⟩
    case round =>
      obtain ⟨i, j, cs, hij, hjn, rfl, rfl, hob, hlen, htk, hdr, hcw, hm⟩ := hrel
      have HB := Lib.hid hob
      have HLE := Lib.hid hlen
      have HTK := Lib.hid htk
      have HDR := Lib.hid hdr
      have HCW := Lib.hid hcw
      have HM := Lib.hid hm
      clear hob hlen htk hdr hcw hm
      have hgl : g < wr.heap.size := lt_of_at HB.out.at_
      by_cases hlt : j < n
      · have hjc : j < cs.length := by rw [HLE.out]; exact hlt
        have hjr : j < rs.length := by rw [HL.out]; exact hlt
        obtain ⟨x, hx⟩ : ∃ x : Rt, x = cs[j] := ⟨_, rfl⟩
        have hrj : rs.getD j default = x := by
          have h1 := congrArg (fun q => q[0]?) HDR.out
          simp only [List.getElem?_drop, Nat.add_zero] at h1
          rw [List.getElem?_eq_getElem hjc, ← hx] at h1
          rw [List.getD_eq_getElem?_getD, ← h1]; rfl
        have HDJ : Hid (cs.drop (j + 1) = rs.drop (j + 1)) := by
          have := congrArg (List.drop 1) HDR.out
          rw [List.drop_drop, List.drop_drop] at this
          exact this
        have hwf : x.wf := by rw [hx]; exact HCW.out _ (List.getElem_mem _)
        have HTJ := Lib.hid (withoutR_take (l := l) hjr)
        rw [hrj] at HTJ
        obtain ⟨l2, pg, ct⟩ := x
        have d0 : wr.cell? ⟨g, j * 3, none⟩ = some (.string (strOfNums l2)) := by have := HB.out.cell hjc 0 (by omega); rw [← hx] at this; exact this
        have d1 : wr.cell? ⟨g, j * 3 + 1, none⟩ = some (.int .i64 pg) := by have := HB.out.cell hjc 1 (by omega); rw [← hx] at this; exact this
        have d2 : wr.cell? ⟨g, j * 3 + 2, none⟩ = some (.int .i64 ct) := by have := HB.out.cell hjc 2 (by omega); rw [← hx] at this; exact this
        have HWX := Lib.hid hwf
        have HD := HDEL l2 pg ct hwf.1 _ (HM.out.alloc (o := .cells #[.string (strOfNums l2), .int .i64 pg, .int .i64 ct] 34))
        have HB1 := Lib.hid (HB.out.mod (Mod.of_alloc wr (.cells #[.string (strOfNums l2), .int .i64 pg, .int .i64 ct] 34)))
        have HAT1 := Lib.hid (at_alloc wr (.cells #[.string (strOfNums l2), .int .i64 pg, .int .i64 ct] 34))
        have HM1 := Lib.hid (HM.out.alloc (o := .cells #[.string (strOfNums l2), .int .i64 pg, .int .i64 ct] 34))
        have hj1 := fun W => hidx W j hlt
        have hi1 := fun W => hidx W i (by omega)
        have hwi : IntKind.i64.wrap ((i : Int) + 1) = (i : Int) + 1 := IntWalk.i64_in _ (by omega)
        have hwj : IntKind.i64.wrap ((j : Int) + 1) = (j : Int) + 1 := IntWalk.i64_in _ (by omega)
        have hic : i < cs.length := by omega
        clear hx hrj hwf hjc hjr
        go_wp2_with fail
        refine HD.out.mono ?_
        rintro _ w2 ⟨_, rfl, rfl, m2⟩
        have HB2 := Lib.hid (HB1.out.mod m2)
        have HAT2 := Lib.hid (m2.at HAT1.out (by simp))
        have HM2 := Lib.hid (HM1.out.same (m2.mono (by simp)))
        obtain ⟨A, hA⟩ : ∃ A, A = wr.heap.size := ⟨_, rfl⟩
        rw [← hA] at HAT2 ⊢
        clear m2 HD d0 d1 d2 HB1 HAT1 HM1 hA
        by_cases he : l2 = l
        · rw [decide_eq_true he]
          have HTN : Hid (cs.take i = withoutR (rs.take (j + 1)) l) := by unfold Hid; rw [HTJ.out, if_pos he, List.append_nil]; exact HTK.out
          clear he
          go_wp2
          go_roundw
          case rel => exact ⟨i, j + 1, cs, by omega, by omega, rfl, by go_num, HB2.out, HLE.out, HTN.out, HDJ.out, HCW.out, HM2.out⟩
          case measure => simp [intOf]; omega
        · rw [decide_eq_false he]
          have HTN : Hid ((cs.set i ⟨l2, pg, ct⟩).take (i + 1) = withoutR (rs.take (j + 1)) l) := by unfold Hid; rw [set_take hic, HTJ.out, if_neg he, HTK.out]
          have HDN : Hid ((cs.set i ⟨l2, pg, ct⟩).drop (j + 1) = rs.drop (j + 1)) := by unfold Hid; rw [List.drop_set_of_lt (by omega)]; exact HDJ.out
          have HLN : Hid ((cs.set i ⟨l2, pg, ct⟩).length = n) := by unfold Hid; rw [List.length_set]; exact HLE.out
          have HWN : Hid (∀ r ∈ cs.set i ⟨l2, pg, ct⟩, r.wf) := fun r hr => by
            rcases List.mem_or_eq_of_mem_set hr with h | h
            · exact HCW.out r h
            · rw [h]; exact HWX.out
          have HST := Lib.hid (HB2.out.set hic ⟨l2, pg, ct⟩)
          have k0 : w2.cell? ⟨A, 0, none⟩ = some (.string (strOfNums l2)) := cell_of_at HAT2.out 0
          have k1 : w2.cell? ⟨A, 1, none⟩ = some (.int .i64 pg) := cell_of_at HAT2.out 1
          have k2 : w2.cell? ⟨A, 2, none⟩ = some (.int .i64 ct) := cell_of_at HAT2.out 2
          have c0 : w2.cell? ⟨g, i * 3, none⟩ = some (.string (strOfNums (cs[i]).l)) := HB2.out.cell hic 0 (by omega)
          have c1 : w2.cell? ⟨g, i * 3 + 1, none⟩ = some (.int .i64 (cs[i]).page) := HB2.out.cell hic 1 (by omega)
          have c2 : w2.cell? ⟨g, i * 3 + 2, none⟩ = some (.int .i64 (cs[i]).count) := HB2.out.cell hic 2 (by omega)
          have f0 : w2.frozen? ⟨g, i * 3, none⟩ = false := free_of_at HB2.out.at_ (i * 3)
          have f1 : w2.frozen? ⟨g, i * 3 + 1, none⟩ = false := free_of_at HB2.out.at_ (i * 3 + 1)
          have f2 : w2.frozen? ⟨g, i * 3 + 2, none⟩ = false := free_of_at HB2.out.at_ (i * 3 + 2)
          have HMS : Hid (Mod [g] w _) := HM2.out.trans (((Mod.of_setCell w2 g (i * 3) (.string (strOfNums l2))).same (Mod.of_setCell _ g (i * 3 + 1) (.int .i64 pg))).same (Mod.of_setCell _ g (i * 3 + 2) (.int .i64 ct))) (fun b hb => Or.inl hb)
          clear he
          go_wp2
          go_roundw
          case rel => exact ⟨i + 1, j + 1, cs.set i ⟨l2, pg, ct⟩, by omega, by omega, by go_num, by go_num, HST.out, HLN.out, HTN.out, HDN.out, HWN.out, HMS.out⟩
          case measure => simp [intOf]; omega
      · obtain rfl : j = n := by omega
        have hic : i < cs.length := by rw [HLE.out]; exact hij
        obtain ⟨w9, hclr, ⟨Z, hZ⟩, m9⟩ := run_clearR HB.out i (c - i) hic
        rw [HLE.out] at hclr
        have hsl1 : ∀ W, (Instr.slice 22 (.slice (some ⟨g, 0, none⟩) j c) (some (.int .i64 i)) none none).run Tryd.prog W = .ok (.slice (some ⟨g, i * 3, none⟩) (j - i) (c - i)) W := fun W => by
          rw [run_slice_l W 22 (some ⟨g, 0, none⟩) j c Tryd.underlying22 .i64 i (by omega) (by omega), sizeRoots]
          simp only [Result.andThen, sliced, Int.toNat_natCast]
          rw [if_neg (by omega)]
          simp [add_plain]
        have hsl2 := ((RtsIn.of_own HB.out HLE.out hnc (by unfold maxLen; exact hcm) HCW.out).sl.sub_h Tryd.underlying22 sizeRoots i .i64 (by omega)).1
        have HFIN : Hid (RtsIn w9 (some ⟨g, 0, none⟩) i c (withoutR rs l)) := by
          have e : cs.take i = withoutR rs l := by rw [HTK.out, ← HL.out, List.take_length]
          unfold Hid; rw [← e]
          exact RtsIn.of_own ⟨hZ⟩ (by rw [List.length_take]; omega) (by omega) (by unfold maxLen; exact hcm) (fun r hr => HCW.out r (List.mem_of_mem_take hr))
        have HM9 := Lib.hid (HM.out.same m9)
        clear hZ m9
        go_wp2
        go_ret
        exact .mk ⟨_, _, _, rfl, HFIN.out, HM9.out⟩
  · have HW : Hid (withoutR rs l = rs) := by
      unfold Hid withoutR
      rw [List.filter_eq_self]
      intro r hr
      obtain ⟨i, hi, rfl⟩ := List.mem_iff_getElem.1 hr
      have := hne i (by rw [HL.out] at hi; exact hi)
      simpa [List.getD_eq_getElem?_getD, hi] using this
    clear hne
    go_wp2
    go_ret
    exact .mk ⟨_, _, _, rfl, by rw [HW.out]; exact HIN.out.mod0 M1.out, M1.out.mono (by simp)⟩
set_option maxRecDepth 100000 in
theorem delf_nil (l : List Int) (X : Nat) (w : World) (hw : WfL l) (hc : w.cell? ⟨X, 0, none⟩ = some (.string (strOfNums l))) :
    Calls Tryd.prog 35 #[.slice none 0 0, .func (.func 36) #[] #[.pointer (some ⟨X, 0, none⟩)]] w (Ret (RtsR [] w)) := by
  have HIX := Lib.hid (indexf_any none 0 0 [] l X w (RtsIn.nil w) hw hc)
  unfold IdxR at HIX
  clear hw hc
  go_enter Tryd.func35, Tryd.ntmps35
  go_wp2_with fail
  refine HIX.out.mono ?_
  rintro _ w1 ⟨_, rfl, hv, m1⟩
  have M1 := Lib.hid m1
  clear m1 HIX
  rcases hv with ⟨k, hk, hne, heq, rfl⟩ | ⟨hne, rfl⟩
  · omega
  · clear hne
    go_wp2
    go_ret
    exact .mk ⟨none, 0, 0, rfl, RtsIn.nil _, M1.out⟩
set_option maxRecDepth 100000 in
set_option maxHeartbeats 4000000 in
/-- The program's Without. -/
theorem rwithout_any (p : Option Addr) (n c : Nat) (rs : List Rt) (l : List Int) (w : World) (h : RtsIn w p n c rs) (hw : WfL l) (hn : n ≤ 1000000) :
    Calls Tryd.prog 20 #[.slice p n c, .string (strOfNums l)] w (Ret (RtsR (withoutR rs l) w)) := by
  have c0 : (w.alloc (.cells #[.string (strOfNums l)] 9)).cell? ⟨w.heap.size, 0, none⟩ = some (.string (strOfNums l)) := cell_of_at (at_alloc w _) 0
  have HA := Lib.hid (lt_of_at (at_alloc w (.cells #[.string (strOfNums l)] 9)))
  have HC0 := Lib.hid c0
  have HM0 : Hid (Mod [] w (w.alloc (.cells #[.string (strOfNums l)] 9))) := Mod.of_alloc w _
  have HCL := Lib.hid (rclone_any p n c rs _ (h.mod0 HM0.out) hn)
  unfold CloneR at HCL
  have HW := Lib.hid hw
  have HL := Lib.hid h.len
  clear h hw
  go_enter Tryd.func20, Tryd.ntmps20
  go_wp2_with fail
  refine HCL.out.mono ?_
  rintro _ w2 ⟨_, rfl, q, m, d, rfl, hm, how, hwf, m2⟩
  have M2 := Lib.hid (HM0.out.same m2)
  have HX := (m2.cell (a := ⟨w.heap.size, 0, none⟩) HA.out (by simp)).trans HC0.out
  have HWF := Lib.hid hwf
  have HMN := Lib.hid hm
  have HSZ := m2.size
  clear m2 HCL hwf hm c0
  rcases how.2 with ⟨hv, hnil⟩ | ⟨g, cap', cur, hv, hg, hb, h2, h3, h4, h5⟩
  · cases hv
    have hr0 : rs = [] := List.eq_nil_of_length_eq_zero HMN.out.symm
    subst hr0
    have HDN := Lib.hid (delf_nil l w.heap.size w2 HW.out HX)
    clear how hnil HX
    go_wp2_with fail
    refine HDN.out.mono ?_
    rintro _ w3 ⟨_, rfl, p3, n3, c3, rfl, hin, m3⟩
    have HIN := Lib.hid hin
    have M3 := Lib.hid (M2.out.same m3)
    clear hin m3 HDN
    go_wp2
    go_ret
    exact .mk ⟨p3, n3, c3, rfl, HIN.out, M3.out⟩
  · cases hv
    have HOB : Hid (OwnB w2 g rs (cur.toList.drop (m * 3))) := ⟨by
      rw [hb]
      congr 2
      rw [← h5, List.take_append_drop]⟩
    have HDN := Lib.hid (delf_any g m d rs (cur.toList.drop (m * 3)) l w.heap.size w2 HOB.out HMN.out.symm h2 h3 HWF.out HW.out HX (by
      intro e
      have h1 := hg
      have h2 : (w.alloc (.cells #[.string (strOfNums l)] 9)).heap.size = w.heap.size + 1 := Array.size_push _
      omega))
    unfold DelR at HDN
    have HG : Hid ((w.alloc (.cells #[.string (strOfNums l)] 9)).heap.size ≤ g) := hg
    have HG2 : Hid (w.heap.size ≤ g) := by
      have h2 : (w.alloc (.cells #[.string (strOfNums l)] 9)).heap.size = w.heap.size + 1 := Array.size_push _
      have := HG.out
      unfold Hid; omega
    clear how hg hb h2 h3 h4 h5 HX
    go_wp2_with fail
    refine HDN.out.mono ?_
    rintro _ w3 ⟨_, rfl, p3, n3, c3, rfl, hin, m3⟩
    have HIN := Lib.hid hin
    have M3 := Lib.hid (M2.out.trans m3 (fun b hb => Or.inr (by simp at hb; rw [hb]; exact HG2.out)))
    clear hin m3 HDN
    go_wp2
    go_ret
    exact .mk ⟨p3, n3, c3, rfl, HIN.out, M3.out⟩
end Go.Proofs.YtpdkkokgpdabhaaDoor
