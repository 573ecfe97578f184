/- Roots: the program's May. -/
import Derived.Test.YtpdkkokgpdabhaaDoorG04
namespace Go.Proofs.YtpdkkokgpdabhaaDoor
open Go.RowKit Go.Maps
set_option linter.unusedSimpArgs false
set_option linter.unusedVariables false

def rmF (A i : Nat) (l : List Int) (pg ct : Int) (oi : Nat) (v : Value) (w : World) : Prop :=
  match oi with
  | 0 => v = .agg #[.string (strOfNums l), .int .i64 pg, .int .i64 ct]
  | 1 => v = .bool false
  | 2 => v = .bool true
  | 3 => v = .bool true
  | 4 => v = undef
  | 5 => v = undef
  | 6 => v = undef
  | 7 => v = undef
  | 8 => v = undef
  | 9 => v = undef
  | 10 => v = undef
  | 11 => v = undef
  | 12 => v = undef
  | 13 => v = undef
  | 14 => v = undef
  | 15 => v = undef
  | 16 => v = undef
  | 17 => v = .bool true
  | _ => True
theorem rmF_keep {A i : Nat} {l : List Int} {pg ct : Int} {oi : Nat} {v : Value} {w w' : World} (hm : Mod [] w w') (hr : rmF A i l pg ct oi v w) : rmF A i l pg ct oi v w' := by
  have hk := Keep.of_mod hm
  unfold rmF at hr ⊢
  split at hr
  · exact hr
  · exact hr
  · exact hr
  · exact hr
  · exact hr
  · exact hr
  · exact hr
  · exact hr
  · exact hr
  · exact hr
  · exact hr
  · exact hr
  · exact hr
  · exact hr
  · exact hr
  · exact hr
  · exact hr
  · exact hr
  · trivial
def rmZ (A i : Nat) (l : List Int) (pg ct : Int) (oi : Nat) (v : Value) (w : World) : Prop :=
  match oi with
  | 0 => v = .agg #[.string (strOfNums l), .int .i64 pg, .int .i64 ct]
  | 1 => v = .bool true
  | 2 => v = .bool false
  | 3 => v = .bool false
  | 4 => v = .int .i64 i
  | 5 => v = .bool false
  | 6 => v = .bool false
  | 7 => v = undef
  | 8 => v = undef
  | 9 => v = undef
  | 10 => v = undef
  | 11 => v = undef
  | 12 => v = undef
  | 13 => v = undef
  | 14 => v = undef
  | 15 => v = undef
  | 16 => v = .bool false
  | 17 => v = .bool false
  | _ => True
theorem rmZ_keep {A i : Nat} {l : List Int} {pg ct : Int} {oi : Nat} {v : Value} {w w' : World} (hm : Mod [] w w') (hr : rmZ A i l pg ct oi v w) : rmZ A i l pg ct oi v w' := by
  have hk := Keep.of_mod hm
  unfold rmZ at hr ⊢
  split at hr
  · exact hr
  · exact hr
  · exact hr
  · exact hr
  · exact hr
  · exact hr
  · exact hr
  · exact hr
  · exact hr
  · exact hr
  · exact hr
  · exact hr
  · exact hr
  · exact hr
  · exact hr
  · exact hr
  · exact hr
  · exact hr
  · trivial
def rmL (A i : Nat) (l : List Int) (pg ct : Int) (p : Option Addr) (n c j b off : Nat) (l2 : List Int) (LB : Bool) (oi : Nat) (v : Value) (w : World) : Prop :=
  match oi with
  | 0 => v = .agg #[.string (strOfNums l), .int .i64 pg, .int .i64 ct]
  | 1 => v = .bool true
  | 2 => v = .bool false
  | 3 => v = .bool false
  | 4 => v = .int .i64 i
  | 5 => v = .bool true
  | 6 => v = .bool true
  | 7 => v = .slice p n c
  | 8 => v = .int .i64 i
  | 9 => v = .int .i64 j
  | 10 => v = .pointer (some ⟨b, off + j * 3, none⟩)
  | 11 => v = .pointer (some ⟨b, off + j * 3, none⟩)
  | 12 => v = .string (strOfNums l2)
  | 13 => v = .pointer (some ⟨A, 0, none⟩)
  | 14 => v = .string (strOfNums l)
  | 15 => v = .bool (!LB)
  | 16 => v = .bool (!LB)
  | 17 => v = .bool (!LB)
  | _ => True
theorem rmL_keep {A i : Nat} {l : List Int} {pg ct : Int} {p : Option Addr} {n c j b off : Nat} {l2 : List Int} {LB : Bool} {oi : Nat} {v : Value} {w w' : World} (hm : Mod [] w w') (hr : rmL A i l pg ct p n c j b off l2 LB oi v w) : rmL A i l pg ct p n c j b off l2 LB oi v w' := by
  have hk := Keep.of_mod hm
  unfold rmL at hr ⊢
  split at hr
  · exact hr
  · exact hr
  · exact hr
  · exact hr
  · exact hr
  · exact hr
  · exact hr
  · exact hr
  · exact hr
  · exact hr
  · exact hr
  · exact hr
  · exact hr
  · exact hr
  · exact hr
  · exact hr
  · exact hr
  · exact hr
  · trivial
set_option maxRecDepth 100000 in
set_option maxHeartbeats 8000000 in
theorem rsmay_any (p : Option Addr) (n c : Nat) (rs : List Rt) (w : World) (h : RtsIn w p n c rs) : Calls Tryd.prog 11 #[.slice p n c] w (Ret (BoolM (mayR rs) w)) := by
  have hln := h.len
  have hcm := h.sl.capm; have hle := h.sl.le
  unfold maxLen at hcm
  obtain ⟨b, off, hp, hcs⟩ := h.sl.at_
  have hidx := fun W => Sl.idx (P := Tryd.prog) (cap := c) Tryd.underlying22 sizeRoots (fun h => (hp h).1) W .i64
  have HLT : Hid (0 < n → b < w.heap.size) := fun h => (hp h).2
  have HG := Lib.hid (fun i hi => h.get hcs i hi)
  have HEND : Hid (mayR rs = (rtTo rs n && decide (n ≤ 12))) := by unfold Hid mayR; rw [hln]
  have HBAD : Hid (∀ i, i < n → rtAt rs i = false → mayR rs = false) := fun i hi h => mayR_bad (by omega) h
  have HAT : Hid (∀ i, rtAt rs i = ((rs.getD i default).ok && (i == 0 || less (rs.getD (i - 1) default).l (rs.getD i default).l))) := fun i => rfl
  have HST : Hid (∀ i, rtTo rs (i + 1) = (rtTo rs i && rtAt rs i)) := fun i => rfl
  clear h hp hcs hln
  go_enter Tryd.func11, Tryd.ntmps11
  go_wp2
  go_loopw [7] (fun iv wr => ∃ i : Nat, i ≤ n ∧ iv = .int .i64 i ∧ rtTo rs i = true ∧ Mod [] w wr) (fun iv _ => n - (intOf iv).toNat)
  case atStart => exact ⟨0, Nat.zero_le _, rfl, rfl, Mod.refl _ _⟩
  case round =>
    obtain ⟨i, hi, rfl, hto, hm⟩ := hrel
    have HTO := Lib.hid hto
    have HM := Lib.hid hm
    clear hto hm
    by_cases hlt : i < n
    · obtain ⟨l, pg, ct, hr, hwf, d0, d1, d2⟩ := HG.out i hlt
      have hbl := HLT.out (by omega)
      rw [← HM.out.cell (a := ⟨b, _, none⟩) hbl (by simp)] at d0 d1 d2
      have HWF := Lib.hid hwf
      have HX := Lib.hid (HAT.out i)
      have HS := Lib.hid (HST.out i)
      have HB := Lib.hid (HBAD.out i hlt)
      rw [HTO.out, Bool.true_and] at HS
      rw [hr] at HX
      clear hr hwf
      go_wp2_with fail
      have hat0 := at_alloc wr (.cells #[.string (strOfNums l), .int .i64 pg, .int .i64 ct] 34)
      have hbl2 : b < wr.heap.size := Nat.lt_of_lt_of_le hbl HM.out.size
      have HM1 : Hid (Mod [] wr (wr.alloc (.cells #[.string (strOfNums l), .int .i64 pg, .int .i64 ct] 34))) := Mod.of_alloc wr _
      generalize hW1 : (wr.alloc (.cells #[.string (strOfNums l), .int .i64 pg, .int .i64 ct] 34)) = w1 at *
      obtain ⟨A, hA⟩ : ∃ A, A = wr.heap.size := ⟨_, rfl⟩
      rw [← hA] at hat0 ⊢
      have k0 : w1.cell? ⟨A, 0, none⟩ = some (.string (strOfNums l)) := cell_of_at hat0 0
      have k1 : w1.cell? ⟨A, 1, none⟩ = some (.int .i64 pg) := cell_of_at hat0 1
      have k2 : w1.cell? ⟨A, 2, none⟩ = some (.int .i64 ct) := cell_of_at hat0 2
      have hAl : A < w1.heap.size := lt_of_at hat0
      have HMY : ∀ W, Hid (Calls Tryd.prog 28 #[.agg #[.string (strOfNums l), .int .i64 pg, .int .i64 ct]] W (Ret (BoolM (Rt.ok ⟨l, pg, ct⟩) W))) := fun W => Lib.hid (rmay_any ⟨l, pg, ct⟩ W HWF.out.1)
      have hwi : IntKind.i64.wrap ((i : Int) + 1) = (i : Int) + 1 := IntWalk.i64_in _ (by omega)
      clear hat0 hW1 hA d0 d1 d2
      generalize Rt.ok ⟨l, pg, ct⟩ = M at *
      cases M with
      | false =>
        have HF : Hid (mayR rs = false) := HB.out (by rw [HX.out]; rfl)
        refine par_region (by kernel_rfl) (fun oi vs w => rmF A i l pg ct oi (vs oi) w) (fun w' => Mod [] w1 w') (by kernel_rfl) (fun j vs vs' w o _ h1 _ h2 => by rw [← h1]; exact h2) ⟨⟨⟨⟨⟨⟨⟨⟨⟨⟨⟨⟨⟨⟨⟨⟨⟨⟨trivial, ?_⟩, ?_⟩, ?_⟩, ?_⟩, ?_⟩, ?_⟩, ?_⟩, ?_⟩, ?_⟩, ?_⟩, ?_⟩, ?_⟩, ?_⟩, ?_⟩, ?_⟩, ?_⟩, ?_⟩, ?_⟩ (Mod.of_drew w1) ?_
        · intro o ho listed vs a w' inv hun haft K hK
          obtain rfl := Option.some.inj ho
          refine par_run rfl ?_
          have e0 := inv.old 4 (by kernel_rfl)
          have INV := Lib.hid inv
          clear inv haft hun ho
          simp at e0
          have c0 := (INV.out.inv.cell (a := ⟨A, 0, none⟩) hAl (by simp)).trans k0
          have c1 := (INV.out.inv.cell (a := ⟨A, 1, none⟩) hAl (by simp)).trans k1
          have c2 := (INV.out.inv.cell (a := ⟨A, 2, none⟩) hAl (by simp)).trans k2
          go_simp
          exact hK _ _ INV.out.inv INV.out.val rfl
        · intro o ho listed vs a w' inv hun haft K hK
          obtain rfl := Option.some.inj ho
          refine par_run rfl ?_
          obtain ⟨e0, r0⟩ := inv.get haft 0 12 (by kernel_rfl) (by kernel_rfl)
          have INV := Lib.hid inv
          clear inv haft hun ho
          change vs 0 = .agg #[.string (strOfNums l), .int .i64 pg, .int .i64 ct] at r0
          rw [r0] at e0
          have g0 := getD_opt e0
          go_simp
          refine (HMY _).out.mono ?_
          rintro _ w3 ⟨_, rfl, rfl, m3⟩
          exact hK _ _ (INV.out.inv.same m3) (fun j hj hl => rmF_keep m3 (INV.out.val j hj hl)) rfl
        · intro o ho listed vs a w' inv hun haft K hK
          obtain rfl := Option.some.inj ho
          refine par_run rfl ?_
          obtain ⟨e0, r0⟩ := inv.get haft 1 13 (by kernel_rfl) (by kernel_rfl)
          have INV := Lib.hid inv
          clear inv haft hun ho
          change vs 1 = .bool false at r0
          rw [r0] at e0
          have g0 := getD_opt e0
          go_simp
          exact hK _ _ INV.out.inv INV.out.val rfl
        · intro o ho listed vs a w' inv hun haft K hK
          obtain rfl := Option.some.inj ho
          refine par_run rfl ?_
          obtain ⟨e0, r0⟩ := inv.get haft 2 14 (by kernel_rfl) (by kernel_rfl)
          have INV := Lib.hid inv
          clear inv haft hun ho
          change vs 2 = .bool true at r0
          rw [r0] at e0
          have g0 := getD_opt e0
          go_simp
          exact hK _ _ INV.out.inv INV.out.val rfl
        · intro o ho listed vs a w' inv hun haft K hK
          obtain rfl := Option.some.inj ho
          obtain ⟨e0, r0⟩ := inv.get haft 3 15 (by kernel_rfl) (by kernel_rfl)
          have INV := Lib.hid inv
          clear inv haft hun ho
          change vs 3 = .bool true at r0
          rw [r0] at e0
          have g0 := getD_opt e0
          exact par_skip rfl (by kernel_rfl) e0 (by simp [undef]) (hK _ _ INV.out.inv INV.out.val rfl)
        · intro o ho listed vs a w' inv hun haft K hK
          obtain rfl := Option.some.inj ho
          obtain ⟨e0, r0⟩ := inv.get haft 3 15 (by kernel_rfl) (by kernel_rfl)
          have INV := Lib.hid inv
          clear inv haft hun ho
          change vs 3 = .bool true at r0
          rw [r0] at e0
          have g0 := getD_opt e0
          exact par_skip rfl (by kernel_rfl) e0 (by simp [undef]) (hK _ _ INV.out.inv INV.out.val rfl)
        · intro o ho listed vs a w' inv hun haft K hK
          obtain rfl := Option.some.inj ho
          obtain ⟨e0, r0⟩ := inv.get haft 3 15 (by kernel_rfl) (by kernel_rfl)
          have INV := Lib.hid inv
          clear inv haft hun ho
          change vs 3 = .bool true at r0
          rw [r0] at e0
          have g0 := getD_opt e0
          exact par_skip rfl (by kernel_rfl) e0 (by simp [undef]) (hK _ _ INV.out.inv INV.out.val rfl)
        · intro o ho listed vs a w' inv hun haft K hK
          obtain rfl := Option.some.inj ho
          obtain ⟨e0, r0⟩ := inv.get haft 6 18 (by kernel_rfl) (by kernel_rfl)
          have INV := Lib.hid inv
          clear inv haft hun ho
          change vs 6 = undef at r0
          rw [r0] at e0
          have g0 := getD_opt e0
          exact par_skip rfl (by kernel_rfl) e0 (by simp [undef]) (hK _ _ INV.out.inv INV.out.val rfl)
        · intro o ho listed vs a w' inv hun haft K hK
          obtain rfl := Option.some.inj ho
          obtain ⟨e0, r0⟩ := inv.get haft 6 18 (by kernel_rfl) (by kernel_rfl)
          have INV := Lib.hid inv
          clear inv haft hun ho
          change vs 6 = undef at r0
          rw [r0] at e0
          have g0 := getD_opt e0
          exact par_skip rfl (by kernel_rfl) e0 (by simp [undef]) (hK _ _ INV.out.inv INV.out.val rfl)
        · intro o ho listed vs a w' inv hun haft K hK
          obtain rfl := Option.some.inj ho
          obtain ⟨e0, r0⟩ := inv.get haft 6 18 (by kernel_rfl) (by kernel_rfl)
          have INV := Lib.hid inv
          clear inv haft hun ho
          change vs 6 = undef at r0
          rw [r0] at e0
          have g0 := getD_opt e0
          exact par_skip rfl (by kernel_rfl) e0 (by simp [undef]) (hK _ _ INV.out.inv INV.out.val rfl)
        · intro o ho listed vs a w' inv hun haft K hK
          obtain rfl := Option.some.inj ho
          obtain ⟨e0, r0⟩ := inv.get haft 6 18 (by kernel_rfl) (by kernel_rfl)
          have INV := Lib.hid inv
          clear inv haft hun ho
          change vs 6 = undef at r0
          rw [r0] at e0
          have g0 := getD_opt e0
          exact par_skip rfl (by kernel_rfl) e0 (by simp [undef]) (hK _ _ INV.out.inv INV.out.val rfl)
        · intro o ho listed vs a w' inv hun haft K hK
          obtain rfl := Option.some.inj ho
          obtain ⟨e0, r0⟩ := inv.get haft 6 18 (by kernel_rfl) (by kernel_rfl)
          have INV := Lib.hid inv
          clear inv haft hun ho
          change vs 6 = undef at r0
          rw [r0] at e0
          have g0 := getD_opt e0
          exact par_skip rfl (by kernel_rfl) e0 (by simp [undef]) (hK _ _ INV.out.inv INV.out.val rfl)
        · intro o ho listed vs a w' inv hun haft K hK
          obtain rfl := Option.some.inj ho
          obtain ⟨e0, r0⟩ := inv.get haft 6 18 (by kernel_rfl) (by kernel_rfl)
          have INV := Lib.hid inv
          clear inv haft hun ho
          change vs 6 = undef at r0
          rw [r0] at e0
          have g0 := getD_opt e0
          exact par_skip rfl (by kernel_rfl) e0 (by simp [undef]) (hK _ _ INV.out.inv INV.out.val rfl)
        · intro o ho listed vs a w' inv hun haft K hK
          obtain rfl := Option.some.inj ho
          obtain ⟨e0, r0⟩ := inv.get haft 6 18 (by kernel_rfl) (by kernel_rfl)
          have INV := Lib.hid inv
          clear inv haft hun ho
          change vs 6 = undef at r0
          rw [r0] at e0
          have g0 := getD_opt e0
          exact par_skip rfl (by kernel_rfl) e0 (by simp [undef]) (hK _ _ INV.out.inv INV.out.val rfl)
        · intro o ho listed vs a w' inv hun haft K hK
          obtain rfl := Option.some.inj ho
          obtain ⟨e0, r0⟩ := inv.get haft 6 18 (by kernel_rfl) (by kernel_rfl)
          have INV := Lib.hid inv
          clear inv haft hun ho
          change vs 6 = undef at r0
          rw [r0] at e0
          have g0 := getD_opt e0
          exact par_skip rfl (by kernel_rfl) e0 (by simp [undef]) (hK _ _ INV.out.inv INV.out.val rfl)
        · intro o ho listed vs a w' inv hun haft K hK
          obtain rfl := Option.some.inj ho
          obtain ⟨e0, r0⟩ := inv.get haft 6 18 (by kernel_rfl) (by kernel_rfl)
          have INV := Lib.hid inv
          clear inv haft hun ho
          change vs 6 = undef at r0
          rw [r0] at e0
          have g0 := getD_opt e0
          exact par_skip rfl (by kernel_rfl) e0 (by simp [undef]) (hK _ _ INV.out.inv INV.out.val rfl)
        · intro o ho listed vs a w' inv hun haft K hK
          obtain rfl := Option.some.inj ho
          obtain ⟨e0, r0⟩ := inv.get haft 3 15 (by kernel_rfl) (by kernel_rfl)
          have INV := Lib.hid inv
          clear inv haft hun ho
          change vs 3 = .bool true at r0
          rw [r0] at e0
          have g0 := getD_opt e0
          exact par_skip rfl (by kernel_rfl) e0 (by simp [undef]) (hK _ _ INV.out.inv INV.out.val rfl)
        · intro o ho listed vs a w' inv hun haft K hK
          obtain rfl := Option.some.inj ho
          refine par_run rfl ?_
          obtain ⟨e0, r0⟩ := inv.get haft 3 15 (by kernel_rfl) (by kernel_rfl)
          have INV := Lib.hid inv
          clear inv haft hun ho
          change vs 3 = .bool true at r0
          rw [r0] at e0
          have g0 := getD_opt e0
          go_simp
          exact hK _ _ INV.out.inv INV.out.val rfl
        intro vs w2 X hm hr hslot hold hsize hdef
        have er := hslot 17 29 (by kernel_rfl)
        have h9 := hr 17 (by decide)
        change vs 17 = .bool true at h9
        rw [h9] at er
        clear h9
        have e0 := hold 0 (by kernel_rfl)
        have e1 := hold 1 (by kernel_rfl)
        have e2 := hold 2 (by kernel_rfl)
        have e3 := hold 3 (by kernel_rfl)
        have e4 := hold 4 (by kernel_rfl)
        have e5 := hold 5 (by kernel_rfl)
        have e6 := hold 6 (by kernel_rfl)
        have e7 := hold 7 (by kernel_rfl)
        have e8 := hold 8 (by kernel_rfl)
        have e9 := hold 9 (by kernel_rfl)
        have e10 := hold 10 (by kernel_rfl)
        have e11 := hold 11 (by kernel_rfl)
        have e30 := hold 30 (by kernel_rfl)
        have e31 := hold 31 (by kernel_rfl)
        have e32 := hold 32 (by kernel_rfl)
        have e33 := hold 33 (by kernel_rfl)
        simp only [Array.getD_eq_getD_getElem?, List.getElem?_toArray, List.getElem?_cons_zero, List.getElem?_cons_succ, Option.getD_some] at e0 e1 e2 e3 e4 e5 e6 e7 e8 e9 e10 e11 e30 e31 e32 e33
        have MR := Lib.hid hm
        clear hr hslot hold hm
        obtain ⟨⟨xs⟩, df⟩ := X
        replace hdef : df = [] := hdef
        subst hdef
        replace hsize : xs.length = 34 := hsize
        obtain ⟨x0, xs0, rfl, hs0⟩ := cons_of hsize
        obtain ⟨x1, xs1, rfl, hs1⟩ := cons_of hs0
        obtain ⟨x2, xs2, rfl, hs2⟩ := cons_of hs1
        obtain ⟨x3, xs3, rfl, hs3⟩ := cons_of hs2
        obtain ⟨x4, xs4, rfl, hs4⟩ := cons_of hs3
        obtain ⟨x5, xs5, rfl, hs5⟩ := cons_of hs4
        obtain ⟨x6, xs6, rfl, hs6⟩ := cons_of hs5
        obtain ⟨x7, xs7, rfl, hs7⟩ := cons_of hs6
        obtain ⟨x8, xs8, rfl, hs8⟩ := cons_of hs7
        obtain ⟨x9, xs9, rfl, hs9⟩ := cons_of hs8
        obtain ⟨x10, xs10, rfl, hs10⟩ := cons_of hs9
        obtain ⟨x11, xs11, rfl, hs11⟩ := cons_of hs10
        obtain ⟨x12, xs12, rfl, hs12⟩ := cons_of hs11
        obtain ⟨x13, xs13, rfl, hs13⟩ := cons_of hs12
        obtain ⟨x14, xs14, rfl, hs14⟩ := cons_of hs13
        obtain ⟨x15, xs15, rfl, hs15⟩ := cons_of hs14
        obtain ⟨x16, xs16, rfl, hs16⟩ := cons_of hs15
        obtain ⟨x17, xs17, rfl, hs17⟩ := cons_of hs16
        obtain ⟨x18, xs18, rfl, hs18⟩ := cons_of hs17
        obtain ⟨x19, xs19, rfl, hs19⟩ := cons_of hs18
        obtain ⟨x20, xs20, rfl, hs20⟩ := cons_of hs19
        obtain ⟨x21, xs21, rfl, hs21⟩ := cons_of hs20
        obtain ⟨x22, xs22, rfl, hs22⟩ := cons_of hs21
        obtain ⟨x23, xs23, rfl, hs23⟩ := cons_of hs22
        obtain ⟨x24, xs24, rfl, hs24⟩ := cons_of hs23
        obtain ⟨x25, xs25, rfl, hs25⟩ := cons_of hs24
        obtain ⟨x26, xs26, rfl, hs26⟩ := cons_of hs25
        obtain ⟨x27, xs27, rfl, hs27⟩ := cons_of hs26
        obtain ⟨x28, xs28, rfl, hs28⟩ := cons_of hs27
        obtain ⟨x29, xs29, rfl, hs29⟩ := cons_of hs28
        obtain ⟨x30, xs30, rfl, hs30⟩ := cons_of hs29
        obtain ⟨x31, xs31, rfl, hs31⟩ := cons_of hs30
        obtain ⟨x32, xs32, rfl, hs32⟩ := cons_of hs31
        obtain ⟨x33, xs33, rfl, hs33⟩ := cons_of hs32
        obtain rfl := List.eq_nil_of_length_eq_zero hs33
        clear hsize hs0 hs1 hs2 hs3 hs4 hs5 hs6 hs7 hs8 hs9 hs10 hs11 hs12 hs13 hs14 hs15 hs16 hs17 hs18 hs19 hs20 hs21 hs22 hs23 hs24 hs25 hs26 hs27 hs28 hs29 hs30 hs31 hs32 hs33
        rw [show (Array.mk (x0 :: x1 :: x2 :: x3 :: x4 :: x5 :: x6 :: x7 :: x8 :: x9 :: x10 :: x11 :: x12 :: x13 :: x14 :: x15 :: x16 :: x17 :: x18 :: x19 :: x20 :: x21 :: x22 :: x23 :: x24 :: x25 :: x26 :: x27 :: x28 :: x29 :: x30 :: x31 :: x32 :: x33 :: []) : Array Value) = List.toArray (x0 :: x1 :: x2 :: x3 :: x4 :: x5 :: x6 :: x7 :: x8 :: x9 :: x10 :: x11 :: x12 :: x13 :: x14 :: x15 :: x16 :: x17 :: x18 :: x19 :: x20 :: x21 :: x22 :: x23 :: x24 :: x25 :: x26 :: x27 :: x28 :: x29 :: x30 :: x31 :: x32 :: x33 :: []) from rfl]
        change x0 = _ at e0
        subst e0
        change x1 = _ at e1
        subst e1
        change x2 = _ at e2
        subst e2
        change x3 = _ at e3
        subst e3
        change x4 = _ at e4
        subst e4
        change x5 = _ at e5
        subst e5
        change x6 = _ at e6
        subst e6
        change x7 = _ at e7
        subst e7
        change x8 = _ at e8
        subst e8
        change x9 = _ at e9
        subst e9
        change x10 = _ at e10
        subst e10
        change x11 = _ at e11
        subst e11
        change x30 = _ at e30
        subst e30
        change x31 = _ at e31
        subst e31
        change x32 = _ at e32
        subst e32
        change x33 = _ at e33
        subst e33
        change x29 = .bool true at er
        subst er
        go_wp2
        go_ret
        exact .mk ⟨by rw [HF.out] <;> rfl, HM.out.same (HM1.out.same MR.out)⟩
      | true =>
        rcases Nat.eq_zero_or_pos i with h0 | h0
        · have HT : Hid (rtTo rs (i + 1) = true) := by rw [HS.out, HX.out, h0]; rfl
          have hz : decide (0 < i) = false := by simp; omega
          clear h0
          refine par_region (by kernel_rfl) (fun oi vs w => rmZ A i l pg ct oi (vs oi) w) (fun w' => Mod [] w1 w') (by kernel_rfl) (fun j vs vs' w o _ h1 _ h2 => by rw [← h1]; exact h2) ⟨⟨⟨⟨⟨⟨⟨⟨⟨⟨⟨⟨⟨⟨⟨⟨⟨⟨trivial, ?_⟩, ?_⟩, ?_⟩, ?_⟩, ?_⟩, ?_⟩, ?_⟩, ?_⟩, ?_⟩, ?_⟩, ?_⟩, ?_⟩, ?_⟩, ?_⟩, ?_⟩, ?_⟩, ?_⟩, ?_⟩ (Mod.of_drew w1) ?_
          · intro o ho listed vs a w' inv hun haft K hK
            obtain rfl := Option.some.inj ho
            refine par_run rfl ?_
            have e0 := inv.old 4 (by kernel_rfl)
            have INV := Lib.hid inv
            clear inv haft hun ho
            simp at e0
            have c0 := (INV.out.inv.cell (a := ⟨A, 0, none⟩) hAl (by simp)).trans k0
            have c1 := (INV.out.inv.cell (a := ⟨A, 1, none⟩) hAl (by simp)).trans k1
            have c2 := (INV.out.inv.cell (a := ⟨A, 2, none⟩) hAl (by simp)).trans k2
            go_simp
            exact hK _ _ INV.out.inv INV.out.val rfl
          · intro o ho listed vs a w' inv hun haft K hK
            obtain rfl := Option.some.inj ho
            refine par_run rfl ?_
            obtain ⟨e0, r0⟩ := inv.get haft 0 12 (by kernel_rfl) (by kernel_rfl)
            have INV := Lib.hid inv
            clear inv haft hun ho
            change vs 0 = .agg #[.string (strOfNums l), .int .i64 pg, .int .i64 ct] at r0
            rw [r0] at e0
            have g0 := getD_opt e0
            go_simp
            refine (HMY _).out.mono ?_
            rintro _ w3 ⟨_, rfl, rfl, m3⟩
            exact hK _ _ (INV.out.inv.same m3) (fun j hj hl => rmZ_keep m3 (INV.out.val j hj hl)) rfl
          · intro o ho listed vs a w' inv hun haft K hK
            obtain rfl := Option.some.inj ho
            refine par_run rfl ?_
            obtain ⟨e0, r0⟩ := inv.get haft 1 13 (by kernel_rfl) (by kernel_rfl)
            have INV := Lib.hid inv
            clear inv haft hun ho
            change vs 1 = .bool true at r0
            rw [r0] at e0
            have g0 := getD_opt e0
            go_simp
            exact hK _ _ INV.out.inv INV.out.val rfl
          · intro o ho listed vs a w' inv hun haft K hK
            obtain rfl := Option.some.inj ho
            refine par_run rfl ?_
            obtain ⟨e0, r0⟩ := inv.get haft 2 14 (by kernel_rfl) (by kernel_rfl)
            have INV := Lib.hid inv
            clear inv haft hun ho
            change vs 2 = .bool false at r0
            rw [r0] at e0
            have g0 := getD_opt e0
            go_simp
            exact hK _ _ INV.out.inv INV.out.val rfl
          · intro o ho listed vs a w' inv hun haft K hK
            obtain rfl := Option.some.inj ho
            obtain ⟨e0, r0⟩ := inv.get haft 3 15 (by kernel_rfl) (by kernel_rfl)
            have e1 := inv.old 3 (by kernel_rfl)
            have INV := Lib.hid inv
            clear inv haft hun ho
            change vs 3 = .bool false at r0
            rw [r0] at e0
            have g0 := getD_opt e0
            simp at e1
            refine par_guard rfl (by kernel_rfl) e0 ?_
            rw [if_pos rfl]
            go_simp
            exact hK _ _ INV.out.inv INV.out.val rfl
          · intro o ho listed vs a w' inv hun haft K hK
            obtain rfl := Option.some.inj ho
            obtain ⟨e0, r0⟩ := inv.get haft 3 15 (by kernel_rfl) (by kernel_rfl)
            obtain ⟨e1, r1⟩ := inv.get haft 4 16 (by kernel_rfl) (by kernel_rfl)
            have INV := Lib.hid inv
            clear inv haft hun ho
            change vs 3 = .bool false at r0
            rw [r0] at e0
            have g0 := getD_opt e0
            change vs 4 = .int .i64 i at r1
            rw [r1] at e1
            have g1 := getD_opt e1
            refine par_guard rfl (by kernel_rfl) e0 ?_
            rw [if_pos rfl]
            go_simp
            exact hK _ _ INV.out.inv INV.out.val rfl
          · intro o ho listed vs a w' inv hun haft K hK
            obtain rfl := Option.some.inj ho
            obtain ⟨e0, r0⟩ := inv.get haft 3 15 (by kernel_rfl) (by kernel_rfl)
            obtain ⟨e1, r1⟩ := inv.get haft 5 17 (by kernel_rfl) (by kernel_rfl)
            have INV := Lib.hid inv
            clear inv haft hun ho
            change vs 3 = .bool false at r0
            rw [r0] at e0
            have g0 := getD_opt e0
            change vs 5 = .bool false at r1
            rw [r1] at e1
            have g1 := getD_opt e1
            refine par_guard rfl (by kernel_rfl) e0 ?_
            rw [if_pos rfl]
            go_simp
            exact hK _ _ INV.out.inv INV.out.val rfl
          · intro o ho listed vs a w' inv hun haft K hK
            obtain rfl := Option.some.inj ho
            obtain ⟨e0, r0⟩ := inv.get haft 6 18 (by kernel_rfl) (by kernel_rfl)
            have INV := Lib.hid inv
            clear inv haft hun ho
            change vs 6 = .bool false at r0
            rw [r0] at e0
            have g0 := getD_opt e0
            exact par_skip rfl (by kernel_rfl) e0 (by simp [undef]) (hK _ _ INV.out.inv INV.out.val rfl)
          · intro o ho listed vs a w' inv hun haft K hK
            obtain rfl := Option.some.inj ho
            obtain ⟨e0, r0⟩ := inv.get haft 6 18 (by kernel_rfl) (by kernel_rfl)
            have INV := Lib.hid inv
            clear inv haft hun ho
            change vs 6 = .bool false at r0
            rw [r0] at e0
            have g0 := getD_opt e0
            exact par_skip rfl (by kernel_rfl) e0 (by simp [undef]) (hK _ _ INV.out.inv INV.out.val rfl)
          · intro o ho listed vs a w' inv hun haft K hK
            obtain rfl := Option.some.inj ho
            obtain ⟨e0, r0⟩ := inv.get haft 6 18 (by kernel_rfl) (by kernel_rfl)
            have INV := Lib.hid inv
            clear inv haft hun ho
            change vs 6 = .bool false at r0
            rw [r0] at e0
            have g0 := getD_opt e0
            exact par_skip rfl (by kernel_rfl) e0 (by simp [undef]) (hK _ _ INV.out.inv INV.out.val rfl)
          · intro o ho listed vs a w' inv hun haft K hK
            obtain rfl := Option.some.inj ho
            obtain ⟨e0, r0⟩ := inv.get haft 6 18 (by kernel_rfl) (by kernel_rfl)
            have INV := Lib.hid inv
            clear inv haft hun ho
            change vs 6 = .bool false at r0
            rw [r0] at e0
            have g0 := getD_opt e0
            exact par_skip rfl (by kernel_rfl) e0 (by simp [undef]) (hK _ _ INV.out.inv INV.out.val rfl)
          · intro o ho listed vs a w' inv hun haft K hK
            obtain rfl := Option.some.inj ho
            obtain ⟨e0, r0⟩ := inv.get haft 6 18 (by kernel_rfl) (by kernel_rfl)
            have INV := Lib.hid inv
            clear inv haft hun ho
            change vs 6 = .bool false at r0
            rw [r0] at e0
            have g0 := getD_opt e0
            exact par_skip rfl (by kernel_rfl) e0 (by simp [undef]) (hK _ _ INV.out.inv INV.out.val rfl)
          · intro o ho listed vs a w' inv hun haft K hK
            obtain rfl := Option.some.inj ho
            obtain ⟨e0, r0⟩ := inv.get haft 6 18 (by kernel_rfl) (by kernel_rfl)
            have INV := Lib.hid inv
            clear inv haft hun ho
            change vs 6 = .bool false at r0
            rw [r0] at e0
            have g0 := getD_opt e0
            exact par_skip rfl (by kernel_rfl) e0 (by simp [undef]) (hK _ _ INV.out.inv INV.out.val rfl)
          · intro o ho listed vs a w' inv hun haft K hK
            obtain rfl := Option.some.inj ho
            obtain ⟨e0, r0⟩ := inv.get haft 6 18 (by kernel_rfl) (by kernel_rfl)
            have INV := Lib.hid inv
            clear inv haft hun ho
            change vs 6 = .bool false at r0
            rw [r0] at e0
            have g0 := getD_opt e0
            exact par_skip rfl (by kernel_rfl) e0 (by simp [undef]) (hK _ _ INV.out.inv INV.out.val rfl)
          · intro o ho listed vs a w' inv hun haft K hK
            obtain rfl := Option.some.inj ho
            obtain ⟨e0, r0⟩ := inv.get haft 6 18 (by kernel_rfl) (by kernel_rfl)
            have INV := Lib.hid inv
            clear inv haft hun ho
            change vs 6 = .bool false at r0
            rw [r0] at e0
            have g0 := getD_opt e0
            exact par_skip rfl (by kernel_rfl) e0 (by simp [undef]) (hK _ _ INV.out.inv INV.out.val rfl)
          · intro o ho listed vs a w' inv hun haft K hK
            obtain rfl := Option.some.inj ho
            obtain ⟨e0, r0⟩ := inv.get haft 6 18 (by kernel_rfl) (by kernel_rfl)
            have INV := Lib.hid inv
            clear inv haft hun ho
            change vs 6 = .bool false at r0
            rw [r0] at e0
            have g0 := getD_opt e0
            exact par_skip rfl (by kernel_rfl) e0 (by simp [undef]) (hK _ _ INV.out.inv INV.out.val rfl)
          · intro o ho listed vs a w' inv hun haft K hK
            obtain rfl := Option.some.inj ho
            obtain ⟨e0, r0⟩ := inv.get haft 3 15 (by kernel_rfl) (by kernel_rfl)
            obtain ⟨e1, r1⟩ := inv.get haft 6 18 (by kernel_rfl) (by kernel_rfl)
            have INV := Lib.hid inv
            clear inv haft hun ho
            change vs 3 = .bool false at r0
            rw [r0] at e0
            have g0 := getD_opt e0
            change vs 6 = .bool false at r1
            rw [r1] at e1
            have g1 := getD_opt e1
            refine par_guard rfl (by kernel_rfl) e0 ?_
            rw [if_pos rfl]
            go_simp
            exact hK _ _ INV.out.inv INV.out.val rfl
          · intro o ho listed vs a w' inv hun haft K hK
            obtain rfl := Option.some.inj ho
            refine par_run rfl ?_
            obtain ⟨e0, r0⟩ := inv.get haft 3 15 (by kernel_rfl) (by kernel_rfl)
            obtain ⟨e1, r1⟩ := inv.get haft 16 28 (by kernel_rfl) (by kernel_rfl)
            have INV := Lib.hid inv
            clear inv haft hun ho
            change vs 3 = .bool false at r0
            rw [r0] at e0
            have g0 := getD_opt e0
            change vs 16 = .bool false at r1
            rw [r1] at e1
            have g1 := getD_opt e1
            go_simp
            exact hK _ _ INV.out.inv INV.out.val rfl
          intro vs w2 X hm hr hslot hold hsize hdef
          have er := hslot 17 29 (by kernel_rfl)
          have h9 := hr 17 (by decide)
          change vs 17 = .bool false at h9
          rw [h9] at er
          clear h9
          have e0 := hold 0 (by kernel_rfl)
          have e1 := hold 1 (by kernel_rfl)
          have e2 := hold 2 (by kernel_rfl)
          have e3 := hold 3 (by kernel_rfl)
          have e4 := hold 4 (by kernel_rfl)
          have e5 := hold 5 (by kernel_rfl)
          have e6 := hold 6 (by kernel_rfl)
          have e7 := hold 7 (by kernel_rfl)
          have e8 := hold 8 (by kernel_rfl)
          have e9 := hold 9 (by kernel_rfl)
          have e10 := hold 10 (by kernel_rfl)
          have e11 := hold 11 (by kernel_rfl)
          have e30 := hold 30 (by kernel_rfl)
          have e31 := hold 31 (by kernel_rfl)
          have e32 := hold 32 (by kernel_rfl)
          have e33 := hold 33 (by kernel_rfl)
          simp only [Array.getD_eq_getD_getElem?, List.getElem?_toArray, List.getElem?_cons_zero, List.getElem?_cons_succ, Option.getD_some] at e0 e1 e2 e3 e4 e5 e6 e7 e8 e9 e10 e11 e30 e31 e32 e33
          have MR := Lib.hid hm
          clear hr hslot hold hm
          obtain ⟨⟨xs⟩, df⟩ := X
          replace hdef : df = [] := hdef
          subst hdef
          replace hsize : xs.length = 34 := hsize
          obtain ⟨x0, xs0, rfl, hs0⟩ := cons_of hsize
          obtain ⟨x1, xs1, rfl, hs1⟩ := cons_of hs0
          obtain ⟨x2, xs2, rfl, hs2⟩ := cons_of hs1
          obtain ⟨x3, xs3, rfl, hs3⟩ := cons_of hs2
          obtain ⟨x4, xs4, rfl, hs4⟩ := cons_of hs3
          obtain ⟨x5, xs5, rfl, hs5⟩ := cons_of hs4
          obtain ⟨x6, xs6, rfl, hs6⟩ := cons_of hs5
          obtain ⟨x7, xs7, rfl, hs7⟩ := cons_of hs6
          obtain ⟨x8, xs8, rfl, hs8⟩ := cons_of hs7
          obtain ⟨x9, xs9, rfl, hs9⟩ := cons_of hs8
          obtain ⟨x10, xs10, rfl, hs10⟩ := cons_of hs9
          obtain ⟨x11, xs11, rfl, hs11⟩ := cons_of hs10
          obtain ⟨x12, xs12, rfl, hs12⟩ := cons_of hs11
          obtain ⟨x13, xs13, rfl, hs13⟩ := cons_of hs12
          obtain ⟨x14, xs14, rfl, hs14⟩ := cons_of hs13
          obtain ⟨x15, xs15, rfl, hs15⟩ := cons_of hs14
          obtain ⟨x16, xs16, rfl, hs16⟩ := cons_of hs15
          obtain ⟨x17, xs17, rfl, hs17⟩ := cons_of hs16
          obtain ⟨x18, xs18, rfl, hs18⟩ := cons_of hs17
          obtain ⟨x19, xs19, rfl, hs19⟩ := cons_of hs18
          obtain ⟨x20, xs20, rfl, hs20⟩ := cons_of hs19
          obtain ⟨x21, xs21, rfl, hs21⟩ := cons_of hs20
          obtain ⟨x22, xs22, rfl, hs22⟩ := cons_of hs21
          obtain ⟨x23, xs23, rfl, hs23⟩ := cons_of hs22
          obtain ⟨x24, xs24, rfl, hs24⟩ := cons_of hs23
          obtain ⟨x25, xs25, rfl, hs25⟩ := cons_of hs24
          obtain ⟨x26, xs26, rfl, hs26⟩ := cons_of hs25
          obtain ⟨x27, xs27, rfl, hs27⟩ := cons_of hs26
          obtain ⟨x28, xs28, rfl, hs28⟩ := cons_of hs27
          obtain ⟨x29, xs29, rfl, hs29⟩ := cons_of hs28
          obtain ⟨x30, xs30, rfl, hs30⟩ := cons_of hs29
          obtain ⟨x31, xs31, rfl, hs31⟩ := cons_of hs30
          obtain ⟨x32, xs32, rfl, hs32⟩ := cons_of hs31
          obtain ⟨x33, xs33, rfl, hs33⟩ := cons_of hs32
          obtain rfl := List.eq_nil_of_length_eq_zero hs33
          clear hsize hs0 hs1 hs2 hs3 hs4 hs5 hs6 hs7 hs8 hs9 hs10 hs11 hs12 hs13 hs14 hs15 hs16 hs17 hs18 hs19 hs20 hs21 hs22 hs23 hs24 hs25 hs26 hs27 hs28 hs29 hs30 hs31 hs32 hs33
          rw [show (Array.mk (x0 :: x1 :: x2 :: x3 :: x4 :: x5 :: x6 :: x7 :: x8 :: x9 :: x10 :: x11 :: x12 :: x13 :: x14 :: x15 :: x16 :: x17 :: x18 :: x19 :: x20 :: x21 :: x22 :: x23 :: x24 :: x25 :: x26 :: x27 :: x28 :: x29 :: x30 :: x31 :: x32 :: x33 :: []) : Array Value) = List.toArray (x0 :: x1 :: x2 :: x3 :: x4 :: x5 :: x6 :: x7 :: x8 :: x9 :: x10 :: x11 :: x12 :: x13 :: x14 :: x15 :: x16 :: x17 :: x18 :: x19 :: x20 :: x21 :: x22 :: x23 :: x24 :: x25 :: x26 :: x27 :: x28 :: x29 :: x30 :: x31 :: x32 :: x33 :: []) from rfl]
          change x0 = _ at e0
          subst e0
          change x1 = _ at e1
          subst e1
          change x2 = _ at e2
          subst e2
          change x3 = _ at e3
          subst e3
          change x4 = _ at e4
          subst e4
          change x5 = _ at e5
          subst e5
          change x6 = _ at e6
          subst e6
          change x7 = _ at e7
          subst e7
          change x8 = _ at e8
          subst e8
          change x9 = _ at e9
          subst e9
          change x10 = _ at e10
          subst e10
          change x11 = _ at e11
          subst e11
          change x30 = _ at e30
          subst e30
          change x31 = _ at e31
          subst e31
          change x32 = _ at e32
          subst e32
          change x33 = _ at e33
          subst e33
          change x29 = .bool false at er
          subst er
          go_wp2
          go_roundw
          case rel => exact ⟨i + 1, by omega, by go_num, HT.out, HM.out.same (HM1.out.same MR.out)⟩
          case measure => simp [intOf]; omega
        · obtain ⟨j, hj⟩ : ∃ j, i = j + 1 := ⟨i - 1, by omega⟩
          have hjn : j < n := by omega
          obtain ⟨l2, pg2, ct2, hr2, hwf2, dy, -, -⟩ := HG.out j hjn
          rw [← HM.out.cell (a := ⟨b, _, none⟩) hbl (by simp), ← HM1.out.cell (a := ⟨b, _, none⟩) hbl2 (by simp)] at dy
          have HBL : b < w1.heap.size := Nat.lt_of_lt_of_le hbl2 HM1.out.size
          have hidx1 := fun W => hidx W j hjn
          have hw1 : IntKind.i64.wrap ((i : Int) - 1) = (j : Int) := by rw [IntWalk.i64_in _ (by omega)]; omega
          have hz : decide (0 < i) = true := by simp; omega
          have hless := str_less hwf2.1 HWF.out.1
          have HX2 : Hid (rtAt rs i = less l2 l) := by
            unfold Hid; rw [HX.out, hj, Nat.add_sub_cancel, hr2]; simp
          generalize less l2 l = LB at *
          clear h0 hj hr2 hwf2
          refine par_region (by kernel_rfl) (fun oi vs w => rmL A i l pg ct p n c j b off l2 LB oi (vs oi) w) (fun w' => Mod [] w1 w') (by kernel_rfl) (fun j vs vs' w o _ h1 _ h2 => by rw [← h1]; exact h2) ⟨⟨⟨⟨⟨⟨⟨⟨⟨⟨⟨⟨⟨⟨⟨⟨⟨⟨trivial, ?_⟩, ?_⟩, ?_⟩, ?_⟩, ?_⟩, ?_⟩, ?_⟩, ?_⟩, ?_⟩, ?_⟩, ?_⟩, ?_⟩, ?_⟩, ?_⟩, ?_⟩, ?_⟩, ?_⟩, ?_⟩ (Mod.of_drew w1) ?_
          · intro o ho listed vs a w' inv hun haft K hK
            obtain rfl := Option.some.inj ho
            refine par_run rfl ?_
            have e0 := inv.old 4 (by kernel_rfl)
            have INV := Lib.hid inv
            clear inv haft hun ho
            simp at e0
            have c0 := (INV.out.inv.cell (a := ⟨A, 0, none⟩) hAl (by simp)).trans k0
            have c1 := (INV.out.inv.cell (a := ⟨A, 1, none⟩) hAl (by simp)).trans k1
            have c2 := (INV.out.inv.cell (a := ⟨A, 2, none⟩) hAl (by simp)).trans k2
            go_simp
            exact hK _ _ INV.out.inv INV.out.val rfl
          · intro o ho listed vs a w' inv hun haft K hK
            obtain rfl := Option.some.inj ho
            refine par_run rfl ?_
            obtain ⟨e0, r0⟩ := inv.get haft 0 12 (by kernel_rfl) (by kernel_rfl)
            have INV := Lib.hid inv
            clear inv haft hun ho
            change vs 0 = .agg #[.string (strOfNums l), .int .i64 pg, .int .i64 ct] at r0
            rw [r0] at e0
            have g0 := getD_opt e0
            go_simp
            refine (HMY _).out.mono ?_
            rintro _ w3 ⟨_, rfl, rfl, m3⟩
            exact hK _ _ (INV.out.inv.same m3) (fun j hj hl => rmL_keep m3 (INV.out.val j hj hl)) rfl
          · intro o ho listed vs a w' inv hun haft K hK
            obtain rfl := Option.some.inj ho
            refine par_run rfl ?_
            obtain ⟨e0, r0⟩ := inv.get haft 1 13 (by kernel_rfl) (by kernel_rfl)
            have INV := Lib.hid inv
            clear inv haft hun ho
            change vs 1 = .bool true at r0
            rw [r0] at e0
            have g0 := getD_opt e0
            go_simp
            exact hK _ _ INV.out.inv INV.out.val rfl
          · intro o ho listed vs a w' inv hun haft K hK
            obtain rfl := Option.some.inj ho
            refine par_run rfl ?_
            obtain ⟨e0, r0⟩ := inv.get haft 2 14 (by kernel_rfl) (by kernel_rfl)
            have INV := Lib.hid inv
            clear inv haft hun ho
            change vs 2 = .bool false at r0
            rw [r0] at e0
            have g0 := getD_opt e0
            go_simp
            exact hK _ _ INV.out.inv INV.out.val rfl
          · intro o ho listed vs a w' inv hun haft K hK
            obtain rfl := Option.some.inj ho
            obtain ⟨e0, r0⟩ := inv.get haft 3 15 (by kernel_rfl) (by kernel_rfl)
            have e1 := inv.old 3 (by kernel_rfl)
            have INV := Lib.hid inv
            clear inv haft hun ho
            change vs 3 = .bool false at r0
            rw [r0] at e0
            have g0 := getD_opt e0
            simp at e1
            refine par_guard rfl (by kernel_rfl) e0 ?_
            rw [if_pos rfl]
            go_simp
            exact hK _ _ INV.out.inv INV.out.val rfl
          · intro o ho listed vs a w' inv hun haft K hK
            obtain rfl := Option.some.inj ho
            obtain ⟨e0, r0⟩ := inv.get haft 3 15 (by kernel_rfl) (by kernel_rfl)
            obtain ⟨e1, r1⟩ := inv.get haft 4 16 (by kernel_rfl) (by kernel_rfl)
            have INV := Lib.hid inv
            clear inv haft hun ho
            change vs 3 = .bool false at r0
            rw [r0] at e0
            have g0 := getD_opt e0
            change vs 4 = .int .i64 i at r1
            rw [r1] at e1
            have g1 := getD_opt e1
            refine par_guard rfl (by kernel_rfl) e0 ?_
            rw [if_pos rfl]
            go_simp
            exact hK _ _ INV.out.inv INV.out.val rfl
          · intro o ho listed vs a w' inv hun haft K hK
            obtain rfl := Option.some.inj ho
            obtain ⟨e0, r0⟩ := inv.get haft 3 15 (by kernel_rfl) (by kernel_rfl)
            obtain ⟨e1, r1⟩ := inv.get haft 5 17 (by kernel_rfl) (by kernel_rfl)
            have INV := Lib.hid inv
            clear inv haft hun ho
            change vs 3 = .bool false at r0
            rw [r0] at e0
            have g0 := getD_opt e0
            change vs 5 = .bool true at r1
            rw [r1] at e1
            have g1 := getD_opt e1
            refine par_guard rfl (by kernel_rfl) e0 ?_
            rw [if_pos rfl]
            go_simp
            exact hK _ _ INV.out.inv INV.out.val rfl
          · intro o ho listed vs a w' inv hun haft K hK
            obtain rfl := Option.some.inj ho
            obtain ⟨e0, r0⟩ := inv.get haft 6 18 (by kernel_rfl) (by kernel_rfl)
            have e1 := inv.old 0 (by kernel_rfl)
            have INV := Lib.hid inv
            clear inv haft hun ho
            change vs 6 = .bool true at r0
            rw [r0] at e0
            have g0 := getD_opt e0
            simp at e1
            refine par_guard rfl (by kernel_rfl) e0 ?_
            rw [if_pos rfl]
            go_simp
            exact hK _ _ INV.out.inv INV.out.val rfl
          · intro o ho listed vs a w' inv hun haft K hK
            obtain rfl := Option.some.inj ho
            obtain ⟨e0, r0⟩ := inv.get haft 6 18 (by kernel_rfl) (by kernel_rfl)
            have e1 := inv.old 3 (by kernel_rfl)
            have INV := Lib.hid inv
            clear inv haft hun ho
            change vs 6 = .bool true at r0
            rw [r0] at e0
            have g0 := getD_opt e0
            simp at e1
            refine par_guard rfl (by kernel_rfl) e0 ?_
            rw [if_pos rfl]
            go_simp
            exact hK _ _ INV.out.inv INV.out.val rfl
          · intro o ho listed vs a w' inv hun haft K hK
            obtain rfl := Option.some.inj ho
            obtain ⟨e0, r0⟩ := inv.get haft 6 18 (by kernel_rfl) (by kernel_rfl)
            obtain ⟨e1, r1⟩ := inv.get haft 8 20 (by kernel_rfl) (by kernel_rfl)
            have INV := Lib.hid inv
            clear inv haft hun ho
            change vs 6 = .bool true at r0
            rw [r0] at e0
            have g0 := getD_opt e0
            change vs 8 = .int .i64 i at r1
            rw [r1] at e1
            have g1 := getD_opt e1
            refine par_guard rfl (by kernel_rfl) e0 ?_
            rw [if_pos rfl]
            go_simp
            exact hK _ _ INV.out.inv INV.out.val rfl
          · intro o ho listed vs a w' inv hun haft K hK
            obtain rfl := Option.some.inj ho
            obtain ⟨e0, r0⟩ := inv.get haft 6 18 (by kernel_rfl) (by kernel_rfl)
            obtain ⟨e1, r1⟩ := inv.get haft 7 19 (by kernel_rfl) (by kernel_rfl)
            obtain ⟨e2, r2⟩ := inv.get haft 9 21 (by kernel_rfl) (by kernel_rfl)
            have INV := Lib.hid inv
            clear inv haft hun ho
            change vs 6 = .bool true at r0
            rw [r0] at e0
            have g0 := getD_opt e0
            change vs 7 = .slice p n c at r1
            rw [r1] at e1
            have g1 := getD_opt e1
            change vs 9 = .int .i64 j at r2
            rw [r2] at e2
            have g2 := getD_opt e2
            refine par_guard rfl (by kernel_rfl) e0 ?_
            rw [if_pos rfl]
            go_simp
            exact hK _ _ INV.out.inv INV.out.val rfl
          · intro o ho listed vs a w' inv hun haft K hK
            obtain rfl := Option.some.inj ho
            obtain ⟨e0, r0⟩ := inv.get haft 6 18 (by kernel_rfl) (by kernel_rfl)
            obtain ⟨e1, r1⟩ := inv.get haft 10 22 (by kernel_rfl) (by kernel_rfl)
            have INV := Lib.hid inv
            clear inv haft hun ho
            change vs 6 = .bool true at r0
            rw [r0] at e0
            have g0 := getD_opt e0
            change vs 10 = .pointer (some ⟨b, off + j * 3, none⟩) at r1
            rw [r1] at e1
            have g1 := getD_opt e1
            refine par_guard rfl (by kernel_rfl) e0 ?_
            rw [if_pos rfl]
            go_simp
            exact hK _ _ INV.out.inv INV.out.val rfl
          · intro o ho listed vs a w' inv hun haft K hK
            obtain rfl := Option.some.inj ho
            obtain ⟨e0, r0⟩ := inv.get haft 6 18 (by kernel_rfl) (by kernel_rfl)
            obtain ⟨e1, r1⟩ := inv.get haft 11 23 (by kernel_rfl) (by kernel_rfl)
            have INV := Lib.hid inv
            clear inv haft hun ho
            change vs 6 = .bool true at r0
            rw [r0] at e0
            have g0 := getD_opt e0
            change vs 11 = .pointer (some ⟨b, off + j * 3, none⟩) at r1
            rw [r1] at e1
            have g1 := getD_opt e1
            have cy := (INV.out.inv.cell (a := ⟨b, _, none⟩) HBL (by simp)).trans dy
            refine par_guard rfl (by kernel_rfl) e0 ?_
            rw [if_pos rfl]
            go_simp
            exact hK _ _ INV.out.inv INV.out.val rfl
          · intro o ho listed vs a w' inv hun haft K hK
            obtain rfl := Option.some.inj ho
            obtain ⟨e0, r0⟩ := inv.get haft 6 18 (by kernel_rfl) (by kernel_rfl)
            have e1 := inv.old 4 (by kernel_rfl)
            have INV := Lib.hid inv
            clear inv haft hun ho
            change vs 6 = .bool true at r0
            rw [r0] at e0
            have g0 := getD_opt e0
            simp at e1
            refine par_guard rfl (by kernel_rfl) e0 ?_
            rw [if_pos rfl]
            go_simp
            exact hK _ _ INV.out.inv INV.out.val rfl
          · intro o ho listed vs a w' inv hun haft K hK
            obtain rfl := Option.some.inj ho
            obtain ⟨e0, r0⟩ := inv.get haft 6 18 (by kernel_rfl) (by kernel_rfl)
            obtain ⟨e1, r1⟩ := inv.get haft 13 25 (by kernel_rfl) (by kernel_rfl)
            have INV := Lib.hid inv
            clear inv haft hun ho
            change vs 6 = .bool true at r0
            rw [r0] at e0
            have g0 := getD_opt e0
            change vs 13 = .pointer (some ⟨A, 0, none⟩) at r1
            rw [r1] at e1
            have g1 := getD_opt e1
            have c0 := (INV.out.inv.cell (a := ⟨A, 0, none⟩) hAl (by simp)).trans k0
            refine par_guard rfl (by kernel_rfl) e0 ?_
            rw [if_pos rfl]
            go_simp
            exact hK _ _ INV.out.inv INV.out.val rfl
          · intro o ho listed vs a w' inv hun haft K hK
            obtain rfl := Option.some.inj ho
            obtain ⟨e0, r0⟩ := inv.get haft 6 18 (by kernel_rfl) (by kernel_rfl)
            obtain ⟨e1, r1⟩ := inv.get haft 12 24 (by kernel_rfl) (by kernel_rfl)
            obtain ⟨e2, r2⟩ := inv.get haft 14 26 (by kernel_rfl) (by kernel_rfl)
            have INV := Lib.hid inv
            clear inv haft hun ho
            change vs 6 = .bool true at r0
            rw [r0] at e0
            have g0 := getD_opt e0
            change vs 12 = .string (strOfNums l2) at r1
            rw [r1] at e1
            have g1 := getD_opt e1
            change vs 14 = .string (strOfNums l) at r2
            rw [r2] at e2
            have g2 := getD_opt e2
            refine par_guard rfl (by kernel_rfl) e0 ?_
            rw [if_pos rfl]
            go_simp
            exact hK _ _ INV.out.inv INV.out.val rfl
          · intro o ho listed vs a w' inv hun haft K hK
            obtain rfl := Option.some.inj ho
            obtain ⟨e0, r0⟩ := inv.get haft 3 15 (by kernel_rfl) (by kernel_rfl)
            obtain ⟨e1, r1⟩ := inv.get haft 6 18 (by kernel_rfl) (by kernel_rfl)
            obtain ⟨e2, r2⟩ := inv.get haft 15 27 (by kernel_rfl) (by kernel_rfl)
            have INV := Lib.hid inv
            clear inv haft hun ho
            change vs 3 = .bool false at r0
            rw [r0] at e0
            have g0 := getD_opt e0
            change vs 6 = .bool true at r1
            rw [r1] at e1
            have g1 := getD_opt e1
            change vs 15 = .bool (!LB) at r2
            rw [r2] at e2
            have g2 := getD_opt e2
            refine par_guard rfl (by kernel_rfl) e0 ?_
            rw [if_pos rfl]
            go_simp
            exact hK _ _ INV.out.inv INV.out.val rfl
          · intro o ho listed vs a w' inv hun haft K hK
            obtain rfl := Option.some.inj ho
            refine par_run rfl ?_
            obtain ⟨e0, r0⟩ := inv.get haft 3 15 (by kernel_rfl) (by kernel_rfl)
            obtain ⟨e1, r1⟩ := inv.get haft 16 28 (by kernel_rfl) (by kernel_rfl)
            have INV := Lib.hid inv
            clear inv haft hun ho
            change vs 3 = .bool false at r0
            rw [r0] at e0
            have g0 := getD_opt e0
            change vs 16 = .bool (!LB) at r1
            rw [r1] at e1
            have g1 := getD_opt e1
            go_simp
            exact hK _ _ INV.out.inv INV.out.val rfl
          intro vs w2 X hm hr hslot hold hsize hdef
          have er := hslot 17 29 (by kernel_rfl)
          have h9 := hr 17 (by decide)
          change vs 17 = .bool (!LB) at h9
          rw [h9] at er
          clear h9
          have e0 := hold 0 (by kernel_rfl)
          have e1 := hold 1 (by kernel_rfl)
          have e2 := hold 2 (by kernel_rfl)
          have e3 := hold 3 (by kernel_rfl)
          have e4 := hold 4 (by kernel_rfl)
          have e5 := hold 5 (by kernel_rfl)
          have e6 := hold 6 (by kernel_rfl)
          have e7 := hold 7 (by kernel_rfl)
          have e8 := hold 8 (by kernel_rfl)
          have e9 := hold 9 (by kernel_rfl)
          have e10 := hold 10 (by kernel_rfl)
          have e11 := hold 11 (by kernel_rfl)
          have e30 := hold 30 (by kernel_rfl)
          have e31 := hold 31 (by kernel_rfl)
          have e32 := hold 32 (by kernel_rfl)
          have e33 := hold 33 (by kernel_rfl)
          simp only [Array.getD_eq_getD_getElem?, List.getElem?_toArray, List.getElem?_cons_zero, List.getElem?_cons_succ, Option.getD_some] at e0 e1 e2 e3 e4 e5 e6 e7 e8 e9 e10 e11 e30 e31 e32 e33
          have MR := Lib.hid hm
          clear hr hslot hold hm
          obtain ⟨⟨xs⟩, df⟩ := X
          replace hdef : df = [] := hdef
          subst hdef
          replace hsize : xs.length = 34 := hsize
          obtain ⟨x0, xs0, rfl, hs0⟩ := cons_of hsize
          obtain ⟨x1, xs1, rfl, hs1⟩ := cons_of hs0
          obtain ⟨x2, xs2, rfl, hs2⟩ := cons_of hs1
          obtain ⟨x3, xs3, rfl, hs3⟩ := cons_of hs2
          obtain ⟨x4, xs4, rfl, hs4⟩ := cons_of hs3
          obtain ⟨x5, xs5, rfl, hs5⟩ := cons_of hs4
          obtain ⟨x6, xs6, rfl, hs6⟩ := cons_of hs5
          obtain ⟨x7, xs7, rfl, hs7⟩ := cons_of hs6
          obtain ⟨x8, xs8, rfl, hs8⟩ := cons_of hs7
          obtain ⟨x9, xs9, rfl, hs9⟩ := cons_of hs8
          obtain ⟨x10, xs10, rfl, hs10⟩ := cons_of hs9
          obtain ⟨x11, xs11, rfl, hs11⟩ := cons_of hs10
          obtain ⟨x12, xs12, rfl, hs12⟩ := cons_of hs11
          obtain ⟨x13, xs13, rfl, hs13⟩ := cons_of hs12
          obtain ⟨x14, xs14, rfl, hs14⟩ := cons_of hs13
          obtain ⟨x15, xs15, rfl, hs15⟩ := cons_of hs14
          obtain ⟨x16, xs16, rfl, hs16⟩ := cons_of hs15
          obtain ⟨x17, xs17, rfl, hs17⟩ := cons_of hs16
          obtain ⟨x18, xs18, rfl, hs18⟩ := cons_of hs17
          obtain ⟨x19, xs19, rfl, hs19⟩ := cons_of hs18
          obtain ⟨x20, xs20, rfl, hs20⟩ := cons_of hs19
          obtain ⟨x21, xs21, rfl, hs21⟩ := cons_of hs20
          obtain ⟨x22, xs22, rfl, hs22⟩ := cons_of hs21
          obtain ⟨x23, xs23, rfl, hs23⟩ := cons_of hs22
          obtain ⟨x24, xs24, rfl, hs24⟩ := cons_of hs23
          obtain ⟨x25, xs25, rfl, hs25⟩ := cons_of hs24
          obtain ⟨x26, xs26, rfl, hs26⟩ := cons_of hs25
          obtain ⟨x27, xs27, rfl, hs27⟩ := cons_of hs26
          obtain ⟨x28, xs28, rfl, hs28⟩ := cons_of hs27
          obtain ⟨x29, xs29, rfl, hs29⟩ := cons_of hs28
          obtain ⟨x30, xs30, rfl, hs30⟩ := cons_of hs29
          obtain ⟨x31, xs31, rfl, hs31⟩ := cons_of hs30
          obtain ⟨x32, xs32, rfl, hs32⟩ := cons_of hs31
          obtain ⟨x33, xs33, rfl, hs33⟩ := cons_of hs32
          obtain rfl := List.eq_nil_of_length_eq_zero hs33
          clear hsize hs0 hs1 hs2 hs3 hs4 hs5 hs6 hs7 hs8 hs9 hs10 hs11 hs12 hs13 hs14 hs15 hs16 hs17 hs18 hs19 hs20 hs21 hs22 hs23 hs24 hs25 hs26 hs27 hs28 hs29 hs30 hs31 hs32 hs33
          rw [show (Array.mk (x0 :: x1 :: x2 :: x3 :: x4 :: x5 :: x6 :: x7 :: x8 :: x9 :: x10 :: x11 :: x12 :: x13 :: x14 :: x15 :: x16 :: x17 :: x18 :: x19 :: x20 :: x21 :: x22 :: x23 :: x24 :: x25 :: x26 :: x27 :: x28 :: x29 :: x30 :: x31 :: x32 :: x33 :: []) : Array Value) = List.toArray (x0 :: x1 :: x2 :: x3 :: x4 :: x5 :: x6 :: x7 :: x8 :: x9 :: x10 :: x11 :: x12 :: x13 :: x14 :: x15 :: x16 :: x17 :: x18 :: x19 :: x20 :: x21 :: x22 :: x23 :: x24 :: x25 :: x26 :: x27 :: x28 :: x29 :: x30 :: x31 :: x32 :: x33 :: []) from rfl]
          change x0 = _ at e0
          subst e0
          change x1 = _ at e1
          subst e1
          change x2 = _ at e2
          subst e2
          change x3 = _ at e3
          subst e3
          change x4 = _ at e4
          subst e4
          change x5 = _ at e5
          subst e5
          change x6 = _ at e6
          subst e6
          change x7 = _ at e7
          subst e7
          change x8 = _ at e8
          subst e8
          change x9 = _ at e9
          subst e9
          change x10 = _ at e10
          subst e10
          change x11 = _ at e11
          subst e11
          change x30 = _ at e30
          subst e30
          change x31 = _ at e31
          subst e31
          change x32 = _ at e32
          subst e32
          change x33 = _ at e33
          subst e33
          change x29 = .bool (!LB) at er
          subst er
          cases LB with
          | true =>
            have HT : Hid (rtTo rs (i + 1) = true) := by rw [HS.out, HX2.out]; rfl
            go_wp2
            go_roundw
            case rel => exact ⟨i + 1, by omega, by go_num, HT.out, HM.out.same (HM1.out.same MR.out)⟩
            case measure => simp [intOf]; omega
          | false =>
            have HF : Hid (mayR rs = false) := HB.out HX2.out
            go_wp2
            go_ret
            exact .mk ⟨by rw [HF.out] <;> rfl, HM.out.same (HM1.out.same MR.out)⟩
    · obtain rfl : i = n := by omega
      have HE : Hid (decide ((i : Int) ≤ 12) = mayR rs) := by
        unfold Hid; rw [HEND.out, HTO.out, Bool.true_and]; exact decide_eq_decide.2 (by omega)
      go_wp2
      go_ret
      exact .mk ⟨congrArg Value.bool HE.out, HM.out⟩
end Go.Proofs.YtpdkkokgpdabhaaDoor
