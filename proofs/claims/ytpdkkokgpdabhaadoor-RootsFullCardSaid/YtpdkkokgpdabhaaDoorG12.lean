/- Roots: the document's May. -/
import Derived.Test.YtpdkkokgpdabhaaDoorG04
namespace Go.Proofs.YtpdkkokgpdabhaaDoor
open Go.RowKit Go.Maps
set_option linter.unusedSimpArgs false
set_option linter.unusedVariables false

def qmB (i : Nat) (oi : Nat) (v : Value) (w : World) : Prop :=
  match oi with
  | 0 => v = .int .i64 i
  | 1 => v = .bool true
  | 2 => v = .bool true
  | 3 => v = undef
  | 4 => v = undef
  | 5 => v = undef
  | 6 => v = undef
  | 7 => v = undef
  | 8 => v = undef
  | 9 => v = .bool true
  | 10 => v = .bool true
  | 11 => v = undef
  | 12 => v = undef
  | 13 => v = undef
  | 14 => v = undef
  | 15 => v = undef
  | 16 => v = undef
  | 17 => v = undef
  | 18 => v = undef
  | 19 => v = undef
  | 20 => v = undef
  | 21 => v = undef
  | 22 => v = undef
  | 23 => v = undef
  | 24 => v = undef
  | 25 => v = undef
  | 26 => v = undef
  | 27 => v = undef
  | 28 => v = undef
  | 29 => v = undef
  | 30 => v = .bool true
  | _ => True
theorem qmB_keep {i : Nat} {oi : Nat} {v : Value} {w w' : World} (hm : Mod [] w w') (hr : qmB i oi v w) : qmB i oi v w' := by
  have hk := Keep.of_mod hm
  unfold qmB at hr ⊢
  split at hr
  · exact hr
  · exact hr
  · exact hr
  · exact hr
  · exact hr
  · exact hr
  · exact hr
  · exact hr
  · exact hr
  · exact hr
  · exact hr
  · exact hr
  · exact hr
  · exact hr
  · exact hr
  · exact hr
  · exact hr
  · exact hr
  · exact hr
  · exact hr
  · exact hr
  · exact hr
  · exact hr
  · exact hr
  · exact hr
  · exact hr
  · exact hr
  · exact hr
  · exact hr
  · exact hr
  · exact hr
  · trivial
def qmF (p : Option Addr) (n c i b off : Nat) (l : List Int) (pg ct : Int) (oi : Nat) (v : Value) (w : World) : Prop :=
  match oi with
  | 0 => v = .int .i64 i
  | 1 => v = .bool false
  | 2 => v = .bool false
  | 3 => v = .slice p n c
  | 4 => v = .int .i64 i
  | 5 => v = .pointer (some ⟨b, off + i * 3, none⟩)
  | 6 => v = .agg #[.string (strOfNums l), .int .i64 pg, .int .i64 ct]
  | 7 => v = .bool false
  | 8 => v = .bool true
  | 9 => v = .bool true
  | 10 => v = .bool true
  | 11 => v = undef
  | 12 => v = undef
  | 13 => v = undef
  | 14 => v = undef
  | 15 => v = undef
  | 16 => v = undef
  | 17 => v = undef
  | 18 => v = undef
  | 19 => v = undef
  | 20 => v = undef
  | 21 => v = undef
  | 22 => v = undef
  | 23 => v = undef
  | 24 => v = undef
  | 25 => v = undef
  | 26 => v = undef
  | 27 => v = undef
  | 28 => v = undef
  | 29 => v = undef
  | 30 => v = .bool true
  | _ => True
theorem qmF_keep {p : Option Addr} {n c i b off : Nat} {l : List Int} {pg ct : Int} {oi : Nat} {v : Value} {w w' : World} (hm : Mod [] w w') (hr : qmF p n c i b off l pg ct oi v w) : qmF p n c i b off l pg ct oi v w' := by
  have hk := Keep.of_mod hm
  unfold qmF at hr ⊢
  split at hr
  · exact hr
  · exact hr
  · exact hr
  · exact hr
  · exact hr
  · exact hr
  · exact hr
  · exact hr
  · exact hr
  · exact hr
  · exact hr
  · exact hr
  · exact hr
  · exact hr
  · exact hr
  · exact hr
  · exact hr
  · exact hr
  · exact hr
  · exact hr
  · exact hr
  · exact hr
  · exact hr
  · exact hr
  · exact hr
  · exact hr
  · exact hr
  · exact hr
  · exact hr
  · exact hr
  · exact hr
  · trivial
def qmZ (p : Option Addr) (n c i b off : Nat) (l : List Int) (pg ct : Int) (oi : Nat) (v : Value) (w : World) : Prop :=
  match oi with
  | 0 => v = .int .i64 i
  | 1 => v = .bool false
  | 2 => v = .bool false
  | 3 => v = .slice p n c
  | 4 => v = .int .i64 i
  | 5 => v = .pointer (some ⟨b, off + i * 3, none⟩)
  | 6 => v = .agg #[.string (strOfNums l), .int .i64 pg, .int .i64 ct]
  | 7 => v = .bool true
  | 8 => v = .bool false
  | 9 => v = .bool false
  | 10 => v = .bool false
  | 11 => v = .int .i64 i
  | 12 => v = .bool false
  | 13 => v = .bool false
  | 14 => v = undef
  | 15 => v = undef
  | 16 => v = undef
  | 17 => v = undef
  | 18 => v = undef
  | 19 => v = undef
  | 20 => v = undef
  | 21 => v = undef
  | 22 => v = undef
  | 23 => v = undef
  | 24 => v = undef
  | 25 => v = undef
  | 26 => v = undef
  | 27 => v = undef
  | 28 => v = undef
  | 29 => v = .bool false
  | 30 => v = .bool false
  | _ => True
theorem qmZ_keep {p : Option Addr} {n c i b off : Nat} {l : List Int} {pg ct : Int} {oi : Nat} {v : Value} {w w' : World} (hm : Mod [] w w') (hr : qmZ p n c i b off l pg ct oi v w) : qmZ p n c i b off l pg ct oi v w' := by
  have hk := Keep.of_mod hm
  unfold qmZ at hr ⊢
  split at hr
  · exact hr
  · exact hr
  · exact hr
  · exact hr
  · exact hr
  · exact hr
  · exact hr
  · exact hr
  · exact hr
  · exact hr
  · exact hr
  · exact hr
  · exact hr
  · exact hr
  · exact hr
  · exact hr
  · exact hr
  · exact hr
  · exact hr
  · exact hr
  · exact hr
  · exact hr
  · exact hr
  · exact hr
  · exact hr
  · exact hr
  · exact hr
  · exact hr
  · exact hr
  · exact hr
  · exact hr
  · trivial
def qmL (p : Option Addr) (n c i b off : Nat) (l : List Int) (pg ct : Int) (j : Nat) (l2 : List Int) (LB : Bool) (oi : Nat) (v : Value) (w : World) : Prop :=
  match oi with
  | 0 => v = .int .i64 i
  | 1 => v = .bool false
  | 2 => v = .bool false
  | 3 => v = .slice p n c
  | 4 => v = .int .i64 i
  | 5 => v = .pointer (some ⟨b, off + i * 3, none⟩)
  | 6 => v = .agg #[.string (strOfNums l), .int .i64 pg, .int .i64 ct]
  | 7 => v = .bool true
  | 8 => v = .bool false
  | 9 => v = .bool false
  | 10 => v = .bool false
  | 11 => v = .int .i64 i
  | 12 => v = .bool true
  | 13 => v = .bool true
  | 14 => v = .slice p n c
  | 15 => v = .int .i64 i
  | 16 => v = .int .i64 j
  | 17 => v = .pointer (some ⟨b, off + j * 3, none⟩)
  | 18 => v = .pointer (some ⟨b, off + j * 3, none⟩)
  | 19 => v = .string (strOfNums l2)
  | 20 => ∃ p c, v = .slice p l2.length c ∧ Sl w 1 p l2.length c (bs l2) ∧ p ≠ none
  | 21 => v = .slice p n c
  | 22 => v = .int .i64 i
  | 23 => v = .pointer (some ⟨b, off + i * 3, none⟩)
  | 24 => v = .pointer (some ⟨b, off + i * 3, none⟩)
  | 25 => v = .string (strOfNums l)
  | 26 => ∃ p c, v = .slice p l.length c ∧ Sl w 1 p l.length c (bs l) ∧ p ≠ none
  | 27 => v = .bool LB
  | 28 => v = .bool (!LB)
  | 29 => v = .bool (!LB)
  | 30 => v = .bool (!LB)
  | _ => True
theorem qmL_keep {p : Option Addr} {n c i b off : Nat} {l : List Int} {pg ct : Int} {j : Nat} {l2 : List Int} {LB : Bool} {oi : Nat} {v : Value} {w w' : World} (hm : Mod [] w w') (hr : qmL p n c i b off l pg ct j l2 LB oi v w) : qmL p n c i b off l pg ct j l2 LB oi v w' := by
  have hk := Keep.of_mod hm
  unfold qmL at hr ⊢
  split at hr
  · exact hr
  · exact hr
  · exact hr
  · exact hr
  · exact hr
  · exact hr
  · exact hr
  · exact hr
  · exact hr
  · exact hr
  · exact hr
  · exact hr
  · exact hr
  · exact hr
  · exact hr
  · exact hr
  · exact hr
  · exact hr
  · exact hr
  · exact hr
  · obtain ⟨p, c, h1, h2, h3⟩ := hr; exact ⟨p, c, h1, h2.keep hk, h3⟩
  · exact hr
  · exact hr
  · exact hr
  · exact hr
  · exact hr
  · obtain ⟨p, c, h1, h2, h3⟩ := hr; exact ⟨p, c, h1, h2.keep hk, h3⟩
  · exact hr
  · exact hr
  · exact hr
  · exact hr
  · trivial
set_option maxRecDepth 100000 in
set_option maxHeartbeats 8000000 in
theorem qsmay_any (p : Option Addr) (n c : Nat) (rs : List Rt) (w : World) (h : RtsIn w p n c rs) : Calls Tryd.prog 12 #[.slice p n c] w (Ret (BoolM (mayR rs) w)) := by
  have hln := h.len
  have hcm := h.sl.capm; have hle := h.sl.le
  unfold maxLen at hcm
  obtain ⟨b, off, hp, hcs⟩ := h.sl.at_
  have hidx := fun W => Sl.idx (P := Tryd.prog) (cap := c) Tryd.underlying22 sizeRoots (fun h => (hp h).1) W .i64
  have HLT : Hid (0 < n → b < w.heap.size) := fun h => (hp h).2
  have HG := Lib.hid (fun i hi => h.get hcs i hi)
  have HLONG : Hid (12 < n → mayR rs = false) := fun h => mayR_long (by omega)
  have HEND : Hid (n ≤ 12 → rtTo rs n = true → mayR rs = true) := fun h1 h2 => by unfold mayR; rw [hln, h2, decide_eq_true h1]; rfl
  have HBAD : Hid (∀ i, i < n → rtAt rs i = false → mayR rs = false) := fun i hi h => mayR_bad (by omega) h
  have HAT : Hid (∀ i, rtAt rs i = ((rs.getD i default).ok && (i == 0 || less (rs.getD (i - 1) default).l (rs.getD i default).l))) := fun i => rfl
  have HST : Hid (∀ i, rtTo rs (i + 1) = (rtTo rs i && rtAt rs i)) := fun i => rfl
  clear h hp hcs hln
  go_enter Tryd.func12, Tryd.ntmps12
  go_wp2
  go_loopw [3] (fun iv wr => ∃ i : Nat, i ≤ n ∧ i ≤ 12 ∧ iv = .int .i64 i ∧ rtTo rs i = true ∧ Mod [] w wr) (fun iv _ => n - (intOf iv).toNat)
  case atStart => exact ⟨0, Nat.zero_le _, by omega, rfl, rfl, Mod.refl _ _⟩
  case round =>
    obtain ⟨i, hi, hi12, rfl, hto, hm⟩ := hrel
    have HTO := Lib.hid hto
    have HM := Lib.hid hm
    clear hto hm
    by_cases hlt : i < n
    · obtain ⟨l, pg, ct, hr, hwf, d0, d1, d2⟩ := HG.out i hlt
      have hbl := HLT.out (by omega)
      rw [← HM.out.cell (a := ⟨b, _, none⟩) hbl (by simp)] at d0 d1 d2
      have HBL : b < wr.heap.size := Nat.lt_of_lt_of_le hbl HM.out.size
      have HWF := Lib.hid hwf
      have HX := Lib.hid (HAT.out i)
      have HS := Lib.hid (HST.out i)
      have HB := Lib.hid (HBAD.out i hlt)
      rw [HTO.out, Bool.true_and] at HS
      rw [hr] at HX
      have hidx1 := fun W => hidx W i hlt
      have hwi : IntKind.i64.wrap ((i : Int) + 1) = (i : Int) + 1 := IntWalk.i64_in _ (by omega)
      have HMY : ∀ W, Hid (Calls Tryd.prog 29 #[.agg #[.string (strOfNums l), .int .i64 pg, .int .i64 ct]] W (Ret (BoolM (Rt.ok ⟨l, pg, ct⟩) W))) := fun W => Lib.hid (qone_any ⟨l, pg, ct⟩ W hwf.1 (Nat.le_trans hwf.2 (by decide)))
      clear hr hwf
      generalize Rt.ok ⟨l, pg, ct⟩ = M at *
      by_cases h12 : i = 12
      · have HF : Hid (mayR rs = false) := HLONG.out (by omega)
        have hge : decide ((12 : Int) ≤ (i : Int)) = true := by simp; omega
        clear HX HS h12
        go_wp2_with fail
        refine par_region (by kernel_rfl) (fun oi vs w => qmB i oi (vs oi) w) (fun w' => Mod [] wr w') (by kernel_rfl) (fun j vs vs' w o _ h1 _ h2 => by rw [← h1]; exact h2) ⟨⟨⟨⟨⟨⟨⟨⟨⟨⟨⟨⟨⟨⟨⟨⟨⟨⟨⟨⟨⟨⟨⟨⟨⟨⟨⟨⟨⟨⟨⟨trivial, ?_⟩, ?_⟩, ?_⟩, ?_⟩, ?_⟩, ?_⟩, ?_⟩, ?_⟩, ?_⟩, ?_⟩, ?_⟩, ?_⟩, ?_⟩, ?_⟩, ?_⟩, ?_⟩, ?_⟩, ?_⟩, ?_⟩, ?_⟩, ?_⟩, ?_⟩, ?_⟩, ?_⟩, ?_⟩, ?_⟩, ?_⟩, ?_⟩, ?_⟩, ?_⟩, ?_⟩ (Mod.of_drew wr) ?_
        · intro o ho listed vs a w' inv hun haft K hK
          obtain rfl := Option.some.inj ho
          refine par_run rfl ?_
          have e0 := inv.old 3 (by kernel_rfl)
          have INV := Lib.hid inv
          clear inv haft hun ho
          simp at e0
          go_simp
          exact hK _ _ INV.out.inv INV.out.val rfl
        · intro o ho listed vs a w' inv hun haft K hK
          obtain rfl := Option.some.inj ho
          refine par_run rfl ?_
          obtain ⟨e0, r0⟩ := inv.get haft 0 10 (by kernel_rfl) (by kernel_rfl)
          have INV := Lib.hid inv
          clear inv haft hun ho
          change vs 0 = .int .i64 i at r0
          rw [r0] at e0
          have g0 := getD_opt e0
          go_simp
          exact hK _ _ INV.out.inv INV.out.val rfl
        · intro o ho listed vs a w' inv hun haft K hK
          obtain rfl := Option.some.inj ho
          refine par_run rfl ?_
          obtain ⟨e0, r0⟩ := inv.get haft 1 11 (by kernel_rfl) (by kernel_rfl)
          have INV := Lib.hid inv
          clear inv haft hun ho
          change vs 1 = .bool true at r0
          rw [r0] at e0
          have g0 := getD_opt e0
          go_simp
          exact hK _ _ INV.out.inv INV.out.val rfl
        · intro o ho listed vs a w' inv hun haft K hK
          obtain rfl := Option.some.inj ho
          obtain ⟨e0, r0⟩ := inv.get haft 2 12 (by kernel_rfl) (by kernel_rfl)
          have INV := Lib.hid inv
          clear inv haft hun ho
          change vs 2 = .bool true at r0
          rw [r0] at e0
          have g0 := getD_opt e0
          exact par_skip rfl (by kernel_rfl) e0 (by simp [undef]) (hK _ _ INV.out.inv INV.out.val rfl)
        · intro o ho listed vs a w' inv hun haft K hK
          obtain rfl := Option.some.inj ho
          obtain ⟨e0, r0⟩ := inv.get haft 2 12 (by kernel_rfl) (by kernel_rfl)
          have INV := Lib.hid inv
          clear inv haft hun ho
          change vs 2 = .bool true at r0
          rw [r0] at e0
          have g0 := getD_opt e0
          exact par_skip rfl (by kernel_rfl) e0 (by simp [undef]) (hK _ _ INV.out.inv INV.out.val rfl)
        · intro o ho listed vs a w' inv hun haft K hK
          obtain rfl := Option.some.inj ho
          obtain ⟨e0, r0⟩ := inv.get haft 2 12 (by kernel_rfl) (by kernel_rfl)
          have INV := Lib.hid inv
          clear inv haft hun ho
          change vs 2 = .bool true at r0
          rw [r0] at e0
          have g0 := getD_opt e0
          exact par_skip rfl (by kernel_rfl) e0 (by simp [undef]) (hK _ _ INV.out.inv INV.out.val rfl)
        · intro o ho listed vs a w' inv hun haft K hK
          obtain rfl := Option.some.inj ho
          obtain ⟨e0, r0⟩ := inv.get haft 2 12 (by kernel_rfl) (by kernel_rfl)
          have INV := Lib.hid inv
          clear inv haft hun ho
          change vs 2 = .bool true at r0
          rw [r0] at e0
          have g0 := getD_opt e0
          exact par_skip rfl (by kernel_rfl) e0 (by simp [undef]) (hK _ _ INV.out.inv INV.out.val rfl)
        · intro o ho listed vs a w' inv hun haft K hK
          obtain rfl := Option.some.inj ho
          obtain ⟨e0, r0⟩ := inv.get haft 2 12 (by kernel_rfl) (by kernel_rfl)
          have INV := Lib.hid inv
          clear inv haft hun ho
          change vs 2 = .bool true at r0
          rw [r0] at e0
          have g0 := getD_opt e0
          exact par_skip rfl (by kernel_rfl) e0 (by simp [undef]) (hK _ _ INV.out.inv INV.out.val rfl)
        · intro o ho listed vs a w' inv hun haft K hK
          obtain rfl := Option.some.inj ho
          obtain ⟨e0, r0⟩ := inv.get haft 2 12 (by kernel_rfl) (by kernel_rfl)
          have INV := Lib.hid inv
          clear inv haft hun ho
          change vs 2 = .bool true at r0
          rw [r0] at e0
          have g0 := getD_opt e0
          exact par_skip rfl (by kernel_rfl) e0 (by simp [undef]) (hK _ _ INV.out.inv INV.out.val rfl)
        · intro o ho listed vs a w' inv hun haft K hK
          obtain rfl := Option.some.inj ho
          refine par_run rfl ?_
          obtain ⟨e0, r0⟩ := inv.get haft 2 12 (by kernel_rfl) (by kernel_rfl)
          have INV := Lib.hid inv
          clear inv haft hun ho
          change vs 2 = .bool true at r0
          rw [r0] at e0
          have g0 := getD_opt e0
          go_simp
          exact hK _ _ INV.out.inv INV.out.val rfl
        · intro o ho listed vs a w' inv hun haft K hK
          obtain rfl := Option.some.inj ho
          refine par_run rfl ?_
          obtain ⟨e0, r0⟩ := inv.get haft 9 19 (by kernel_rfl) (by kernel_rfl)
          have INV := Lib.hid inv
          clear inv haft hun ho
          change vs 9 = .bool true at r0
          rw [r0] at e0
          have g0 := getD_opt e0
          go_simp
          exact hK _ _ INV.out.inv INV.out.val rfl
        · intro o ho listed vs a w' inv hun haft K hK
          obtain rfl := Option.some.inj ho
          obtain ⟨e0, r0⟩ := inv.get haft 10 20 (by kernel_rfl) (by kernel_rfl)
          have INV := Lib.hid inv
          clear inv haft hun ho
          change vs 10 = .bool true at r0
          rw [r0] at e0
          have g0 := getD_opt e0
          exact par_skip rfl (by kernel_rfl) e0 (by simp [undef]) (hK _ _ INV.out.inv INV.out.val rfl)
        · intro o ho listed vs a w' inv hun haft K hK
          obtain rfl := Option.some.inj ho
          obtain ⟨e0, r0⟩ := inv.get haft 10 20 (by kernel_rfl) (by kernel_rfl)
          have INV := Lib.hid inv
          clear inv haft hun ho
          change vs 10 = .bool true at r0
          rw [r0] at e0
          have g0 := getD_opt e0
          exact par_skip rfl (by kernel_rfl) e0 (by simp [undef]) (hK _ _ INV.out.inv INV.out.val rfl)
        · intro o ho listed vs a w' inv hun haft K hK
          obtain rfl := Option.some.inj ho
          obtain ⟨e0, r0⟩ := inv.get haft 10 20 (by kernel_rfl) (by kernel_rfl)
          have INV := Lib.hid inv
          clear inv haft hun ho
          change vs 10 = .bool true at r0
          rw [r0] at e0
          have g0 := getD_opt e0
          exact par_skip rfl (by kernel_rfl) e0 (by simp [undef]) (hK _ _ INV.out.inv INV.out.val rfl)
        · intro o ho listed vs a w' inv hun haft K hK
          obtain rfl := Option.some.inj ho
          obtain ⟨e0, r0⟩ := inv.get haft 13 23 (by kernel_rfl) (by kernel_rfl)
          have INV := Lib.hid inv
          clear inv haft hun ho
          change vs 13 = undef at r0
          rw [r0] at e0
          have g0 := getD_opt e0
          exact par_skip rfl (by kernel_rfl) e0 (by simp [undef]) (hK _ _ INV.out.inv INV.out.val rfl)
        · intro o ho listed vs a w' inv hun haft K hK
          obtain rfl := Option.some.inj ho
          obtain ⟨e0, r0⟩ := inv.get haft 13 23 (by kernel_rfl) (by kernel_rfl)
          have INV := Lib.hid inv
          clear inv haft hun ho
          change vs 13 = undef at r0
          rw [r0] at e0
          have g0 := getD_opt e0
          exact par_skip rfl (by kernel_rfl) e0 (by simp [undef]) (hK _ _ INV.out.inv INV.out.val rfl)
        · intro o ho listed vs a w' inv hun haft K hK
          obtain rfl := Option.some.inj ho
          obtain ⟨e0, r0⟩ := inv.get haft 13 23 (by kernel_rfl) (by kernel_rfl)
          have INV := Lib.hid inv
          clear inv haft hun ho
          change vs 13 = undef at r0
          rw [r0] at e0
          have g0 := getD_opt e0
          exact par_skip rfl (by kernel_rfl) e0 (by simp [undef]) (hK _ _ INV.out.inv INV.out.val rfl)
        · intro o ho listed vs a w' inv hun haft K hK
          obtain rfl := Option.some.inj ho
          obtain ⟨e0, r0⟩ := inv.get haft 13 23 (by kernel_rfl) (by kernel_rfl)
          have INV := Lib.hid inv
          clear inv haft hun ho
          change vs 13 = undef at r0
          rw [r0] at e0
          have g0 := getD_opt e0
          exact par_skip rfl (by kernel_rfl) e0 (by simp [undef]) (hK _ _ INV.out.inv INV.out.val rfl)
        · intro o ho listed vs a w' inv hun haft K hK
          obtain rfl := Option.some.inj ho
          obtain ⟨e0, r0⟩ := inv.get haft 13 23 (by kernel_rfl) (by kernel_rfl)
          have INV := Lib.hid inv
          clear inv haft hun ho
          change vs 13 = undef at r0
          rw [r0] at e0
          have g0 := getD_opt e0
          exact par_skip rfl (by kernel_rfl) e0 (by simp [undef]) (hK _ _ INV.out.inv INV.out.val rfl)
        · intro o ho listed vs a w' inv hun haft K hK
          obtain rfl := Option.some.inj ho
          obtain ⟨e0, r0⟩ := inv.get haft 13 23 (by kernel_rfl) (by kernel_rfl)
          have INV := Lib.hid inv
          clear inv haft hun ho
          change vs 13 = undef at r0
          rw [r0] at e0
          have g0 := getD_opt e0
          exact par_skip rfl (by kernel_rfl) e0 (by simp [undef]) (hK _ _ INV.out.inv INV.out.val rfl)
        · intro o ho listed vs a w' inv hun haft K hK
          obtain rfl := Option.some.inj ho
          obtain ⟨e0, r0⟩ := inv.get haft 13 23 (by kernel_rfl) (by kernel_rfl)
          have INV := Lib.hid inv
          clear inv haft hun ho
          change vs 13 = undef at r0
          rw [r0] at e0
          have g0 := getD_opt e0
          exact par_skip rfl (by kernel_rfl) e0 (by simp [undef]) (hK _ _ INV.out.inv INV.out.val rfl)
        · intro o ho listed vs a w' inv hun haft K hK
          obtain rfl := Option.some.inj ho
          obtain ⟨e0, r0⟩ := inv.get haft 13 23 (by kernel_rfl) (by kernel_rfl)
          have INV := Lib.hid inv
          clear inv haft hun ho
          change vs 13 = undef at r0
          rw [r0] at e0
          have g0 := getD_opt e0
          exact par_skip rfl (by kernel_rfl) e0 (by simp [undef]) (hK _ _ INV.out.inv INV.out.val rfl)
        · intro o ho listed vs a w' inv hun haft K hK
          obtain rfl := Option.some.inj ho
          obtain ⟨e0, r0⟩ := inv.get haft 13 23 (by kernel_rfl) (by kernel_rfl)
          have INV := Lib.hid inv
          clear inv haft hun ho
          change vs 13 = undef at r0
          rw [r0] at e0
          have g0 := getD_opt e0
          exact par_skip rfl (by kernel_rfl) e0 (by simp [undef]) (hK _ _ INV.out.inv INV.out.val rfl)
        · intro o ho listed vs a w' inv hun haft K hK
          obtain rfl := Option.some.inj ho
          obtain ⟨e0, r0⟩ := inv.get haft 13 23 (by kernel_rfl) (by kernel_rfl)
          have INV := Lib.hid inv
          clear inv haft hun ho
          change vs 13 = undef at r0
          rw [r0] at e0
          have g0 := getD_opt e0
          exact par_skip rfl (by kernel_rfl) e0 (by simp [undef]) (hK _ _ INV.out.inv INV.out.val rfl)
        · intro o ho listed vs a w' inv hun haft K hK
          obtain rfl := Option.some.inj ho
          obtain ⟨e0, r0⟩ := inv.get haft 13 23 (by kernel_rfl) (by kernel_rfl)
          have INV := Lib.hid inv
          clear inv haft hun ho
          change vs 13 = undef at r0
          rw [r0] at e0
          have g0 := getD_opt e0
          exact par_skip rfl (by kernel_rfl) e0 (by simp [undef]) (hK _ _ INV.out.inv INV.out.val rfl)
        · intro o ho listed vs a w' inv hun haft K hK
          obtain rfl := Option.some.inj ho
          obtain ⟨e0, r0⟩ := inv.get haft 13 23 (by kernel_rfl) (by kernel_rfl)
          have INV := Lib.hid inv
          clear inv haft hun ho
          change vs 13 = undef at r0
          rw [r0] at e0
          have g0 := getD_opt e0
          exact par_skip rfl (by kernel_rfl) e0 (by simp [undef]) (hK _ _ INV.out.inv INV.out.val rfl)
        · intro o ho listed vs a w' inv hun haft K hK
          obtain rfl := Option.some.inj ho
          obtain ⟨e0, r0⟩ := inv.get haft 13 23 (by kernel_rfl) (by kernel_rfl)
          have INV := Lib.hid inv
          clear inv haft hun ho
          change vs 13 = undef at r0
          rw [r0] at e0
          have g0 := getD_opt e0
          exact par_skip rfl (by kernel_rfl) e0 (by simp [undef]) (hK _ _ INV.out.inv INV.out.val rfl)
        · intro o ho listed vs a w' inv hun haft K hK
          obtain rfl := Option.some.inj ho
          obtain ⟨e0, r0⟩ := inv.get haft 13 23 (by kernel_rfl) (by kernel_rfl)
          have INV := Lib.hid inv
          clear inv haft hun ho
          change vs 13 = undef at r0
          rw [r0] at e0
          have g0 := getD_opt e0
          exact par_skip rfl (by kernel_rfl) e0 (by simp [undef]) (hK _ _ INV.out.inv INV.out.val rfl)
        · intro o ho listed vs a w' inv hun haft K hK
          obtain rfl := Option.some.inj ho
          obtain ⟨e0, r0⟩ := inv.get haft 13 23 (by kernel_rfl) (by kernel_rfl)
          have INV := Lib.hid inv
          clear inv haft hun ho
          change vs 13 = undef at r0
          rw [r0] at e0
          have g0 := getD_opt e0
          exact par_skip rfl (by kernel_rfl) e0 (by simp [undef]) (hK _ _ INV.out.inv INV.out.val rfl)
        · intro o ho listed vs a w' inv hun haft K hK
          obtain rfl := Option.some.inj ho
          obtain ⟨e0, r0⟩ := inv.get haft 10 20 (by kernel_rfl) (by kernel_rfl)
          have INV := Lib.hid inv
          clear inv haft hun ho
          change vs 10 = .bool true at r0
          rw [r0] at e0
          have g0 := getD_opt e0
          exact par_skip rfl (by kernel_rfl) e0 (by simp [undef]) (hK _ _ INV.out.inv INV.out.val rfl)
        · intro o ho listed vs a w' inv hun haft K hK
          obtain rfl := Option.some.inj ho
          refine par_run rfl ?_
          obtain ⟨e0, r0⟩ := inv.get haft 10 20 (by kernel_rfl) (by kernel_rfl)
          have INV := Lib.hid inv
          clear inv haft hun ho
          change vs 10 = .bool true at r0
          rw [r0] at e0
          have g0 := getD_opt e0
          go_simp
          exact hK _ _ INV.out.inv INV.out.val rfl
        intro vs w2 X hm hr hslot hold hsize hdef
        have er := hslot 30 40 (by kernel_rfl)
        have h9 := hr 30 (by decide)
        change vs 30 = .bool true at h9
        rw [h9] at er
        clear h9
        have e0 := hold 0 (by kernel_rfl)
        have e1 := hold 1 (by kernel_rfl)
        have e2 := hold 2 (by kernel_rfl)
        have e3 := hold 3 (by kernel_rfl)
        have e4 := hold 4 (by kernel_rfl)
        have e5 := hold 5 (by kernel_rfl)
        have e6 := hold 6 (by kernel_rfl)
        have e7 := hold 7 (by kernel_rfl)
        have e8 := hold 8 (by kernel_rfl)
        have e9 := hold 9 (by kernel_rfl)
        simp only [Array.getD_eq_getD_getElem?, List.getElem?_toArray, List.getElem?_cons_zero, List.getElem?_cons_succ, Option.getD_some] at e0 e1 e2 e3 e4 e5 e6 e7 e8 e9
        have MR := Lib.hid hm
        clear hr hslot hold hm
        obtain ⟨⟨xs⟩, df⟩ := X
        replace hdef : df = [] := hdef
        subst hdef
        replace hsize : xs.length = 41 := hsize
        obtain ⟨x0, xs0, rfl, hs0⟩ := cons_of hsize
        obtain ⟨x1, xs1, rfl, hs1⟩ := cons_of hs0
        obtain ⟨x2, xs2, rfl, hs2⟩ := cons_of hs1
        obtain ⟨x3, xs3, rfl, hs3⟩ := cons_of hs2
        obtain ⟨x4, xs4, rfl, hs4⟩ := cons_of hs3
        obtain ⟨x5, xs5, rfl, hs5⟩ := cons_of hs4
        obtain ⟨x6, xs6, rfl, hs6⟩ := cons_of hs5
        obtain ⟨x7, xs7, rfl, hs7⟩ := cons_of hs6
        obtain ⟨x8, xs8, rfl, hs8⟩ := cons_of hs7
        obtain ⟨x9, xs9, rfl, hs9⟩ := cons_of hs8
        obtain ⟨x10, xs10, rfl, hs10⟩ := cons_of hs9
        obtain ⟨x11, xs11, rfl, hs11⟩ := cons_of hs10
        obtain ⟨x12, xs12, rfl, hs12⟩ := cons_of hs11
        obtain ⟨x13, xs13, rfl, hs13⟩ := cons_of hs12
        obtain ⟨x14, xs14, rfl, hs14⟩ := cons_of hs13
        obtain ⟨x15, xs15, rfl, hs15⟩ := cons_of hs14
        obtain ⟨x16, xs16, rfl, hs16⟩ := cons_of hs15
        obtain ⟨x17, xs17, rfl, hs17⟩ := cons_of hs16
        obtain ⟨x18, xs18, rfl, hs18⟩ := cons_of hs17
        obtain ⟨x19, xs19, rfl, hs19⟩ := cons_of hs18
        obtain ⟨x20, xs20, rfl, hs20⟩ := cons_of hs19
        obtain ⟨x21, xs21, rfl, hs21⟩ := cons_of hs20
        obtain ⟨x22, xs22, rfl, hs22⟩ := cons_of hs21
        obtain ⟨x23, xs23, rfl, hs23⟩ := cons_of hs22
        obtain ⟨x24, xs24, rfl, hs24⟩ := cons_of hs23
        obtain ⟨x25, xs25, rfl, hs25⟩ := cons_of hs24
        obtain ⟨x26, xs26, rfl, hs26⟩ := cons_of hs25
        obtain ⟨x27, xs27, rfl, hs27⟩ := cons_of hs26
        obtain ⟨x28, xs28, rfl, hs28⟩ := cons_of hs27
        obtain ⟨x29, xs29, rfl, hs29⟩ := cons_of hs28
        obtain ⟨x30, xs30, rfl, hs30⟩ := cons_of hs29
        obtain ⟨x31, xs31, rfl, hs31⟩ := cons_of hs30
        obtain ⟨x32, xs32, rfl, hs32⟩ := cons_of hs31
        obtain ⟨x33, xs33, rfl, hs33⟩ := cons_of hs32
        obtain ⟨x34, xs34, rfl, hs34⟩ := cons_of hs33
        obtain ⟨x35, xs35, rfl, hs35⟩ := cons_of hs34
        obtain ⟨x36, xs36, rfl, hs36⟩ := cons_of hs35
        obtain ⟨x37, xs37, rfl, hs37⟩ := cons_of hs36
        obtain ⟨x38, xs38, rfl, hs38⟩ := cons_of hs37
        obtain ⟨x39, xs39, rfl, hs39⟩ := cons_of hs38
        obtain ⟨x40, xs40, rfl, hs40⟩ := cons_of hs39
        obtain rfl := List.eq_nil_of_length_eq_zero hs40
        clear hsize hs0 hs1 hs2 hs3 hs4 hs5 hs6 hs7 hs8 hs9 hs10 hs11 hs12 hs13 hs14 hs15 hs16 hs17 hs18 hs19 hs20 hs21 hs22 hs23 hs24 hs25 hs26 hs27 hs28 hs29 hs30 hs31 hs32 hs33 hs34 hs35 hs36 hs37 hs38 hs39 hs40
        rw [show (Array.mk (x0 :: x1 :: x2 :: x3 :: x4 :: x5 :: x6 :: x7 :: x8 :: x9 :: x10 :: x11 :: x12 :: x13 :: x14 :: x15 :: x16 :: x17 :: x18 :: x19 :: x20 :: x21 :: x22 :: x23 :: x24 :: x25 :: x26 :: x27 :: x28 :: x29 :: x30 :: x31 :: x32 :: x33 :: x34 :: x35 :: x36 :: x37 :: x38 :: x39 :: x40 :: []) : Array Value) = List.toArray (x0 :: x1 :: x2 :: x3 :: x4 :: x5 :: x6 :: x7 :: x8 :: x9 :: x10 :: x11 :: x12 :: x13 :: x14 :: x15 :: x16 :: x17 :: x18 :: x19 :: x20 :: x21 :: x22 :: x23 :: x24 :: x25 :: x26 :: x27 :: x28 :: x29 :: x30 :: x31 :: x32 :: x33 :: x34 :: x35 :: x36 :: x37 :: x38 :: x39 :: x40 :: []) from rfl]
        change x0 = _ at e0
        subst e0
        change x1 = _ at e1
        subst e1
        change x2 = _ at e2
        subst e2
        change x3 = _ at e3
        subst e3
        change x4 = _ at e4
        subst e4
        change x5 = _ at e5
        subst e5
        change x6 = _ at e6
        subst e6
        change x7 = _ at e7
        subst e7
        change x8 = _ at e8
        subst e8
        change x9 = _ at e9
        subst e9
        change x40 = .bool true at er
        subst er
        go_wp2
        go_ret
        exact .mk ⟨by rw [HF.out] <;> rfl, HM.out.same MR.out⟩
      · have hge : decide ((12 : Int) ≤ (i : Int)) = false := by simp; omega
        cases M with
        | false =>
          have HF : Hid (mayR rs = false) := HB.out (by rw [HX.out]; rfl)
          go_wp2_with fail
          refine par_region (by kernel_rfl) (fun oi vs w => qmF p n c i b off l pg ct oi (vs oi) w) (fun w' => Mod [] wr w') (by kernel_rfl) (fun j vs vs' w o _ h1 _ h2 => by rw [← h1]; exact h2) ⟨⟨⟨⟨⟨⟨⟨⟨⟨⟨⟨⟨⟨⟨⟨⟨⟨⟨⟨⟨⟨⟨⟨⟨⟨⟨⟨⟨⟨⟨⟨trivial, ?_⟩, ?_⟩, ?_⟩, ?_⟩, ?_⟩, ?_⟩, ?_⟩, ?_⟩, ?_⟩, ?_⟩, ?_⟩, ?_⟩, ?_⟩, ?_⟩, ?_⟩, ?_⟩, ?_⟩, ?_⟩, ?_⟩, ?_⟩, ?_⟩, ?_⟩, ?_⟩, ?_⟩, ?_⟩, ?_⟩, ?_⟩, ?_⟩, ?_⟩, ?_⟩, ?_⟩ (Mod.of_drew wr) ?_
          · intro o ho listed vs a w' inv hun haft K hK
            obtain rfl := Option.some.inj ho
            refine par_run rfl ?_
            have e0 := inv.old 3 (by kernel_rfl)
            have INV := Lib.hid inv
            clear inv haft hun ho
            simp at e0
            go_simp
            exact hK _ _ INV.out.inv INV.out.val rfl
          · intro o ho listed vs a w' inv hun haft K hK
            obtain rfl := Option.some.inj ho
            refine par_run rfl ?_
            obtain ⟨e0, r0⟩ := inv.get haft 0 10 (by kernel_rfl) (by kernel_rfl)
            have INV := Lib.hid inv
            clear inv haft hun ho
            change vs 0 = .int .i64 i at r0
            rw [r0] at e0
            have g0 := getD_opt e0
            go_simp
            exact hK _ _ INV.out.inv INV.out.val rfl
          · intro o ho listed vs a w' inv hun haft K hK
            obtain rfl := Option.some.inj ho
            refine par_run rfl ?_
            obtain ⟨e0, r0⟩ := inv.get haft 1 11 (by kernel_rfl) (by kernel_rfl)
            have INV := Lib.hid inv
            clear inv haft hun ho
            change vs 1 = .bool false at r0
            rw [r0] at e0
            have g0 := getD_opt e0
            go_simp
            exact hK _ _ INV.out.inv INV.out.val rfl
          · intro o ho listed vs a w' inv hun haft K hK
            obtain rfl := Option.some.inj ho
            obtain ⟨e0, r0⟩ := inv.get haft 2 12 (by kernel_rfl) (by kernel_rfl)
            have e1 := inv.old 0 (by kernel_rfl)
            have INV := Lib.hid inv
            clear inv haft hun ho
            change vs 2 = .bool false at r0
            rw [r0] at e0
            have g0 := getD_opt e0
            simp at e1
            refine par_guard rfl (by kernel_rfl) e0 ?_
            rw [if_pos rfl]
            go_simp
            exact hK _ _ INV.out.inv INV.out.val rfl
          · intro o ho listed vs a w' inv hun haft K hK
            obtain rfl := Option.some.inj ho
            obtain ⟨e0, r0⟩ := inv.get haft 2 12 (by kernel_rfl) (by kernel_rfl)
            have e1 := inv.old 3 (by kernel_rfl)
            have INV := Lib.hid inv
            clear inv haft hun ho
            change vs 2 = .bool false at r0
            rw [r0] at e0
            have g0 := getD_opt e0
            simp at e1
            refine par_guard rfl (by kernel_rfl) e0 ?_
            rw [if_pos rfl]
            go_simp
            exact hK _ _ INV.out.inv INV.out.val rfl
          · intro o ho listed vs a w' inv hun haft K hK
            obtain rfl := Option.some.inj ho
            obtain ⟨e0, r0⟩ := inv.get haft 2 12 (by kernel_rfl) (by kernel_rfl)
            obtain ⟨e1, r1⟩ := inv.get haft 3 13 (by kernel_rfl) (by kernel_rfl)
            obtain ⟨e2, r2⟩ := inv.get haft 4 14 (by kernel_rfl) (by kernel_rfl)
            have INV := Lib.hid inv
            clear inv haft hun ho
            change vs 2 = .bool false at r0
            rw [r0] at e0
            have g0 := getD_opt e0
            change vs 3 = .slice p n c at r1
            rw [r1] at e1
            have g1 := getD_opt e1
            change vs 4 = .int .i64 i at r2
            rw [r2] at e2
            have g2 := getD_opt e2
            refine par_guard rfl (by kernel_rfl) e0 ?_
            rw [if_pos rfl]
            go_simp
            exact hK _ _ INV.out.inv INV.out.val rfl
          · intro o ho listed vs a w' inv hun haft K hK
            obtain rfl := Option.some.inj ho
            obtain ⟨e0, r0⟩ := inv.get haft 2 12 (by kernel_rfl) (by kernel_rfl)
            obtain ⟨e1, r1⟩ := inv.get haft 5 15 (by kernel_rfl) (by kernel_rfl)
            have INV := Lib.hid inv
            clear inv haft hun ho
            change vs 2 = .bool false at r0
            rw [r0] at e0
            have g0 := getD_opt e0
            change vs 5 = .pointer (some ⟨b, off + i * 3, none⟩) at r1
            rw [r1] at e1
            have g1 := getD_opt e1
            have cx0 := (INV.out.inv.cell (a := ⟨b, _, none⟩) HBL (by simp)).trans d0
            have cx1 := (INV.out.inv.cell (a := ⟨b, _, none⟩) HBL (by simp)).trans d1
            have cx2 := (INV.out.inv.cell (a := ⟨b, _, none⟩) HBL (by simp)).trans d2
            refine par_guard rfl (by kernel_rfl) e0 ?_
            rw [if_pos rfl]
            go_simp
            exact hK _ _ INV.out.inv INV.out.val rfl
          · intro o ho listed vs a w' inv hun haft K hK
            obtain rfl := Option.some.inj ho
            obtain ⟨e0, r0⟩ := inv.get haft 2 12 (by kernel_rfl) (by kernel_rfl)
            obtain ⟨e1, r1⟩ := inv.get haft 6 16 (by kernel_rfl) (by kernel_rfl)
            have INV := Lib.hid inv
            clear inv haft hun ho
            change vs 2 = .bool false at r0
            rw [r0] at e0
            have g0 := getD_opt e0
            change vs 6 = .agg #[.string (strOfNums l), .int .i64 pg, .int .i64 ct] at r1
            rw [r1] at e1
            have g1 := getD_opt e1
            refine par_guard rfl (by kernel_rfl) e0 ?_
            rw [if_pos rfl]
            go_simp
            refine (HMY _).out.mono ?_
            rintro _ w3 ⟨_, rfl, rfl, m3⟩
            exact hK _ _ (INV.out.inv.same m3) (fun j hj hl => qmF_keep m3 (INV.out.val j hj hl)) rfl
          · intro o ho listed vs a w' inv hun haft K hK
            obtain rfl := Option.some.inj ho
            obtain ⟨e0, r0⟩ := inv.get haft 2 12 (by kernel_rfl) (by kernel_rfl)
            obtain ⟨e1, r1⟩ := inv.get haft 7 17 (by kernel_rfl) (by kernel_rfl)
            have INV := Lib.hid inv
            clear inv haft hun ho
            change vs 2 = .bool false at r0
            rw [r0] at e0
            have g0 := getD_opt e0
            change vs 7 = .bool false at r1
            rw [r1] at e1
            have g1 := getD_opt e1
            refine par_guard rfl (by kernel_rfl) e0 ?_
            rw [if_pos rfl]
            go_simp
            exact hK _ _ INV.out.inv INV.out.val rfl
          · intro o ho listed vs a w' inv hun haft K hK
            obtain rfl := Option.some.inj ho
            refine par_run rfl ?_
            obtain ⟨e0, r0⟩ := inv.get haft 2 12 (by kernel_rfl) (by kernel_rfl)
            obtain ⟨e1, r1⟩ := inv.get haft 8 18 (by kernel_rfl) (by kernel_rfl)
            have INV := Lib.hid inv
            clear inv haft hun ho
            change vs 2 = .bool false at r0
            rw [r0] at e0
            have g0 := getD_opt e0
            change vs 8 = .bool true at r1
            rw [r1] at e1
            have g1 := getD_opt e1
            go_simp
            exact hK _ _ INV.out.inv INV.out.val rfl
          · intro o ho listed vs a w' inv hun haft K hK
            obtain rfl := Option.some.inj ho
            refine par_run rfl ?_
            obtain ⟨e0, r0⟩ := inv.get haft 9 19 (by kernel_rfl) (by kernel_rfl)
            have INV := Lib.hid inv
            clear inv haft hun ho
            change vs 9 = .bool true at r0
            rw [r0] at e0
            have g0 := getD_opt e0
            go_simp
            exact hK _ _ INV.out.inv INV.out.val rfl
          · intro o ho listed vs a w' inv hun haft K hK
            obtain rfl := Option.some.inj ho
            obtain ⟨e0, r0⟩ := inv.get haft 10 20 (by kernel_rfl) (by kernel_rfl)
            have INV := Lib.hid inv
            clear inv haft hun ho
            change vs 10 = .bool true at r0
            rw [r0] at e0
            have g0 := getD_opt e0
            exact par_skip rfl (by kernel_rfl) e0 (by simp [undef]) (hK _ _ INV.out.inv INV.out.val rfl)
          · intro o ho listed vs a w' inv hun haft K hK
            obtain rfl := Option.some.inj ho
            obtain ⟨e0, r0⟩ := inv.get haft 10 20 (by kernel_rfl) (by kernel_rfl)
            have INV := Lib.hid inv
            clear inv haft hun ho
            change vs 10 = .bool true at r0
            rw [r0] at e0
            have g0 := getD_opt e0
            exact par_skip rfl (by kernel_rfl) e0 (by simp [undef]) (hK _ _ INV.out.inv INV.out.val rfl)
          · intro o ho listed vs a w' inv hun haft K hK
            obtain rfl := Option.some.inj ho
            obtain ⟨e0, r0⟩ := inv.get haft 10 20 (by kernel_rfl) (by kernel_rfl)
            have INV := Lib.hid inv
            clear inv haft hun ho
            change vs 10 = .bool true at r0
            rw [r0] at e0
            have g0 := getD_opt e0
            exact par_skip rfl (by kernel_rfl) e0 (by simp [undef]) (hK _ _ INV.out.inv INV.out.val rfl)
          · intro o ho listed vs a w' inv hun haft K hK
            obtain rfl := Option.some.inj ho
            obtain ⟨e0, r0⟩ := inv.get haft 13 23 (by kernel_rfl) (by kernel_rfl)
            have INV := Lib.hid inv
            clear inv haft hun ho
            change vs 13 = undef at r0
            rw [r0] at e0
            have g0 := getD_opt e0
            exact par_skip rfl (by kernel_rfl) e0 (by simp [undef]) (hK _ _ INV.out.inv INV.out.val rfl)
          · intro o ho listed vs a w' inv hun haft K hK
            obtain rfl := Option.some.inj ho
            obtain ⟨e0, r0⟩ := inv.get haft 13 23 (by kernel_rfl) (by kernel_rfl)
            have INV := Lib.hid inv
            clear inv haft hun ho
            change vs 13 = undef at r0
            rw [r0] at e0
            have g0 := getD_opt e0
            exact par_skip rfl (by kernel_rfl) e0 (by simp [undef]) (hK _ _ INV.out.inv INV.out.val rfl)
          · intro o ho listed vs a w' inv hun haft K hK
            obtain rfl := Option.some.inj ho
            obtain ⟨e0, r0⟩ := inv.get haft 13 23 (by kernel_rfl) (by kernel_rfl)
            have INV := Lib.hid inv
            clear inv haft hun ho
            change vs 13 = undef at r0
            rw [r0] at e0
            have g0 := getD_opt e0
            exact par_skip rfl (by kernel_rfl) e0 (by simp [undef]) (hK _ _ INV.out.inv INV.out.val rfl)
          · intro o ho listed vs a w' inv hun haft K hK
            obtain rfl := Option.some.inj ho
            obtain ⟨e0, r0⟩ := inv.get haft 13 23 (by kernel_rfl) (by kernel_rfl)
            have INV := Lib.hid inv
            clear inv haft hun ho
            change vs 13 = undef at r0
            rw [r0] at e0
            have g0 := getD_opt e0
            exact par_skip rfl (by kernel_rfl) e0 (by simp [undef]) (hK _ _ INV.out.inv INV.out.val rfl)
          · intro o ho listed vs a w' inv hun haft K hK
            obtain rfl := Option.some.inj ho
            obtain ⟨e0, r0⟩ := inv.get haft 13 23 (by kernel_rfl) (by kernel_rfl)
            have INV := Lib.hid inv
            clear inv haft hun ho
            change vs 13 = undef at r0
            rw [r0] at e0
            have g0 := getD_opt e0
            exact par_skip rfl (by kernel_rfl) e0 (by simp [undef]) (hK _ _ INV.out.inv INV.out.val rfl)
          · intro o ho listed vs a w' inv hun haft K hK
            obtain rfl := Option.some.inj ho
            obtain ⟨e0, r0⟩ := inv.get haft 13 23 (by kernel_rfl) (by kernel_rfl)
            have INV := Lib.hid inv
            clear inv haft hun ho
            change vs 13 = undef at r0
            rw [r0] at e0
            have g0 := getD_opt e0
            exact par_skip rfl (by kernel_rfl) e0 (by simp [undef]) (hK _ _ INV.out.inv INV.out.val rfl)
          · intro o ho listed vs a w' inv hun haft K hK
            obtain rfl := Option.some.inj ho
            obtain ⟨e0, r0⟩ := inv.get haft 13 23 (by kernel_rfl) (by kernel_rfl)
            have INV := Lib.hid inv
            clear inv haft hun ho
            change vs 13 = undef at r0
            rw [r0] at e0
            have g0 := getD_opt e0
            exact par_skip rfl (by kernel_rfl) e0 (by simp [undef]) (hK _ _ INV.out.inv INV.out.val rfl)
          · intro o ho listed vs a w' inv hun haft K hK
            obtain rfl := Option.some.inj ho
            obtain ⟨e0, r0⟩ := inv.get haft 13 23 (by kernel_rfl) (by kernel_rfl)
            have INV := Lib.hid inv
            clear inv haft hun ho
            change vs 13 = undef at r0
            rw [r0] at e0
            have g0 := getD_opt e0
            exact par_skip rfl (by kernel_rfl) e0 (by simp [undef]) (hK _ _ INV.out.inv INV.out.val rfl)
          · intro o ho listed vs a w' inv hun haft K hK
            obtain rfl := Option.some.inj ho
            obtain ⟨e0, r0⟩ := inv.get haft 13 23 (by kernel_rfl) (by kernel_rfl)
            have INV := Lib.hid inv
            clear inv haft hun ho
            change vs 13 = undef at r0
            rw [r0] at e0
            have g0 := getD_opt e0
            exact par_skip rfl (by kernel_rfl) e0 (by simp [undef]) (hK _ _ INV.out.inv INV.out.val rfl)
          · intro o ho listed vs a w' inv hun haft K hK
            obtain rfl := Option.some.inj ho
            obtain ⟨e0, r0⟩ := inv.get haft 13 23 (by kernel_rfl) (by kernel_rfl)
            have INV := Lib.hid inv
            clear inv haft hun ho
            change vs 13 = undef at r0
            rw [r0] at e0
            have g0 := getD_opt e0
            exact par_skip rfl (by kernel_rfl) e0 (by simp [undef]) (hK _ _ INV.out.inv INV.out.val rfl)
          · intro o ho listed vs a w' inv hun haft K hK
            obtain rfl := Option.some.inj ho
            obtain ⟨e0, r0⟩ := inv.get haft 13 23 (by kernel_rfl) (by kernel_rfl)
            have INV := Lib.hid inv
            clear inv haft hun ho
            change vs 13 = undef at r0
            rw [r0] at e0
            have g0 := getD_opt e0
            exact par_skip rfl (by kernel_rfl) e0 (by simp [undef]) (hK _ _ INV.out.inv INV.out.val rfl)
          · intro o ho listed vs a w' inv hun haft K hK
            obtain rfl := Option.some.inj ho
            obtain ⟨e0, r0⟩ := inv.get haft 13 23 (by kernel_rfl) (by kernel_rfl)
            have INV := Lib.hid inv
            clear inv haft hun ho
            change vs 13 = undef at r0
            rw [r0] at e0
            have g0 := getD_opt e0
            exact par_skip rfl (by kernel_rfl) e0 (by simp [undef]) (hK _ _ INV.out.inv INV.out.val rfl)
          · intro o ho listed vs a w' inv hun haft K hK
            obtain rfl := Option.some.inj ho
            obtain ⟨e0, r0⟩ := inv.get haft 13 23 (by kernel_rfl) (by kernel_rfl)
            have INV := Lib.hid inv
            clear inv haft hun ho
            change vs 13 = undef at r0
            rw [r0] at e0
            have g0 := getD_opt e0
            exact par_skip rfl (by kernel_rfl) e0 (by simp [undef]) (hK _ _ INV.out.inv INV.out.val rfl)
          · intro o ho listed vs a w' inv hun haft K hK
            obtain rfl := Option.some.inj ho
            obtain ⟨e0, r0⟩ := inv.get haft 13 23 (by kernel_rfl) (by kernel_rfl)
            have INV := Lib.hid inv
            clear inv haft hun ho
            change vs 13 = undef at r0
            rw [r0] at e0
            have g0 := getD_opt e0
            exact par_skip rfl (by kernel_rfl) e0 (by simp [undef]) (hK _ _ INV.out.inv INV.out.val rfl)
          · intro o ho listed vs a w' inv hun haft K hK
            obtain rfl := Option.some.inj ho
            obtain ⟨e0, r0⟩ := inv.get haft 13 23 (by kernel_rfl) (by kernel_rfl)
            have INV := Lib.hid inv
            clear inv haft hun ho
            change vs 13 = undef at r0
            rw [r0] at e0
            have g0 := getD_opt e0
            exact par_skip rfl (by kernel_rfl) e0 (by simp [undef]) (hK _ _ INV.out.inv INV.out.val rfl)
          · intro o ho listed vs a w' inv hun haft K hK
            obtain rfl := Option.some.inj ho
            obtain ⟨e0, r0⟩ := inv.get haft 10 20 (by kernel_rfl) (by kernel_rfl)
            have INV := Lib.hid inv
            clear inv haft hun ho
            change vs 10 = .bool true at r0
            rw [r0] at e0
            have g0 := getD_opt e0
            exact par_skip rfl (by kernel_rfl) e0 (by simp [undef]) (hK _ _ INV.out.inv INV.out.val rfl)
          · intro o ho listed vs a w' inv hun haft K hK
            obtain rfl := Option.some.inj ho
            refine par_run rfl ?_
            obtain ⟨e0, r0⟩ := inv.get haft 10 20 (by kernel_rfl) (by kernel_rfl)
            have INV := Lib.hid inv
            clear inv haft hun ho
            change vs 10 = .bool true at r0
            rw [r0] at e0
            have g0 := getD_opt e0
            go_simp
            exact hK _ _ INV.out.inv INV.out.val rfl
          intro vs w2 X hm hr hslot hold hsize hdef
          have er := hslot 30 40 (by kernel_rfl)
          have h9 := hr 30 (by decide)
          change vs 30 = .bool true at h9
          rw [h9] at er
          clear h9
          have e0 := hold 0 (by kernel_rfl)
          have e1 := hold 1 (by kernel_rfl)
          have e2 := hold 2 (by kernel_rfl)
          have e3 := hold 3 (by kernel_rfl)
          have e4 := hold 4 (by kernel_rfl)
          have e5 := hold 5 (by kernel_rfl)
          have e6 := hold 6 (by kernel_rfl)
          have e7 := hold 7 (by kernel_rfl)
          have e8 := hold 8 (by kernel_rfl)
          have e9 := hold 9 (by kernel_rfl)
          simp only [Array.getD_eq_getD_getElem?, List.getElem?_toArray, List.getElem?_cons_zero, List.getElem?_cons_succ, Option.getD_some] at e0 e1 e2 e3 e4 e5 e6 e7 e8 e9
          have MR := Lib.hid hm
          clear hr hslot hold hm
          obtain ⟨⟨xs⟩, df⟩ := X
          replace hdef : df = [] := hdef
          subst hdef
          replace hsize : xs.length = 41 := hsize
          obtain ⟨x0, xs0, rfl, hs0⟩ := cons_of hsize
          obtain ⟨x1, xs1, rfl, hs1⟩ := cons_of hs0
          obtain ⟨x2, xs2, rfl, hs2⟩ := cons_of hs1
          obtain ⟨x3, xs3, rfl, hs3⟩ := cons_of hs2
          obtain ⟨x4, xs4, rfl, hs4⟩ := cons_of hs3
          obtain ⟨x5, xs5, rfl, hs5⟩ := cons_of hs4
          obtain ⟨x6, xs6, rfl, hs6⟩ := cons_of hs5
          obtain ⟨x7, xs7, rfl, hs7⟩ := cons_of hs6
          obtain ⟨x8, xs8, rfl, hs8⟩ := cons_of hs7
          obtain ⟨x9, xs9, rfl, hs9⟩ := cons_of hs8
          obtain ⟨x10, xs10, rfl, hs10⟩ := cons_of hs9
          obtain ⟨x11, xs11, rfl, hs11⟩ := cons_of hs10
          obtain ⟨x12, xs12, rfl, hs12⟩ := cons_of hs11
          obtain ⟨x13, xs13, rfl, hs13⟩ := cons_of hs12
          obtain ⟨x14, xs14, rfl, hs14⟩ := cons_of hs13
          obtain ⟨x15, xs15, rfl, hs15⟩ := cons_of hs14
          obtain ⟨x16, xs16, rfl, hs16⟩ := cons_of hs15
          obtain ⟨x17, xs17, rfl, hs17⟩ := cons_of hs16
          obtain ⟨x18, xs18, rfl, hs18⟩ := cons_of hs17
          obtain ⟨x19, xs19, rfl, hs19⟩ := cons_of hs18
          obtain ⟨x20, xs20, rfl, hs20⟩ := cons_of hs19
          obtain ⟨x21, xs21, rfl, hs21⟩ := cons_of hs20
          obtain ⟨x22, xs22, rfl, hs22⟩ := cons_of hs21
          obtain ⟨x23, xs23, rfl, hs23⟩ := cons_of hs22
          obtain ⟨x24, xs24, rfl, hs24⟩ := cons_of hs23
          obtain ⟨x25, xs25, rfl, hs25⟩ := cons_of hs24
          obtain ⟨x26, xs26, rfl, hs26⟩ := cons_of hs25
          obtain ⟨x27, xs27, rfl, hs27⟩ := cons_of hs26
          obtain ⟨x28, xs28, rfl, hs28⟩ := cons_of hs27
          obtain ⟨x29, xs29, rfl, hs29⟩ := cons_of hs28
          obtain ⟨x30, xs30, rfl, hs30⟩ := cons_of hs29
          obtain ⟨x31, xs31, rfl, hs31⟩ := cons_of hs30
          obtain ⟨x32, xs32, rfl, hs32⟩ := cons_of hs31
          obtain ⟨x33, xs33, rfl, hs33⟩ := cons_of hs32
          obtain ⟨x34, xs34, rfl, hs34⟩ := cons_of hs33
          obtain ⟨x35, xs35, rfl, hs35⟩ := cons_of hs34
          obtain ⟨x36, xs36, rfl, hs36⟩ := cons_of hs35
          obtain ⟨x37, xs37, rfl, hs37⟩ := cons_of hs36
          obtain ⟨x38, xs38, rfl, hs38⟩ := cons_of hs37
          obtain ⟨x39, xs39, rfl, hs39⟩ := cons_of hs38
          obtain ⟨x40, xs40, rfl, hs40⟩ := cons_of hs39
          obtain rfl := List.eq_nil_of_length_eq_zero hs40
          clear hsize hs0 hs1 hs2 hs3 hs4 hs5 hs6 hs7 hs8 hs9 hs10 hs11 hs12 hs13 hs14 hs15 hs16 hs17 hs18 hs19 hs20 hs21 hs22 hs23 hs24 hs25 hs26 hs27 hs28 hs29 hs30 hs31 hs32 hs33 hs34 hs35 hs36 hs37 hs38 hs39 hs40
          rw [show (Array.mk (x0 :: x1 :: x2 :: x3 :: x4 :: x5 :: x6 :: x7 :: x8 :: x9 :: x10 :: x11 :: x12 :: x13 :: x14 :: x15 :: x16 :: x17 :: x18 :: x19 :: x20 :: x21 :: x22 :: x23 :: x24 :: x25 :: x26 :: x27 :: x28 :: x29 :: x30 :: x31 :: x32 :: x33 :: x34 :: x35 :: x36 :: x37 :: x38 :: x39 :: x40 :: []) : Array Value) = List.toArray (x0 :: x1 :: x2 :: x3 :: x4 :: x5 :: x6 :: x7 :: x8 :: x9 :: x10 :: x11 :: x12 :: x13 :: x14 :: x15 :: x16 :: x17 :: x18 :: x19 :: x20 :: x21 :: x22 :: x23 :: x24 :: x25 :: x26 :: x27 :: x28 :: x29 :: x30 :: x31 :: x32 :: x33 :: x34 :: x35 :: x36 :: x37 :: x38 :: x39 :: x40 :: []) from rfl]
          change x0 = _ at e0
          subst e0
          change x1 = _ at e1
          subst e1
          change x2 = _ at e2
          subst e2
          change x3 = _ at e3
          subst e3
          change x4 = _ at e4
          subst e4
          change x5 = _ at e5
          subst e5
          change x6 = _ at e6
          subst e6
          change x7 = _ at e7
          subst e7
          change x8 = _ at e8
          subst e8
          change x9 = _ at e9
          subst e9
          change x40 = .bool true at er
          subst er
          go_wp2
          go_ret
          exact .mk ⟨by rw [HF.out] <;> rfl, HM.out.same MR.out⟩
        | true =>
          rcases Nat.eq_zero_or_pos i with h0 | h0
          · have HT : Hid (rtTo rs (i + 1) = true) := by rw [HS.out, HX.out, h0]; rfl
            have hz : decide (0 < i) = false := by simp; omega
            clear h0
            go_wp2_with fail
            refine par_region (by kernel_rfl) (fun oi vs w => qmZ p n c i b off l pg ct oi (vs oi) w) (fun w' => Mod [] wr w') (by kernel_rfl) (fun j vs vs' w o _ h1 _ h2 => by rw [← h1]; exact h2) ⟨⟨⟨⟨⟨⟨⟨⟨⟨⟨⟨⟨⟨⟨⟨⟨⟨⟨⟨⟨⟨⟨⟨⟨⟨⟨⟨⟨⟨⟨⟨trivial, ?_⟩, ?_⟩, ?_⟩, ?_⟩, ?_⟩, ?_⟩, ?_⟩, ?_⟩, ?_⟩, ?_⟩, ?_⟩, ?_⟩, ?_⟩, ?_⟩, ?_⟩, ?_⟩, ?_⟩, ?_⟩, ?_⟩, ?_⟩, ?_⟩, ?_⟩, ?_⟩, ?_⟩, ?_⟩, ?_⟩, ?_⟩, ?_⟩, ?_⟩, ?_⟩, ?_⟩ (Mod.of_drew wr) ?_
            · intro o ho listed vs a w' inv hun haft K hK
              obtain rfl := Option.some.inj ho
              refine par_run rfl ?_
              have e0 := inv.old 3 (by kernel_rfl)
              have INV := Lib.hid inv
              clear inv haft hun ho
              simp at e0
              go_simp
              exact hK _ _ INV.out.inv INV.out.val rfl
            · intro o ho listed vs a w' inv hun haft K hK
              obtain rfl := Option.some.inj ho
              refine par_run rfl ?_
              obtain ⟨e0, r0⟩ := inv.get haft 0 10 (by kernel_rfl) (by kernel_rfl)
              have INV := Lib.hid inv
              clear inv haft hun ho
              change vs 0 = .int .i64 i at r0
              rw [r0] at e0
              have g0 := getD_opt e0
              go_simp
              exact hK _ _ INV.out.inv INV.out.val rfl
            · intro o ho listed vs a w' inv hun haft K hK
              obtain rfl := Option.some.inj ho
              refine par_run rfl ?_
              obtain ⟨e0, r0⟩ := inv.get haft 1 11 (by kernel_rfl) (by kernel_rfl)
              have INV := Lib.hid inv
              clear inv haft hun ho
              change vs 1 = .bool false at r0
              rw [r0] at e0
              have g0 := getD_opt e0
              go_simp
              exact hK _ _ INV.out.inv INV.out.val rfl
            · intro o ho listed vs a w' inv hun haft K hK
              obtain rfl := Option.some.inj ho
              obtain ⟨e0, r0⟩ := inv.get haft 2 12 (by kernel_rfl) (by kernel_rfl)
              have e1 := inv.old 0 (by kernel_rfl)
              have INV := Lib.hid inv
              clear inv haft hun ho
              change vs 2 = .bool false at r0
              rw [r0] at e0
              have g0 := getD_opt e0
              simp at e1
              refine par_guard rfl (by kernel_rfl) e0 ?_
              rw [if_pos rfl]
              go_simp
              exact hK _ _ INV.out.inv INV.out.val rfl
            · intro o ho listed vs a w' inv hun haft K hK
              obtain rfl := Option.some.inj ho
              obtain ⟨e0, r0⟩ := inv.get haft 2 12 (by kernel_rfl) (by kernel_rfl)
              have e1 := inv.old 3 (by kernel_rfl)
              have INV := Lib.hid inv
              clear inv haft hun ho
              change vs 2 = .bool false at r0
              rw [r0] at e0
              have g0 := getD_opt e0
              simp at e1
              refine par_guard rfl (by kernel_rfl) e0 ?_
              rw [if_pos rfl]
              go_simp
              exact hK _ _ INV.out.inv INV.out.val rfl
            · intro o ho listed vs a w' inv hun haft K hK
              obtain rfl := Option.some.inj ho
              obtain ⟨e0, r0⟩ := inv.get haft 2 12 (by kernel_rfl) (by kernel_rfl)
              obtain ⟨e1, r1⟩ := inv.get haft 3 13 (by kernel_rfl) (by kernel_rfl)
              obtain ⟨e2, r2⟩ := inv.get haft 4 14 (by kernel_rfl) (by kernel_rfl)
              have INV := Lib.hid inv
              clear inv haft hun ho
              change vs 2 = .bool false at r0
              rw [r0] at e0
              have g0 := getD_opt e0
              change vs 3 = .slice p n c at r1
              rw [r1] at e1
              have g1 := getD_opt e1
              change vs 4 = .int .i64 i at r2
              rw [r2] at e2
              have g2 := getD_opt e2
              refine par_guard rfl (by kernel_rfl) e0 ?_
              rw [if_pos rfl]
              go_simp
              exact hK _ _ INV.out.inv INV.out.val rfl
            · intro o ho listed vs a w' inv hun haft K hK
              obtain rfl := Option.some.inj ho
              obtain ⟨e0, r0⟩ := inv.get haft 2 12 (by kernel_rfl) (by kernel_rfl)
              obtain ⟨e1, r1⟩ := inv.get haft 5 15 (by kernel_rfl) (by kernel_rfl)
              have INV := Lib.hid inv
              clear inv haft hun ho
              change vs 2 = .bool false at r0
              rw [r0] at e0
              have g0 := getD_opt e0
              change vs 5 = .pointer (some ⟨b, off + i * 3, none⟩) at r1
              rw [r1] at e1
              have g1 := getD_opt e1
              have cx0 := (INV.out.inv.cell (a := ⟨b, _, none⟩) HBL (by simp)).trans d0
              have cx1 := (INV.out.inv.cell (a := ⟨b, _, none⟩) HBL (by simp)).trans d1
              have cx2 := (INV.out.inv.cell (a := ⟨b, _, none⟩) HBL (by simp)).trans d2
              refine par_guard rfl (by kernel_rfl) e0 ?_
              rw [if_pos rfl]
              go_simp
              exact hK _ _ INV.out.inv INV.out.val rfl
            · intro o ho listed vs a w' inv hun haft K hK
              obtain rfl := Option.some.inj ho
              obtain ⟨e0, r0⟩ := inv.get haft 2 12 (by kernel_rfl) (by kernel_rfl)
              obtain ⟨e1, r1⟩ := inv.get haft 6 16 (by kernel_rfl) (by kernel_rfl)
              have INV := Lib.hid inv
              clear inv haft hun ho
              change vs 2 = .bool false at r0
              rw [r0] at e0
              have g0 := getD_opt e0
              change vs 6 = .agg #[.string (strOfNums l), .int .i64 pg, .int .i64 ct] at r1
              rw [r1] at e1
              have g1 := getD_opt e1
              refine par_guard rfl (by kernel_rfl) e0 ?_
              rw [if_pos rfl]
              go_simp
              refine (HMY _).out.mono ?_
              rintro _ w3 ⟨_, rfl, rfl, m3⟩
              exact hK _ _ (INV.out.inv.same m3) (fun j hj hl => qmZ_keep m3 (INV.out.val j hj hl)) rfl
            · intro o ho listed vs a w' inv hun haft K hK
              obtain rfl := Option.some.inj ho
              obtain ⟨e0, r0⟩ := inv.get haft 2 12 (by kernel_rfl) (by kernel_rfl)
              obtain ⟨e1, r1⟩ := inv.get haft 7 17 (by kernel_rfl) (by kernel_rfl)
              have INV := Lib.hid inv
              clear inv haft hun ho
              change vs 2 = .bool false at r0
              rw [r0] at e0
              have g0 := getD_opt e0
              change vs 7 = .bool true at r1
              rw [r1] at e1
              have g1 := getD_opt e1
              refine par_guard rfl (by kernel_rfl) e0 ?_
              rw [if_pos rfl]
              go_simp
              exact hK _ _ INV.out.inv INV.out.val rfl
            · intro o ho listed vs a w' inv hun haft K hK
              obtain rfl := Option.some.inj ho
              refine par_run rfl ?_
              obtain ⟨e0, r0⟩ := inv.get haft 2 12 (by kernel_rfl) (by kernel_rfl)
              obtain ⟨e1, r1⟩ := inv.get haft 8 18 (by kernel_rfl) (by kernel_rfl)
              have INV := Lib.hid inv
              clear inv haft hun ho
              change vs 2 = .bool false at r0
              rw [r0] at e0
              have g0 := getD_opt e0
              change vs 8 = .bool false at r1
              rw [r1] at e1
              have g1 := getD_opt e1
              go_simp
              exact hK _ _ INV.out.inv INV.out.val rfl
            · intro o ho listed vs a w' inv hun haft K hK
              obtain rfl := Option.some.inj ho
              refine par_run rfl ?_
              obtain ⟨e0, r0⟩ := inv.get haft 9 19 (by kernel_rfl) (by kernel_rfl)
              have INV := Lib.hid inv
              clear inv haft hun ho
              change vs 9 = .bool false at r0
              rw [r0] at e0
              have g0 := getD_opt e0
              go_simp
              exact hK _ _ INV.out.inv INV.out.val rfl
            · intro o ho listed vs a w' inv hun haft K hK
              obtain rfl := Option.some.inj ho
              obtain ⟨e0, r0⟩ := inv.get haft 10 20 (by kernel_rfl) (by kernel_rfl)
              have e1 := inv.old 3 (by kernel_rfl)
              have INV := Lib.hid inv
              clear inv haft hun ho
              change vs 10 = .bool false at r0
              rw [r0] at e0
              have g0 := getD_opt e0
              simp at e1
              refine par_guard rfl (by kernel_rfl) e0 ?_
              rw [if_pos rfl]
              go_simp
              exact hK _ _ INV.out.inv INV.out.val rfl
            · intro o ho listed vs a w' inv hun haft K hK
              obtain rfl := Option.some.inj ho
              obtain ⟨e0, r0⟩ := inv.get haft 10 20 (by kernel_rfl) (by kernel_rfl)
              obtain ⟨e1, r1⟩ := inv.get haft 11 21 (by kernel_rfl) (by kernel_rfl)
              have INV := Lib.hid inv
              clear inv haft hun ho
              change vs 10 = .bool false at r0
              rw [r0] at e0
              have g0 := getD_opt e0
              change vs 11 = .int .i64 i at r1
              rw [r1] at e1
              have g1 := getD_opt e1
              refine par_guard rfl (by kernel_rfl) e0 ?_
              rw [if_pos rfl]
              go_simp
              exact hK _ _ INV.out.inv INV.out.val rfl
            · intro o ho listed vs a w' inv hun haft K hK
              obtain rfl := Option.some.inj ho
              obtain ⟨e0, r0⟩ := inv.get haft 10 20 (by kernel_rfl) (by kernel_rfl)
              obtain ⟨e1, r1⟩ := inv.get haft 12 22 (by kernel_rfl) (by kernel_rfl)
              have INV := Lib.hid inv
              clear inv haft hun ho
              change vs 10 = .bool false at r0
              rw [r0] at e0
              have g0 := getD_opt e0
              change vs 12 = .bool false at r1
              rw [r1] at e1
              have g1 := getD_opt e1
              refine par_guard rfl (by kernel_rfl) e0 ?_
              rw [if_pos rfl]
              go_simp
              exact hK _ _ INV.out.inv INV.out.val rfl
            · intro o ho listed vs a w' inv hun haft K hK
              obtain rfl := Option.some.inj ho
              obtain ⟨e0, r0⟩ := inv.get haft 13 23 (by kernel_rfl) (by kernel_rfl)
              have INV := Lib.hid inv
              clear inv haft hun ho
              change vs 13 = .bool false at r0
              rw [r0] at e0
              have g0 := getD_opt e0
              exact par_skip rfl (by kernel_rfl) e0 (by simp [undef]) (hK _ _ INV.out.inv INV.out.val rfl)
            · intro o ho listed vs a w' inv hun haft K hK
              obtain rfl := Option.some.inj ho
              obtain ⟨e0, r0⟩ := inv.get haft 13 23 (by kernel_rfl) (by kernel_rfl)
              have INV := Lib.hid inv
              clear inv haft hun ho
              change vs 13 = .bool false at r0
              rw [r0] at e0
              have g0 := getD_opt e0
              exact par_skip rfl (by kernel_rfl) e0 (by simp [undef]) (hK _ _ INV.out.inv INV.out.val rfl)
            · intro o ho listed vs a w' inv hun haft K hK
              obtain rfl := Option.some.inj ho
              obtain ⟨e0, r0⟩ := inv.get haft 13 23 (by kernel_rfl) (by kernel_rfl)
              have INV := Lib.hid inv
              clear inv haft hun ho
              change vs 13 = .bool false at r0
              rw [r0] at e0
              have g0 := getD_opt e0
              exact par_skip rfl (by kernel_rfl) e0 (by simp [undef]) (hK _ _ INV.out.inv INV.out.val rfl)
            · intro o ho listed vs a w' inv hun haft K hK
              obtain rfl := Option.some.inj ho
              obtain ⟨e0, r0⟩ := inv.get haft 13 23 (by kernel_rfl) (by kernel_rfl)
              have INV := Lib.hid inv
              clear inv haft hun ho
              change vs 13 = .bool false at r0
              rw [r0] at e0
              have g0 := getD_opt e0
              exact par_skip rfl (by kernel_rfl) e0 (by simp [undef]) (hK _ _ INV.out.inv INV.out.val rfl)
            · intro o ho listed vs a w' inv hun haft K hK
              obtain rfl := Option.some.inj ho
              obtain ⟨e0, r0⟩ := inv.get haft 13 23 (by kernel_rfl) (by kernel_rfl)
              have INV := Lib.hid inv
              clear inv haft hun ho
              change vs 13 = .bool false at r0
              rw [r0] at e0
              have g0 := getD_opt e0
              exact par_skip rfl (by kernel_rfl) e0 (by simp [undef]) (hK _ _ INV.out.inv INV.out.val rfl)
            · intro o ho listed vs a w' inv hun haft K hK
              obtain rfl := Option.some.inj ho
              obtain ⟨e0, r0⟩ := inv.get haft 13 23 (by kernel_rfl) (by kernel_rfl)
              have INV := Lib.hid inv
              clear inv haft hun ho
              change vs 13 = .bool false at r0
              rw [r0] at e0
              have g0 := getD_opt e0
              exact par_skip rfl (by kernel_rfl) e0 (by simp [undef]) (hK _ _ INV.out.inv INV.out.val rfl)
            · intro o ho listed vs a w' inv hun haft K hK
              obtain rfl := Option.some.inj ho
              obtain ⟨e0, r0⟩ := inv.get haft 13 23 (by kernel_rfl) (by kernel_rfl)
              have INV := Lib.hid inv
              clear inv haft hun ho
              change vs 13 = .bool false at r0
              rw [r0] at e0
              have g0 := getD_opt e0
              exact par_skip rfl (by kernel_rfl) e0 (by simp [undef]) (hK _ _ INV.out.inv INV.out.val rfl)
            · intro o ho listed vs a w' inv hun haft K hK
              obtain rfl := Option.some.inj ho
              obtain ⟨e0, r0⟩ := inv.get haft 13 23 (by kernel_rfl) (by kernel_rfl)
              have INV := Lib.hid inv
              clear inv haft hun ho
              change vs 13 = .bool false at r0
              rw [r0] at e0
              have g0 := getD_opt e0
              exact par_skip rfl (by kernel_rfl) e0 (by simp [undef]) (hK _ _ INV.out.inv INV.out.val rfl)
            · intro o ho listed vs a w' inv hun haft K hK
              obtain rfl := Option.some.inj ho
              obtain ⟨e0, r0⟩ := inv.get haft 13 23 (by kernel_rfl) (by kernel_rfl)
              have INV := Lib.hid inv
              clear inv haft hun ho
              change vs 13 = .bool false at r0
              rw [r0] at e0
              have g0 := getD_opt e0
              exact par_skip rfl (by kernel_rfl) e0 (by simp [undef]) (hK _ _ INV.out.inv INV.out.val rfl)
            · intro o ho listed vs a w' inv hun haft K hK
              obtain rfl := Option.some.inj ho
              obtain ⟨e0, r0⟩ := inv.get haft 13 23 (by kernel_rfl) (by kernel_rfl)
              have INV := Lib.hid inv
              clear inv haft hun ho
              change vs 13 = .bool false at r0
              rw [r0] at e0
              have g0 := getD_opt e0
              exact par_skip rfl (by kernel_rfl) e0 (by simp [undef]) (hK _ _ INV.out.inv INV.out.val rfl)
            · intro o ho listed vs a w' inv hun haft K hK
              obtain rfl := Option.some.inj ho
              obtain ⟨e0, r0⟩ := inv.get haft 13 23 (by kernel_rfl) (by kernel_rfl)
              have INV := Lib.hid inv
              clear inv haft hun ho
              change vs 13 = .bool false at r0
              rw [r0] at e0
              have g0 := getD_opt e0
              exact par_skip rfl (by kernel_rfl) e0 (by simp [undef]) (hK _ _ INV.out.inv INV.out.val rfl)
            · intro o ho listed vs a w' inv hun haft K hK
              obtain rfl := Option.some.inj ho
              obtain ⟨e0, r0⟩ := inv.get haft 13 23 (by kernel_rfl) (by kernel_rfl)
              have INV := Lib.hid inv
              clear inv haft hun ho
              change vs 13 = .bool false at r0
              rw [r0] at e0
              have g0 := getD_opt e0
              exact par_skip rfl (by kernel_rfl) e0 (by simp [undef]) (hK _ _ INV.out.inv INV.out.val rfl)
            · intro o ho listed vs a w' inv hun haft K hK
              obtain rfl := Option.some.inj ho
              obtain ⟨e0, r0⟩ := inv.get haft 13 23 (by kernel_rfl) (by kernel_rfl)
              have INV := Lib.hid inv
              clear inv haft hun ho
              change vs 13 = .bool false at r0
              rw [r0] at e0
              have g0 := getD_opt e0
              exact par_skip rfl (by kernel_rfl) e0 (by simp [undef]) (hK _ _ INV.out.inv INV.out.val rfl)
            · intro o ho listed vs a w' inv hun haft K hK
              obtain rfl := Option.some.inj ho
              obtain ⟨e0, r0⟩ := inv.get haft 13 23 (by kernel_rfl) (by kernel_rfl)
              have INV := Lib.hid inv
              clear inv haft hun ho
              change vs 13 = .bool false at r0
              rw [r0] at e0
              have g0 := getD_opt e0
              exact par_skip rfl (by kernel_rfl) e0 (by simp [undef]) (hK _ _ INV.out.inv INV.out.val rfl)
            · intro o ho listed vs a w' inv hun haft K hK
              obtain rfl := Option.some.inj ho
              obtain ⟨e0, r0⟩ := inv.get haft 13 23 (by kernel_rfl) (by kernel_rfl)
              have INV := Lib.hid inv
              clear inv haft hun ho
              change vs 13 = .bool false at r0
              rw [r0] at e0
              have g0 := getD_opt e0
              exact par_skip rfl (by kernel_rfl) e0 (by simp [undef]) (hK _ _ INV.out.inv INV.out.val rfl)
            · intro o ho listed vs a w' inv hun haft K hK
              obtain rfl := Option.some.inj ho
              obtain ⟨e0, r0⟩ := inv.get haft 10 20 (by kernel_rfl) (by kernel_rfl)
              obtain ⟨e1, r1⟩ := inv.get haft 13 23 (by kernel_rfl) (by kernel_rfl)
              have INV := Lib.hid inv
              clear inv haft hun ho
              change vs 10 = .bool false at r0
              rw [r0] at e0
              have g0 := getD_opt e0
              change vs 13 = .bool false at r1
              rw [r1] at e1
              have g1 := getD_opt e1
              refine par_guard rfl (by kernel_rfl) e0 ?_
              rw [if_pos rfl]
              go_simp
              exact hK _ _ INV.out.inv INV.out.val rfl
            · intro o ho listed vs a w' inv hun haft K hK
              obtain rfl := Option.some.inj ho
              refine par_run rfl ?_
              obtain ⟨e0, r0⟩ := inv.get haft 10 20 (by kernel_rfl) (by kernel_rfl)
              obtain ⟨e1, r1⟩ := inv.get haft 29 39 (by kernel_rfl) (by kernel_rfl)
              have INV := Lib.hid inv
              clear inv haft hun ho
              change vs 10 = .bool false at r0
              rw [r0] at e0
              have g0 := getD_opt e0
              change vs 29 = .bool false at r1
              rw [r1] at e1
              have g1 := getD_opt e1
              go_simp
              exact hK _ _ INV.out.inv INV.out.val rfl
            intro vs w2 X hm hr hslot hold hsize hdef
            have er := hslot 30 40 (by kernel_rfl)
            have h9 := hr 30 (by decide)
            change vs 30 = .bool false at h9
            rw [h9] at er
            clear h9
            have e0 := hold 0 (by kernel_rfl)
            have e1 := hold 1 (by kernel_rfl)
            have e2 := hold 2 (by kernel_rfl)
            have e3 := hold 3 (by kernel_rfl)
            have e4 := hold 4 (by kernel_rfl)
            have e5 := hold 5 (by kernel_rfl)
            have e6 := hold 6 (by kernel_rfl)
            have e7 := hold 7 (by kernel_rfl)
            have e8 := hold 8 (by kernel_rfl)
            have e9 := hold 9 (by kernel_rfl)
            simp only [Array.getD_eq_getD_getElem?, List.getElem?_toArray, List.getElem?_cons_zero, List.getElem?_cons_succ, Option.getD_some] at e0 e1 e2 e3 e4 e5 e6 e7 e8 e9
            have MR := Lib.hid hm
            clear hr hslot hold hm
            obtain ⟨⟨xs⟩, df⟩ := X
            replace hdef : df = [] := hdef
            subst hdef
            replace hsize : xs.length = 41 := hsize
            obtain ⟨x0, xs0, rfl, hs0⟩ := cons_of hsize
            obtain ⟨x1, xs1, rfl, hs1⟩ := cons_of hs0
            obtain ⟨x2, xs2, rfl, hs2⟩ := cons_of hs1
            obtain ⟨x3, xs3, rfl, hs3⟩ := cons_of hs2
            obtain ⟨x4, xs4, rfl, hs4⟩ := cons_of hs3
            obtain ⟨x5, xs5, rfl, hs5⟩ := cons_of hs4
            obtain ⟨x6, xs6, rfl, hs6⟩ := cons_of hs5
            obtain ⟨x7, xs7, rfl, hs7⟩ := cons_of hs6
            obtain ⟨x8, xs8, rfl, hs8⟩ := cons_of hs7
            obtain ⟨x9, xs9, rfl, hs9⟩ := cons_of hs8
            obtain ⟨x10, xs10, rfl, hs10⟩ := cons_of hs9
            obtain ⟨x11, xs11, rfl, hs11⟩ := cons_of hs10
            obtain ⟨x12, xs12, rfl, hs12⟩ := cons_of hs11
            obtain ⟨x13, xs13, rfl, hs13⟩ := cons_of hs12
            obtain ⟨x14, xs14, rfl, hs14⟩ := cons_of hs13
            obtain ⟨x15, xs15, rfl, hs15⟩ := cons_of hs14
            obtain ⟨x16, xs16, rfl, hs16⟩ := cons_of hs15
            obtain ⟨x17, xs17, rfl, hs17⟩ := cons_of hs16
            obtain ⟨x18, xs18, rfl, hs18⟩ := cons_of hs17
            obtain ⟨x19, xs19, rfl, hs19⟩ := cons_of hs18
            obtain ⟨x20, xs20, rfl, hs20⟩ := cons_of hs19
            obtain ⟨x21, xs21, rfl, hs21⟩ := cons_of hs20
            obtain ⟨x22, xs22, rfl, hs22⟩ := cons_of hs21
            obtain ⟨x23, xs23, rfl, hs23⟩ := cons_of hs22
            obtain ⟨x24, xs24, rfl, hs24⟩ := cons_of hs23
            obtain ⟨x25, xs25, rfl, hs25⟩ := cons_of hs24
            obtain ⟨x26, xs26, rfl, hs26⟩ := cons_of hs25
            obtain ⟨x27, xs27, rfl, hs27⟩ := cons_of hs26
            obtain ⟨x28, xs28, rfl, hs28⟩ := cons_of hs27
            obtain ⟨x29, xs29, rfl, hs29⟩ := cons_of hs28
            obtain ⟨x30, xs30, rfl, hs30⟩ := cons_of hs29
            obtain ⟨x31, xs31, rfl, hs31⟩ := cons_of hs30
            obtain ⟨x32, xs32, rfl, hs32⟩ := cons_of hs31
            obtain ⟨x33, xs33, rfl, hs33⟩ := cons_of hs32
            obtain ⟨x34, xs34, rfl, hs34⟩ := cons_of hs33
            obtain ⟨x35, xs35, rfl, hs35⟩ := cons_of hs34
            obtain ⟨x36, xs36, rfl, hs36⟩ := cons_of hs35
            obtain ⟨x37, xs37, rfl, hs37⟩ := cons_of hs36
            obtain ⟨x38, xs38, rfl, hs38⟩ := cons_of hs37
            obtain ⟨x39, xs39, rfl, hs39⟩ := cons_of hs38
            obtain ⟨x40, xs40, rfl, hs40⟩ := cons_of hs39
            obtain rfl := List.eq_nil_of_length_eq_zero hs40
            clear hsize hs0 hs1 hs2 hs3 hs4 hs5 hs6 hs7 hs8 hs9 hs10 hs11 hs12 hs13 hs14 hs15 hs16 hs17 hs18 hs19 hs20 hs21 hs22 hs23 hs24 hs25 hs26 hs27 hs28 hs29 hs30 hs31 hs32 hs33 hs34 hs35 hs36 hs37 hs38 hs39 hs40
            rw [show (Array.mk (x0 :: x1 :: x2 :: x3 :: x4 :: x5 :: x6 :: x7 :: x8 :: x9 :: x10 :: x11 :: x12 :: x13 :: x14 :: x15 :: x16 :: x17 :: x18 :: x19 :: x20 :: x21 :: x22 :: x23 :: x24 :: x25 :: x26 :: x27 :: x28 :: x29 :: x30 :: x31 :: x32 :: x33 :: x34 :: x35 :: x36 :: x37 :: x38 :: x39 :: x40 :: []) : Array Value) = List.toArray (x0 :: x1 :: x2 :: x3 :: x4 :: x5 :: x6 :: x7 :: x8 :: x9 :: x10 :: x11 :: x12 :: x13 :: x14 :: x15 :: x16 :: x17 :: x18 :: x19 :: x20 :: x21 :: x22 :: x23 :: x24 :: x25 :: x26 :: x27 :: x28 :: x29 :: x30 :: x31 :: x32 :: x33 :: x34 :: x35 :: x36 :: x37 :: x38 :: x39 :: x40 :: []) from rfl]
            change x0 = _ at e0
            subst e0
            change x1 = _ at e1
            subst e1
            change x2 = _ at e2
            subst e2
            change x3 = _ at e3
            subst e3
            change x4 = _ at e4
            subst e4
            change x5 = _ at e5
            subst e5
            change x6 = _ at e6
            subst e6
            change x7 = _ at e7
            subst e7
            change x8 = _ at e8
            subst e8
            change x9 = _ at e9
            subst e9
            change x40 = .bool false at er
            subst er
            go_wp2
            go_roundw
            case rel => exact ⟨i + 1, by omega, by omega, by go_num, HT.out, HM.out.same MR.out⟩
            case measure => simp [intOf]; omega
          · obtain ⟨j, hj⟩ : ∃ j, i = j + 1 := ⟨i - 1, by omega⟩
            have hjn : j < n := by omega
            obtain ⟨l2, pg2, ct2, hr2, hwf2, dy, -, -⟩ := HG.out j hjn
            rw [← HM.out.cell (a := ⟨b, _, none⟩) hbl (by simp)] at dy
            have hidx2 := fun W => hidx W j hjn
            have hw1 : IntKind.i64.wrap ((i : Int) - 1) = (j : Int) := by rw [IntWalk.i64_in _ (by omega)]; omega
            have hz : decide (0 < i) = true := by simp; omega
            have HWF2 := Lib.hid hwf2
            have HX2 : Hid (rtAt rs i = less l2 l) := by
              unfold Hid; rw [HX.out, hj, Nat.add_sub_cancel, hr2]; simp
            have HLE := fun W p1 c1 p2 c2 (s1 : Sl W 1 p1 l2.length c1 (bs l2)) (s2 : Sl W 1 p2 l.length c2 (bs l)) => Lib.hid (qless_any p1 p2 l2.length l.length c1 c2 l2 l W ⟨s1, HWF2.out.1⟩ ⟨s2, HWF.out.1⟩)
            generalize less l2 l = LB at *
            clear h0 hj hr2 hwf2
            go_wp2_with fail
            refine par_region (by kernel_rfl) (fun oi vs w => qmL p n c i b off l pg ct j l2 LB oi (vs oi) w) (fun w' => Mod [] wr w') (by kernel_rfl) (fun j vs vs' w o _ h1 _ h2 => by rw [← h1]; exact h2) ⟨⟨⟨⟨⟨⟨⟨⟨⟨⟨⟨⟨⟨⟨⟨⟨⟨⟨⟨⟨⟨⟨⟨⟨⟨⟨⟨⟨⟨⟨⟨trivial, ?_⟩, ?_⟩, ?_⟩, ?_⟩, ?_⟩, ?_⟩, ?_⟩, ?_⟩, ?_⟩, ?_⟩, ?_⟩, ?_⟩, ?_⟩, ?_⟩, ?_⟩, ?_⟩, ?_⟩, ?_⟩, ?_⟩, ?_⟩, ?_⟩, ?_⟩, ?_⟩, ?_⟩, ?_⟩, ?_⟩, ?_⟩, ?_⟩, ?_⟩, ?_⟩, ?_⟩ (Mod.of_drew wr) ?_
            · intro o ho listed vs a w' inv hun haft K hK
              obtain rfl := Option.some.inj ho
              refine par_run rfl ?_
              have e0 := inv.old 3 (by kernel_rfl)
              have INV := Lib.hid inv
              clear inv haft hun ho
              simp at e0
              go_simp
              exact hK _ _ INV.out.inv INV.out.val rfl
            · intro o ho listed vs a w' inv hun haft K hK
              obtain rfl := Option.some.inj ho
              refine par_run rfl ?_
              obtain ⟨e0, r0⟩ := inv.get haft 0 10 (by kernel_rfl) (by kernel_rfl)
              have INV := Lib.hid inv
              clear inv haft hun ho
              change vs 0 = .int .i64 i at r0
              rw [r0] at e0
              have g0 := getD_opt e0
              go_simp
              exact hK _ _ INV.out.inv INV.out.val rfl
            · intro o ho listed vs a w' inv hun haft K hK
              obtain rfl := Option.some.inj ho
              refine par_run rfl ?_
              obtain ⟨e0, r0⟩ := inv.get haft 1 11 (by kernel_rfl) (by kernel_rfl)
              have INV := Lib.hid inv
              clear inv haft hun ho
              change vs 1 = .bool false at r0
              rw [r0] at e0
              have g0 := getD_opt e0
              go_simp
              exact hK _ _ INV.out.inv INV.out.val rfl
            · intro o ho listed vs a w' inv hun haft K hK
              obtain rfl := Option.some.inj ho
              obtain ⟨e0, r0⟩ := inv.get haft 2 12 (by kernel_rfl) (by kernel_rfl)
              have e1 := inv.old 0 (by kernel_rfl)
              have INV := Lib.hid inv
              clear inv haft hun ho
              change vs 2 = .bool false at r0
              rw [r0] at e0
              have g0 := getD_opt e0
              simp at e1
              refine par_guard rfl (by kernel_rfl) e0 ?_
              rw [if_pos rfl]
              go_simp
              exact hK _ _ INV.out.inv INV.out.val rfl
            · intro o ho listed vs a w' inv hun haft K hK
              obtain rfl := Option.some.inj ho
              obtain ⟨e0, r0⟩ := inv.get haft 2 12 (by kernel_rfl) (by kernel_rfl)
              have e1 := inv.old 3 (by kernel_rfl)
              have INV := Lib.hid inv
              clear inv haft hun ho
              change vs 2 = .bool false at r0
              rw [r0] at e0
              have g0 := getD_opt e0
              simp at e1
              refine par_guard rfl (by kernel_rfl) e0 ?_
              rw [if_pos rfl]
              go_simp
              exact hK _ _ INV.out.inv INV.out.val rfl
            · intro o ho listed vs a w' inv hun haft K hK
              obtain rfl := Option.some.inj ho
              obtain ⟨e0, r0⟩ := inv.get haft 2 12 (by kernel_rfl) (by kernel_rfl)
              obtain ⟨e1, r1⟩ := inv.get haft 3 13 (by kernel_rfl) (by kernel_rfl)
              obtain ⟨e2, r2⟩ := inv.get haft 4 14 (by kernel_rfl) (by kernel_rfl)
              have INV := Lib.hid inv
              clear inv haft hun ho
              change vs 2 = .bool false at r0
              rw [r0] at e0
              have g0 := getD_opt e0
              change vs 3 = .slice p n c at r1
              rw [r1] at e1
              have g1 := getD_opt e1
              change vs 4 = .int .i64 i at r2
              rw [r2] at e2
              have g2 := getD_opt e2
              refine par_guard rfl (by kernel_rfl) e0 ?_
              rw [if_pos rfl]
              go_simp
              exact hK _ _ INV.out.inv INV.out.val rfl
            · intro o ho listed vs a w' inv hun haft K hK
              obtain rfl := Option.some.inj ho
              obtain ⟨e0, r0⟩ := inv.get haft 2 12 (by kernel_rfl) (by kernel_rfl)
              obtain ⟨e1, r1⟩ := inv.get haft 5 15 (by kernel_rfl) (by kernel_rfl)
              have INV := Lib.hid inv
              clear inv haft hun ho
              change vs 2 = .bool false at r0
              rw [r0] at e0
              have g0 := getD_opt e0
              change vs 5 = .pointer (some ⟨b, off + i * 3, none⟩) at r1
              rw [r1] at e1
              have g1 := getD_opt e1
              have cx0 := (INV.out.inv.cell (a := ⟨b, _, none⟩) HBL (by simp)).trans d0
              have cx1 := (INV.out.inv.cell (a := ⟨b, _, none⟩) HBL (by simp)).trans d1
              have cx2 := (INV.out.inv.cell (a := ⟨b, _, none⟩) HBL (by simp)).trans d2
              refine par_guard rfl (by kernel_rfl) e0 ?_
              rw [if_pos rfl]
              go_simp
              exact hK _ _ INV.out.inv INV.out.val rfl
            · intro o ho listed vs a w' inv hun haft K hK
              obtain rfl := Option.some.inj ho
              obtain ⟨e0, r0⟩ := inv.get haft 2 12 (by kernel_rfl) (by kernel_rfl)
              obtain ⟨e1, r1⟩ := inv.get haft 6 16 (by kernel_rfl) (by kernel_rfl)
              have INV := Lib.hid inv
              clear inv haft hun ho
              change vs 2 = .bool false at r0
              rw [r0] at e0
              have g0 := getD_opt e0
              change vs 6 = .agg #[.string (strOfNums l), .int .i64 pg, .int .i64 ct] at r1
              rw [r1] at e1
              have g1 := getD_opt e1
              refine par_guard rfl (by kernel_rfl) e0 ?_
              rw [if_pos rfl]
              go_simp
              refine (HMY _).out.mono ?_
              rintro _ w3 ⟨_, rfl, rfl, m3⟩
              exact hK _ _ (INV.out.inv.same m3) (fun j hj hl => qmL_keep m3 (INV.out.val j hj hl)) rfl
            · intro o ho listed vs a w' inv hun haft K hK
              obtain rfl := Option.some.inj ho
              obtain ⟨e0, r0⟩ := inv.get haft 2 12 (by kernel_rfl) (by kernel_rfl)
              obtain ⟨e1, r1⟩ := inv.get haft 7 17 (by kernel_rfl) (by kernel_rfl)
              have INV := Lib.hid inv
              clear inv haft hun ho
              change vs 2 = .bool false at r0
              rw [r0] at e0
              have g0 := getD_opt e0
              change vs 7 = .bool true at r1
              rw [r1] at e1
              have g1 := getD_opt e1
              refine par_guard rfl (by kernel_rfl) e0 ?_
              rw [if_pos rfl]
              go_simp
              exact hK _ _ INV.out.inv INV.out.val rfl
            · intro o ho listed vs a w' inv hun haft K hK
              obtain rfl := Option.some.inj ho
              refine par_run rfl ?_
              obtain ⟨e0, r0⟩ := inv.get haft 2 12 (by kernel_rfl) (by kernel_rfl)
              obtain ⟨e1, r1⟩ := inv.get haft 8 18 (by kernel_rfl) (by kernel_rfl)
              have INV := Lib.hid inv
              clear inv haft hun ho
              change vs 2 = .bool false at r0
              rw [r0] at e0
              have g0 := getD_opt e0
              change vs 8 = .bool false at r1
              rw [r1] at e1
              have g1 := getD_opt e1
              go_simp
              exact hK _ _ INV.out.inv INV.out.val rfl
            · intro o ho listed vs a w' inv hun haft K hK
              obtain rfl := Option.some.inj ho
              refine par_run rfl ?_
              obtain ⟨e0, r0⟩ := inv.get haft 9 19 (by kernel_rfl) (by kernel_rfl)
              have INV := Lib.hid inv
              clear inv haft hun ho
              change vs 9 = .bool false at r0
              rw [r0] at e0
              have g0 := getD_opt e0
              go_simp
              exact hK _ _ INV.out.inv INV.out.val rfl
            · intro o ho listed vs a w' inv hun haft K hK
              obtain rfl := Option.some.inj ho
              obtain ⟨e0, r0⟩ := inv.get haft 10 20 (by kernel_rfl) (by kernel_rfl)
              have e1 := inv.old 3 (by kernel_rfl)
              have INV := Lib.hid inv
              clear inv haft hun ho
              change vs 10 = .bool false at r0
              rw [r0] at e0
              have g0 := getD_opt e0
              simp at e1
              refine par_guard rfl (by kernel_rfl) e0 ?_
              rw [if_pos rfl]
              go_simp
              exact hK _ _ INV.out.inv INV.out.val rfl
            · intro o ho listed vs a w' inv hun haft K hK
              obtain rfl := Option.some.inj ho
              obtain ⟨e0, r0⟩ := inv.get haft 10 20 (by kernel_rfl) (by kernel_rfl)
              obtain ⟨e1, r1⟩ := inv.get haft 11 21 (by kernel_rfl) (by kernel_rfl)
              have INV := Lib.hid inv
              clear inv haft hun ho
              change vs 10 = .bool false at r0
              rw [r0] at e0
              have g0 := getD_opt e0
              change vs 11 = .int .i64 i at r1
              rw [r1] at e1
              have g1 := getD_opt e1
              refine par_guard rfl (by kernel_rfl) e0 ?_
              rw [if_pos rfl]
              go_simp
              exact hK _ _ INV.out.inv INV.out.val rfl
            · intro o ho listed vs a w' inv hun haft K hK
              obtain rfl := Option.some.inj ho
              obtain ⟨e0, r0⟩ := inv.get haft 10 20 (by kernel_rfl) (by kernel_rfl)
              obtain ⟨e1, r1⟩ := inv.get haft 12 22 (by kernel_rfl) (by kernel_rfl)
              have INV := Lib.hid inv
              clear inv haft hun ho
              change vs 10 = .bool false at r0
              rw [r0] at e0
              have g0 := getD_opt e0
              change vs 12 = .bool true at r1
              rw [r1] at e1
              have g1 := getD_opt e1
              refine par_guard rfl (by kernel_rfl) e0 ?_
              rw [if_pos rfl]
              go_simp
              exact hK _ _ INV.out.inv INV.out.val rfl
            · intro o ho listed vs a w' inv hun haft K hK
              obtain rfl := Option.some.inj ho
              obtain ⟨e0, r0⟩ := inv.get haft 13 23 (by kernel_rfl) (by kernel_rfl)
              have e1 := inv.old 0 (by kernel_rfl)
              have INV := Lib.hid inv
              clear inv haft hun ho
              change vs 13 = .bool true at r0
              rw [r0] at e0
              have g0 := getD_opt e0
              simp at e1
              refine par_guard rfl (by kernel_rfl) e0 ?_
              rw [if_pos rfl]
              go_simp
              exact hK _ _ INV.out.inv INV.out.val rfl
            · intro o ho listed vs a w' inv hun haft K hK
              obtain rfl := Option.some.inj ho
              obtain ⟨e0, r0⟩ := inv.get haft 13 23 (by kernel_rfl) (by kernel_rfl)
              have e1 := inv.old 3 (by kernel_rfl)
              have INV := Lib.hid inv
              clear inv haft hun ho
              change vs 13 = .bool true at r0
              rw [r0] at e0
              have g0 := getD_opt e0
              simp at e1
              refine par_guard rfl (by kernel_rfl) e0 ?_
              rw [if_pos rfl]
              go_simp
              exact hK _ _ INV.out.inv INV.out.val rfl
            · intro o ho listed vs a w' inv hun haft K hK
              obtain rfl := Option.some.inj ho
              obtain ⟨e0, r0⟩ := inv.get haft 13 23 (by kernel_rfl) (by kernel_rfl)
              obtain ⟨e1, r1⟩ := inv.get haft 15 25 (by kernel_rfl) (by kernel_rfl)
              have INV := Lib.hid inv
              clear inv haft hun ho
              change vs 13 = .bool true at r0
              rw [r0] at e0
              have g0 := getD_opt e0
              change vs 15 = .int .i64 i at r1
              rw [r1] at e1
              have g1 := getD_opt e1
              refine par_guard rfl (by kernel_rfl) e0 ?_
              rw [if_pos rfl]
              go_simp
              exact hK _ _ INV.out.inv INV.out.val rfl
            · intro o ho listed vs a w' inv hun haft K hK
              obtain rfl := Option.some.inj ho
              obtain ⟨e0, r0⟩ := inv.get haft 13 23 (by kernel_rfl) (by kernel_rfl)
              obtain ⟨e1, r1⟩ := inv.get haft 14 24 (by kernel_rfl) (by kernel_rfl)
              obtain ⟨e2, r2⟩ := inv.get haft 16 26 (by kernel_rfl) (by kernel_rfl)
              have INV := Lib.hid inv
              clear inv haft hun ho
              change vs 13 = .bool true at r0
              rw [r0] at e0
              have g0 := getD_opt e0
              change vs 14 = .slice p n c at r1
              rw [r1] at e1
              have g1 := getD_opt e1
              change vs 16 = .int .i64 j at r2
              rw [r2] at e2
              have g2 := getD_opt e2
              refine par_guard rfl (by kernel_rfl) e0 ?_
              rw [if_pos rfl]
              go_simp
              exact hK _ _ INV.out.inv INV.out.val rfl
            · intro o ho listed vs a w' inv hun haft K hK
              obtain rfl := Option.some.inj ho
              obtain ⟨e0, r0⟩ := inv.get haft 13 23 (by kernel_rfl) (by kernel_rfl)
              obtain ⟨e1, r1⟩ := inv.get haft 17 27 (by kernel_rfl) (by kernel_rfl)
              have INV := Lib.hid inv
              clear inv haft hun ho
              change vs 13 = .bool true at r0
              rw [r0] at e0
              have g0 := getD_opt e0
              change vs 17 = .pointer (some ⟨b, off + j * 3, none⟩) at r1
              rw [r1] at e1
              have g1 := getD_opt e1
              refine par_guard rfl (by kernel_rfl) e0 ?_
              rw [if_pos rfl]
              go_simp
              exact hK _ _ INV.out.inv INV.out.val rfl
            · intro o ho listed vs a w' inv hun haft K hK
              obtain rfl := Option.some.inj ho
              obtain ⟨e0, r0⟩ := inv.get haft 13 23 (by kernel_rfl) (by kernel_rfl)
              obtain ⟨e1, r1⟩ := inv.get haft 18 28 (by kernel_rfl) (by kernel_rfl)
              have INV := Lib.hid inv
              clear inv haft hun ho
              change vs 13 = .bool true at r0
              rw [r0] at e0
              have g0 := getD_opt e0
              change vs 18 = .pointer (some ⟨b, off + j * 3, none⟩) at r1
              rw [r1] at e1
              have g1 := getD_opt e1
              have cy := (INV.out.inv.cell (a := ⟨b, _, none⟩) HBL (by simp)).trans dy
              refine par_guard rfl (by kernel_rfl) e0 ?_
              rw [if_pos rfl]
              go_simp
              exact hK _ _ INV.out.inv INV.out.val rfl
            · intro o ho listed vs a w' inv hun haft K hK
              obtain rfl := Option.some.inj ho
              obtain ⟨e0, r0⟩ := inv.get haft 13 23 (by kernel_rfl) (by kernel_rfl)
              obtain ⟨e1, r1⟩ := inv.get haft 19 29 (by kernel_rfl) (by kernel_rfl)
              have INV := Lib.hid inv
              clear inv haft hun ho
              change vs 13 = .bool true at r0
              rw [r0] at e0
              have g0 := getD_opt e0
              change vs 19 = .string (strOfNums l2) at r1
              rw [r1] at e1
              have g1 := getD_opt e1
              refine par_guard rfl (by kernel_rfl) e0 ?_
              rw [if_pos rfl]
              obtain ⟨c9, W9, hr9, s9, m9, _⟩ := run_sbytes HWF2.out.1 HWF2.out.2 w'
              go_simp
              exact hK _ _ (INV.out.inv.same m9) (fun j hj hl => qmL_keep m9 (INV.out.val j hj hl)) ⟨_, _, rfl, s9, by simp⟩
            · intro o ho listed vs a w' inv hun haft K hK
              obtain rfl := Option.some.inj ho
              obtain ⟨e0, r0⟩ := inv.get haft 13 23 (by kernel_rfl) (by kernel_rfl)
              have e1 := inv.old 0 (by kernel_rfl)
              have INV := Lib.hid inv
              clear inv haft hun ho
              change vs 13 = .bool true at r0
              rw [r0] at e0
              have g0 := getD_opt e0
              simp at e1
              refine par_guard rfl (by kernel_rfl) e0 ?_
              rw [if_pos rfl]
              go_simp
              exact hK _ _ INV.out.inv INV.out.val rfl
            · intro o ho listed vs a w' inv hun haft K hK
              obtain rfl := Option.some.inj ho
              obtain ⟨e0, r0⟩ := inv.get haft 13 23 (by kernel_rfl) (by kernel_rfl)
              have e1 := inv.old 3 (by kernel_rfl)
              have INV := Lib.hid inv
              clear inv haft hun ho
              change vs 13 = .bool true at r0
              rw [r0] at e0
              have g0 := getD_opt e0
              simp at e1
              refine par_guard rfl (by kernel_rfl) e0 ?_
              rw [if_pos rfl]
              go_simp
              exact hK _ _ INV.out.inv INV.out.val rfl
            · intro o ho listed vs a w' inv hun haft K hK
              obtain rfl := Option.some.inj ho
              obtain ⟨e0, r0⟩ := inv.get haft 13 23 (by kernel_rfl) (by kernel_rfl)
              obtain ⟨e1, r1⟩ := inv.get haft 21 31 (by kernel_rfl) (by kernel_rfl)
              obtain ⟨e2, r2⟩ := inv.get haft 22 32 (by kernel_rfl) (by kernel_rfl)
              have INV := Lib.hid inv
              clear inv haft hun ho
              change vs 13 = .bool true at r0
              rw [r0] at e0
              have g0 := getD_opt e0
              change vs 21 = .slice p n c at r1
              rw [r1] at e1
              have g1 := getD_opt e1
              change vs 22 = .int .i64 i at r2
              rw [r2] at e2
              have g2 := getD_opt e2
              refine par_guard rfl (by kernel_rfl) e0 ?_
              rw [if_pos rfl]
              go_simp
              exact hK _ _ INV.out.inv INV.out.val rfl
            · intro o ho listed vs a w' inv hun haft K hK
              obtain rfl := Option.some.inj ho
              obtain ⟨e0, r0⟩ := inv.get haft 13 23 (by kernel_rfl) (by kernel_rfl)
              obtain ⟨e1, r1⟩ := inv.get haft 23 33 (by kernel_rfl) (by kernel_rfl)
              have INV := Lib.hid inv
              clear inv haft hun ho
              change vs 13 = .bool true at r0
              rw [r0] at e0
              have g0 := getD_opt e0
              change vs 23 = .pointer (some ⟨b, off + i * 3, none⟩) at r1
              rw [r1] at e1
              have g1 := getD_opt e1
              refine par_guard rfl (by kernel_rfl) e0 ?_
              rw [if_pos rfl]
              go_simp
              exact hK _ _ INV.out.inv INV.out.val rfl
            · intro o ho listed vs a w' inv hun haft K hK
              obtain rfl := Option.some.inj ho
              obtain ⟨e0, r0⟩ := inv.get haft 13 23 (by kernel_rfl) (by kernel_rfl)
              obtain ⟨e1, r1⟩ := inv.get haft 24 34 (by kernel_rfl) (by kernel_rfl)
              have INV := Lib.hid inv
              clear inv haft hun ho
              change vs 13 = .bool true at r0
              rw [r0] at e0
              have g0 := getD_opt e0
              change vs 24 = .pointer (some ⟨b, off + i * 3, none⟩) at r1
              rw [r1] at e1
              have g1 := getD_opt e1
              have cy := (INV.out.inv.cell (a := ⟨b, _, none⟩) HBL (by simp)).trans d0
              refine par_guard rfl (by kernel_rfl) e0 ?_
              rw [if_pos rfl]
              go_simp
              exact hK _ _ INV.out.inv INV.out.val rfl
            · intro o ho listed vs a w' inv hun haft K hK
              obtain rfl := Option.some.inj ho
              obtain ⟨e0, r0⟩ := inv.get haft 13 23 (by kernel_rfl) (by kernel_rfl)
              obtain ⟨e1, r1⟩ := inv.get haft 25 35 (by kernel_rfl) (by kernel_rfl)
              have INV := Lib.hid inv
              clear inv haft hun ho
              change vs 13 = .bool true at r0
              rw [r0] at e0
              have g0 := getD_opt e0
              change vs 25 = .string (strOfNums l) at r1
              rw [r1] at e1
              have g1 := getD_opt e1
              refine par_guard rfl (by kernel_rfl) e0 ?_
              rw [if_pos rfl]
              obtain ⟨c9, W9, hr9, s9, m9, _⟩ := run_sbytes HWF.out.1 HWF.out.2 w'
              go_simp
              exact hK _ _ (INV.out.inv.same m9) (fun j hj hl => qmL_keep m9 (INV.out.val j hj hl)) ⟨_, _, rfl, s9, by simp⟩
            · intro o ho listed vs a w' inv hun haft K hK
              obtain rfl := Option.some.inj ho
              obtain ⟨e0, r0⟩ := inv.get haft 13 23 (by kernel_rfl) (by kernel_rfl)
              obtain ⟨e1, r1⟩ := inv.get haft 20 30 (by kernel_rfl) (by kernel_rfl)
              obtain ⟨e2, r2⟩ := inv.get haft 26 36 (by kernel_rfl) (by kernel_rfl)
              have INV := Lib.hid inv
              clear inv haft hun ho
              change vs 13 = .bool true at r0
              rw [r0] at e0
              have g0 := getD_opt e0
              obtain ⟨p1, c1, h1, s1, q1⟩ := r1
              rw [h1] at e1
              have g1 := getD_opt e1
              obtain ⟨p2, c2, h2, s2, q2⟩ := r2
              rw [h2] at e2
              have g2 := getD_opt e2
              refine par_guard rfl (by kernel_rfl) e0 ?_
              rw [if_pos rfl]
              have S1 := Lib.hid s1
              have S2 := Lib.hid s2
              clear s1 s2 q1 q2
              go_simp
              refine (HLE _ _ _ _ _ S1.out S2.out).out.mono ?_
              rintro _ w3 ⟨_, rfl, rfl, m3⟩
              exact hK _ _ (INV.out.inv.same m3) (fun j hj hl => qmL_keep m3 (INV.out.val j hj hl)) rfl
            · intro o ho listed vs a w' inv hun haft K hK
              obtain rfl := Option.some.inj ho
              obtain ⟨e0, r0⟩ := inv.get haft 13 23 (by kernel_rfl) (by kernel_rfl)
              obtain ⟨e1, r1⟩ := inv.get haft 27 37 (by kernel_rfl) (by kernel_rfl)
              have INV := Lib.hid inv
              clear inv haft hun ho
              change vs 13 = .bool true at r0
              rw [r0] at e0
              have g0 := getD_opt e0
              change vs 27 = .bool LB at r1
              rw [r1] at e1
              have g1 := getD_opt e1
              refine par_guard rfl (by kernel_rfl) e0 ?_
              rw [if_pos rfl]
              go_simp
              exact hK _ _ INV.out.inv INV.out.val rfl
            · intro o ho listed vs a w' inv hun haft K hK
              obtain rfl := Option.some.inj ho
              obtain ⟨e0, r0⟩ := inv.get haft 10 20 (by kernel_rfl) (by kernel_rfl)
              obtain ⟨e1, r1⟩ := inv.get haft 13 23 (by kernel_rfl) (by kernel_rfl)
              obtain ⟨e2, r2⟩ := inv.get haft 28 38 (by kernel_rfl) (by kernel_rfl)
              have INV := Lib.hid inv
              clear inv haft hun ho
              change vs 10 = .bool false at r0
              rw [r0] at e0
              have g0 := getD_opt e0
              change vs 13 = .bool true at r1
              rw [r1] at e1
              have g1 := getD_opt e1
              change vs 28 = .bool (!LB) at r2
              rw [r2] at e2
              have g2 := getD_opt e2
              refine par_guard rfl (by kernel_rfl) e0 ?_
              rw [if_pos rfl]
              go_simp
              exact hK _ _ INV.out.inv INV.out.val rfl
            · intro o ho listed vs a w' inv hun haft K hK
              obtain rfl := Option.some.inj ho
              refine par_run rfl ?_
              obtain ⟨e0, r0⟩ := inv.get haft 10 20 (by kernel_rfl) (by kernel_rfl)
              obtain ⟨e1, r1⟩ := inv.get haft 29 39 (by kernel_rfl) (by kernel_rfl)
              have INV := Lib.hid inv
              clear inv haft hun ho
              change vs 10 = .bool false at r0
              rw [r0] at e0
              have g0 := getD_opt e0
              change vs 29 = .bool (!LB) at r1
              rw [r1] at e1
              have g1 := getD_opt e1
              go_simp
              exact hK _ _ INV.out.inv INV.out.val rfl
            intro vs w2 X hm hr hslot hold hsize hdef
            have er := hslot 30 40 (by kernel_rfl)
            have h9 := hr 30 (by decide)
            change vs 30 = .bool (!LB) at h9
            rw [h9] at er
            clear h9
            have e0 := hold 0 (by kernel_rfl)
            have e1 := hold 1 (by kernel_rfl)
            have e2 := hold 2 (by kernel_rfl)
            have e3 := hold 3 (by kernel_rfl)
            have e4 := hold 4 (by kernel_rfl)
            have e5 := hold 5 (by kernel_rfl)
            have e6 := hold 6 (by kernel_rfl)
            have e7 := hold 7 (by kernel_rfl)
            have e8 := hold 8 (by kernel_rfl)
            have e9 := hold 9 (by kernel_rfl)
            simp only [Array.getD_eq_getD_getElem?, List.getElem?_toArray, List.getElem?_cons_zero, List.getElem?_cons_succ, Option.getD_some] at e0 e1 e2 e3 e4 e5 e6 e7 e8 e9
            have MR := Lib.hid hm
            clear hr hslot hold hm
            obtain ⟨⟨xs⟩, df⟩ := X
            replace hdef : df = [] := hdef
            subst hdef
            replace hsize : xs.length = 41 := hsize
            obtain ⟨x0, xs0, rfl, hs0⟩ := cons_of hsize
            obtain ⟨x1, xs1, rfl, hs1⟩ := cons_of hs0
            obtain ⟨x2, xs2, rfl, hs2⟩ := cons_of hs1
            obtain ⟨x3, xs3, rfl, hs3⟩ := cons_of hs2
            obtain ⟨x4, xs4, rfl, hs4⟩ := cons_of hs3
            obtain ⟨x5, xs5, rfl, hs5⟩ := cons_of hs4
            obtain ⟨x6, xs6, rfl, hs6⟩ := cons_of hs5
            obtain ⟨x7, xs7, rfl, hs7⟩ := cons_of hs6
            obtain ⟨x8, xs8, rfl, hs8⟩ := cons_of hs7
            obtain ⟨x9, xs9, rfl, hs9⟩ := cons_of hs8
            obtain ⟨x10, xs10, rfl, hs10⟩ := cons_of hs9
            obtain ⟨x11, xs11, rfl, hs11⟩ := cons_of hs10
            obtain ⟨x12, xs12, rfl, hs12⟩ := cons_of hs11
            obtain ⟨x13, xs13, rfl, hs13⟩ := cons_of hs12
            obtain ⟨x14, xs14, rfl, hs14⟩ := cons_of hs13
            obtain ⟨x15, xs15, rfl, hs15⟩ := cons_of hs14
            obtain ⟨x16, xs16, rfl, hs16⟩ := cons_of hs15
            obtain ⟨x17, xs17, rfl, hs17⟩ := cons_of hs16
            obtain ⟨x18, xs18, rfl, hs18⟩ := cons_of hs17
            obtain ⟨x19, xs19, rfl, hs19⟩ := cons_of hs18
            obtain ⟨x20, xs20, rfl, hs20⟩ := cons_of hs19
            obtain ⟨x21, xs21, rfl, hs21⟩ := cons_of hs20
            obtain ⟨x22, xs22, rfl, hs22⟩ := cons_of hs21
            obtain ⟨x23, xs23, rfl, hs23⟩ := cons_of hs22
            obtain ⟨x24, xs24, rfl, hs24⟩ := cons_of hs23
            obtain ⟨x25, xs25, rfl, hs25⟩ := cons_of hs24
            obtain ⟨x26, xs26, rfl, hs26⟩ := cons_of hs25
            obtain ⟨x27, xs27, rfl, hs27⟩ := cons_of hs26
            obtain ⟨x28, xs28, rfl, hs28⟩ := cons_of hs27
            obtain ⟨x29, xs29, rfl, hs29⟩ := cons_of hs28
            obtain ⟨x30, xs30, rfl, hs30⟩ := cons_of hs29
            obtain ⟨x31, xs31, rfl, hs31⟩ := cons_of hs30
            obtain ⟨x32, xs32, rfl, hs32⟩ := cons_of hs31
            obtain ⟨x33, xs33, rfl, hs33⟩ := cons_of hs32
            obtain ⟨x34, xs34, rfl, hs34⟩ := cons_of hs33
            obtain ⟨x35, xs35, rfl, hs35⟩ := cons_of hs34
            obtain ⟨x36, xs36, rfl, hs36⟩ := cons_of hs35
            obtain ⟨x37, xs37, rfl, hs37⟩ := cons_of hs36
            obtain ⟨x38, xs38, rfl, hs38⟩ := cons_of hs37
            obtain ⟨x39, xs39, rfl, hs39⟩ := cons_of hs38
            obtain ⟨x40, xs40, rfl, hs40⟩ := cons_of hs39
            obtain rfl := List.eq_nil_of_length_eq_zero hs40
            clear hsize hs0 hs1 hs2 hs3 hs4 hs5 hs6 hs7 hs8 hs9 hs10 hs11 hs12 hs13 hs14 hs15 hs16 hs17 hs18 hs19 hs20 hs21 hs22 hs23 hs24 hs25 hs26 hs27 hs28 hs29 hs30 hs31 hs32 hs33 hs34 hs35 hs36 hs37 hs38 hs39 hs40
            rw [show (Array.mk (x0 :: x1 :: x2 :: x3 :: x4 :: x5 :: x6 :: x7 :: x8 :: x9 :: x10 :: x11 :: x12 :: x13 :: x14 :: x15 :: x16 :: x17 :: x18 :: x19 :: x20 :: x21 :: x22 :: x23 :: x24 :: x25 :: x26 :: x27 :: x28 :: x29 :: x30 :: x31 :: x32 :: x33 :: x34 :: x35 :: x36 :: x37 :: x38 :: x39 :: x40 :: []) : Array Value) = List.toArray (x0 :: x1 :: x2 :: x3 :: x4 :: x5 :: x6 :: x7 :: x8 :: x9 :: x10 :: x11 :: x12 :: x13 :: x14 :: x15 :: x16 :: x17 :: x18 :: x19 :: x20 :: x21 :: x22 :: x23 :: x24 :: x25 :: x26 :: x27 :: x28 :: x29 :: x30 :: x31 :: x32 :: x33 :: x34 :: x35 :: x36 :: x37 :: x38 :: x39 :: x40 :: []) from rfl]
            change x0 = _ at e0
            subst e0
            change x1 = _ at e1
            subst e1
            change x2 = _ at e2
            subst e2
            change x3 = _ at e3
            subst e3
            change x4 = _ at e4
            subst e4
            change x5 = _ at e5
            subst e5
            change x6 = _ at e6
            subst e6
            change x7 = _ at e7
            subst e7
            change x8 = _ at e8
            subst e8
            change x9 = _ at e9
            subst e9
            change x40 = .bool (!LB) at er
            subst er
            cases LB with
            | true =>
              have HT : Hid (rtTo rs (i + 1) = true) := by rw [HS.out, HX2.out]; rfl
              go_wp2
              go_roundw
              case rel => exact ⟨i + 1, by omega, by omega, by go_num, HT.out, HM.out.same MR.out⟩
              case measure => simp [intOf]; omega
            | false =>
              have HF : Hid (mayR rs = false) := HB.out HX2.out
              go_wp2
              go_ret
              exact .mk ⟨by rw [HF.out] <;> rfl, HM.out.same MR.out⟩
    · obtain rfl : i = n := by omega
      have HE : Hid (mayR rs = true) := HEND.out hi12 HTO.out
      go_wp2
      go_ret
      exact .mk ⟨by rw [HE.out] <;> rfl, HM.out⟩
end Go.Proofs.YtpdkkokgpdabhaaDoor
