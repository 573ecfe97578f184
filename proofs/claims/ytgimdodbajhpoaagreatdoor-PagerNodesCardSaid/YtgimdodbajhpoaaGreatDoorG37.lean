/- The document's keys: do they rise, and may they be? -/
import Derived.Test.YtgimdodbajhpoaaGreatDoorG35
import Derived.Test.YtgimdodbajhpoaaGreatDoorG09
namespace Go.Proofs.YtgimdodbajhpoaaGreatDoor
open Go.RowKit Go.Maps
set_option linter.unusedSimpArgs false
set_option linter.unusedVariables false

def kyA (p : Option Addr) (n c i b off : Nat) (kp : Option Addr) (kn kc : Nat) (oi : Nat) (v : Value) (w : World) : Prop :=
  match oi with
  | 0 => v = .slice p n c
  | 1 => v = .int .i64 i
  | 2 => v = .pointer (some ⟨b, off + i, none⟩)
  | 3 => v = .slice kp kn kc
  | 4 => v = .int .i64 kn
  | 5 => v = .bool true
  | 6 => v = .bool true
  | 7 => v = undef
  | 8 => v = undef
  | 9 => v = undef
  | 10 => v = undef
  | 11 => v = undef
  | 12 => v = undef
  | 13 => v = .bool true
  | 14 => v = .bool true
  | 15 => v = undef
  | 16 => v = undef
  | 17 => v = undef
  | 18 => v = undef
  | 19 => v = undef
  | 20 => v = undef
  | 21 => v = undef
  | 22 => v = undef
  | 23 => v = undef
  | 24 => v = undef
  | 25 => v = undef
  | 26 => v = undef
  | 27 => v = undef
  | 28 => v = undef
  | 29 => v = undef
  | 30 => v = .bool true
  | _ => True
theorem kyA_keep {p : Option Addr} {n c i b off : Nat} {kp : Option Addr} {kn kc : Nat} {oi : Nat} {v : Value} {w w' : World} (hm : Mod [] w w') (hr : kyA p n c i b off kp kn kc oi v w) : kyA p n c i b off kp kn kc oi v w' := by
  have hk := Keep.of_mod hm
  unfold kyA at hr ⊢
  split at hr
  · exact hr
  · exact hr
  · exact hr
  · exact hr
  · exact hr
  · exact hr
  · exact hr
  · exact hr
  · exact hr
  · exact hr
  · exact hr
  · exact hr
  · exact hr
  · exact hr
  · exact hr
  · exact hr
  · exact hr
  · exact hr
  · exact hr
  · exact hr
  · exact hr
  · exact hr
  · exact hr
  · exact hr
  · exact hr
  · exact hr
  · exact hr
  · exact hr
  · exact hr
  · exact hr
  · exact hr
  · trivial
def kyB (p : Option Addr) (n c i b off : Nat) (kp : Option Addr) (kn kc : Nat) (oi : Nat) (v : Value) (w : World) : Prop :=
  match oi with
  | 0 => v = .slice p n c
  | 1 => v = .int .i64 i
  | 2 => v = .pointer (some ⟨b, off + i, none⟩)
  | 3 => v = .slice kp kn kc
  | 4 => v = .int .i64 kn
  | 5 => v = .bool false
  | 6 => v = .bool false
  | 7 => v = .slice p n c
  | 8 => v = .int .i64 i
  | 9 => v = .pointer (some ⟨b, off + i, none⟩)
  | 10 => v = .slice kp kn kc
  | 11 => v = .int .i64 kn
  | 12 => v = .bool true
  | 13 => v = .bool true
  | 14 => v = .bool true
  | 15 => v = undef
  | 16 => v = undef
  | 17 => v = undef
  | 18 => v = undef
  | 19 => v = undef
  | 20 => v = undef
  | 21 => v = undef
  | 22 => v = undef
  | 23 => v = undef
  | 24 => v = undef
  | 25 => v = undef
  | 26 => v = undef
  | 27 => v = undef
  | 28 => v = undef
  | 29 => v = undef
  | 30 => v = .bool true
  | _ => True
theorem kyB_keep {p : Option Addr} {n c i b off : Nat} {kp : Option Addr} {kn kc : Nat} {oi : Nat} {v : Value} {w w' : World} (hm : Mod [] w w') (hr : kyB p n c i b off kp kn kc oi v w) : kyB p n c i b off kp kn kc oi v w' := by
  have hk := Keep.of_mod hm
  unfold kyB at hr ⊢
  split at hr
  · exact hr
  · exact hr
  · exact hr
  · exact hr
  · exact hr
  · exact hr
  · exact hr
  · exact hr
  · exact hr
  · exact hr
  · exact hr
  · exact hr
  · exact hr
  · exact hr
  · exact hr
  · exact hr
  · exact hr
  · exact hr
  · exact hr
  · exact hr
  · exact hr
  · exact hr
  · exact hr
  · exact hr
  · exact hr
  · exact hr
  · exact hr
  · exact hr
  · exact hr
  · exact hr
  · exact hr
  · trivial
def kyZ (p : Option Addr) (n c i b off : Nat) (kp : Option Addr) (kn kc : Nat) (oi : Nat) (v : Value) (w : World) : Prop :=
  match oi with
  | 0 => v = .slice p n c
  | 1 => v = .int .i64 i
  | 2 => v = .pointer (some ⟨b, off + i, none⟩)
  | 3 => v = .slice kp kn kc
  | 4 => v = .int .i64 kn
  | 5 => v = .bool false
  | 6 => v = .bool false
  | 7 => v = .slice p n c
  | 8 => v = .int .i64 i
  | 9 => v = .pointer (some ⟨b, off + i, none⟩)
  | 10 => v = .slice kp kn kc
  | 11 => v = .int .i64 kn
  | 12 => v = .bool false
  | 13 => v = .bool false
  | 14 => v = .bool false
  | 15 => v = .int .i64 i
  | 16 => v = .bool false
  | 17 => v = .bool false
  | 18 => v = undef
  | 19 => v = undef
  | 20 => v = undef
  | 21 => v = undef
  | 22 => v = undef
  | 23 => v = undef
  | 24 => v = undef
  | 25 => v = undef
  | 26 => v = undef
  | 27 => v = undef
  | 28 => v = undef
  | 29 => v = .bool false
  | 30 => v = .bool false
  | _ => True
theorem kyZ_keep {p : Option Addr} {n c i b off : Nat} {kp : Option Addr} {kn kc : Nat} {oi : Nat} {v : Value} {w w' : World} (hm : Mod [] w w') (hr : kyZ p n c i b off kp kn kc oi v w) : kyZ p n c i b off kp kn kc oi v w' := by
  have hk := Keep.of_mod hm
  unfold kyZ at hr ⊢
  split at hr
  · exact hr
  · exact hr
  · exact hr
  · exact hr
  · exact hr
  · exact hr
  · exact hr
  · exact hr
  · exact hr
  · exact hr
  · exact hr
  · exact hr
  · exact hr
  · exact hr
  · exact hr
  · exact hr
  · exact hr
  · exact hr
  · exact hr
  · exact hr
  · exact hr
  · exact hr
  · exact hr
  · exact hr
  · exact hr
  · exact hr
  · exact hr
  · exact hr
  · exact hr
  · exact hr
  · exact hr
  · trivial
def kyL (p : Option Addr) (n c i b off : Nat) (kp : Option Addr) (kn kc : Nat) (j : Nat) (jp : Option Addr) (jn jc : Nat) (LB : Bool) (oi : Nat) (v : Value) (w : World) : Prop :=
  match oi with
  | 0 => v = .slice p n c
  | 1 => v = .int .i64 i
  | 2 => v = .pointer (some ⟨b, off + i, none⟩)
  | 3 => v = .slice kp kn kc
  | 4 => v = .int .i64 kn
  | 5 => v = .bool false
  | 6 => v = .bool false
  | 7 => v = .slice p n c
  | 8 => v = .int .i64 i
  | 9 => v = .pointer (some ⟨b, off + i, none⟩)
  | 10 => v = .slice kp kn kc
  | 11 => v = .int .i64 kn
  | 12 => v = .bool false
  | 13 => v = .bool false
  | 14 => v = .bool false
  | 15 => v = .int .i64 i
  | 16 => v = .bool true
  | 17 => v = .bool true
  | 18 => v = .slice p n c
  | 19 => v = .int .i64 i
  | 20 => v = .int .i64 j
  | 21 => v = .pointer (some ⟨b, off + j, none⟩)
  | 22 => v = .slice jp jn jc
  | 23 => v = .slice p n c
  | 24 => v = .int .i64 i
  | 25 => v = .pointer (some ⟨b, off + i, none⟩)
  | 26 => v = .slice kp kn kc
  | 27 => v = .bool LB
  | 28 => v = .bool (!LB)
  | 29 => v = .bool (!LB)
  | 30 => v = .bool (!LB)
  | _ => True
theorem kyL_keep {p : Option Addr} {n c i b off : Nat} {kp : Option Addr} {kn kc : Nat} {j : Nat} {jp : Option Addr} {jn jc : Nat} {LB : Bool} {oi : Nat} {v : Value} {w w' : World} (hm : Mod [] w w') (hr : kyL p n c i b off kp kn kc j jp jn jc LB oi v w) : kyL p n c i b off kp kn kc j jp jn jc LB oi v w' := by
  have hk := Keep.of_mod hm
  unfold kyL at hr ⊢
  split at hr
  · exact hr
  · exact hr
  · exact hr
  · exact hr
  · exact hr
  · exact hr
  · exact hr
  · exact hr
  · exact hr
  · exact hr
  · exact hr
  · exact hr
  · exact hr
  · exact hr
  · exact hr
  · exact hr
  · exact hr
  · exact hr
  · exact hr
  · exact hr
  · exact hr
  · exact hr
  · exact hr
  · exact hr
  · exact hr
  · exact hr
  · exact hr
  · exact hr
  · exact hr
  · exact hr
  · exact hr
  · trivial
set_option maxRecDepth 100000 in
set_option maxHeartbeats 8000000 in
theorem qkeys_any (p : Option Addr) (n c : Nat) (ks : List Bv) (w : World) (h : KeysIn w p n c ks) : Calls Tryz.prog 21 #[.slice p n c] w (Ret (BoolM (riseL (ks.map Bv.l)) w)) := by
  have hln := h.len
  have hcm := h.sl.capm; have hle := h.sl.le
  unfold maxLen at hcm
  obtain ⟨b, off, hp, hcs⟩ := h.sl.at_
  have hidx := fun W => Sl.idx (P := Tryz.prog) (cap := c) Tryz.underlying23 sizeRows (fun h => (hp h).1) W .i64
  simp only [Nat.mul_one] at hidx
  have HLT : Hid (0 < n → b < w.heap.size) := fun h => (hp h).2
  have HG : Hid (∀ i, i < n → ∃ kp kn kc kl, BytesIn w kp kn kc kl ∧ w.cell? ⟨b, off + i, none⟩ = some (.slice kp kn kc) ∧ (ks.map Bv.l).getD i [] = kl) := fun i hi => by
    have hk : i < ks.length := by omega
    refine ⟨_, _, _, _, h.io _ (List.getElem_mem hk), hcs i _ (by rw [List.getElem?_map, List.getElem?_eq_getElem hk]; rfl), ?_⟩
    rw [getD_at (by simpa using hk)]; simp
  have HRT : Hid (∀ i, riseTo (ks.map Bv.l) (i + 1) = (riseTo (ks.map Bv.l) i && riseAt (ks.map Bv.l) i)) := fun i => rfl
  have HBAD : Hid (∀ i, i < n → riseAt (ks.map Bv.l) i = false → riseL (ks.map Bv.l) = false) := fun i hi h => riseL_bad (by simpa using by omega) h
  have HALL : Hid (riseL (ks.map Bv.l) = riseTo (ks.map Bv.l) n) := by unfold Hid riseL; simp [hln]
  have HRA : Hid (∀ i, riseAt (ks.map Bv.l) i = (mayKeyL ((ks.map Bv.l).getD i []) && (i == 0 || less ((ks.map Bv.l).getD (i - 1) []) ((ks.map Bv.l).getD i [])))) := fun i => rfl
  generalize ks.map Bv.l = ls at *
  clear h hp hcs hln
  go_enter Tryz.func21, Tryz.ntmps21
  go_wp2
  go_loopw [3] (fun iv wr => ∃ i : Nat, i ≤ n ∧ iv = .int .i64 i ∧ riseTo ls i = true ∧ Mod [] w wr) (fun iv _ => n - (intOf iv).toNat)
  case atStart => exact ⟨0, by omega, rfl, rfl, Mod.refl _ _⟩
  case round =>
    obtain ⟨i, hi, rfl, hri, hm⟩ := hrel
    have HRI := Lib.hid hri
    have HM := Lib.hid hm
    clear hri hm
    by_cases hlt : i < n
    · obtain ⟨kp, kn, kc, kl, hk, d0, ha⟩ := HG.out i hlt
      have hbl := HLT.out (by omega)
      rw [← HM.out.cell (a := ⟨b, _, none⟩) hbl (by simp)] at d0
      have HBL : b < wr.heap.size := Nat.lt_of_lt_of_le hbl HM.out.size
      have HK := Lib.hid hk
      have HX := Lib.hid (HRA.out i)
      have HB := Lib.hid (HBAD.out i hlt)
      have HS := Lib.hid (HRT.out i)
      rw [HRI.out, Bool.true_and] at HS
      rw [ha] at HX
      have hidx1 := fun W => hidx W i hlt
      have hwi : IntKind.i64.wrap ((i : Int) + 1) = (i : Int) + 1 := IntWalk.i64_in _ (by omega)
      have hkl := hk.len
      clear hk ha
      by_cases h1 : kn < 1
      · have HF : Hid (riseL ls = false) := HB.out (by rw [HX.out]; unfold mayKeyL; rw [decide_eq_false (by omega)]; rfl)
        have hz : decide (kn < 1) = true := decide_eq_true h1
        have hzi : ((kn : Int) < 1) := by omega
        clear h1 HX HS hidx hkl
        go_wp2_with fail
        refine par_region (by kernel_rfl) (fun oi vs w => kyA p n c i b off kp kn kc oi (vs oi) w) (fun w' => Mod [] wr w') (by kernel_rfl) (fun j vs vs' w o _ h1 _ h2 => by rw [← h1]; exact h2) ⟨⟨⟨⟨⟨⟨⟨⟨⟨⟨⟨⟨⟨⟨⟨⟨⟨⟨⟨⟨⟨⟨⟨⟨⟨⟨⟨⟨⟨⟨⟨trivial, ?_⟩, ?_⟩, ?_⟩, ?_⟩, ?_⟩, ?_⟩, ?_⟩, ?_⟩, ?_⟩, ?_⟩, ?_⟩, ?_⟩, ?_⟩, ?_⟩, ?_⟩, ?_⟩, ?_⟩, ?_⟩, ?_⟩, ?_⟩, ?_⟩, ?_⟩, ?_⟩, ?_⟩, ?_⟩, ?_⟩, ?_⟩, ?_⟩, ?_⟩, ?_⟩, ?_⟩ (Mod.of_drew wr) ?_
        · intro o ho listed vs a w' inv hun haft K hK
          obtain rfl := Option.some.inj ho
          refine par_run rfl ?_
          have e0 := inv.old 0 (by kernel_rfl)
          have INV := Lib.hid inv
          clear inv haft hun ho
          simp at e0
          go_simp
          exact hK _ _ INV.out.inv INV.out.val rfl
        · intro o ho listed vs a w' inv hun haft K hK
          obtain rfl := Option.some.inj ho
          refine par_run rfl ?_
          have e0 := inv.old 3 (by kernel_rfl)
          have INV := Lib.hid inv
          clear inv haft hun ho
          simp at e0
          go_simp
          exact hK _ _ INV.out.inv INV.out.val rfl
        · intro o ho listed vs a w' inv hun haft K hK
          obtain rfl := Option.some.inj ho
          refine par_run rfl ?_
          obtain ⟨e0, r0⟩ := inv.get haft 0 10 (by kernel_rfl) (by kernel_rfl)
          obtain ⟨e1, r1⟩ := inv.get haft 1 11 (by kernel_rfl) (by kernel_rfl)
          have INV := Lib.hid inv
          clear inv haft hun ho
          change vs 0 = .slice p n c at r0
          rw [r0] at e0
          have g0 := getD_opt e0
          change vs 1 = .int .i64 i at r1
          rw [r1] at e1
          have g1 := getD_opt e1
          go_simp
          exact hK _ _ INV.out.inv INV.out.val rfl
        · intro o ho listed vs a w' inv hun haft K hK
          obtain rfl := Option.some.inj ho
          refine par_run rfl ?_
          obtain ⟨e0, r0⟩ := inv.get haft 2 12 (by kernel_rfl) (by kernel_rfl)
          have INV := Lib.hid inv
          clear inv haft hun ho
          change vs 2 = .pointer (some ⟨b, off + i, none⟩) at r0
          rw [r0] at e0
          have g0 := getD_opt e0
          have cx0 := (INV.out.inv.cell (a := ⟨b, _, none⟩) HBL (by simp)).trans d0
          go_simp
          exact hK _ _ INV.out.inv INV.out.val rfl
        · intro o ho listed vs a w' inv hun haft K hK
          obtain rfl := Option.some.inj ho
          refine par_run rfl ?_
          obtain ⟨e0, r0⟩ := inv.get haft 3 13 (by kernel_rfl) (by kernel_rfl)
          have INV := Lib.hid inv
          clear inv haft hun ho
          change vs 3 = .slice kp kn kc at r0
          rw [r0] at e0
          have g0 := getD_opt e0
          go_simp
          exact hK _ _ INV.out.inv INV.out.val rfl
        · intro o ho listed vs a w' inv hun haft K hK
          obtain rfl := Option.some.inj ho
          refine par_run rfl ?_
          obtain ⟨e0, r0⟩ := inv.get haft 4 14 (by kernel_rfl) (by kernel_rfl)
          have INV := Lib.hid inv
          clear inv haft hun ho
          change vs 4 = .int .i64 kn at r0
          rw [r0] at e0
          have g0 := getD_opt e0
          go_simp
          exact hK _ _ INV.out.inv INV.out.val rfl
        · intro o ho listed vs a w' inv hun haft K hK
          obtain rfl := Option.some.inj ho
          refine par_run rfl ?_
          obtain ⟨e0, r0⟩ := inv.get haft 5 15 (by kernel_rfl) (by kernel_rfl)
          have INV := Lib.hid inv
          clear inv haft hun ho
          change vs 5 = .bool true at r0
          rw [r0] at e0
          have g0 := getD_opt e0
          go_simp
          exact hK _ _ INV.out.inv INV.out.val rfl
        · intro o ho listed vs a w' inv hun haft K hK
          obtain rfl := Option.some.inj ho
          obtain ⟨e0, r0⟩ := inv.get haft 6 16 (by kernel_rfl) (by kernel_rfl)
          have INV := Lib.hid inv
          clear inv haft hun ho
          change vs 6 = .bool true at r0
          rw [r0] at e0
          have g0 := getD_opt e0
          exact par_skip rfl (by kernel_rfl) e0 (by simp [undef]) (hK _ _ INV.out.inv INV.out.val rfl)
        · intro o ho listed vs a w' inv hun haft K hK
          obtain rfl := Option.some.inj ho
          obtain ⟨e0, r0⟩ := inv.get haft 6 16 (by kernel_rfl) (by kernel_rfl)
          have INV := Lib.hid inv
          clear inv haft hun ho
          change vs 6 = .bool true at r0
          rw [r0] at e0
          have g0 := getD_opt e0
          exact par_skip rfl (by kernel_rfl) e0 (by simp [undef]) (hK _ _ INV.out.inv INV.out.val rfl)
        · intro o ho listed vs a w' inv hun haft K hK
          obtain rfl := Option.some.inj ho
          obtain ⟨e0, r0⟩ := inv.get haft 6 16 (by kernel_rfl) (by kernel_rfl)
          have INV := Lib.hid inv
          clear inv haft hun ho
          change vs 6 = .bool true at r0
          rw [r0] at e0
          have g0 := getD_opt e0
          exact par_skip rfl (by kernel_rfl) e0 (by simp [undef]) (hK _ _ INV.out.inv INV.out.val rfl)
        · intro o ho listed vs a w' inv hun haft K hK
          obtain rfl := Option.some.inj ho
          obtain ⟨e0, r0⟩ := inv.get haft 6 16 (by kernel_rfl) (by kernel_rfl)
          have INV := Lib.hid inv
          clear inv haft hun ho
          change vs 6 = .bool true at r0
          rw [r0] at e0
          have g0 := getD_opt e0
          exact par_skip rfl (by kernel_rfl) e0 (by simp [undef]) (hK _ _ INV.out.inv INV.out.val rfl)
        · intro o ho listed vs a w' inv hun haft K hK
          obtain rfl := Option.some.inj ho
          obtain ⟨e0, r0⟩ := inv.get haft 6 16 (by kernel_rfl) (by kernel_rfl)
          have INV := Lib.hid inv
          clear inv haft hun ho
          change vs 6 = .bool true at r0
          rw [r0] at e0
          have g0 := getD_opt e0
          exact par_skip rfl (by kernel_rfl) e0 (by simp [undef]) (hK _ _ INV.out.inv INV.out.val rfl)
        · intro o ho listed vs a w' inv hun haft K hK
          obtain rfl := Option.some.inj ho
          obtain ⟨e0, r0⟩ := inv.get haft 6 16 (by kernel_rfl) (by kernel_rfl)
          have INV := Lib.hid inv
          clear inv haft hun ho
          change vs 6 = .bool true at r0
          rw [r0] at e0
          have g0 := getD_opt e0
          exact par_skip rfl (by kernel_rfl) e0 (by simp [undef]) (hK _ _ INV.out.inv INV.out.val rfl)
        · intro o ho listed vs a w' inv hun haft K hK
          obtain rfl := Option.some.inj ho
          refine par_run rfl ?_
          obtain ⟨e0, r0⟩ := inv.get haft 6 16 (by kernel_rfl) (by kernel_rfl)
          have INV := Lib.hid inv
          clear inv haft hun ho
          change vs 6 = .bool true at r0
          rw [r0] at e0
          have g0 := getD_opt e0
          go_simp
          exact hK _ _ INV.out.inv INV.out.val rfl
        · intro o ho listed vs a w' inv hun haft K hK
          obtain rfl := Option.some.inj ho
          refine par_run rfl ?_
          obtain ⟨e0, r0⟩ := inv.get haft 13 23 (by kernel_rfl) (by kernel_rfl)
          have INV := Lib.hid inv
          clear inv haft hun ho
          change vs 13 = .bool true at r0
          rw [r0] at e0
          have g0 := getD_opt e0
          go_simp
          exact hK _ _ INV.out.inv INV.out.val rfl
        · intro o ho listed vs a w' inv hun haft K hK
          obtain rfl := Option.some.inj ho
          obtain ⟨e0, r0⟩ := inv.get haft 14 24 (by kernel_rfl) (by kernel_rfl)
          have INV := Lib.hid inv
          clear inv haft hun ho
          change vs 14 = .bool true at r0
          rw [r0] at e0
          have g0 := getD_opt e0
          exact par_skip rfl (by kernel_rfl) e0 (by simp [undef]) (hK _ _ INV.out.inv INV.out.val rfl)
        · intro o ho listed vs a w' inv hun haft K hK
          obtain rfl := Option.some.inj ho
          obtain ⟨e0, r0⟩ := inv.get haft 14 24 (by kernel_rfl) (by kernel_rfl)
          have INV := Lib.hid inv
          clear inv haft hun ho
          change vs 14 = .bool true at r0
          rw [r0] at e0
          have g0 := getD_opt e0
          exact par_skip rfl (by kernel_rfl) e0 (by simp [undef]) (hK _ _ INV.out.inv INV.out.val rfl)
        · intro o ho listed vs a w' inv hun haft K hK
          obtain rfl := Option.some.inj ho
          obtain ⟨e0, r0⟩ := inv.get haft 14 24 (by kernel_rfl) (by kernel_rfl)
          have INV := Lib.hid inv
          clear inv haft hun ho
          change vs 14 = .bool true at r0
          rw [r0] at e0
          have g0 := getD_opt e0
          exact par_skip rfl (by kernel_rfl) e0 (by simp [undef]) (hK _ _ INV.out.inv INV.out.val rfl)
        · intro o ho listed vs a w' inv hun haft K hK
          obtain rfl := Option.some.inj ho
          obtain ⟨e0, r0⟩ := inv.get haft 17 27 (by kernel_rfl) (by kernel_rfl)
          have INV := Lib.hid inv
          clear inv haft hun ho
          change vs 17 = undef at r0
          rw [r0] at e0
          have g0 := getD_opt e0
          exact par_skip rfl (by kernel_rfl) e0 (by simp [undef]) (hK _ _ INV.out.inv INV.out.val rfl)
        · intro o ho listed vs a w' inv hun haft K hK
          obtain rfl := Option.some.inj ho
          obtain ⟨e0, r0⟩ := inv.get haft 17 27 (by kernel_rfl) (by kernel_rfl)
          have INV := Lib.hid inv
          clear inv haft hun ho
          change vs 17 = undef at r0
          rw [r0] at e0
          have g0 := getD_opt e0
          exact par_skip rfl (by kernel_rfl) e0 (by simp [undef]) (hK _ _ INV.out.inv INV.out.val rfl)
        · intro o ho listed vs a w' inv hun haft K hK
          obtain rfl := Option.some.inj ho
          obtain ⟨e0, r0⟩ := inv.get haft 17 27 (by kernel_rfl) (by kernel_rfl)
          have INV := Lib.hid inv
          clear inv haft hun ho
          change vs 17 = undef at r0
          rw [r0] at e0
          have g0 := getD_opt e0
          exact par_skip rfl (by kernel_rfl) e0 (by simp [undef]) (hK _ _ INV.out.inv INV.out.val rfl)
        · intro o ho listed vs a w' inv hun haft K hK
          obtain rfl := Option.some.inj ho
          obtain ⟨e0, r0⟩ := inv.get haft 17 27 (by kernel_rfl) (by kernel_rfl)
          have INV := Lib.hid inv
          clear inv haft hun ho
          change vs 17 = undef at r0
          rw [r0] at e0
          have g0 := getD_opt e0
          exact par_skip rfl (by kernel_rfl) e0 (by simp [undef]) (hK _ _ INV.out.inv INV.out.val rfl)
        · intro o ho listed vs a w' inv hun haft K hK
          obtain rfl := Option.some.inj ho
          obtain ⟨e0, r0⟩ := inv.get haft 17 27 (by kernel_rfl) (by kernel_rfl)
          have INV := Lib.hid inv
          clear inv haft hun ho
          change vs 17 = undef at r0
          rw [r0] at e0
          have g0 := getD_opt e0
          exact par_skip rfl (by kernel_rfl) e0 (by simp [undef]) (hK _ _ INV.out.inv INV.out.val rfl)
        · intro o ho listed vs a w' inv hun haft K hK
          obtain rfl := Option.some.inj ho
          obtain ⟨e0, r0⟩ := inv.get haft 17 27 (by kernel_rfl) (by kernel_rfl)
          have INV := Lib.hid inv
          clear inv haft hun ho
          change vs 17 = undef at r0
          rw [r0] at e0
          have g0 := getD_opt e0
          exact par_skip rfl (by kernel_rfl) e0 (by simp [undef]) (hK _ _ INV.out.inv INV.out.val rfl)
        · intro o ho listed vs a w' inv hun haft K hK
          obtain rfl := Option.some.inj ho
          obtain ⟨e0, r0⟩ := inv.get haft 17 27 (by kernel_rfl) (by kernel_rfl)
          have INV := Lib.hid inv
          clear inv haft hun ho
          change vs 17 = undef at r0
          rw [r0] at e0
          have g0 := getD_opt e0
          exact par_skip rfl (by kernel_rfl) e0 (by simp [undef]) (hK _ _ INV.out.inv INV.out.val rfl)
        · intro o ho listed vs a w' inv hun haft K hK
          obtain rfl := Option.some.inj ho
          obtain ⟨e0, r0⟩ := inv.get haft 17 27 (by kernel_rfl) (by kernel_rfl)
          have INV := Lib.hid inv
          clear inv haft hun ho
          change vs 17 = undef at r0
          rw [r0] at e0
          have g0 := getD_opt e0
          exact par_skip rfl (by kernel_rfl) e0 (by simp [undef]) (hK _ _ INV.out.inv INV.out.val rfl)
        · intro o ho listed vs a w' inv hun haft K hK
          obtain rfl := Option.some.inj ho
          obtain ⟨e0, r0⟩ := inv.get haft 17 27 (by kernel_rfl) (by kernel_rfl)
          have INV := Lib.hid inv
          clear inv haft hun ho
          change vs 17 = undef at r0
          rw [r0] at e0
          have g0 := getD_opt e0
          exact par_skip rfl (by kernel_rfl) e0 (by simp [undef]) (hK _ _ INV.out.inv INV.out.val rfl)
        · intro o ho listed vs a w' inv hun haft K hK
          obtain rfl := Option.some.inj ho
          obtain ⟨e0, r0⟩ := inv.get haft 17 27 (by kernel_rfl) (by kernel_rfl)
          have INV := Lib.hid inv
          clear inv haft hun ho
          change vs 17 = undef at r0
          rw [r0] at e0
          have g0 := getD_opt e0
          exact par_skip rfl (by kernel_rfl) e0 (by simp [undef]) (hK _ _ INV.out.inv INV.out.val rfl)
        · intro o ho listed vs a w' inv hun haft K hK
          obtain rfl := Option.some.inj ho
          obtain ⟨e0, r0⟩ := inv.get haft 17 27 (by kernel_rfl) (by kernel_rfl)
          have INV := Lib.hid inv
          clear inv haft hun ho
          change vs 17 = undef at r0
          rw [r0] at e0
          have g0 := getD_opt e0
          exact par_skip rfl (by kernel_rfl) e0 (by simp [undef]) (hK _ _ INV.out.inv INV.out.val rfl)
        · intro o ho listed vs a w' inv hun haft K hK
          obtain rfl := Option.some.inj ho
          obtain ⟨e0, r0⟩ := inv.get haft 14 24 (by kernel_rfl) (by kernel_rfl)
          have INV := Lib.hid inv
          clear inv haft hun ho
          change vs 14 = .bool true at r0
          rw [r0] at e0
          have g0 := getD_opt e0
          exact par_skip rfl (by kernel_rfl) e0 (by simp [undef]) (hK _ _ INV.out.inv INV.out.val rfl)
        · intro o ho listed vs a w' inv hun haft K hK
          obtain rfl := Option.some.inj ho
          refine par_run rfl ?_
          obtain ⟨e0, r0⟩ := inv.get haft 14 24 (by kernel_rfl) (by kernel_rfl)
          have INV := Lib.hid inv
          clear inv haft hun ho
          change vs 14 = .bool true at r0
          rw [r0] at e0
          have g0 := getD_opt e0
          go_simp
          exact hK _ _ INV.out.inv INV.out.val rfl
        intro vs w2 X hm hr hslot hold hsize hdef
        have er := hslot 30 40 (by kernel_rfl)
        have h9 := hr 30 (by decide)
        change vs 30 = .bool true at h9
        rw [h9] at er
        clear h9
        have e0 := hold 0 (by kernel_rfl)
        have e1 := hold 1 (by kernel_rfl)
        have e2 := hold 2 (by kernel_rfl)
        have e3 := hold 3 (by kernel_rfl)
        have e4 := hold 4 (by kernel_rfl)
        have e5 := hold 5 (by kernel_rfl)
        have e6 := hold 6 (by kernel_rfl)
        have e7 := hold 7 (by kernel_rfl)
        have e8 := hold 8 (by kernel_rfl)
        have e9 := hold 9 (by kernel_rfl)
        simp only [Array.getD_eq_getD_getElem?, List.getElem?_toArray, List.getElem?_cons_zero, List.getElem?_cons_succ, Option.getD_some] at e0 e1 e2 e3 e4 e5 e6 e7 e8 e9
        have MR := Lib.hid hm
        clear hr hslot hold hm
        obtain ⟨⟨xs⟩, df⟩ := X
        replace hdef : df = [] := hdef
        subst hdef
        replace hsize : xs.length = 41 := hsize
        obtain ⟨x0, xs0, rfl, hs0⟩ := cons_of hsize
        obtain ⟨x1, xs1, rfl, hs1⟩ := cons_of hs0
        obtain ⟨x2, xs2, rfl, hs2⟩ := cons_of hs1
        obtain ⟨x3, xs3, rfl, hs3⟩ := cons_of hs2
        obtain ⟨x4, xs4, rfl, hs4⟩ := cons_of hs3
        obtain ⟨x5, xs5, rfl, hs5⟩ := cons_of hs4
        obtain ⟨x6, xs6, rfl, hs6⟩ := cons_of hs5
        obtain ⟨x7, xs7, rfl, hs7⟩ := cons_of hs6
        obtain ⟨x8, xs8, rfl, hs8⟩ := cons_of hs7
        obtain ⟨x9, xs9, rfl, hs9⟩ := cons_of hs8
        obtain ⟨x10, xs10, rfl, hs10⟩ := cons_of hs9
        obtain ⟨x11, xs11, rfl, hs11⟩ := cons_of hs10
        obtain ⟨x12, xs12, rfl, hs12⟩ := cons_of hs11
        obtain ⟨x13, xs13, rfl, hs13⟩ := cons_of hs12
        obtain ⟨x14, xs14, rfl, hs14⟩ := cons_of hs13
        obtain ⟨x15, xs15, rfl, hs15⟩ := cons_of hs14
        obtain ⟨x16, xs16, rfl, hs16⟩ := cons_of hs15
        obtain ⟨x17, xs17, rfl, hs17⟩ := cons_of hs16
        obtain ⟨x18, xs18, rfl, hs18⟩ := cons_of hs17
        obtain ⟨x19, xs19, rfl, hs19⟩ := cons_of hs18
        obtain ⟨x20, xs20, rfl, hs20⟩ := cons_of hs19
        obtain ⟨x21, xs21, rfl, hs21⟩ := cons_of hs20
        obtain ⟨x22, xs22, rfl, hs22⟩ := cons_of hs21
        obtain ⟨x23, xs23, rfl, hs23⟩ := cons_of hs22
        obtain ⟨x24, xs24, rfl, hs24⟩ := cons_of hs23
        obtain ⟨x25, xs25, rfl, hs25⟩ := cons_of hs24
        obtain ⟨x26, xs26, rfl, hs26⟩ := cons_of hs25
        obtain ⟨x27, xs27, rfl, hs27⟩ := cons_of hs26
        obtain ⟨x28, xs28, rfl, hs28⟩ := cons_of hs27
        obtain ⟨x29, xs29, rfl, hs29⟩ := cons_of hs28
        obtain ⟨x30, xs30, rfl, hs30⟩ := cons_of hs29
        obtain ⟨x31, xs31, rfl, hs31⟩ := cons_of hs30
        obtain ⟨x32, xs32, rfl, hs32⟩ := cons_of hs31
        obtain ⟨x33, xs33, rfl, hs33⟩ := cons_of hs32
        obtain ⟨x34, xs34, rfl, hs34⟩ := cons_of hs33
        obtain ⟨x35, xs35, rfl, hs35⟩ := cons_of hs34
        obtain ⟨x36, xs36, rfl, hs36⟩ := cons_of hs35
        obtain ⟨x37, xs37, rfl, hs37⟩ := cons_of hs36
        obtain ⟨x38, xs38, rfl, hs38⟩ := cons_of hs37
        obtain ⟨x39, xs39, rfl, hs39⟩ := cons_of hs38
        obtain ⟨x40, xs40, rfl, hs40⟩ := cons_of hs39
        obtain rfl := List.eq_nil_of_length_eq_zero hs40
        clear hsize hs0 hs1 hs2 hs3 hs4 hs5 hs6 hs7 hs8 hs9 hs10 hs11 hs12 hs13 hs14 hs15 hs16 hs17 hs18 hs19 hs20 hs21 hs22 hs23 hs24 hs25 hs26 hs27 hs28 hs29 hs30 hs31 hs32 hs33 hs34 hs35 hs36 hs37 hs38 hs39 hs40
        rw [show (Array.mk (x0 :: x1 :: x2 :: x3 :: x4 :: x5 :: x6 :: x7 :: x8 :: x9 :: x10 :: x11 :: x12 :: x13 :: x14 :: x15 :: x16 :: x17 :: x18 :: x19 :: x20 :: x21 :: x22 :: x23 :: x24 :: x25 :: x26 :: x27 :: x28 :: x29 :: x30 :: x31 :: x32 :: x33 :: x34 :: x35 :: x36 :: x37 :: x38 :: x39 :: x40 :: []) : Array Value) = List.toArray (x0 :: x1 :: x2 :: x3 :: x4 :: x5 :: x6 :: x7 :: x8 :: x9 :: x10 :: x11 :: x12 :: x13 :: x14 :: x15 :: x16 :: x17 :: x18 :: x19 :: x20 :: x21 :: x22 :: x23 :: x24 :: x25 :: x26 :: x27 :: x28 :: x29 :: x30 :: x31 :: x32 :: x33 :: x34 :: x35 :: x36 :: x37 :: x38 :: x39 :: x40 :: []) from rfl]
        change x0 = _ at e0
        subst e0
        change x1 = _ at e1
        subst e1
        change x2 = _ at e2
        subst e2
        change x3 = _ at e3
        subst e3
        change x4 = _ at e4
        subst e4
        change x5 = _ at e5
        subst e5
        change x6 = _ at e6
        subst e6
        change x7 = _ at e7
        subst e7
        change x8 = _ at e8
        subst e8
        change x9 = _ at e9
        subst e9
        change x40 = .bool true at er
        subst er
        go_wp2
        go_ret
        exact .mk ⟨by rw [HF.out] <;> rfl, HM.out.same MR.out⟩
      have hz : decide ((kn : Int) < 1) = false := decide_eq_false (by omega)
      by_cases h2 : 100 < kn
      · have HF : Hid (riseL ls = false) := HB.out (by rw [HX.out]; unfold mayKeyL; rw [decide_eq_false (by omega : ¬ (kl.length ≤ 100))]; simp)
        have hy : decide (100 < kn) = true := decide_eq_true h2
        have hyi : ((100 : Int) < (kn : Int)) := by omega
        clear h1 h2 HX HS hidx hkl
        go_wp2_with fail
        refine par_region (by kernel_rfl) (fun oi vs w => kyB p n c i b off kp kn kc oi (vs oi) w) (fun w' => Mod [] wr w') (by kernel_rfl) (fun j vs vs' w o _ h1 _ h2 => by rw [← h1]; exact h2) ⟨⟨⟨⟨⟨⟨⟨⟨⟨⟨⟨⟨⟨⟨⟨⟨⟨⟨⟨⟨⟨⟨⟨⟨⟨⟨⟨⟨⟨⟨⟨trivial, ?_⟩, ?_⟩, ?_⟩, ?_⟩, ?_⟩, ?_⟩, ?_⟩, ?_⟩, ?_⟩, ?_⟩, ?_⟩, ?_⟩, ?_⟩, ?_⟩, ?_⟩, ?_⟩, ?_⟩, ?_⟩, ?_⟩, ?_⟩, ?_⟩, ?_⟩, ?_⟩, ?_⟩, ?_⟩, ?_⟩, ?_⟩, ?_⟩, ?_⟩, ?_⟩, ?_⟩ (Mod.of_drew wr) ?_
        · intro o ho listed vs a w' inv hun haft K hK
          obtain rfl := Option.some.inj ho
          refine par_run rfl ?_
          have e0 := inv.old 0 (by kernel_rfl)
          have INV := Lib.hid inv
          clear inv haft hun ho
          simp at e0
          go_simp
          exact hK _ _ INV.out.inv INV.out.val rfl
        · intro o ho listed vs a w' inv hun haft K hK
          obtain rfl := Option.some.inj ho
          refine par_run rfl ?_
          have e0 := inv.old 3 (by kernel_rfl)
          have INV := Lib.hid inv
          clear inv haft hun ho
          simp at e0
          go_simp
          exact hK _ _ INV.out.inv INV.out.val rfl
        · intro o ho listed vs a w' inv hun haft K hK
          obtain rfl := Option.some.inj ho
          refine par_run rfl ?_
          obtain ⟨e0, r0⟩ := inv.get haft 0 10 (by kernel_rfl) (by kernel_rfl)
          obtain ⟨e1, r1⟩ := inv.get haft 1 11 (by kernel_rfl) (by kernel_rfl)
          have INV := Lib.hid inv
          clear inv haft hun ho
          change vs 0 = .slice p n c at r0
          rw [r0] at e0
          have g0 := getD_opt e0
          change vs 1 = .int .i64 i at r1
          rw [r1] at e1
          have g1 := getD_opt e1
          go_simp
          exact hK _ _ INV.out.inv INV.out.val rfl
        · intro o ho listed vs a w' inv hun haft K hK
          obtain rfl := Option.some.inj ho
          refine par_run rfl ?_
          obtain ⟨e0, r0⟩ := inv.get haft 2 12 (by kernel_rfl) (by kernel_rfl)
          have INV := Lib.hid inv
          clear inv haft hun ho
          change vs 2 = .pointer (some ⟨b, off + i, none⟩) at r0
          rw [r0] at e0
          have g0 := getD_opt e0
          have cx0 := (INV.out.inv.cell (a := ⟨b, _, none⟩) HBL (by simp)).trans d0
          go_simp
          exact hK _ _ INV.out.inv INV.out.val rfl
        · intro o ho listed vs a w' inv hun haft K hK
          obtain rfl := Option.some.inj ho
          refine par_run rfl ?_
          obtain ⟨e0, r0⟩ := inv.get haft 3 13 (by kernel_rfl) (by kernel_rfl)
          have INV := Lib.hid inv
          clear inv haft hun ho
          change vs 3 = .slice kp kn kc at r0
          rw [r0] at e0
          have g0 := getD_opt e0
          go_simp
          exact hK _ _ INV.out.inv INV.out.val rfl
        · intro o ho listed vs a w' inv hun haft K hK
          obtain rfl := Option.some.inj ho
          refine par_run rfl ?_
          obtain ⟨e0, r0⟩ := inv.get haft 4 14 (by kernel_rfl) (by kernel_rfl)
          have INV := Lib.hid inv
          clear inv haft hun ho
          change vs 4 = .int .i64 kn at r0
          rw [r0] at e0
          have g0 := getD_opt e0
          go_simp
          exact hK _ _ INV.out.inv INV.out.val rfl
        · intro o ho listed vs a w' inv hun haft K hK
          obtain rfl := Option.some.inj ho
          refine par_run rfl ?_
          obtain ⟨e0, r0⟩ := inv.get haft 5 15 (by kernel_rfl) (by kernel_rfl)
          have INV := Lib.hid inv
          clear inv haft hun ho
          change vs 5 = .bool false at r0
          rw [r0] at e0
          have g0 := getD_opt e0
          go_simp
          exact hK _ _ INV.out.inv INV.out.val rfl
        · intro o ho listed vs a w' inv hun haft K hK
          obtain rfl := Option.some.inj ho
          obtain ⟨e0, r0⟩ := inv.get haft 6 16 (by kernel_rfl) (by kernel_rfl)
          have e1 := inv.old 0 (by kernel_rfl)
          have INV := Lib.hid inv
          clear inv haft hun ho
          change vs 6 = .bool false at r0
          rw [r0] at e0
          have g0 := getD_opt e0
          simp at e1
          refine par_guard rfl (by kernel_rfl) e0 ?_
          rw [if_pos rfl]
          go_simp
          exact hK _ _ INV.out.inv INV.out.val rfl
        · intro o ho listed vs a w' inv hun haft K hK
          obtain rfl := Option.some.inj ho
          obtain ⟨e0, r0⟩ := inv.get haft 6 16 (by kernel_rfl) (by kernel_rfl)
          have e1 := inv.old 3 (by kernel_rfl)
          have INV := Lib.hid inv
          clear inv haft hun ho
          change vs 6 = .bool false at r0
          rw [r0] at e0
          have g0 := getD_opt e0
          simp at e1
          refine par_guard rfl (by kernel_rfl) e0 ?_
          rw [if_pos rfl]
          go_simp
          exact hK _ _ INV.out.inv INV.out.val rfl
        · intro o ho listed vs a w' inv hun haft K hK
          obtain rfl := Option.some.inj ho
          obtain ⟨e0, r0⟩ := inv.get haft 6 16 (by kernel_rfl) (by kernel_rfl)
          obtain ⟨e1, r1⟩ := inv.get haft 7 17 (by kernel_rfl) (by kernel_rfl)
          obtain ⟨e2, r2⟩ := inv.get haft 8 18 (by kernel_rfl) (by kernel_rfl)
          have INV := Lib.hid inv
          clear inv haft hun ho
          change vs 6 = .bool false at r0
          rw [r0] at e0
          have g0 := getD_opt e0
          change vs 7 = .slice p n c at r1
          rw [r1] at e1
          have g1 := getD_opt e1
          change vs 8 = .int .i64 i at r2
          rw [r2] at e2
          have g2 := getD_opt e2
          refine par_guard rfl (by kernel_rfl) e0 ?_
          rw [if_pos rfl]
          go_simp
          exact hK _ _ INV.out.inv INV.out.val rfl
        · intro o ho listed vs a w' inv hun haft K hK
          obtain rfl := Option.some.inj ho
          obtain ⟨e0, r0⟩ := inv.get haft 6 16 (by kernel_rfl) (by kernel_rfl)
          obtain ⟨e1, r1⟩ := inv.get haft 9 19 (by kernel_rfl) (by kernel_rfl)
          have INV := Lib.hid inv
          clear inv haft hun ho
          change vs 6 = .bool false at r0
          rw [r0] at e0
          have g0 := getD_opt e0
          change vs 9 = .pointer (some ⟨b, off + i, none⟩) at r1
          rw [r1] at e1
          have g1 := getD_opt e1
          have cx0 := (INV.out.inv.cell (a := ⟨b, _, none⟩) HBL (by simp)).trans d0
          refine par_guard rfl (by kernel_rfl) e0 ?_
          rw [if_pos rfl]
          go_simp
          exact hK _ _ INV.out.inv INV.out.val rfl
        · intro o ho listed vs a w' inv hun haft K hK
          obtain rfl := Option.some.inj ho
          obtain ⟨e0, r0⟩ := inv.get haft 6 16 (by kernel_rfl) (by kernel_rfl)
          obtain ⟨e1, r1⟩ := inv.get haft 10 20 (by kernel_rfl) (by kernel_rfl)
          have INV := Lib.hid inv
          clear inv haft hun ho
          change vs 6 = .bool false at r0
          rw [r0] at e0
          have g0 := getD_opt e0
          change vs 10 = .slice kp kn kc at r1
          rw [r1] at e1
          have g1 := getD_opt e1
          refine par_guard rfl (by kernel_rfl) e0 ?_
          rw [if_pos rfl]
          go_simp
          exact hK _ _ INV.out.inv INV.out.val rfl
        · intro o ho listed vs a w' inv hun haft K hK
          obtain rfl := Option.some.inj ho
          obtain ⟨e0, r0⟩ := inv.get haft 6 16 (by kernel_rfl) (by kernel_rfl)
          obtain ⟨e1, r1⟩ := inv.get haft 11 21 (by kernel_rfl) (by kernel_rfl)
          have INV := Lib.hid inv
          clear inv haft hun ho
          change vs 6 = .bool false at r0
          rw [r0] at e0
          have g0 := getD_opt e0
          change vs 11 = .int .i64 kn at r1
          rw [r1] at e1
          have g1 := getD_opt e1
          refine par_guard rfl (by kernel_rfl) e0 ?_
          rw [if_pos rfl]
          go_simp
          exact hK _ _ INV.out.inv INV.out.val rfl
        · intro o ho listed vs a w' inv hun haft K hK
          obtain rfl := Option.some.inj ho
          refine par_run rfl ?_
          obtain ⟨e0, r0⟩ := inv.get haft 6 16 (by kernel_rfl) (by kernel_rfl)
          obtain ⟨e1, r1⟩ := inv.get haft 12 22 (by kernel_rfl) (by kernel_rfl)
          have INV := Lib.hid inv
          clear inv haft hun ho
          change vs 6 = .bool false at r0
          rw [r0] at e0
          have g0 := getD_opt e0
          change vs 12 = .bool true at r1
          rw [r1] at e1
          have g1 := getD_opt e1
          go_simp
          exact hK _ _ INV.out.inv INV.out.val rfl
        · intro o ho listed vs a w' inv hun haft K hK
          obtain rfl := Option.some.inj ho
          refine par_run rfl ?_
          obtain ⟨e0, r0⟩ := inv.get haft 13 23 (by kernel_rfl) (by kernel_rfl)
          have INV := Lib.hid inv
          clear inv haft hun ho
          change vs 13 = .bool true at r0
          rw [r0] at e0
          have g0 := getD_opt e0
          go_simp
          exact hK _ _ INV.out.inv INV.out.val rfl
        · intro o ho listed vs a w' inv hun haft K hK
          obtain rfl := Option.some.inj ho
          obtain ⟨e0, r0⟩ := inv.get haft 14 24 (by kernel_rfl) (by kernel_rfl)
          have INV := Lib.hid inv
          clear inv haft hun ho
          change vs 14 = .bool true at r0
          rw [r0] at e0
          have g0 := getD_opt e0
          exact par_skip rfl (by kernel_rfl) e0 (by simp [undef]) (hK _ _ INV.out.inv INV.out.val rfl)
        · intro o ho listed vs a w' inv hun haft K hK
          obtain rfl := Option.some.inj ho
          obtain ⟨e0, r0⟩ := inv.get haft 14 24 (by kernel_rfl) (by kernel_rfl)
          have INV := Lib.hid inv
          clear inv haft hun ho
          change vs 14 = .bool true at r0
          rw [r0] at e0
          have g0 := getD_opt e0
          exact par_skip rfl (by kernel_rfl) e0 (by simp [undef]) (hK _ _ INV.out.inv INV.out.val rfl)
        · intro o ho listed vs a w' inv hun haft K hK
          obtain rfl := Option.some.inj ho
          obtain ⟨e0, r0⟩ := inv.get haft 14 24 (by kernel_rfl) (by kernel_rfl)
          have INV := Lib.hid inv
          clear inv haft hun ho
          change vs 14 = .bool true at r0
          rw [r0] at e0
          have g0 := getD_opt e0
          exact par_skip rfl (by kernel_rfl) e0 (by simp [undef]) (hK _ _ INV.out.inv INV.out.val rfl)
        · intro o ho listed vs a w' inv hun haft K hK
          obtain rfl := Option.some.inj ho
          obtain ⟨e0, r0⟩ := inv.get haft 17 27 (by kernel_rfl) (by kernel_rfl)
          have INV := Lib.hid inv
          clear inv haft hun ho
          change vs 17 = undef at r0
          rw [r0] at e0
          have g0 := getD_opt e0
          exact par_skip rfl (by kernel_rfl) e0 (by simp [undef]) (hK _ _ INV.out.inv INV.out.val rfl)
        · intro o ho listed vs a w' inv hun haft K hK
          obtain rfl := Option.some.inj ho
          obtain ⟨e0, r0⟩ := inv.get haft 17 27 (by kernel_rfl) (by kernel_rfl)
          have INV := Lib.hid inv
          clear inv haft hun ho
          change vs 17 = undef at r0
          rw [r0] at e0
          have g0 := getD_opt e0
          exact par_skip rfl (by kernel_rfl) e0 (by simp [undef]) (hK _ _ INV.out.inv INV.out.val rfl)
        · intro o ho listed vs a w' inv hun haft K hK
          obtain rfl := Option.some.inj ho
          obtain ⟨e0, r0⟩ := inv.get haft 17 27 (by kernel_rfl) (by kernel_rfl)
          have INV := Lib.hid inv
          clear inv haft hun ho
          change vs 17 = undef at r0
          rw [r0] at e0
          have g0 := getD_opt e0
          exact par_skip rfl (by kernel_rfl) e0 (by simp [undef]) (hK _ _ INV.out.inv INV.out.val rfl)
        · intro o ho listed vs a w' inv hun haft K hK
          obtain rfl := Option.some.inj ho
          obtain ⟨e0, r0⟩ := inv.get haft 17 27 (by kernel_rfl) (by kernel_rfl)
          have INV := Lib.hid inv
          clear inv haft hun ho
          change vs 17 = undef at r0
          rw [r0] at e0
          have g0 := getD_opt e0
          exact par_skip rfl (by kernel_rfl) e0 (by simp [undef]) (hK _ _ INV.out.inv INV.out.val rfl)
        · intro o ho listed vs a w' inv hun haft K hK
          obtain rfl := Option.some.inj ho
          obtain ⟨e0, r0⟩ := inv.get haft 17 27 (by kernel_rfl) (by kernel_rfl)
          have INV := Lib.hid inv
          clear inv haft hun ho
          change vs 17 = undef at r0
          rw [r0] at e0
          have g0 := getD_opt e0
          exact par_skip rfl (by kernel_rfl) e0 (by simp [undef]) (hK _ _ INV.out.inv INV.out.val rfl)
        · intro o ho listed vs a w' inv hun haft K hK
          obtain rfl := Option.some.inj ho
          obtain ⟨e0, r0⟩ := inv.get haft 17 27 (by kernel_rfl) (by kernel_rfl)
          have INV := Lib.hid inv
          clear inv haft hun ho
          change vs 17 = undef at r0
          rw [r0] at e0
          have g0 := getD_opt e0
          exact par_skip rfl (by kernel_rfl) e0 (by simp [undef]) (hK _ _ INV.out.inv INV.out.val rfl)
        · intro o ho listed vs a w' inv hun haft K hK
          obtain rfl := Option.some.inj ho
          obtain ⟨e0, r0⟩ := inv.get haft 17 27 (by kernel_rfl) (by kernel_rfl)
          have INV := Lib.hid inv
          clear inv haft hun ho
          change vs 17 = undef at r0
          rw [r0] at e0
          have g0 := getD_opt e0
          exact par_skip rfl (by kernel_rfl) e0 (by simp [undef]) (hK _ _ INV.out.inv INV.out.val rfl)
        · intro o ho listed vs a w' inv hun haft K hK
          obtain rfl := Option.some.inj ho
          obtain ⟨e0, r0⟩ := inv.get haft 17 27 (by kernel_rfl) (by kernel_rfl)
          have INV := Lib.hid inv
          clear inv haft hun ho
          change vs 17 = undef at r0
          rw [r0] at e0
          have g0 := getD_opt e0
          exact par_skip rfl (by kernel_rfl) e0 (by simp [undef]) (hK _ _ INV.out.inv INV.out.val rfl)
        · intro o ho listed vs a w' inv hun haft K hK
          obtain rfl := Option.some.inj ho
          obtain ⟨e0, r0⟩ := inv.get haft 17 27 (by kernel_rfl) (by kernel_rfl)
          have INV := Lib.hid inv
          clear inv haft hun ho
          change vs 17 = undef at r0
          rw [r0] at e0
          have g0 := getD_opt e0
          exact par_skip rfl (by kernel_rfl) e0 (by simp [undef]) (hK _ _ INV.out.inv INV.out.val rfl)
        · intro o ho listed vs a w' inv hun haft K hK
          obtain rfl := Option.some.inj ho
          obtain ⟨e0, r0⟩ := inv.get haft 17 27 (by kernel_rfl) (by kernel_rfl)
          have INV := Lib.hid inv
          clear inv haft hun ho
          change vs 17 = undef at r0
          rw [r0] at e0
          have g0 := getD_opt e0
          exact par_skip rfl (by kernel_rfl) e0 (by simp [undef]) (hK _ _ INV.out.inv INV.out.val rfl)
        · intro o ho listed vs a w' inv hun haft K hK
          obtain rfl := Option.some.inj ho
          obtain ⟨e0, r0⟩ := inv.get haft 17 27 (by kernel_rfl) (by kernel_rfl)
          have INV := Lib.hid inv
          clear inv haft hun ho
          change vs 17 = undef at r0
          rw [r0] at e0
          have g0 := getD_opt e0
          exact par_skip rfl (by kernel_rfl) e0 (by simp [undef]) (hK _ _ INV.out.inv INV.out.val rfl)
        · intro o ho listed vs a w' inv hun haft K hK
          obtain rfl := Option.some.inj ho
          obtain ⟨e0, r0⟩ := inv.get haft 14 24 (by kernel_rfl) (by kernel_rfl)
          have INV := Lib.hid inv
          clear inv haft hun ho
          change vs 14 = .bool true at r0
          rw [r0] at e0
          have g0 := getD_opt e0
          exact par_skip rfl (by kernel_rfl) e0 (by simp [undef]) (hK _ _ INV.out.inv INV.out.val rfl)
        · intro o ho listed vs a w' inv hun haft K hK
          obtain rfl := Option.some.inj ho
          refine par_run rfl ?_
          obtain ⟨e0, r0⟩ := inv.get haft 14 24 (by kernel_rfl) (by kernel_rfl)
          have INV := Lib.hid inv
          clear inv haft hun ho
          change vs 14 = .bool true at r0
          rw [r0] at e0
          have g0 := getD_opt e0
          go_simp
          exact hK _ _ INV.out.inv INV.out.val rfl
        intro vs w2 X hm hr hslot hold hsize hdef
        have er := hslot 30 40 (by kernel_rfl)
        have h9 := hr 30 (by decide)
        change vs 30 = .bool true at h9
        rw [h9] at er
        clear h9
        have e0 := hold 0 (by kernel_rfl)
        have e1 := hold 1 (by kernel_rfl)
        have e2 := hold 2 (by kernel_rfl)
        have e3 := hold 3 (by kernel_rfl)
        have e4 := hold 4 (by kernel_rfl)
        have e5 := hold 5 (by kernel_rfl)
        have e6 := hold 6 (by kernel_rfl)
        have e7 := hold 7 (by kernel_rfl)
        have e8 := hold 8 (by kernel_rfl)
        have e9 := hold 9 (by kernel_rfl)
        simp only [Array.getD_eq_getD_getElem?, List.getElem?_toArray, List.getElem?_cons_zero, List.getElem?_cons_succ, Option.getD_some] at e0 e1 e2 e3 e4 e5 e6 e7 e8 e9
        have MR := Lib.hid hm
        clear hr hslot hold hm
        obtain ⟨⟨xs⟩, df⟩ := X
        replace hdef : df = [] := hdef
        subst hdef
        replace hsize : xs.length = 41 := hsize
        obtain ⟨x0, xs0, rfl, hs0⟩ := cons_of hsize
        obtain ⟨x1, xs1, rfl, hs1⟩ := cons_of hs0
        obtain ⟨x2, xs2, rfl, hs2⟩ := cons_of hs1
        obtain ⟨x3, xs3, rfl, hs3⟩ := cons_of hs2
        obtain ⟨x4, xs4, rfl, hs4⟩ := cons_of hs3
        obtain ⟨x5, xs5, rfl, hs5⟩ := cons_of hs4
        obtain ⟨x6, xs6, rfl, hs6⟩ := cons_of hs5
        obtain ⟨x7, xs7, rfl, hs7⟩ := cons_of hs6
        obtain ⟨x8, xs8, rfl, hs8⟩ := cons_of hs7
        obtain ⟨x9, xs9, rfl, hs9⟩ := cons_of hs8
        obtain ⟨x10, xs10, rfl, hs10⟩ := cons_of hs9
        obtain ⟨x11, xs11, rfl, hs11⟩ := cons_of hs10
        obtain ⟨x12, xs12, rfl, hs12⟩ := cons_of hs11
        obtain ⟨x13, xs13, rfl, hs13⟩ := cons_of hs12
        obtain ⟨x14, xs14, rfl, hs14⟩ := cons_of hs13
        obtain ⟨x15, xs15, rfl, hs15⟩ := cons_of hs14
        obtain ⟨x16, xs16, rfl, hs16⟩ := cons_of hs15
        obtain ⟨x17, xs17, rfl, hs17⟩ := cons_of hs16
        obtain ⟨x18, xs18, rfl, hs18⟩ := cons_of hs17
        obtain ⟨x19, xs19, rfl, hs19⟩ := cons_of hs18
        obtain ⟨x20, xs20, rfl, hs20⟩ := cons_of hs19
        obtain ⟨x21, xs21, rfl, hs21⟩ := cons_of hs20
        obtain ⟨x22, xs22, rfl, hs22⟩ := cons_of hs21
        obtain ⟨x23, xs23, rfl, hs23⟩ := cons_of hs22
        obtain ⟨x24, xs24, rfl, hs24⟩ := cons_of hs23
        obtain ⟨x25, xs25, rfl, hs25⟩ := cons_of hs24
        obtain ⟨x26, xs26, rfl, hs26⟩ := cons_of hs25
        obtain ⟨x27, xs27, rfl, hs27⟩ := cons_of hs26
        obtain ⟨x28, xs28, rfl, hs28⟩ := cons_of hs27
        obtain ⟨x29, xs29, rfl, hs29⟩ := cons_of hs28
        obtain ⟨x30, xs30, rfl, hs30⟩ := cons_of hs29
        obtain ⟨x31, xs31, rfl, hs31⟩ := cons_of hs30
        obtain ⟨x32, xs32, rfl, hs32⟩ := cons_of hs31
        obtain ⟨x33, xs33, rfl, hs33⟩ := cons_of hs32
        obtain ⟨x34, xs34, rfl, hs34⟩ := cons_of hs33
        obtain ⟨x35, xs35, rfl, hs35⟩ := cons_of hs34
        obtain ⟨x36, xs36, rfl, hs36⟩ := cons_of hs35
        obtain ⟨x37, xs37, rfl, hs37⟩ := cons_of hs36
        obtain ⟨x38, xs38, rfl, hs38⟩ := cons_of hs37
        obtain ⟨x39, xs39, rfl, hs39⟩ := cons_of hs38
        obtain ⟨x40, xs40, rfl, hs40⟩ := cons_of hs39
        obtain rfl := List.eq_nil_of_length_eq_zero hs40
        clear hsize hs0 hs1 hs2 hs3 hs4 hs5 hs6 hs7 hs8 hs9 hs10 hs11 hs12 hs13 hs14 hs15 hs16 hs17 hs18 hs19 hs20 hs21 hs22 hs23 hs24 hs25 hs26 hs27 hs28 hs29 hs30 hs31 hs32 hs33 hs34 hs35 hs36 hs37 hs38 hs39 hs40
        rw [show (Array.mk (x0 :: x1 :: x2 :: x3 :: x4 :: x5 :: x6 :: x7 :: x8 :: x9 :: x10 :: x11 :: x12 :: x13 :: x14 :: x15 :: x16 :: x17 :: x18 :: x19 :: x20 :: x21 :: x22 :: x23 :: x24 :: x25 :: x26 :: x27 :: x28 :: x29 :: x30 :: x31 :: x32 :: x33 :: x34 :: x35 :: x36 :: x37 :: x38 :: x39 :: x40 :: []) : Array Value) = List.toArray (x0 :: x1 :: x2 :: x3 :: x4 :: x5 :: x6 :: x7 :: x8 :: x9 :: x10 :: x11 :: x12 :: x13 :: x14 :: x15 :: x16 :: x17 :: x18 :: x19 :: x20 :: x21 :: x22 :: x23 :: x24 :: x25 :: x26 :: x27 :: x28 :: x29 :: x30 :: x31 :: x32 :: x33 :: x34 :: x35 :: x36 :: x37 :: x38 :: x39 :: x40 :: []) from rfl]
        change x0 = _ at e0
        subst e0
        change x1 = _ at e1
        subst e1
        change x2 = _ at e2
        subst e2
        change x3 = _ at e3
        subst e3
        change x4 = _ at e4
        subst e4
        change x5 = _ at e5
        subst e5
        change x6 = _ at e6
        subst e6
        change x7 = _ at e7
        subst e7
        change x8 = _ at e8
        subst e8
        change x9 = _ at e9
        subst e9
        change x40 = .bool true at er
        subst er
        go_wp2
        go_ret
        exact .mk ⟨by rw [HF.out] <;> rfl, HM.out.same MR.out⟩
      have hy : decide ((100 : Int) < (kn : Int)) = false := decide_eq_false (by omega)
      have HMK : Hid (mayKeyL kl = true) := by unfold Hid mayKeyL; rw [decide_eq_true (by omega), decide_eq_true (by omega)]; rfl
      clear h1 h2 hkl
      rcases Nat.eq_zero_or_pos i with h0 | h0
      · have HT : Hid (riseTo ls (i + 1) = true) := by rw [HS.out, HX.out, HMK.out, h0]; rfl
        have hx0 : decide (0 < i) = false := by simp; omega
        have hxi : ¬ ((0 : Int) < (i : Int)) := by omega
        clear h0 HX hidx
        go_wp2_with fail
        refine par_region (by kernel_rfl) (fun oi vs w => kyZ p n c i b off kp kn kc oi (vs oi) w) (fun w' => Mod [] wr w') (by kernel_rfl) (fun j vs vs' w o _ h1 _ h2 => by rw [← h1]; exact h2) ⟨⟨⟨⟨⟨⟨⟨⟨⟨⟨⟨⟨⟨⟨⟨⟨⟨⟨⟨⟨⟨⟨⟨⟨⟨⟨⟨⟨⟨⟨⟨trivial, ?_⟩, ?_⟩, ?_⟩, ?_⟩, ?_⟩, ?_⟩, ?_⟩, ?_⟩, ?_⟩, ?_⟩, ?_⟩, ?_⟩, ?_⟩, ?_⟩, ?_⟩, ?_⟩, ?_⟩, ?_⟩, ?_⟩, ?_⟩, ?_⟩, ?_⟩, ?_⟩, ?_⟩, ?_⟩, ?_⟩, ?_⟩, ?_⟩, ?_⟩, ?_⟩, ?_⟩ (Mod.of_drew wr) ?_
        · intro o ho listed vs a w' inv hun haft K hK
          obtain rfl := Option.some.inj ho
          refine par_run rfl ?_
          have e0 := inv.old 0 (by kernel_rfl)
          have INV := Lib.hid inv
          clear inv haft hun ho
          simp at e0
          go_simp
          exact hK _ _ INV.out.inv INV.out.val rfl
        · intro o ho listed vs a w' inv hun haft K hK
          obtain rfl := Option.some.inj ho
          refine par_run rfl ?_
          have e0 := inv.old 3 (by kernel_rfl)
          have INV := Lib.hid inv
          clear inv haft hun ho
          simp at e0
          go_simp
          exact hK _ _ INV.out.inv INV.out.val rfl
        · intro o ho listed vs a w' inv hun haft K hK
          obtain rfl := Option.some.inj ho
          refine par_run rfl ?_
          obtain ⟨e0, r0⟩ := inv.get haft 0 10 (by kernel_rfl) (by kernel_rfl)
          obtain ⟨e1, r1⟩ := inv.get haft 1 11 (by kernel_rfl) (by kernel_rfl)
          have INV := Lib.hid inv
          clear inv haft hun ho
          change vs 0 = .slice p n c at r0
          rw [r0] at e0
          have g0 := getD_opt e0
          change vs 1 = .int .i64 i at r1
          rw [r1] at e1
          have g1 := getD_opt e1
          go_simp
          exact hK _ _ INV.out.inv INV.out.val rfl
        · intro o ho listed vs a w' inv hun haft K hK
          obtain rfl := Option.some.inj ho
          refine par_run rfl ?_
          obtain ⟨e0, r0⟩ := inv.get haft 2 12 (by kernel_rfl) (by kernel_rfl)
          have INV := Lib.hid inv
          clear inv haft hun ho
          change vs 2 = .pointer (some ⟨b, off + i, none⟩) at r0
          rw [r0] at e0
          have g0 := getD_opt e0
          have cx0 := (INV.out.inv.cell (a := ⟨b, _, none⟩) HBL (by simp)).trans d0
          go_simp
          exact hK _ _ INV.out.inv INV.out.val rfl
        · intro o ho listed vs a w' inv hun haft K hK
          obtain rfl := Option.some.inj ho
          refine par_run rfl ?_
          obtain ⟨e0, r0⟩ := inv.get haft 3 13 (by kernel_rfl) (by kernel_rfl)
          have INV := Lib.hid inv
          clear inv haft hun ho
          change vs 3 = .slice kp kn kc at r0
          rw [r0] at e0
          have g0 := getD_opt e0
          go_simp
          exact hK _ _ INV.out.inv INV.out.val rfl
        · intro o ho listed vs a w' inv hun haft K hK
          obtain rfl := Option.some.inj ho
          refine par_run rfl ?_
          obtain ⟨e0, r0⟩ := inv.get haft 4 14 (by kernel_rfl) (by kernel_rfl)
          have INV := Lib.hid inv
          clear inv haft hun ho
          change vs 4 = .int .i64 kn at r0
          rw [r0] at e0
          have g0 := getD_opt e0
          go_simp
          exact hK _ _ INV.out.inv INV.out.val rfl
        · intro o ho listed vs a w' inv hun haft K hK
          obtain rfl := Option.some.inj ho
          refine par_run rfl ?_
          obtain ⟨e0, r0⟩ := inv.get haft 5 15 (by kernel_rfl) (by kernel_rfl)
          have INV := Lib.hid inv
          clear inv haft hun ho
          change vs 5 = .bool false at r0
          rw [r0] at e0
          have g0 := getD_opt e0
          go_simp
          exact hK _ _ INV.out.inv INV.out.val rfl
        · intro o ho listed vs a w' inv hun haft K hK
          obtain rfl := Option.some.inj ho
          obtain ⟨e0, r0⟩ := inv.get haft 6 16 (by kernel_rfl) (by kernel_rfl)
          have e1 := inv.old 0 (by kernel_rfl)
          have INV := Lib.hid inv
          clear inv haft hun ho
          change vs 6 = .bool false at r0
          rw [r0] at e0
          have g0 := getD_opt e0
          simp at e1
          refine par_guard rfl (by kernel_rfl) e0 ?_
          rw [if_pos rfl]
          go_simp
          exact hK _ _ INV.out.inv INV.out.val rfl
        · intro o ho listed vs a w' inv hun haft K hK
          obtain rfl := Option.some.inj ho
          obtain ⟨e0, r0⟩ := inv.get haft 6 16 (by kernel_rfl) (by kernel_rfl)
          have e1 := inv.old 3 (by kernel_rfl)
          have INV := Lib.hid inv
          clear inv haft hun ho
          change vs 6 = .bool false at r0
          rw [r0] at e0
          have g0 := getD_opt e0
          simp at e1
          refine par_guard rfl (by kernel_rfl) e0 ?_
          rw [if_pos rfl]
          go_simp
          exact hK _ _ INV.out.inv INV.out.val rfl
        · intro o ho listed vs a w' inv hun haft K hK
          obtain rfl := Option.some.inj ho
          obtain ⟨e0, r0⟩ := inv.get haft 6 16 (by kernel_rfl) (by kernel_rfl)
          obtain ⟨e1, r1⟩ := inv.get haft 7 17 (by kernel_rfl) (by kernel_rfl)
          obtain ⟨e2, r2⟩ := inv.get haft 8 18 (by kernel_rfl) (by kernel_rfl)
          have INV := Lib.hid inv
          clear inv haft hun ho
          change vs 6 = .bool false at r0
          rw [r0] at e0
          have g0 := getD_opt e0
          change vs 7 = .slice p n c at r1
          rw [r1] at e1
          have g1 := getD_opt e1
          change vs 8 = .int .i64 i at r2
          rw [r2] at e2
          have g2 := getD_opt e2
          refine par_guard rfl (by kernel_rfl) e0 ?_
          rw [if_pos rfl]
          go_simp
          exact hK _ _ INV.out.inv INV.out.val rfl
        · intro o ho listed vs a w' inv hun haft K hK
          obtain rfl := Option.some.inj ho
          obtain ⟨e0, r0⟩ := inv.get haft 6 16 (by kernel_rfl) (by kernel_rfl)
          obtain ⟨e1, r1⟩ := inv.get haft 9 19 (by kernel_rfl) (by kernel_rfl)
          have INV := Lib.hid inv
          clear inv haft hun ho
          change vs 6 = .bool false at r0
          rw [r0] at e0
          have g0 := getD_opt e0
          change vs 9 = .pointer (some ⟨b, off + i, none⟩) at r1
          rw [r1] at e1
          have g1 := getD_opt e1
          have cx0 := (INV.out.inv.cell (a := ⟨b, _, none⟩) HBL (by simp)).trans d0
          refine par_guard rfl (by kernel_rfl) e0 ?_
          rw [if_pos rfl]
          go_simp
          exact hK _ _ INV.out.inv INV.out.val rfl
        · intro o ho listed vs a w' inv hun haft K hK
          obtain rfl := Option.some.inj ho
          obtain ⟨e0, r0⟩ := inv.get haft 6 16 (by kernel_rfl) (by kernel_rfl)
          obtain ⟨e1, r1⟩ := inv.get haft 10 20 (by kernel_rfl) (by kernel_rfl)
          have INV := Lib.hid inv
          clear inv haft hun ho
          change vs 6 = .bool false at r0
          rw [r0] at e0
          have g0 := getD_opt e0
          change vs 10 = .slice kp kn kc at r1
          rw [r1] at e1
          have g1 := getD_opt e1
          refine par_guard rfl (by kernel_rfl) e0 ?_
          rw [if_pos rfl]
          go_simp
          exact hK _ _ INV.out.inv INV.out.val rfl
        · intro o ho listed vs a w' inv hun haft K hK
          obtain rfl := Option.some.inj ho
          obtain ⟨e0, r0⟩ := inv.get haft 6 16 (by kernel_rfl) (by kernel_rfl)
          obtain ⟨e1, r1⟩ := inv.get haft 11 21 (by kernel_rfl) (by kernel_rfl)
          have INV := Lib.hid inv
          clear inv haft hun ho
          change vs 6 = .bool false at r0
          rw [r0] at e0
          have g0 := getD_opt e0
          change vs 11 = .int .i64 kn at r1
          rw [r1] at e1
          have g1 := getD_opt e1
          refine par_guard rfl (by kernel_rfl) e0 ?_
          rw [if_pos rfl]
          go_simp
          exact hK _ _ INV.out.inv INV.out.val rfl
        · intro o ho listed vs a w' inv hun haft K hK
          obtain rfl := Option.some.inj ho
          refine par_run rfl ?_
          obtain ⟨e0, r0⟩ := inv.get haft 6 16 (by kernel_rfl) (by kernel_rfl)
          obtain ⟨e1, r1⟩ := inv.get haft 12 22 (by kernel_rfl) (by kernel_rfl)
          have INV := Lib.hid inv
          clear inv haft hun ho
          change vs 6 = .bool false at r0
          rw [r0] at e0
          have g0 := getD_opt e0
          change vs 12 = .bool false at r1
          rw [r1] at e1
          have g1 := getD_opt e1
          go_simp
          exact hK _ _ INV.out.inv INV.out.val rfl
        · intro o ho listed vs a w' inv hun haft K hK
          obtain rfl := Option.some.inj ho
          refine par_run rfl ?_
          obtain ⟨e0, r0⟩ := inv.get haft 13 23 (by kernel_rfl) (by kernel_rfl)
          have INV := Lib.hid inv
          clear inv haft hun ho
          change vs 13 = .bool false at r0
          rw [r0] at e0
          have g0 := getD_opt e0
          go_simp
          exact hK _ _ INV.out.inv INV.out.val rfl
        · intro o ho listed vs a w' inv hun haft K hK
          obtain rfl := Option.some.inj ho
          obtain ⟨e0, r0⟩ := inv.get haft 14 24 (by kernel_rfl) (by kernel_rfl)
          have e1 := inv.old 3 (by kernel_rfl)
          have INV := Lib.hid inv
          clear inv haft hun ho
          change vs 14 = .bool false at r0
          rw [r0] at e0
          have g0 := getD_opt e0
          simp at e1
          refine par_guard rfl (by kernel_rfl) e0 ?_
          rw [if_pos rfl]
          go_simp
          exact hK _ _ INV.out.inv INV.out.val rfl
        · intro o ho listed vs a w' inv hun haft K hK
          obtain rfl := Option.some.inj ho
          obtain ⟨e0, r0⟩ := inv.get haft 14 24 (by kernel_rfl) (by kernel_rfl)
          obtain ⟨e1, r1⟩ := inv.get haft 15 25 (by kernel_rfl) (by kernel_rfl)
          have INV := Lib.hid inv
          clear inv haft hun ho
          change vs 14 = .bool false at r0
          rw [r0] at e0
          have g0 := getD_opt e0
          change vs 15 = .int .i64 i at r1
          rw [r1] at e1
          have g1 := getD_opt e1
          refine par_guard rfl (by kernel_rfl) e0 ?_
          rw [if_pos rfl]
          go_simp
          exact hK _ _ INV.out.inv INV.out.val rfl
        · intro o ho listed vs a w' inv hun haft K hK
          obtain rfl := Option.some.inj ho
          obtain ⟨e0, r0⟩ := inv.get haft 14 24 (by kernel_rfl) (by kernel_rfl)
          obtain ⟨e1, r1⟩ := inv.get haft 16 26 (by kernel_rfl) (by kernel_rfl)
          have INV := Lib.hid inv
          clear inv haft hun ho
          change vs 14 = .bool false at r0
          rw [r0] at e0
          have g0 := getD_opt e0
          change vs 16 = .bool false at r1
          rw [r1] at e1
          have g1 := getD_opt e1
          refine par_guard rfl (by kernel_rfl) e0 ?_
          rw [if_pos rfl]
          go_simp
          exact hK _ _ INV.out.inv INV.out.val rfl
        · intro o ho listed vs a w' inv hun haft K hK
          obtain rfl := Option.some.inj ho
          obtain ⟨e0, r0⟩ := inv.get haft 17 27 (by kernel_rfl) (by kernel_rfl)
          have INV := Lib.hid inv
          clear inv haft hun ho
          change vs 17 = .bool false at r0
          rw [r0] at e0
          have g0 := getD_opt e0
          exact par_skip rfl (by kernel_rfl) e0 (by simp [undef]) (hK _ _ INV.out.inv INV.out.val rfl)
        · intro o ho listed vs a w' inv hun haft K hK
          obtain rfl := Option.some.inj ho
          obtain ⟨e0, r0⟩ := inv.get haft 17 27 (by kernel_rfl) (by kernel_rfl)
          have INV := Lib.hid inv
          clear inv haft hun ho
          change vs 17 = .bool false at r0
          rw [r0] at e0
          have g0 := getD_opt e0
          exact par_skip rfl (by kernel_rfl) e0 (by simp [undef]) (hK _ _ INV.out.inv INV.out.val rfl)
        · intro o ho listed vs a w' inv hun haft K hK
          obtain rfl := Option.some.inj ho
          obtain ⟨e0, r0⟩ := inv.get haft 17 27 (by kernel_rfl) (by kernel_rfl)
          have INV := Lib.hid inv
          clear inv haft hun ho
          change vs 17 = .bool false at r0
          rw [r0] at e0
          have g0 := getD_opt e0
          exact par_skip rfl (by kernel_rfl) e0 (by simp [undef]) (hK _ _ INV.out.inv INV.out.val rfl)
        · intro o ho listed vs a w' inv hun haft K hK
          obtain rfl := Option.some.inj ho
          obtain ⟨e0, r0⟩ := inv.get haft 17 27 (by kernel_rfl) (by kernel_rfl)
          have INV := Lib.hid inv
          clear inv haft hun ho
          change vs 17 = .bool false at r0
          rw [r0] at e0
          have g0 := getD_opt e0
          exact par_skip rfl (by kernel_rfl) e0 (by simp [undef]) (hK _ _ INV.out.inv INV.out.val rfl)
        · intro o ho listed vs a w' inv hun haft K hK
          obtain rfl := Option.some.inj ho
          obtain ⟨e0, r0⟩ := inv.get haft 17 27 (by kernel_rfl) (by kernel_rfl)
          have INV := Lib.hid inv
          clear inv haft hun ho
          change vs 17 = .bool false at r0
          rw [r0] at e0
          have g0 := getD_opt e0
          exact par_skip rfl (by kernel_rfl) e0 (by simp [undef]) (hK _ _ INV.out.inv INV.out.val rfl)
        · intro o ho listed vs a w' inv hun haft K hK
          obtain rfl := Option.some.inj ho
          obtain ⟨e0, r0⟩ := inv.get haft 17 27 (by kernel_rfl) (by kernel_rfl)
          have INV := Lib.hid inv
          clear inv haft hun ho
          change vs 17 = .bool false at r0
          rw [r0] at e0
          have g0 := getD_opt e0
          exact par_skip rfl (by kernel_rfl) e0 (by simp [undef]) (hK _ _ INV.out.inv INV.out.val rfl)
        · intro o ho listed vs a w' inv hun haft K hK
          obtain rfl := Option.some.inj ho
          obtain ⟨e0, r0⟩ := inv.get haft 17 27 (by kernel_rfl) (by kernel_rfl)
          have INV := Lib.hid inv
          clear inv haft hun ho
          change vs 17 = .bool false at r0
          rw [r0] at e0
          have g0 := getD_opt e0
          exact par_skip rfl (by kernel_rfl) e0 (by simp [undef]) (hK _ _ INV.out.inv INV.out.val rfl)
        · intro o ho listed vs a w' inv hun haft K hK
          obtain rfl := Option.some.inj ho
          obtain ⟨e0, r0⟩ := inv.get haft 17 27 (by kernel_rfl) (by kernel_rfl)
          have INV := Lib.hid inv
          clear inv haft hun ho
          change vs 17 = .bool false at r0
          rw [r0] at e0
          have g0 := getD_opt e0
          exact par_skip rfl (by kernel_rfl) e0 (by simp [undef]) (hK _ _ INV.out.inv INV.out.val rfl)
        · intro o ho listed vs a w' inv hun haft K hK
          obtain rfl := Option.some.inj ho
          obtain ⟨e0, r0⟩ := inv.get haft 17 27 (by kernel_rfl) (by kernel_rfl)
          have INV := Lib.hid inv
          clear inv haft hun ho
          change vs 17 = .bool false at r0
          rw [r0] at e0
          have g0 := getD_opt e0
          exact par_skip rfl (by kernel_rfl) e0 (by simp [undef]) (hK _ _ INV.out.inv INV.out.val rfl)
        · intro o ho listed vs a w' inv hun haft K hK
          obtain rfl := Option.some.inj ho
          obtain ⟨e0, r0⟩ := inv.get haft 17 27 (by kernel_rfl) (by kernel_rfl)
          have INV := Lib.hid inv
          clear inv haft hun ho
          change vs 17 = .bool false at r0
          rw [r0] at e0
          have g0 := getD_opt e0
          exact par_skip rfl (by kernel_rfl) e0 (by simp [undef]) (hK _ _ INV.out.inv INV.out.val rfl)
        · intro o ho listed vs a w' inv hun haft K hK
          obtain rfl := Option.some.inj ho
          obtain ⟨e0, r0⟩ := inv.get haft 17 27 (by kernel_rfl) (by kernel_rfl)
          have INV := Lib.hid inv
          clear inv haft hun ho
          change vs 17 = .bool false at r0
          rw [r0] at e0
          have g0 := getD_opt e0
          exact par_skip rfl (by kernel_rfl) e0 (by simp [undef]) (hK _ _ INV.out.inv INV.out.val rfl)
        · intro o ho listed vs a w' inv hun haft K hK
          obtain rfl := Option.some.inj ho
          obtain ⟨e0, r0⟩ := inv.get haft 14 24 (by kernel_rfl) (by kernel_rfl)
          obtain ⟨e1, r1⟩ := inv.get haft 17 27 (by kernel_rfl) (by kernel_rfl)
          have INV := Lib.hid inv
          clear inv haft hun ho
          change vs 14 = .bool false at r0
          rw [r0] at e0
          have g0 := getD_opt e0
          change vs 17 = .bool false at r1
          rw [r1] at e1
          have g1 := getD_opt e1
          refine par_guard rfl (by kernel_rfl) e0 ?_
          rw [if_pos rfl]
          go_simp
          exact hK _ _ INV.out.inv INV.out.val rfl
        · intro o ho listed vs a w' inv hun haft K hK
          obtain rfl := Option.some.inj ho
          refine par_run rfl ?_
          obtain ⟨e0, r0⟩ := inv.get haft 14 24 (by kernel_rfl) (by kernel_rfl)
          obtain ⟨e1, r1⟩ := inv.get haft 29 39 (by kernel_rfl) (by kernel_rfl)
          have INV := Lib.hid inv
          clear inv haft hun ho
          change vs 14 = .bool false at r0
          rw [r0] at e0
          have g0 := getD_opt e0
          change vs 29 = .bool false at r1
          rw [r1] at e1
          have g1 := getD_opt e1
          go_simp
          exact hK _ _ INV.out.inv INV.out.val rfl
        intro vs w2 X hm hr hslot hold hsize hdef
        have er := hslot 30 40 (by kernel_rfl)
        have h9 := hr 30 (by decide)
        change vs 30 = .bool false at h9
        rw [h9] at er
        clear h9
        have e0 := hold 0 (by kernel_rfl)
        have e1 := hold 1 (by kernel_rfl)
        have e2 := hold 2 (by kernel_rfl)
        have e3 := hold 3 (by kernel_rfl)
        have e4 := hold 4 (by kernel_rfl)
        have e5 := hold 5 (by kernel_rfl)
        have e6 := hold 6 (by kernel_rfl)
        have e7 := hold 7 (by kernel_rfl)
        have e8 := hold 8 (by kernel_rfl)
        have e9 := hold 9 (by kernel_rfl)
        simp only [Array.getD_eq_getD_getElem?, List.getElem?_toArray, List.getElem?_cons_zero, List.getElem?_cons_succ, Option.getD_some] at e0 e1 e2 e3 e4 e5 e6 e7 e8 e9
        have MR := Lib.hid hm
        clear hr hslot hold hm
        obtain ⟨⟨xs⟩, df⟩ := X
        replace hdef : df = [] := hdef
        subst hdef
        replace hsize : xs.length = 41 := hsize
        obtain ⟨x0, xs0, rfl, hs0⟩ := cons_of hsize
        obtain ⟨x1, xs1, rfl, hs1⟩ := cons_of hs0
        obtain ⟨x2, xs2, rfl, hs2⟩ := cons_of hs1
        obtain ⟨x3, xs3, rfl, hs3⟩ := cons_of hs2
        obtain ⟨x4, xs4, rfl, hs4⟩ := cons_of hs3
        obtain ⟨x5, xs5, rfl, hs5⟩ := cons_of hs4
        obtain ⟨x6, xs6, rfl, hs6⟩ := cons_of hs5
        obtain ⟨x7, xs7, rfl, hs7⟩ := cons_of hs6
        obtain ⟨x8, xs8, rfl, hs8⟩ := cons_of hs7
        obtain ⟨x9, xs9, rfl, hs9⟩ := cons_of hs8
        obtain ⟨x10, xs10, rfl, hs10⟩ := cons_of hs9
        obtain ⟨x11, xs11, rfl, hs11⟩ := cons_of hs10
        obtain ⟨x12, xs12, rfl, hs12⟩ := cons_of hs11
        obtain ⟨x13, xs13, rfl, hs13⟩ := cons_of hs12
        obtain ⟨x14, xs14, rfl, hs14⟩ := cons_of hs13
        obtain ⟨x15, xs15, rfl, hs15⟩ := cons_of hs14
        obtain ⟨x16, xs16, rfl, hs16⟩ := cons_of hs15
        obtain ⟨x17, xs17, rfl, hs17⟩ := cons_of hs16
        obtain ⟨x18, xs18, rfl, hs18⟩ := cons_of hs17
        obtain ⟨x19, xs19, rfl, hs19⟩ := cons_of hs18
        obtain ⟨x20, xs20, rfl, hs20⟩ := cons_of hs19
        obtain ⟨x21, xs21, rfl, hs21⟩ := cons_of hs20
        obtain ⟨x22, xs22, rfl, hs22⟩ := cons_of hs21
        obtain ⟨x23, xs23, rfl, hs23⟩ := cons_of hs22
        obtain ⟨x24, xs24, rfl, hs24⟩ := cons_of hs23
        obtain ⟨x25, xs25, rfl, hs25⟩ := cons_of hs24
        obtain ⟨x26, xs26, rfl, hs26⟩ := cons_of hs25
        obtain ⟨x27, xs27, rfl, hs27⟩ := cons_of hs26
        obtain ⟨x28, xs28, rfl, hs28⟩ := cons_of hs27
        obtain ⟨x29, xs29, rfl, hs29⟩ := cons_of hs28
        obtain ⟨x30, xs30, rfl, hs30⟩ := cons_of hs29
        obtain ⟨x31, xs31, rfl, hs31⟩ := cons_of hs30
        obtain ⟨x32, xs32, rfl, hs32⟩ := cons_of hs31
        obtain ⟨x33, xs33, rfl, hs33⟩ := cons_of hs32
        obtain ⟨x34, xs34, rfl, hs34⟩ := cons_of hs33
        obtain ⟨x35, xs35, rfl, hs35⟩ := cons_of hs34
        obtain ⟨x36, xs36, rfl, hs36⟩ := cons_of hs35
        obtain ⟨x37, xs37, rfl, hs37⟩ := cons_of hs36
        obtain ⟨x38, xs38, rfl, hs38⟩ := cons_of hs37
        obtain ⟨x39, xs39, rfl, hs39⟩ := cons_of hs38
        obtain ⟨x40, xs40, rfl, hs40⟩ := cons_of hs39
        obtain rfl := List.eq_nil_of_length_eq_zero hs40
        clear hsize hs0 hs1 hs2 hs3 hs4 hs5 hs6 hs7 hs8 hs9 hs10 hs11 hs12 hs13 hs14 hs15 hs16 hs17 hs18 hs19 hs20 hs21 hs22 hs23 hs24 hs25 hs26 hs27 hs28 hs29 hs30 hs31 hs32 hs33 hs34 hs35 hs36 hs37 hs38 hs39 hs40
        rw [show (Array.mk (x0 :: x1 :: x2 :: x3 :: x4 :: x5 :: x6 :: x7 :: x8 :: x9 :: x10 :: x11 :: x12 :: x13 :: x14 :: x15 :: x16 :: x17 :: x18 :: x19 :: x20 :: x21 :: x22 :: x23 :: x24 :: x25 :: x26 :: x27 :: x28 :: x29 :: x30 :: x31 :: x32 :: x33 :: x34 :: x35 :: x36 :: x37 :: x38 :: x39 :: x40 :: []) : Array Value) = List.toArray (x0 :: x1 :: x2 :: x3 :: x4 :: x5 :: x6 :: x7 :: x8 :: x9 :: x10 :: x11 :: x12 :: x13 :: x14 :: x15 :: x16 :: x17 :: x18 :: x19 :: x20 :: x21 :: x22 :: x23 :: x24 :: x25 :: x26 :: x27 :: x28 :: x29 :: x30 :: x31 :: x32 :: x33 :: x34 :: x35 :: x36 :: x37 :: x38 :: x39 :: x40 :: []) from rfl]
        change x0 = _ at e0
        subst e0
        change x1 = _ at e1
        subst e1
        change x2 = _ at e2
        subst e2
        change x3 = _ at e3
        subst e3
        change x4 = _ at e4
        subst e4
        change x5 = _ at e5
        subst e5
        change x6 = _ at e6
        subst e6
        change x7 = _ at e7
        subst e7
        change x8 = _ at e8
        subst e8
        change x9 = _ at e9
        subst e9
        change x40 = .bool false at er
        subst er
        go_wp2
        go_roundw
        case rel => exact ⟨i + 1, by omega, by go_num, HT.out, HM.out.same MR.out⟩
        case measure => simp [intOf]; omega
      · obtain ⟨j, hj⟩ : ∃ j, i = j + 1 := ⟨i - 1, by omega⟩
        have hjn : j < n := by omega
        obtain ⟨jp, jn, jc, jl, hk1, dy, ha1⟩ := HG.out j hjn
        rw [← HM.out.cell (a := ⟨b, _, none⟩) hbl (by simp)] at dy
        have HK1 := Lib.hid hk1
        have hw1 : IntKind.i64.wrap ((i : Int) - 1) = (j : Int) := by rw [IntWalk.i64_in _ (by omega)]; omega
        have hidx2 := fun W => hidx W j hjn
        have hx0 : decide (0 < i) = true := by simp; omega
        have hxi : ((0 : Int) < (i : Int)) := by omega
        have HX2 : Hid (riseAt ls i = less jl kl) := by
          unfold Hid; rw [HX.out, hj, Nat.add_sub_cancel, ha1, HMK.out]; simp
        have HLE := fun W (hm : Mod [] wr W) => Lib.hid (qless_any jp kp jn kn jc kc jl kl W ⟨HK1.out.sl.mod (HM.out.same hm) (by simp), HK1.out.wf⟩ ⟨HK.out.sl.mod (HM.out.same hm) (by simp), HK.out.wf⟩)
        generalize less jl kl = LB at *
        clear h0 hj hk1 ha1 HX hidx
        go_wp2_with fail
        refine par_region (by kernel_rfl) (fun oi vs w => kyL p n c i b off kp kn kc j jp jn jc LB oi (vs oi) w) (fun w' => Mod [] wr w') (by kernel_rfl) (fun j vs vs' w o _ h1 _ h2 => by rw [← h1]; exact h2) ⟨⟨⟨⟨⟨⟨⟨⟨⟨⟨⟨⟨⟨⟨⟨⟨⟨⟨⟨⟨⟨⟨⟨⟨⟨⟨⟨⟨⟨⟨⟨trivial, ?_⟩, ?_⟩, ?_⟩, ?_⟩, ?_⟩, ?_⟩, ?_⟩, ?_⟩, ?_⟩, ?_⟩, ?_⟩, ?_⟩, ?_⟩, ?_⟩, ?_⟩, ?_⟩, ?_⟩, ?_⟩, ?_⟩, ?_⟩, ?_⟩, ?_⟩, ?_⟩, ?_⟩, ?_⟩, ?_⟩, ?_⟩, ?_⟩, ?_⟩, ?_⟩, ?_⟩ (Mod.of_drew wr) ?_
        · intro o ho listed vs a w' inv hun haft K hK
          obtain rfl := Option.some.inj ho
          refine par_run rfl ?_
          have e0 := inv.old 0 (by kernel_rfl)
          have INV := Lib.hid inv
          clear inv haft hun ho
          simp at e0
          go_simp
          exact hK _ _ INV.out.inv INV.out.val rfl
        · intro o ho listed vs a w' inv hun haft K hK
          obtain rfl := Option.some.inj ho
          refine par_run rfl ?_
          have e0 := inv.old 3 (by kernel_rfl)
          have INV := Lib.hid inv
          clear inv haft hun ho
          simp at e0
          go_simp
          exact hK _ _ INV.out.inv INV.out.val rfl
        · intro o ho listed vs a w' inv hun haft K hK
          obtain rfl := Option.some.inj ho
          refine par_run rfl ?_
          obtain ⟨e0, r0⟩ := inv.get haft 0 10 (by kernel_rfl) (by kernel_rfl)
          obtain ⟨e1, r1⟩ := inv.get haft 1 11 (by kernel_rfl) (by kernel_rfl)
          have INV := Lib.hid inv
          clear inv haft hun ho
          change vs 0 = .slice p n c at r0
          rw [r0] at e0
          have g0 := getD_opt e0
          change vs 1 = .int .i64 i at r1
          rw [r1] at e1
          have g1 := getD_opt e1
          go_simp
          exact hK _ _ INV.out.inv INV.out.val rfl
        · intro o ho listed vs a w' inv hun haft K hK
          obtain rfl := Option.some.inj ho
          refine par_run rfl ?_
          obtain ⟨e0, r0⟩ := inv.get haft 2 12 (by kernel_rfl) (by kernel_rfl)
          have INV := Lib.hid inv
          clear inv haft hun ho
          change vs 2 = .pointer (some ⟨b, off + i, none⟩) at r0
          rw [r0] at e0
          have g0 := getD_opt e0
          have cx0 := (INV.out.inv.cell (a := ⟨b, _, none⟩) HBL (by simp)).trans d0
          go_simp
          exact hK _ _ INV.out.inv INV.out.val rfl
        · intro o ho listed vs a w' inv hun haft K hK
          obtain rfl := Option.some.inj ho
          refine par_run rfl ?_
          obtain ⟨e0, r0⟩ := inv.get haft 3 13 (by kernel_rfl) (by kernel_rfl)
          have INV := Lib.hid inv
          clear inv haft hun ho
          change vs 3 = .slice kp kn kc at r0
          rw [r0] at e0
          have g0 := getD_opt e0
          go_simp
          exact hK _ _ INV.out.inv INV.out.val rfl
        · intro o ho listed vs a w' inv hun haft K hK
          obtain rfl := Option.some.inj ho
          refine par_run rfl ?_
          obtain ⟨e0, r0⟩ := inv.get haft 4 14 (by kernel_rfl) (by kernel_rfl)
          have INV := Lib.hid inv
          clear inv haft hun ho
          change vs 4 = .int .i64 kn at r0
          rw [r0] at e0
          have g0 := getD_opt e0
          go_simp
          exact hK _ _ INV.out.inv INV.out.val rfl
        · intro o ho listed vs a w' inv hun haft K hK
          obtain rfl := Option.some.inj ho
          refine par_run rfl ?_
          obtain ⟨e0, r0⟩ := inv.get haft 5 15 (by kernel_rfl) (by kernel_rfl)
          have INV := Lib.hid inv
          clear inv haft hun ho
          change vs 5 = .bool false at r0
          rw [r0] at e0
          have g0 := getD_opt e0
          go_simp
          exact hK _ _ INV.out.inv INV.out.val rfl
        · intro o ho listed vs a w' inv hun haft K hK
          obtain rfl := Option.some.inj ho
          obtain ⟨e0, r0⟩ := inv.get haft 6 16 (by kernel_rfl) (by kernel_rfl)
          have e1 := inv.old 0 (by kernel_rfl)
          have INV := Lib.hid inv
          clear inv haft hun ho
          change vs 6 = .bool false at r0
          rw [r0] at e0
          have g0 := getD_opt e0
          simp at e1
          refine par_guard rfl (by kernel_rfl) e0 ?_
          rw [if_pos rfl]
          go_simp
          exact hK _ _ INV.out.inv INV.out.val rfl
        · intro o ho listed vs a w' inv hun haft K hK
          obtain rfl := Option.some.inj ho
          obtain ⟨e0, r0⟩ := inv.get haft 6 16 (by kernel_rfl) (by kernel_rfl)
          have e1 := inv.old 3 (by kernel_rfl)
          have INV := Lib.hid inv
          clear inv haft hun ho
          change vs 6 = .bool false at r0
          rw [r0] at e0
          have g0 := getD_opt e0
          simp at e1
          refine par_guard rfl (by kernel_rfl) e0 ?_
          rw [if_pos rfl]
          go_simp
          exact hK _ _ INV.out.inv INV.out.val rfl
        · intro o ho listed vs a w' inv hun haft K hK
          obtain rfl := Option.some.inj ho
          obtain ⟨e0, r0⟩ := inv.get haft 6 16 (by kernel_rfl) (by kernel_rfl)
          obtain ⟨e1, r1⟩ := inv.get haft 7 17 (by kernel_rfl) (by kernel_rfl)
          obtain ⟨e2, r2⟩ := inv.get haft 8 18 (by kernel_rfl) (by kernel_rfl)
          have INV := Lib.hid inv
          clear inv haft hun ho
          change vs 6 = .bool false at r0
          rw [r0] at e0
          have g0 := getD_opt e0
          change vs 7 = .slice p n c at r1
          rw [r1] at e1
          have g1 := getD_opt e1
          change vs 8 = .int .i64 i at r2
          rw [r2] at e2
          have g2 := getD_opt e2
          refine par_guard rfl (by kernel_rfl) e0 ?_
          rw [if_pos rfl]
          go_simp
          exact hK _ _ INV.out.inv INV.out.val rfl
        · intro o ho listed vs a w' inv hun haft K hK
          obtain rfl := Option.some.inj ho
          obtain ⟨e0, r0⟩ := inv.get haft 6 16 (by kernel_rfl) (by kernel_rfl)
          obtain ⟨e1, r1⟩ := inv.get haft 9 19 (by kernel_rfl) (by kernel_rfl)
          have INV := Lib.hid inv
          clear inv haft hun ho
          change vs 6 = .bool false at r0
          rw [r0] at e0
          have g0 := getD_opt e0
          change vs 9 = .pointer (some ⟨b, off + i, none⟩) at r1
          rw [r1] at e1
          have g1 := getD_opt e1
          have cx0 := (INV.out.inv.cell (a := ⟨b, _, none⟩) HBL (by simp)).trans d0
          refine par_guard rfl (by kernel_rfl) e0 ?_
          rw [if_pos rfl]
          go_simp
          exact hK _ _ INV.out.inv INV.out.val rfl
        · intro o ho listed vs a w' inv hun haft K hK
          obtain rfl := Option.some.inj ho
          obtain ⟨e0, r0⟩ := inv.get haft 6 16 (by kernel_rfl) (by kernel_rfl)
          obtain ⟨e1, r1⟩ := inv.get haft 10 20 (by kernel_rfl) (by kernel_rfl)
          have INV := Lib.hid inv
          clear inv haft hun ho
          change vs 6 = .bool false at r0
          rw [r0] at e0
          have g0 := getD_opt e0
          change vs 10 = .slice kp kn kc at r1
          rw [r1] at e1
          have g1 := getD_opt e1
          refine par_guard rfl (by kernel_rfl) e0 ?_
          rw [if_pos rfl]
          go_simp
          exact hK _ _ INV.out.inv INV.out.val rfl
        · intro o ho listed vs a w' inv hun haft K hK
          obtain rfl := Option.some.inj ho
          obtain ⟨e0, r0⟩ := inv.get haft 6 16 (by kernel_rfl) (by kernel_rfl)
          obtain ⟨e1, r1⟩ := inv.get haft 11 21 (by kernel_rfl) (by kernel_rfl)
          have INV := Lib.hid inv
          clear inv haft hun ho
          change vs 6 = .bool false at r0
          rw [r0] at e0
          have g0 := getD_opt e0
          change vs 11 = .int .i64 kn at r1
          rw [r1] at e1
          have g1 := getD_opt e1
          refine par_guard rfl (by kernel_rfl) e0 ?_
          rw [if_pos rfl]
          go_simp
          exact hK _ _ INV.out.inv INV.out.val rfl
        · intro o ho listed vs a w' inv hun haft K hK
          obtain rfl := Option.some.inj ho
          refine par_run rfl ?_
          obtain ⟨e0, r0⟩ := inv.get haft 6 16 (by kernel_rfl) (by kernel_rfl)
          obtain ⟨e1, r1⟩ := inv.get haft 12 22 (by kernel_rfl) (by kernel_rfl)
          have INV := Lib.hid inv
          clear inv haft hun ho
          change vs 6 = .bool false at r0
          rw [r0] at e0
          have g0 := getD_opt e0
          change vs 12 = .bool false at r1
          rw [r1] at e1
          have g1 := getD_opt e1
          go_simp
          exact hK _ _ INV.out.inv INV.out.val rfl
        · intro o ho listed vs a w' inv hun haft K hK
          obtain rfl := Option.some.inj ho
          refine par_run rfl ?_
          obtain ⟨e0, r0⟩ := inv.get haft 13 23 (by kernel_rfl) (by kernel_rfl)
          have INV := Lib.hid inv
          clear inv haft hun ho
          change vs 13 = .bool false at r0
          rw [r0] at e0
          have g0 := getD_opt e0
          go_simp
          exact hK _ _ INV.out.inv INV.out.val rfl
        · intro o ho listed vs a w' inv hun haft K hK
          obtain rfl := Option.some.inj ho
          obtain ⟨e0, r0⟩ := inv.get haft 14 24 (by kernel_rfl) (by kernel_rfl)
          have e1 := inv.old 3 (by kernel_rfl)
          have INV := Lib.hid inv
          clear inv haft hun ho
          change vs 14 = .bool false at r0
          rw [r0] at e0
          have g0 := getD_opt e0
          simp at e1
          refine par_guard rfl (by kernel_rfl) e0 ?_
          rw [if_pos rfl]
          go_simp
          exact hK _ _ INV.out.inv INV.out.val rfl
        · intro o ho listed vs a w' inv hun haft K hK
          obtain rfl := Option.some.inj ho
          obtain ⟨e0, r0⟩ := inv.get haft 14 24 (by kernel_rfl) (by kernel_rfl)
          obtain ⟨e1, r1⟩ := inv.get haft 15 25 (by kernel_rfl) (by kernel_rfl)
          have INV := Lib.hid inv
          clear inv haft hun ho
          change vs 14 = .bool false at r0
          rw [r0] at e0
          have g0 := getD_opt e0
          change vs 15 = .int .i64 i at r1
          rw [r1] at e1
          have g1 := getD_opt e1
          refine par_guard rfl (by kernel_rfl) e0 ?_
          rw [if_pos rfl]
          go_simp
          exact hK _ _ INV.out.inv INV.out.val rfl
        · intro o ho listed vs a w' inv hun haft K hK
          obtain rfl := Option.some.inj ho
          obtain ⟨e0, r0⟩ := inv.get haft 14 24 (by kernel_rfl) (by kernel_rfl)
          obtain ⟨e1, r1⟩ := inv.get haft 16 26 (by kernel_rfl) (by kernel_rfl)
          have INV := Lib.hid inv
          clear inv haft hun ho
          change vs 14 = .bool false at r0
          rw [r0] at e0
          have g0 := getD_opt e0
          change vs 16 = .bool true at r1
          rw [r1] at e1
          have g1 := getD_opt e1
          refine par_guard rfl (by kernel_rfl) e0 ?_
          rw [if_pos rfl]
          go_simp
          exact hK _ _ INV.out.inv INV.out.val rfl
        · intro o ho listed vs a w' inv hun haft K hK
          obtain rfl := Option.some.inj ho
          obtain ⟨e0, r0⟩ := inv.get haft 17 27 (by kernel_rfl) (by kernel_rfl)
          have e1 := inv.old 0 (by kernel_rfl)
          have INV := Lib.hid inv
          clear inv haft hun ho
          change vs 17 = .bool true at r0
          rw [r0] at e0
          have g0 := getD_opt e0
          simp at e1
          refine par_guard rfl (by kernel_rfl) e0 ?_
          rw [if_pos rfl]
          go_simp
          exact hK _ _ INV.out.inv INV.out.val rfl
        · intro o ho listed vs a w' inv hun haft K hK
          obtain rfl := Option.some.inj ho
          obtain ⟨e0, r0⟩ := inv.get haft 17 27 (by kernel_rfl) (by kernel_rfl)
          have e1 := inv.old 3 (by kernel_rfl)
          have INV := Lib.hid inv
          clear inv haft hun ho
          change vs 17 = .bool true at r0
          rw [r0] at e0
          have g0 := getD_opt e0
          simp at e1
          refine par_guard rfl (by kernel_rfl) e0 ?_
          rw [if_pos rfl]
          go_simp
          exact hK _ _ INV.out.inv INV.out.val rfl
        · intro o ho listed vs a w' inv hun haft K hK
          obtain rfl := Option.some.inj ho
          obtain ⟨e0, r0⟩ := inv.get haft 17 27 (by kernel_rfl) (by kernel_rfl)
          obtain ⟨e1, r1⟩ := inv.get haft 19 29 (by kernel_rfl) (by kernel_rfl)
          have INV := Lib.hid inv
          clear inv haft hun ho
          change vs 17 = .bool true at r0
          rw [r0] at e0
          have g0 := getD_opt e0
          change vs 19 = .int .i64 i at r1
          rw [r1] at e1
          have g1 := getD_opt e1
          refine par_guard rfl (by kernel_rfl) e0 ?_
          rw [if_pos rfl]
          go_simp
          exact hK _ _ INV.out.inv INV.out.val rfl
        · intro o ho listed vs a w' inv hun haft K hK
          obtain rfl := Option.some.inj ho
          obtain ⟨e0, r0⟩ := inv.get haft 17 27 (by kernel_rfl) (by kernel_rfl)
          obtain ⟨e1, r1⟩ := inv.get haft 18 28 (by kernel_rfl) (by kernel_rfl)
          obtain ⟨e2, r2⟩ := inv.get haft 20 30 (by kernel_rfl) (by kernel_rfl)
          have INV := Lib.hid inv
          clear inv haft hun ho
          change vs 17 = .bool true at r0
          rw [r0] at e0
          have g0 := getD_opt e0
          change vs 18 = .slice p n c at r1
          rw [r1] at e1
          have g1 := getD_opt e1
          change vs 20 = .int .i64 j at r2
          rw [r2] at e2
          have g2 := getD_opt e2
          refine par_guard rfl (by kernel_rfl) e0 ?_
          rw [if_pos rfl]
          go_simp
          exact hK _ _ INV.out.inv INV.out.val rfl
        · intro o ho listed vs a w' inv hun haft K hK
          obtain rfl := Option.some.inj ho
          obtain ⟨e0, r0⟩ := inv.get haft 17 27 (by kernel_rfl) (by kernel_rfl)
          obtain ⟨e1, r1⟩ := inv.get haft 21 31 (by kernel_rfl) (by kernel_rfl)
          have INV := Lib.hid inv
          clear inv haft hun ho
          change vs 17 = .bool true at r0
          rw [r0] at e0
          have g0 := getD_opt e0
          change vs 21 = .pointer (some ⟨b, off + j, none⟩) at r1
          rw [r1] at e1
          have g1 := getD_opt e1
          have cy := (INV.out.inv.cell (a := ⟨b, _, none⟩) HBL (by simp)).trans dy
          refine par_guard rfl (by kernel_rfl) e0 ?_
          rw [if_pos rfl]
          go_simp
          exact hK _ _ INV.out.inv INV.out.val rfl
        · intro o ho listed vs a w' inv hun haft K hK
          obtain rfl := Option.some.inj ho
          obtain ⟨e0, r0⟩ := inv.get haft 17 27 (by kernel_rfl) (by kernel_rfl)
          have e1 := inv.old 0 (by kernel_rfl)
          have INV := Lib.hid inv
          clear inv haft hun ho
          change vs 17 = .bool true at r0
          rw [r0] at e0
          have g0 := getD_opt e0
          simp at e1
          refine par_guard rfl (by kernel_rfl) e0 ?_
          rw [if_pos rfl]
          go_simp
          exact hK _ _ INV.out.inv INV.out.val rfl
        · intro o ho listed vs a w' inv hun haft K hK
          obtain rfl := Option.some.inj ho
          obtain ⟨e0, r0⟩ := inv.get haft 17 27 (by kernel_rfl) (by kernel_rfl)
          have e1 := inv.old 3 (by kernel_rfl)
          have INV := Lib.hid inv
          clear inv haft hun ho
          change vs 17 = .bool true at r0
          rw [r0] at e0
          have g0 := getD_opt e0
          simp at e1
          refine par_guard rfl (by kernel_rfl) e0 ?_
          rw [if_pos rfl]
          go_simp
          exact hK _ _ INV.out.inv INV.out.val rfl
        · intro o ho listed vs a w' inv hun haft K hK
          obtain rfl := Option.some.inj ho
          obtain ⟨e0, r0⟩ := inv.get haft 17 27 (by kernel_rfl) (by kernel_rfl)
          obtain ⟨e1, r1⟩ := inv.get haft 23 33 (by kernel_rfl) (by kernel_rfl)
          obtain ⟨e2, r2⟩ := inv.get haft 24 34 (by kernel_rfl) (by kernel_rfl)
          have INV := Lib.hid inv
          clear inv haft hun ho
          change vs 17 = .bool true at r0
          rw [r0] at e0
          have g0 := getD_opt e0
          change vs 23 = .slice p n c at r1
          rw [r1] at e1
          have g1 := getD_opt e1
          change vs 24 = .int .i64 i at r2
          rw [r2] at e2
          have g2 := getD_opt e2
          refine par_guard rfl (by kernel_rfl) e0 ?_
          rw [if_pos rfl]
          go_simp
          exact hK _ _ INV.out.inv INV.out.val rfl
        · intro o ho listed vs a w' inv hun haft K hK
          obtain rfl := Option.some.inj ho
          obtain ⟨e0, r0⟩ := inv.get haft 17 27 (by kernel_rfl) (by kernel_rfl)
          obtain ⟨e1, r1⟩ := inv.get haft 25 35 (by kernel_rfl) (by kernel_rfl)
          have INV := Lib.hid inv
          clear inv haft hun ho
          change vs 17 = .bool true at r0
          rw [r0] at e0
          have g0 := getD_opt e0
          change vs 25 = .pointer (some ⟨b, off + i, none⟩) at r1
          rw [r1] at e1
          have g1 := getD_opt e1
          have cx0 := (INV.out.inv.cell (a := ⟨b, _, none⟩) HBL (by simp)).trans d0
          refine par_guard rfl (by kernel_rfl) e0 ?_
          rw [if_pos rfl]
          go_simp
          exact hK _ _ INV.out.inv INV.out.val rfl
        · intro o ho listed vs a w' inv hun haft K hK
          obtain rfl := Option.some.inj ho
          obtain ⟨e0, r0⟩ := inv.get haft 17 27 (by kernel_rfl) (by kernel_rfl)
          obtain ⟨e1, r1⟩ := inv.get haft 22 32 (by kernel_rfl) (by kernel_rfl)
          obtain ⟨e2, r2⟩ := inv.get haft 26 36 (by kernel_rfl) (by kernel_rfl)
          have INV := Lib.hid inv
          clear inv haft hun ho
          change vs 17 = .bool true at r0
          rw [r0] at e0
          have g0 := getD_opt e0
          change vs 22 = .slice jp jn jc at r1
          rw [r1] at e1
          have g1 := getD_opt e1
          change vs 26 = .slice kp kn kc at r2
          rw [r2] at e2
          have g2 := getD_opt e2
          refine par_guard rfl (by kernel_rfl) e0 ?_
          rw [if_pos rfl]
          go_simp
          refine (HLE _ INV.out.inv).out.mono ?_
          rintro _ w3 ⟨_, rfl, rfl, m3⟩
          exact hK _ _ (INV.out.inv.same m3) (fun j hj hl => kyL_keep m3 (INV.out.val j hj hl)) rfl
        · intro o ho listed vs a w' inv hun haft K hK
          obtain rfl := Option.some.inj ho
          obtain ⟨e0, r0⟩ := inv.get haft 17 27 (by kernel_rfl) (by kernel_rfl)
          obtain ⟨e1, r1⟩ := inv.get haft 27 37 (by kernel_rfl) (by kernel_rfl)
          have INV := Lib.hid inv
          clear inv haft hun ho
          change vs 17 = .bool true at r0
          rw [r0] at e0
          have g0 := getD_opt e0
          change vs 27 = .bool LB at r1
          rw [r1] at e1
          have g1 := getD_opt e1
          refine par_guard rfl (by kernel_rfl) e0 ?_
          rw [if_pos rfl]
          go_simp
          exact hK _ _ INV.out.inv INV.out.val rfl
        · intro o ho listed vs a w' inv hun haft K hK
          obtain rfl := Option.some.inj ho
          obtain ⟨e0, r0⟩ := inv.get haft 14 24 (by kernel_rfl) (by kernel_rfl)
          obtain ⟨e1, r1⟩ := inv.get haft 17 27 (by kernel_rfl) (by kernel_rfl)
          obtain ⟨e2, r2⟩ := inv.get haft 28 38 (by kernel_rfl) (by kernel_rfl)
          have INV := Lib.hid inv
          clear inv haft hun ho
          change vs 14 = .bool false at r0
          rw [r0] at e0
          have g0 := getD_opt e0
          change vs 17 = .bool true at r1
          rw [r1] at e1
          have g1 := getD_opt e1
          change vs 28 = .bool (!LB) at r2
          rw [r2] at e2
          have g2 := getD_opt e2
          refine par_guard rfl (by kernel_rfl) e0 ?_
          rw [if_pos rfl]
          go_simp
          exact hK _ _ INV.out.inv INV.out.val rfl
        · intro o ho listed vs a w' inv hun haft K hK
          obtain rfl := Option.some.inj ho
          refine par_run rfl ?_
          obtain ⟨e0, r0⟩ := inv.get haft 14 24 (by kernel_rfl) (by kernel_rfl)
          obtain ⟨e1, r1⟩ := inv.get haft 29 39 (by kernel_rfl) (by kernel_rfl)
          have INV := Lib.hid inv
          clear inv haft hun ho
          change vs 14 = .bool false at r0
          rw [r0] at e0
          have g0 := getD_opt e0
          change vs 29 = .bool (!LB) at r1
          rw [r1] at e1
          have g1 := getD_opt e1
          go_simp
          exact hK _ _ INV.out.inv INV.out.val rfl
        intro vs w2 X hm hr hslot hold hsize hdef
        have er := hslot 30 40 (by kernel_rfl)
        have h9 := hr 30 (by decide)
        change vs 30 = .bool (!LB) at h9
        rw [h9] at er
        clear h9
        have e0 := hold 0 (by kernel_rfl)
        have e1 := hold 1 (by kernel_rfl)
        have e2 := hold 2 (by kernel_rfl)
        have e3 := hold 3 (by kernel_rfl)
        have e4 := hold 4 (by kernel_rfl)
        have e5 := hold 5 (by kernel_rfl)
        have e6 := hold 6 (by kernel_rfl)
        have e7 := hold 7 (by kernel_rfl)
        have e8 := hold 8 (by kernel_rfl)
        have e9 := hold 9 (by kernel_rfl)
        simp only [Array.getD_eq_getD_getElem?, List.getElem?_toArray, List.getElem?_cons_zero, List.getElem?_cons_succ, Option.getD_some] at e0 e1 e2 e3 e4 e5 e6 e7 e8 e9
        have MR := Lib.hid hm
        clear hr hslot hold hm
        obtain ⟨⟨xs⟩, df⟩ := X
        replace hdef : df = [] := hdef
        subst hdef
        replace hsize : xs.length = 41 := hsize
        obtain ⟨x0, xs0, rfl, hs0⟩ := cons_of hsize
        obtain ⟨x1, xs1, rfl, hs1⟩ := cons_of hs0
        obtain ⟨x2, xs2, rfl, hs2⟩ := cons_of hs1
        obtain ⟨x3, xs3, rfl, hs3⟩ := cons_of hs2
        obtain ⟨x4, xs4, rfl, hs4⟩ := cons_of hs3
        obtain ⟨x5, xs5, rfl, hs5⟩ := cons_of hs4
        obtain ⟨x6, xs6, rfl, hs6⟩ := cons_of hs5
        obtain ⟨x7, xs7, rfl, hs7⟩ := cons_of hs6
        obtain ⟨x8, xs8, rfl, hs8⟩ := cons_of hs7
        obtain ⟨x9, xs9, rfl, hs9⟩ := cons_of hs8
        obtain ⟨x10, xs10, rfl, hs10⟩ := cons_of hs9
        obtain ⟨x11, xs11, rfl, hs11⟩ := cons_of hs10
        obtain ⟨x12, xs12, rfl, hs12⟩ := cons_of hs11
        obtain ⟨x13, xs13, rfl, hs13⟩ := cons_of hs12
        obtain ⟨x14, xs14, rfl, hs14⟩ := cons_of hs13
        obtain ⟨x15, xs15, rfl, hs15⟩ := cons_of hs14
        obtain ⟨x16, xs16, rfl, hs16⟩ := cons_of hs15
        obtain ⟨x17, xs17, rfl, hs17⟩ := cons_of hs16
        obtain ⟨x18, xs18, rfl, hs18⟩ := cons_of hs17
        obtain ⟨x19, xs19, rfl, hs19⟩ := cons_of hs18
        obtain ⟨x20, xs20, rfl, hs20⟩ := cons_of hs19
        obtain ⟨x21, xs21, rfl, hs21⟩ := cons_of hs20
        obtain ⟨x22, xs22, rfl, hs22⟩ := cons_of hs21
        obtain ⟨x23, xs23, rfl, hs23⟩ := cons_of hs22
        obtain ⟨x24, xs24, rfl, hs24⟩ := cons_of hs23
        obtain ⟨x25, xs25, rfl, hs25⟩ := cons_of hs24
        obtain ⟨x26, xs26, rfl, hs26⟩ := cons_of hs25
        obtain ⟨x27, xs27, rfl, hs27⟩ := cons_of hs26
        obtain ⟨x28, xs28, rfl, hs28⟩ := cons_of hs27
        obtain ⟨x29, xs29, rfl, hs29⟩ := cons_of hs28
        obtain ⟨x30, xs30, rfl, hs30⟩ := cons_of hs29
        obtain ⟨x31, xs31, rfl, hs31⟩ := cons_of hs30
        obtain ⟨x32, xs32, rfl, hs32⟩ := cons_of hs31
        obtain ⟨x33, xs33, rfl, hs33⟩ := cons_of hs32
        obtain ⟨x34, xs34, rfl, hs34⟩ := cons_of hs33
        obtain ⟨x35, xs35, rfl, hs35⟩ := cons_of hs34
        obtain ⟨x36, xs36, rfl, hs36⟩ := cons_of hs35
        obtain ⟨x37, xs37, rfl, hs37⟩ := cons_of hs36
        obtain ⟨x38, xs38, rfl, hs38⟩ := cons_of hs37
        obtain ⟨x39, xs39, rfl, hs39⟩ := cons_of hs38
        obtain ⟨x40, xs40, rfl, hs40⟩ := cons_of hs39
        obtain rfl := List.eq_nil_of_length_eq_zero hs40
        clear hsize hs0 hs1 hs2 hs3 hs4 hs5 hs6 hs7 hs8 hs9 hs10 hs11 hs12 hs13 hs14 hs15 hs16 hs17 hs18 hs19 hs20 hs21 hs22 hs23 hs24 hs25 hs26 hs27 hs28 hs29 hs30 hs31 hs32 hs33 hs34 hs35 hs36 hs37 hs38 hs39 hs40
        rw [show (Array.mk (x0 :: x1 :: x2 :: x3 :: x4 :: x5 :: x6 :: x7 :: x8 :: x9 :: x10 :: x11 :: x12 :: x13 :: x14 :: x15 :: x16 :: x17 :: x18 :: x19 :: x20 :: x21 :: x22 :: x23 :: x24 :: x25 :: x26 :: x27 :: x28 :: x29 :: x30 :: x31 :: x32 :: x33 :: x34 :: x35 :: x36 :: x37 :: x38 :: x39 :: x40 :: []) : Array Value) = List.toArray (x0 :: x1 :: x2 :: x3 :: x4 :: x5 :: x6 :: x7 :: x8 :: x9 :: x10 :: x11 :: x12 :: x13 :: x14 :: x15 :: x16 :: x17 :: x18 :: x19 :: x20 :: x21 :: x22 :: x23 :: x24 :: x25 :: x26 :: x27 :: x28 :: x29 :: x30 :: x31 :: x32 :: x33 :: x34 :: x35 :: x36 :: x37 :: x38 :: x39 :: x40 :: []) from rfl]
        change x0 = _ at e0
        subst e0
        change x1 = _ at e1
        subst e1
        change x2 = _ at e2
        subst e2
        change x3 = _ at e3
        subst e3
        change x4 = _ at e4
        subst e4
        change x5 = _ at e5
        subst e5
        change x6 = _ at e6
        subst e6
        change x7 = _ at e7
        subst e7
        change x8 = _ at e8
        subst e8
        change x9 = _ at e9
        subst e9
        change x40 = .bool (!LB) at er
        subst er
        cases LB with
        | true =>
          have HT : Hid (riseTo ls (i + 1) = true) := by rw [HS.out, HX2.out]; rfl
          go_wp2
          go_roundw
          case rel => exact ⟨i + 1, by omega, by go_num, HT.out, HM.out.same MR.out⟩
          case measure => simp [intOf]; omega
        | false =>
          have HF : Hid (riseL ls = false) := HB.out HX2.out
          go_wp2
          go_ret
          exact .mk ⟨by rw [HF.out] <;> rfl, HM.out.same MR.out⟩
    · obtain rfl : i = n := by omega
      go_wp2
      go_ret
      exact .mk ⟨by rw [HALL.out, HRI.out] <;> rfl, HM.out⟩
end Go.Proofs.YtgimdodbajhpoaaGreatDoor
