/- Roots: the document's With. -/
import Derived.Test.YtpdkkokgpdabhaaDoorG05
namespace Go.Proofs.YtpdkkokgpdabhaaDoor
open Go.RowKit Go.Maps
set_option linter.unusedSimpArgs false
set_option linter.unusedVariables false

def posR : List Rt → List Int → Nat
  | [], _ => 0
  | x :: t, l => if less x.l l = true then posR t l + 1 else 0
theorem own_empty' (w : World) (T : TypeId) (size base : Nat) (hb : base ≤ w.heap.size) : (w.alloc (.cells #[] T)).ownsRow base T size (.slice (some ⟨w.heap.size, 0, none⟩) 0 0) 0 [] :=
  ⟨by simp, Or.inr ⟨w.heap.size, 0, #[], rfl, hb, at_alloc w _, by omega, by unfold maxLen; omega, by simp, by simp⟩⟩
theorem posR_of : ∀ {rs : List Rt} {l : List Int} {i : Nat}, i ≤ rs.length → (∀ j, j < i → less (rs.getD j default).l l = true) → (i = rs.length ∨ less (rs.getD i default).l l = false) → posR rs l = i
  | [], l, i, h1, _, _ => by simp at h1; subst h1; rfl
  | x :: t, l, 0, h1, h2, h3 => by
    rcases h3 with h | h
    · simp at h
    · have h' : less x.l l = false := h
      unfold posR; rw [if_neg (by simp [h'])]
  | x :: t, l, i + 1, h1, h2, h3 => by
    have h0 : less x.l l = true := h2 0 (by omega)
    unfold posR
    rw [if_pos h0, posR_of (i := i) (by simpa using h1) (fun j hj => h2 (j + 1) (by omega)) (by simpa using h3)]
def insR (rs : List Rt) (r : Rt) : List Rt := rs.take (posR rs r.l) ++ (r :: rs.drop (posR rs r.l))
def withQ (rs : List Rt) (r : Rt) : List Rt × Int := if r.ok = true then (if 12 ≤ (withoutR rs r.l).length then ([], 6) else (insR (withoutR rs r.l) r, 0)) else ([], 1)
def WithRes (x : List Rt × Int) (w : World) (v : Value) (w' : World) : Prop := ∃ p n c, v = .tuple #[.slice p n c, .int .i64 x.2] ∧ RtsIn w' p n c x.1 ∧ Mod [] w w'

def wqE (p : Option Addr) (n c i : Nat) (oi : Nat) (v : Value) (w : World) : Prop :=
  match oi with
  | 0 => v = .int .i64 i
  | 1 => v = .slice p n c
  | 2 => v = .int .i64 n
  | 3 => v = .bool false
  | 4 => v = .bool false
  | 5 => v = undef
  | 6 => v = undef
  | 7 => v = undef
  | 8 => v = undef
  | 9 => v = undef
  | 10 => v = undef
  | 11 => v = undef
  | 12 => v = undef
  | 13 => v = undef
  | 14 => v = undef
  | 15 => v = .bool false
  | _ => True
theorem wqE_keep {p : Option Addr} {n c i : Nat} {oi : Nat} {v : Value} {w w' : World} (hm : Mod [] w w') (hr : wqE p n c i oi v w) : wqE p n c i oi v w' := by
  have hk := Keep.of_mod hm
  unfold wqE at hr ⊢
  split at hr
  · exact hr
  · exact hr
  · exact hr
  · exact hr
  · exact hr
  · exact hr
  · exact hr
  · exact hr
  · exact hr
  · exact hr
  · exact hr
  · exact hr
  · exact hr
  · exact hr
  · exact hr
  · exact hr
  · trivial
def wqL (p : Option Addr) (n c i b off B : Nat) (l2 l : List Int) (LB : Bool) (oi : Nat) (v : Value) (w : World) : Prop :=
  match oi with
  | 0 => v = .int .i64 i
  | 1 => v = .slice p n c
  | 2 => v = .int .i64 n
  | 3 => v = .bool true
  | 4 => v = .bool true
  | 5 => v = .slice p n c
  | 6 => v = .int .i64 i
  | 7 => v = .pointer (some ⟨b, off + i * 3, none⟩)
  | 8 => v = .pointer (some ⟨b, off + i * 3, none⟩)
  | 9 => v = .string (strOfNums l2)
  | 10 => ∃ p c, v = .slice p l2.length c ∧ Sl w 1 p l2.length c (bs l2) ∧ p ≠ none
  | 11 => v = .pointer (some ⟨B, 0, none⟩)
  | 12 => v = .string (strOfNums l)
  | 13 => ∃ p c, v = .slice p l.length c ∧ Sl w 1 p l.length c (bs l) ∧ p ≠ none
  | 14 => v = .bool LB
  | 15 => v = .bool LB
  | _ => True
theorem wqL_keep {p : Option Addr} {n c i b off B : Nat} {l2 l : List Int} {LB : Bool} {oi : Nat} {v : Value} {w w' : World} (hm : Mod [] w w') (hr : wqL p n c i b off B l2 l LB oi v w) : wqL p n c i b off B l2 l LB oi v w' := by
  have hk := Keep.of_mod hm
  unfold wqL at hr ⊢
  split at hr
  · exact hr
  · exact hr
  · exact hr
  · exact hr
  · exact hr
  · exact hr
  · exact hr
  · exact hr
  · exact hr
  · exact hr
  · obtain ⟨p, c, h1, h2, h3⟩ := hr; exact ⟨p, c, h1, h2.keep hk, h3⟩
  · exact hr
  · exact hr
  · obtain ⟨p, c, h1, h2, h3⟩ := hr; exact ⟨p, c, h1, h2.keep hk, h3⟩
  · exact hr
  · exact hr
  · trivial
set_option maxRecDepth 100000 in
set_option maxHeartbeats 8000000 in
theorem qwith_any (q : Option Addr) (m d : Nat) (rs : List Rt) (r : Rt) (w : World) (h : RtsIn w q m d rs) (hr : r.wf) (hn : m ≤ 1000) :
    Calls Tryd.prog 17 #[.slice q m d, r.val] w (Ret (WithRes (withQ rs r) w)) := by
  obtain ⟨l, pg, ct⟩ := r
  have HWF : Hid ((⟨l, pg, ct⟩ : Rt).wf) := hr
  have HONE : ∀ W, Hid (Calls Tryd.prog 29 #[.agg #[.string (strOfNums l), .int .i64 pg, .int .i64 ct]] W (Ret (BoolM (Rt.ok ⟨l, pg, ct⟩) W))) := fun W => Lib.hid (qone_any ⟨l, pg, ct⟩ W hr.1 (Nat.le_trans hr.2 (by decide)))
  have HWO := fun W (hm : Mod [] w W) => Lib.hid (qwithout_any q m d rs l W (h.mod0 hm) hr.1 hn)
  have HV : Hid (withQ rs ⟨l, pg, ct⟩ = if Rt.ok ⟨l, pg, ct⟩ = true then (if 12 ≤ (withoutR rs l).length then ([], 6) else (insR (withoutR rs l) ⟨l, pg, ct⟩, 0)) else ([], 1)) := rfl
  have HA := Lib.hid (at_alloc w (.cells #[.string (strOfNums l), .int .i64 pg, .int .i64 ct] 34))
  have HM0 : Hid (Mod [] w (w.alloc (.cells #[.string (strOfNums l), .int .i64 pg, .int .i64 ct] 34))) := Mod.of_alloc w _
  generalize withQ rs ⟨l, pg, ct⟩ = V at *
  generalize Rt.ok ⟨l, pg, ct⟩ = M at *
  clear h hr
  have e0 : (w.alloc (.cells #[.string (strOfNums l), .int .i64 pg, .int .i64 ct] 34)).cell? ⟨w.heap.size, 0, none⟩ = some (.string (strOfNums l)) := cell_of_at HA.out 0
  have e1 : (w.alloc (.cells #[.string (strOfNums l), .int .i64 pg, .int .i64 ct] 34)).cell? ⟨w.heap.size, 1, none⟩ = some (.int .i64 pg) := cell_of_at HA.out 1
  have e2 : (w.alloc (.cells #[.string (strOfNums l), .int .i64 pg, .int .i64 ct] 34)).cell? ⟨w.heap.size, 2, none⟩ = some (.int .i64 ct) := cell_of_at HA.out 2
  unfold Rt.val
  simp only
  go_enter Tryd.func17, Tryd.ntmps17
  go_wp2_with fail
  refine (HONE _).out.mono ?_
  rintro _ w1 ⟨_, rfl, rfl, m1⟩
  have M1 : Hid (Mod [] w w1) := HM0.out.same m1
  have HA1 := Lib.hid (m1.at HA.out (by simp))
  obtain ⟨B, hB⟩ : ∃ B, B = w.heap.size := ⟨_, rfl⟩
  rw [← hB] at HA1 ⊢
  have HBE := Lib.hid hB
  clear m1 e0 e1 e2 HA HM0 HONE hB
  cases M with
  | false =>
    have HV1 : Hid (V = ([], 1)) := by unfold Hid; rw [HV.out]; rfl
    go_wp2
    go_ret2
    exact .mk (by rw [HV1.out]; exact ⟨none, 0, 0, rfl, RtsIn.nil _, M1.out⟩)
  | true =>
    have e0 : w1.cell? ⟨B, 0, none⟩ = some (.string (strOfNums l)) := cell_of_at HA1.out 0
    go_wp2_with fail
    refine (HWO _ M1.out).out.mono ?_
    rintro _ w2 ⟨_, rfl, p, n, c, rfl, hin, m2⟩
    have HIN := Lib.hid hin
    have HA2 := Lib.hid (m2.at HA1.out (by simp))
    have M2 : Hid (Mod [] w w2) := M1.out.same m2
    have HL := Lib.hid hin.len
    replace HV : Hid (V = if 12 ≤ (withoutR rs l).length then ([], 6) else (insR (withoutR rs l) ⟨l, pg, ct⟩, 0)) := by unfold Hid; rw [HV.out, if_pos trivial]
    generalize withoutR rs l = RS at *
    clear m2 hin e0 HA1 M1 HWO
    by_cases h12 : 12 ≤ n
    · have HV1 : Hid (V = ([], 6)) := by unfold Hid; rw [HV.out, HL.out, if_pos h12]
      go_wp2
      go_ret2
      exact .mk (by rw [HV1.out]; exact ⟨none, 0, 0, rfl, RtsIn.nil _, M2.out⟩)
    · have HV1 : Hid (V = (insR RS ⟨l, pg, ct⟩, 0)) := by unfold Hid; rw [HV.out, HL.out, if_neg h12]
      have k0 : w2.cell? ⟨B, 0, none⟩ = some (.string (strOfNums l)) := cell_of_at HA2.out 0
      have k1 : w2.cell? ⟨B, 1, none⟩ = some (.int .i64 pg) := cell_of_at HA2.out 1
      have k2 : w2.cell? ⟨B, 2, none⟩ = some (.int .i64 ct) := cell_of_at HA2.out 2
      have hBl : B < w2.heap.size := lt_of_at HA2.out
      have hn12 : n < 12 := by omega
      clear h12 HV
      obtain ⟨b, off, hp, hcs⟩ := HIN.out.sl.at_
      have hidx := fun W => Sl.idx (P := Tryd.prog) (cap := c) Tryd.underlying22 sizeRoots (fun h => (hp h).1) W .i64
      have HLT : Hid (0 < n → b < w2.heap.size) := fun h => (hp h).2
      have HG := Lib.hid (fun i hi => HIN.out.get hcs i hi)
      clear hp hcs
      go_wp2
      go_loopw [7] (fun iv wr => ∃ i : Nat, i ≤ n ∧ iv = .int .i64 i ∧ (∀ j, j < i → less (RS.getD j default).l l = true) ∧ Mod [] w2 wr) (fun iv _ => n - (intOf iv).toNat)
      case atStart => exact ⟨0, Nat.zero_le _, rfl, by omega, Mod.refl _ _⟩
      case round =>
        obtain ⟨i, hi, rfl, hall, hm⟩ := hrel
        have HALL := Lib.hid hall
        have HM := Lib.hid hm
        clear hall hm
        have hc1 := (HM.out.cell (a := ⟨B, 0, none⟩) hBl (by simp)).trans k0
        by_cases hlt : i < n
        · obtain ⟨l2, pg2, ct2, hr2, hwf2, d0, -, -⟩ := HG.out i hlt
          rw [← HM.out.cell (a := ⟨b, _, none⟩) (HLT.out (by omega)) (by simp)] at d0
          have HBL : b < wr.heap.size := Nat.lt_of_lt_of_le (HLT.out (by omega)) HM.out.size
          have hBl' : B < wr.heap.size := Nat.lt_of_lt_of_le hBl HM.out.size
          have HWF2 := Lib.hid hwf2
          have HR2 := Lib.hid hr2
          have hidx1 := fun W => hidx W i hlt
          have hwi : IntKind.i64.wrap ((i : Int) + 1) = (i : Int) + 1 := IntWalk.i64_in _ (by omega)
          have hz1 : decide (i < n) = true := by simp; omega
          have hz2 : decide ((i : Int) < (n : Int)) = true := by simp; omega
          have HLE := fun W p1 c1 p2 c2 (s1 : Sl W 1 p1 l2.length c1 (bs l2)) (s2 : Sl W 1 p2 l.length c2 (bs l)) => Lib.hid (qless_any p1 p2 l2.length l.length c1 c2 l2 l W ⟨s1, HWF2.out.1⟩ ⟨s2, HWF.out.1⟩)
          have HLD : Hid (less (RS.getD i default).l l = less l2 l) := by unfold Hid; rw [HR2.out]
          generalize less l2 l = LB at *
          clear hr2 hwf2
          have k0s := Lib.hid k0
          have hBls := Lib.hid hBl
          clear k0 hBl
          have k0 := hc1
          have hBl := hBl'
          go_wp2_with fail
          refine par_region (by kernel_rfl) (fun oi vs w => wqL p n c i b off B l2 l LB oi (vs oi) w) (fun w' => Mod [] wr w') (by kernel_rfl) (fun j vs vs' w o _ h1 _ h2 => by rw [← h1]; exact h2) ⟨⟨⟨⟨⟨⟨⟨⟨⟨⟨⟨⟨⟨⟨⟨⟨trivial, ?_⟩, ?_⟩, ?_⟩, ?_⟩, ?_⟩, ?_⟩, ?_⟩, ?_⟩, ?_⟩, ?_⟩, ?_⟩, ?_⟩, ?_⟩, ?_⟩, ?_⟩, ?_⟩ (Mod.of_drew wr) ?_
          · intro o ho listed vs a w' inv hun haft K hK
            obtain rfl := Option.some.inj ho
            refine par_run rfl ?_
            have e0 := inv.old 7 (by kernel_rfl)
            have INV := Lib.hid inv
            clear inv haft hun ho
            simp at e0
            go_simp
            exact hK _ _ INV.out.inv INV.out.val rfl
          · intro o ho listed vs a w' inv hun haft K hK
            obtain rfl := Option.some.inj ho
            refine par_run rfl ?_
            have e0 := inv.old 6 (by kernel_rfl)
            have INV := Lib.hid inv
            clear inv haft hun ho
            simp at e0
            go_simp
            exact hK _ _ INV.out.inv INV.out.val rfl
          · intro o ho listed vs a w' inv hun haft K hK
            obtain rfl := Option.some.inj ho
            refine par_run rfl ?_
            obtain ⟨e0, r0⟩ := inv.get haft 1 19 (by kernel_rfl) (by kernel_rfl)
            have INV := Lib.hid inv
            clear inv haft hun ho
            change vs 1 = .slice p n c at r0
            rw [r0] at e0
            have g0 := getD_opt e0
            go_simp
            exact hK _ _ INV.out.inv INV.out.val rfl
          · intro o ho listed vs a w' inv hun haft K hK
            obtain rfl := Option.some.inj ho
            refine par_run rfl ?_
            obtain ⟨e0, r0⟩ := inv.get haft 0 18 (by kernel_rfl) (by kernel_rfl)
            obtain ⟨e1, r1⟩ := inv.get haft 2 20 (by kernel_rfl) (by kernel_rfl)
            have INV := Lib.hid inv
            clear inv haft hun ho
            change vs 0 = .int .i64 i at r0
            rw [r0] at e0
            have g0 := getD_opt e0
            change vs 2 = .int .i64 n at r1
            rw [r1] at e1
            have g1 := getD_opt e1
            go_simp
            exact hK _ _ INV.out.inv INV.out.val rfl
          · intro o ho listed vs a w' inv hun haft K hK
            obtain rfl := Option.some.inj ho
            refine par_run rfl ?_
            obtain ⟨e0, r0⟩ := inv.get haft 3 21 (by kernel_rfl) (by kernel_rfl)
            have INV := Lib.hid inv
            clear inv haft hun ho
            change vs 3 = .bool true at r0
            rw [r0] at e0
            have g0 := getD_opt e0
            go_simp
            exact hK _ _ INV.out.inv INV.out.val rfl
          · intro o ho listed vs a w' inv hun haft K hK
            obtain rfl := Option.some.inj ho
            obtain ⟨e0, r0⟩ := inv.get haft 4 22 (by kernel_rfl) (by kernel_rfl)
            have e1 := inv.old 6 (by kernel_rfl)
            have INV := Lib.hid inv
            clear inv haft hun ho
            change vs 4 = .bool true at r0
            rw [r0] at e0
            have g0 := getD_opt e0
            simp at e1
            refine par_guard rfl (by kernel_rfl) e0 ?_
            rw [if_pos rfl]
            go_simp
            exact hK _ _ INV.out.inv INV.out.val rfl
          · intro o ho listed vs a w' inv hun haft K hK
            obtain rfl := Option.some.inj ho
            obtain ⟨e0, r0⟩ := inv.get haft 4 22 (by kernel_rfl) (by kernel_rfl)
            have e1 := inv.old 7 (by kernel_rfl)
            have INV := Lib.hid inv
            clear inv haft hun ho
            change vs 4 = .bool true at r0
            rw [r0] at e0
            have g0 := getD_opt e0
            simp at e1
            refine par_guard rfl (by kernel_rfl) e0 ?_
            rw [if_pos rfl]
            go_simp
            exact hK _ _ INV.out.inv INV.out.val rfl
          · intro o ho listed vs a w' inv hun haft K hK
            obtain rfl := Option.some.inj ho
            obtain ⟨e0, r0⟩ := inv.get haft 4 22 (by kernel_rfl) (by kernel_rfl)
            obtain ⟨e1, r1⟩ := inv.get haft 5 23 (by kernel_rfl) (by kernel_rfl)
            obtain ⟨e2, r2⟩ := inv.get haft 6 24 (by kernel_rfl) (by kernel_rfl)
            have INV := Lib.hid inv
            clear inv haft hun ho
            change vs 4 = .bool true at r0
            rw [r0] at e0
            have g0 := getD_opt e0
            change vs 5 = .slice p n c at r1
            rw [r1] at e1
            have g1 := getD_opt e1
            change vs 6 = .int .i64 i at r2
            rw [r2] at e2
            have g2 := getD_opt e2
            refine par_guard rfl (by kernel_rfl) e0 ?_
            rw [if_pos rfl]
            go_simp
            exact hK _ _ INV.out.inv INV.out.val rfl
          · intro o ho listed vs a w' inv hun haft K hK
            obtain rfl := Option.some.inj ho
            obtain ⟨e0, r0⟩ := inv.get haft 4 22 (by kernel_rfl) (by kernel_rfl)
            obtain ⟨e1, r1⟩ := inv.get haft 7 25 (by kernel_rfl) (by kernel_rfl)
            have INV := Lib.hid inv
            clear inv haft hun ho
            change vs 4 = .bool true at r0
            rw [r0] at e0
            have g0 := getD_opt e0
            change vs 7 = .pointer (some ⟨b, off + i * 3, none⟩) at r1
            rw [r1] at e1
            have g1 := getD_opt e1
            refine par_guard rfl (by kernel_rfl) e0 ?_
            rw [if_pos rfl]
            go_simp
            exact hK _ _ INV.out.inv INV.out.val rfl
          · intro o ho listed vs a w' inv hun haft K hK
            obtain rfl := Option.some.inj ho
            obtain ⟨e0, r0⟩ := inv.get haft 4 22 (by kernel_rfl) (by kernel_rfl)
            obtain ⟨e1, r1⟩ := inv.get haft 8 26 (by kernel_rfl) (by kernel_rfl)
            have INV := Lib.hid inv
            clear inv haft hun ho
            change vs 4 = .bool true at r0
            rw [r0] at e0
            have g0 := getD_opt e0
            change vs 8 = .pointer (some ⟨b, off + i * 3, none⟩) at r1
            rw [r1] at e1
            have g1 := getD_opt e1
            have cy := (INV.out.inv.cell (a := ⟨b, _, none⟩) HBL (by simp)).trans d0
            refine par_guard rfl (by kernel_rfl) e0 ?_
            rw [if_pos rfl]
            go_simp
            exact hK _ _ INV.out.inv INV.out.val rfl
          · intro o ho listed vs a w' inv hun haft K hK
            obtain rfl := Option.some.inj ho
            obtain ⟨e0, r0⟩ := inv.get haft 4 22 (by kernel_rfl) (by kernel_rfl)
            obtain ⟨e1, r1⟩ := inv.get haft 9 27 (by kernel_rfl) (by kernel_rfl)
            have INV := Lib.hid inv
            clear inv haft hun ho
            change vs 4 = .bool true at r0
            rw [r0] at e0
            have g0 := getD_opt e0
            change vs 9 = .string (strOfNums l2) at r1
            rw [r1] at e1
            have g1 := getD_opt e1
            refine par_guard rfl (by kernel_rfl) e0 ?_
            rw [if_pos rfl]
            obtain ⟨c9, W9, hr9, s9, m9, _⟩ := run_sbytes HWF2.out.1 HWF2.out.2 w'
            go_simp
            exact hK _ _ (INV.out.inv.same m9) (fun j hj hl => wqL_keep m9 (INV.out.val j hj hl)) ⟨_, _, rfl, s9, by simp⟩
          · intro o ho listed vs a w' inv hun haft K hK
            obtain rfl := Option.some.inj ho
            obtain ⟨e0, r0⟩ := inv.get haft 4 22 (by kernel_rfl) (by kernel_rfl)
            have e1 := inv.old 3 (by kernel_rfl)
            have INV := Lib.hid inv
            clear inv haft hun ho
            change vs 4 = .bool true at r0
            rw [r0] at e0
            have g0 := getD_opt e0
            simp at e1
            refine par_guard rfl (by kernel_rfl) e0 ?_
            rw [if_pos rfl]
            go_simp
            exact hK _ _ INV.out.inv INV.out.val rfl
          · intro o ho listed vs a w' inv hun haft K hK
            obtain rfl := Option.some.inj ho
            obtain ⟨e0, r0⟩ := inv.get haft 4 22 (by kernel_rfl) (by kernel_rfl)
            obtain ⟨e1, r1⟩ := inv.get haft 11 29 (by kernel_rfl) (by kernel_rfl)
            have INV := Lib.hid inv
            clear inv haft hun ho
            change vs 4 = .bool true at r0
            rw [r0] at e0
            have g0 := getD_opt e0
            change vs 11 = .pointer (some ⟨B, 0, none⟩) at r1
            rw [r1] at e1
            have g1 := getD_opt e1
            have c0 := (INV.out.inv.cell (a := ⟨B, 0, none⟩) hBl (by simp)).trans k0
            refine par_guard rfl (by kernel_rfl) e0 ?_
            rw [if_pos rfl]
            go_simp
            exact hK _ _ INV.out.inv INV.out.val rfl
          · intro o ho listed vs a w' inv hun haft K hK
            obtain rfl := Option.some.inj ho
            obtain ⟨e0, r0⟩ := inv.get haft 4 22 (by kernel_rfl) (by kernel_rfl)
            obtain ⟨e1, r1⟩ := inv.get haft 12 30 (by kernel_rfl) (by kernel_rfl)
            have INV := Lib.hid inv
            clear inv haft hun ho
            change vs 4 = .bool true at r0
            rw [r0] at e0
            have g0 := getD_opt e0
            change vs 12 = .string (strOfNums l) at r1
            rw [r1] at e1
            have g1 := getD_opt e1
            refine par_guard rfl (by kernel_rfl) e0 ?_
            rw [if_pos rfl]
            obtain ⟨c9, W9, hr9, s9, m9, _⟩ := run_sbytes HWF.out.1 HWF.out.2 w'
            go_simp
            exact hK _ _ (INV.out.inv.same m9) (fun j hj hl => wqL_keep m9 (INV.out.val j hj hl)) ⟨_, _, rfl, s9, by simp⟩
          · intro o ho listed vs a w' inv hun haft K hK
            obtain rfl := Option.some.inj ho
            obtain ⟨e0, r0⟩ := inv.get haft 4 22 (by kernel_rfl) (by kernel_rfl)
            obtain ⟨e1, r1⟩ := inv.get haft 10 28 (by kernel_rfl) (by kernel_rfl)
            obtain ⟨e2, r2⟩ := inv.get haft 13 31 (by kernel_rfl) (by kernel_rfl)
            have INV := Lib.hid inv
            clear inv haft hun ho
            change vs 4 = .bool true at r0
            rw [r0] at e0
            have g0 := getD_opt e0
            obtain ⟨p1, c1, h1, s1, q1⟩ := r1
            rw [h1] at e1
            have g1 := getD_opt e1
            obtain ⟨p2, c2, h2, s2, q2⟩ := r2
            rw [h2] at e2
            have g2 := getD_opt e2
            refine par_guard rfl (by kernel_rfl) e0 ?_
            rw [if_pos rfl]
            have S1 := Lib.hid s1
            have S2 := Lib.hid s2
            clear s1 s2 q1 q2
            go_simp
            refine (HLE _ _ _ _ _ S1.out S2.out).out.mono ?_
            rintro _ w3 ⟨_, rfl, rfl, m3⟩
            exact hK _ _ (INV.out.inv.same m3) (fun j hj hl => wqL_keep m3 (INV.out.val j hj hl)) rfl
          · intro o ho listed vs a w' inv hun haft K hK
            obtain rfl := Option.some.inj ho
            refine par_run rfl ?_
            obtain ⟨e0, r0⟩ := inv.get haft 4 22 (by kernel_rfl) (by kernel_rfl)
            obtain ⟨e1, r1⟩ := inv.get haft 14 32 (by kernel_rfl) (by kernel_rfl)
            have INV := Lib.hid inv
            clear inv haft hun ho
            change vs 4 = .bool true at r0
            rw [r0] at e0
            have g0 := getD_opt e0
            change vs 14 = .bool LB at r1
            rw [r1] at e1
            have g1 := getD_opt e1
            go_simp
            exact hK _ _ INV.out.inv INV.out.val rfl
          intro vs w2 X hm hr hslot hold hsize hdef
          have er := hslot 15 33 (by kernel_rfl)
          have h9 := hr 15 (by decide)
          change vs 15 = .bool LB at h9
          rw [h9] at er
          clear h9
          have e0 := hold 0 (by kernel_rfl)
          have e1 := hold 1 (by kernel_rfl)
          have e2 := hold 2 (by kernel_rfl)
          have e3 := hold 3 (by kernel_rfl)
          have e4 := hold 4 (by kernel_rfl)
          have e5 := hold 5 (by kernel_rfl)
          have e6 := hold 6 (by kernel_rfl)
          have e7 := hold 7 (by kernel_rfl)
          have e8 := hold 8 (by kernel_rfl)
          have e9 := hold 9 (by kernel_rfl)
          have e10 := hold 10 (by kernel_rfl)
          have e11 := hold 11 (by kernel_rfl)
          have e12 := hold 12 (by kernel_rfl)
          have e13 := hold 13 (by kernel_rfl)
          have e14 := hold 14 (by kernel_rfl)
          have e15 := hold 15 (by kernel_rfl)
          have e16 := hold 16 (by kernel_rfl)
          have e17 := hold 17 (by kernel_rfl)
          have e34 := hold 34 (by kernel_rfl)
          have e35 := hold 35 (by kernel_rfl)
          have e36 := hold 36 (by kernel_rfl)
          have e37 := hold 37 (by kernel_rfl)
          have e38 := hold 38 (by kernel_rfl)
          have e39 := hold 39 (by kernel_rfl)
          have e40 := hold 40 (by kernel_rfl)
          have e41 := hold 41 (by kernel_rfl)
          have e42 := hold 42 (by kernel_rfl)
          have e43 := hold 43 (by kernel_rfl)
          have e44 := hold 44 (by kernel_rfl)
          have e45 := hold 45 (by kernel_rfl)
          have e46 := hold 46 (by kernel_rfl)
          have e47 := hold 47 (by kernel_rfl)
          simp only [Array.getD_eq_getD_getElem?, List.getElem?_toArray, List.getElem?_cons_zero, List.getElem?_cons_succ, Option.getD_some] at e0 e1 e2 e3 e4 e5 e6 e7 e8 e9 e10 e11 e12 e13 e14 e15 e16 e17 e34 e35 e36 e37 e38 e39 e40 e41 e42 e43 e44 e45 e46 e47
          have MR := Lib.hid hm
          clear hr hslot hold hm
          obtain ⟨⟨xs⟩, df⟩ := X
          replace hdef : df = [] := hdef
          subst hdef
          replace hsize : xs.length = 48 := hsize
          obtain ⟨x0, xs0, rfl, hs0⟩ := cons_of hsize
          obtain ⟨x1, xs1, rfl, hs1⟩ := cons_of hs0
          obtain ⟨x2, xs2, rfl, hs2⟩ := cons_of hs1
          obtain ⟨x3, xs3, rfl, hs3⟩ := cons_of hs2
          obtain ⟨x4, xs4, rfl, hs4⟩ := cons_of hs3
          obtain ⟨x5, xs5, rfl, hs5⟩ := cons_of hs4
          obtain ⟨x6, xs6, rfl, hs6⟩ := cons_of hs5
          obtain ⟨x7, xs7, rfl, hs7⟩ := cons_of hs6
          obtain ⟨x8, xs8, rfl, hs8⟩ := cons_of hs7
          obtain ⟨x9, xs9, rfl, hs9⟩ := cons_of hs8
          obtain ⟨x10, xs10, rfl, hs10⟩ := cons_of hs9
          obtain ⟨x11, xs11, rfl, hs11⟩ := cons_of hs10
          obtain ⟨x12, xs12, rfl, hs12⟩ := cons_of hs11
          obtain ⟨x13, xs13, rfl, hs13⟩ := cons_of hs12
          obtain ⟨x14, xs14, rfl, hs14⟩ := cons_of hs13
          obtain ⟨x15, xs15, rfl, hs15⟩ := cons_of hs14
          obtain ⟨x16, xs16, rfl, hs16⟩ := cons_of hs15
          obtain ⟨x17, xs17, rfl, hs17⟩ := cons_of hs16
          obtain ⟨x18, xs18, rfl, hs18⟩ := cons_of hs17
          obtain ⟨x19, xs19, rfl, hs19⟩ := cons_of hs18
          obtain ⟨x20, xs20, rfl, hs20⟩ := cons_of hs19
          obtain ⟨x21, xs21, rfl, hs21⟩ := cons_of hs20
          obtain ⟨x22, xs22, rfl, hs22⟩ := cons_of hs21
          obtain ⟨x23, xs23, rfl, hs23⟩ := cons_of hs22
          obtain ⟨x24, xs24, rfl, hs24⟩ := cons_of hs23
          obtain ⟨x25, xs25, rfl, hs25⟩ := cons_of hs24
          obtain ⟨x26, xs26, rfl, hs26⟩ := cons_of hs25
          obtain ⟨x27, xs27, rfl, hs27⟩ := cons_of hs26
          obtain ⟨x28, xs28, rfl, hs28⟩ := cons_of hs27
          obtain ⟨x29, xs29, rfl, hs29⟩ := cons_of hs28
          obtain ⟨x30, xs30, rfl, hs30⟩ := cons_of hs29
          obtain ⟨x31, xs31, rfl, hs31⟩ := cons_of hs30
          obtain ⟨x32, xs32, rfl, hs32⟩ := cons_of hs31
          obtain ⟨x33, xs33, rfl, hs33⟩ := cons_of hs32
          obtain ⟨x34, xs34, rfl, hs34⟩ := cons_of hs33
          obtain ⟨x35, xs35, rfl, hs35⟩ := cons_of hs34
          obtain ⟨x36, xs36, rfl, hs36⟩ := cons_of hs35
          obtain ⟨x37, xs37, rfl, hs37⟩ := cons_of hs36
          obtain ⟨x38, xs38, rfl, hs38⟩ := cons_of hs37
          obtain ⟨x39, xs39, rfl, hs39⟩ := cons_of hs38
          obtain ⟨x40, xs40, rfl, hs40⟩ := cons_of hs39
          obtain ⟨x41, xs41, rfl, hs41⟩ := cons_of hs40
          obtain ⟨x42, xs42, rfl, hs42⟩ := cons_of hs41
          obtain ⟨x43, xs43, rfl, hs43⟩ := cons_of hs42
          obtain ⟨x44, xs44, rfl, hs44⟩ := cons_of hs43
          obtain ⟨x45, xs45, rfl, hs45⟩ := cons_of hs44
          obtain ⟨x46, xs46, rfl, hs46⟩ := cons_of hs45
          obtain ⟨x47, xs47, rfl, hs47⟩ := cons_of hs46
          obtain rfl := List.eq_nil_of_length_eq_zero hs47
          clear hsize hs0 hs1 hs2 hs3 hs4 hs5 hs6 hs7 hs8 hs9 hs10 hs11 hs12 hs13 hs14 hs15 hs16 hs17 hs18 hs19 hs20 hs21 hs22 hs23 hs24 hs25 hs26 hs27 hs28 hs29 hs30 hs31 hs32 hs33 hs34 hs35 hs36 hs37 hs38 hs39 hs40 hs41 hs42 hs43 hs44 hs45 hs46 hs47
          rw [show (Array.mk (x0 :: x1 :: x2 :: x3 :: x4 :: x5 :: x6 :: x7 :: x8 :: x9 :: x10 :: x11 :: x12 :: x13 :: x14 :: x15 :: x16 :: x17 :: x18 :: x19 :: x20 :: x21 :: x22 :: x23 :: x24 :: x25 :: x26 :: x27 :: x28 :: x29 :: x30 :: x31 :: x32 :: x33 :: x34 :: x35 :: x36 :: x37 :: x38 :: x39 :: x40 :: x41 :: x42 :: x43 :: x44 :: x45 :: x46 :: x47 :: []) : Array Value) = List.toArray (x0 :: x1 :: x2 :: x3 :: x4 :: x5 :: x6 :: x7 :: x8 :: x9 :: x10 :: x11 :: x12 :: x13 :: x14 :: x15 :: x16 :: x17 :: x18 :: x19 :: x20 :: x21 :: x22 :: x23 :: x24 :: x25 :: x26 :: x27 :: x28 :: x29 :: x30 :: x31 :: x32 :: x33 :: x34 :: x35 :: x36 :: x37 :: x38 :: x39 :: x40 :: x41 :: x42 :: x43 :: x44 :: x45 :: x46 :: x47 :: []) from rfl]
          change x0 = _ at e0
          subst e0
          change x1 = _ at e1
          subst e1
          change x2 = _ at e2
          subst e2
          change x3 = _ at e3
          subst e3
          change x4 = _ at e4
          subst e4
          change x5 = _ at e5
          subst e5
          change x6 = _ at e6
          subst e6
          change x7 = _ at e7
          subst e7
          change x8 = _ at e8
          subst e8
          change x9 = _ at e9
          subst e9
          change x10 = _ at e10
          subst e10
          change x11 = _ at e11
          subst e11
          change x12 = _ at e12
          subst e12
          change x13 = _ at e13
          subst e13
          change x14 = _ at e14
          subst e14
          change x15 = _ at e15
          subst e15
          change x16 = _ at e16
          subst e16
          change x17 = _ at e17
          subst e17
          change x34 = _ at e34
          subst e34
          change x35 = _ at e35
          subst e35
          change x36 = _ at e36
          subst e36
          change x37 = _ at e37
          subst e37
          change x38 = _ at e38
          subst e38
          change x39 = _ at e39
          subst e39
          change x40 = _ at e40
          subst e40
          change x41 = _ at e41
          subst e41
          change x42 = _ at e42
          subst e42
          change x43 = _ at e43
          subst e43
          change x44 = _ at e44
          subst e44
          change x45 = _ at e45
          subst e45
          change x46 = _ at e46
          subst e46
          change x47 = _ at e47
          subst e47
          change x33 = .bool LB at er
          subst er
          have HMR := Lib.hid (HM.out.same MR.out)
          clear k0 hBl
          have k0 := k0s.out
          have hBl := hBls.out
          cases LB with
          | true =>
            go_wp2
            go_roundw
            case rel => exact ⟨i + 1, by omega, by go_num, fun j hj => by
              rcases Nat.lt_succ_iff_lt_or_eq.1 hj with h | rfl
              · exact HALL.out j h
              · exact HLD.out, HMR.out⟩
            case measure => simp [intOf]; omega
          | false =>
            have HPOS : Hid (posR RS l = i) := posR_of (by rw [HL.out]; omega) HALL.out (Or.inr HLD.out)
            have K0 := Lib.hid ((HMR.out.cell (a := ⟨B, 0, none⟩) hBl (by simp)).trans k0)
            have K1 := Lib.hid ((HMR.out.cell (a := ⟨B, 1, none⟩) hBl (by simp)).trans k1)
            have K2 := Lib.hid ((HMR.out.cell (a := ⟨B, 2, none⟩) hBl (by simp)).trans k2)
            have hB2 : B < w2.heap.size := Nat.lt_of_lt_of_le hBl HMR.out.size
            have HMW := Lib.hid (M2.out.same HMR.out)
            have HIW : Hid (∀ x ∈ insR RS ⟨l, pg, ct⟩, x.wf) := fun x hx => by
              unfold insR at hx
              rcases List.mem_append.1 hx with h | h
              · exact HIN.out.wf x (List.mem_of_mem_take h)
              · rcases List.mem_cons.1 h with rfl | h
                · exact HWF.out
                · exact HIN.out.wf x (List.mem_of_mem_drop h)
            obtain ⟨r1, s1⟩ := (HIN.out.sl.mod HMR.out (by simp)).sub_h Tryd.underlying22 sizeRoots i .i64 hi
            obtain ⟨pz, r2, s2, _⟩ := (HIN.out.sl.mod HMR.out (by simp)).sub_l Tryd.underlying22 sizeRoots i .i64 hi
            rw [rcells_take] at s1
            rw [rcells_drop] at s2
            have HS1 := Lib.hid s1
            have HS2 := Lib.hid s2
            have hcN := HIN.out.sl.le
            obtain ⟨i0, hi0, hz0, hz1, hz2⟩ := info_parts infoRoot
            clear s1 s2 k0 k1 k2 hidx hBl HG HLT HALL HM MR
            go_wp2
            refine AnyT.start (S := fun w' => w'.cell? ⟨B, 0, none⟩ = some (.string (strOfNums l)) ∧ w'.cell? ⟨B, 1, none⟩ = some (.int .i64 pg) ∧ w'.cell? ⟨B, 2, none⟩ = some (.int .i64 ct)) (by kernel_rfl) ⟨K0.out, K1.out, K2.out⟩ (fun hS => ?_)
            refine AnyT.take (i := 1) (k := 3) (v := ?_) rfl (by kernel_rfl) (fun _ _ _ h => h) hS (Or.inl ⟨by rfl, fun w' hw' => ?_⟩) ?_
            rotate_left
            · go_simp
              try rfl
            simp only [Act.put, List.setIfInBounds_toArray, List.set_cons_zero, List.set_cons_succ]
            refine AnyT.take (i := 2) (k := 3) (v := ?_) rfl (by kernel_rfl) (fun _ _ _ h => h) hS (Or.inl ⟨by rfl, fun w' hw' => ?_⟩) ?_
            rotate_left
            · go_simp
              try rfl
            simp only [Act.put, List.setIfInBounds_toArray, List.set_cons_zero, List.set_cons_succ]
            refine AnyT.take (i := 3) (k := 4) (v := ?_) rfl (by kernel_rfl) (fun _ _ _ h => h) hS (Or.inl ⟨by rfl, fun w' hw' => ?_⟩) ?_
            rotate_left
            · go_simp
              try rfl
            simp only [Act.put, List.setIfInBounds_toArray, List.set_cons_zero, List.set_cons_succ]
            refine AnyT.take (i := 5) (k := 6) (v := ?_) rfl (by kernel_rfl) (fun _ _ _ h => h) hS (Or.inl ⟨by rfl, fun w' hw' => ?_⟩) ?_
            rotate_left
            · go_simp
              try rfl
            simp only [Act.put, List.setIfInBounds_toArray, List.set_cons_zero, List.set_cons_succ]
            refine AnyT.take (i := 8) (k := 10) (v := ?_) rfl (by kernel_rfl) (fun _ _ _ h => h) hS (Or.inl ⟨by rfl, fun w' hw' => ?_⟩) ?_
            rotate_left
            · go_simp
              try rfl
            simp only [Act.put, List.setIfInBounds_toArray, List.set_cons_zero, List.set_cons_succ]
            refine AnyT.take (i := 9) (k := 10) (v := ?_) rfl (by kernel_rfl) (fun _ _ _ h => h) hS (Or.inl ⟨by rfl, fun w' hw' => ?_⟩) ?_
            rotate_left
            · go_simp
              try rfl
            simp only [Act.put, List.setIfInBounds_toArray, List.set_cons_zero, List.set_cons_succ]
            refine AnyT.take (i := 10) (k := 11) (v := ?_) rfl (by kernel_rfl) (fun _ _ _ h => h) hS (Or.inl ⟨by rfl, fun w' hw' => ?_⟩) ?_
            rotate_left
            · go_simp
              try rfl
            simp only [Act.put, List.setIfInBounds_toArray, List.set_cons_zero, List.set_cons_succ]
            clear hS
            refine AnyT.two (i := 0) (j := 6) (by kernel_rfl) rfl rfl (fun K hK => run_step rfl ?_) (fun K hK => run_step rfl ?_)
            · have OT : Hid (Tl (w2.drew.alloc (.cells #[] 34)) w2.heap.size 3 (some ⟨w2.heap.size, 0, none⟩) 0 0 []) := Tl.of_own (own_empty' w2.drew _ _ _ (Nat.le_refl _)) (by simp)
              have MC : Hid (Mod [] w2 (w2.drew.alloc (.cells #[] 34))) := (Mod.of_drew w2).alloc
              go_simp
              refine hK _ _ (fun _ => ⟨(MC.out.cell (a := ⟨B, 0, none⟩) hB2 (by simp)).trans K0.out, (MC.out.cell (a := ⟨B, 1, none⟩) hB2 (by simp)).trans K1.out, (MC.out.cell (a := ⟨B, 2, none⟩) hB2 (by simp)).trans K2.out⟩) ?_
              clear hK K
              have S1 := Lib.hid (HS1.out.mod MC.out (by simp))
              refine AnyT.two (i := 4) (j := 6) (by kernel_rfl) rfl rfl (fun K hK => ?_) (fun K hK => run_step rfl ?_)
              · refine step_append_tl _ (by rfl) _ _ _ (by rfl) w2.heap.size 34 i0 _ 3 32 Tryd.underlying22 hi0 hz0 hz1 hz2 rfl (by omega) _ _ _ _ (by rfl) OT.out _ _ _ _ (by rfl) S1.out i (by omega) (by unfold maxLen; omega) (by omega) MC.out.size ?_
                intro p8 c8 w6 ht8 hm8 hnil8 hor8
                replace MC := Lib.hid (OT.out.turned (w2 := w2) (w0 := w2) rfl hm8 MC.out)
                try replace SR := Lib.hid (SR.out.mod hm8 NR.out)
                replace OT := Lib.hid ht8
                clear ht8 hm8 hnil8 hor8
                refine hK _ _ (fun _ => ⟨(MC.out.cell (a := ⟨B, 0, none⟩) hB2 (by simp)).trans K0.out, (MC.out.cell (a := ⟨B, 1, none⟩) hB2 (by simp)).trans K1.out, (MC.out.cell (a := ⟨B, 2, none⟩) hB2 (by simp)).trans K2.out⟩) ?_
                clear hK K
                have SR := Lib.hid (sl_root w6 l pg ct 34)
                have NR : Hid (∀ a, (some (⟨w6.heap.size, 0, none⟩ : Addr)) = some a → 0 < 1 → a.block ∉ (p8.map (·.block)).toList) := fun a ha _ hm => by
                  cases ha
                  cases p8 with
                  | none => simp at hm
                  | some e => simp at hm; have := (OT.out.own e rfl).2.2; omega
                refine AnyT.run (i := 6) (by kernel_rfl) rfl rfl (fun K hK => ?_)
                have OT' := Lib.hid (OT.out.mod (Mod.of_alloc w6 (.cells #[.string (strOfNums l), .int .i64 pg, .int .i64 ct] 34)) (by simp))
                have MC' := Lib.hid (MC.out.same (Mod.of_alloc w6 (.cells #[.string (strOfNums l), .int .i64 pg, .int .i64 ct] 34)))
                clear OT MC
                have OT := OT'
                have MC := MC'
                clear OT' MC'
                go_simp
                refine hK _ _ (fun _ => ⟨(MC.out.cell (a := ⟨B, 0, none⟩) hB2 (by simp)).trans K0.out, (MC.out.cell (a := ⟨B, 1, none⟩) hB2 (by simp)).trans K1.out, (MC.out.cell (a := ⟨B, 2, none⟩) hB2 (by simp)).trans K2.out⟩) ?_
                clear hK K
                refine AnyT.one (i := 7) (by kernel_rfl) rfl (fun K hK => ?_)
                refine step_append_tl _ (by rfl) _ _ _ (by rfl) w2.heap.size 34 i0 _ 3 32 Tryd.underlying22 hi0 hz0 hz1 hz2 rfl (by omega) _ _ _ _ (by rfl) OT.out _ _ _ _ (by rfl) SR.out (i + 1) (by omega) (by unfold maxLen; omega) (by omega) MC.out.size ?_
                intro p8 c8 w7 ht8 hm8 hnil8 hor8
                replace MC := Lib.hid (OT.out.turned (w2 := w2) (w0 := w2) rfl hm8 MC.out)
                try replace SR := Lib.hid (SR.out.mod hm8 NR.out)
                replace OT := Lib.hid ht8
                clear ht8 hm8 hnil8 hor8
                refine hK _ _ (fun _ => ⟨(MC.out.cell (a := ⟨B, 0, none⟩) hB2 (by simp)).trans K0.out, (MC.out.cell (a := ⟨B, 1, none⟩) hB2 (by simp)).trans K1.out, (MC.out.cell (a := ⟨B, 2, none⟩) hB2 (by simp)).trans K2.out⟩) ?_
                clear hK K
                have S3 := Lib.hid (HS2.out.mod MC.out (by simp))
                refine AnyT.one (i := 11) (by kernel_rfl) rfl (fun K hK => ?_)
                refine step_append_tl _ (by rfl) _ _ _ (by rfl) w2.heap.size 34 i0 _ 3 32 Tryd.underlying22 hi0 hz0 hz1 hz2 rfl (by omega) _ _ _ _ (by rfl) OT.out _ _ _ _ (by rfl) S3.out (n + 1) (by omega) (by unfold maxLen; omega) (by omega) MC.out.size ?_
                intro p8 c8 w8 ht8 hm8 hnil8 hor8
                replace MC := Lib.hid (OT.out.turned (w2 := w2) (w0 := w2) rfl hm8 MC.out)
                try replace SR := Lib.hid (SR.out.mod hm8 NR.out)
                replace OT := Lib.hid ht8
                clear ht8 hm8 hnil8 hor8
                refine hK _ _ (fun _ => ⟨(MC.out.cell (a := ⟨B, 0, none⟩) hB2 (by simp)).trans K0.out, (MC.out.cell (a := ⟨B, 1, none⟩) hB2 (by simp)).trans K1.out, (MC.out.cell (a := ⟨B, 2, none⟩) hB2 (by simp)).trans K2.out⟩) ?_
                clear hK K
                refine AnyT.run (i := 12) (by kernel_rfl) rfl rfl (fun K hK => ?_)
                go_simp
                refine hK _ _ (fun _ => ⟨(MC.out.cell (a := ⟨B, 0, none⟩) hB2 (by simp)).trans K0.out, (MC.out.cell (a := ⟨B, 1, none⟩) hB2 (by simp)).trans K1.out, (MC.out.cell (a := ⟨B, 2, none⟩) hB2 (by simp)).trans K2.out⟩) ?_
                clear hK K
                refine AnyT.run (i := 13) (by kernel_rfl) rfl rfl (fun K hK => ?_)
                go_simp
                refine hK _ _ (fun h => absurd h (by rw [show more _ _ = false from by kernel_rfl]; decide)) ?_
                clear hK K
                refine AnyT.done (by kernel_rfl) ?_ _
                go_wp2
                go_ret2
                refine .mk ?_
                rw [HV1.out]
                refine ⟨p8, n + 1, c8, rfl, ⟨?_, HIW.out⟩, HMW.out.same MC.out⟩
                have := OT.out.sl
                rw [List.nil_append, ← rcells_append, ← rcells_append] at this
                show Sl _ 3 p8 (n + 1) c8 (rcells (insR RS ⟨l, pg, ct⟩))
                unfold insR
                rw [show posR RS (⟨l, pg, ct⟩ : Rt).l = i from HPOS.out]
                simpa using this
              · have SR : Hid (Sl ((w2.drew.alloc (.cells #[] 34)).alloc (.cells #[.string (strOfNums l), .int .i64 pg, .int .i64 ct] 34)) 3 (some ⟨w2.heap.size + 1, 0, none⟩) 1 1 (rcells [⟨l, pg, ct⟩])) := by
                  have := sl_root (w2.drew.alloc (.cells #[] 34)) l pg ct 34
                  unfold Hid; simpa using this
                have NR : Hid (∀ a, (some (⟨w2.heap.size + 1, 0, none⟩ : Addr)) = some a → 0 < 1 → a.block ∉ ((some (⟨w2.heap.size, 0, none⟩ : Addr)).map (·.block)).toList) := fun a ha _ hm => by
                  cases ha; simp at hm
                have OT' := Lib.hid (OT.out.mod (Mod.of_alloc _ (.cells #[.string (strOfNums l), .int .i64 pg, .int .i64 ct] 34)) (by simp))
                have MC' := Lib.hid (MC.out.same (Mod.of_alloc _ (.cells #[.string (strOfNums l), .int .i64 pg, .int .i64 ct] 34)))
                clear OT MC
                have OT := OT'
                have MC := MC'
                replace S1 := Lib.hid (HS1.out.mod MC.out (by simp))
                clear OT' MC'
                go_simp
                refine hK _ _ (fun _ => ⟨(MC.out.cell (a := ⟨B, 0, none⟩) hB2 (by simp)).trans K0.out, (MC.out.cell (a := ⟨B, 1, none⟩) hB2 (by simp)).trans K1.out, (MC.out.cell (a := ⟨B, 2, none⟩) hB2 (by simp)).trans K2.out⟩) ?_
                clear hK K
                refine AnyT.one (i := 4) (by kernel_rfl) rfl (fun K hK => ?_)
                refine step_append_tl _ (by rfl) _ _ _ (by rfl) w2.heap.size 34 i0 _ 3 32 Tryd.underlying22 hi0 hz0 hz1 hz2 rfl (by omega) _ _ _ _ (by rfl) OT.out _ _ _ _ (by rfl) S1.out i (by omega) (by unfold maxLen; omega) (by omega) MC.out.size ?_
                intro p8 c8 w6 ht8 hm8 hnil8 hor8
                replace MC := Lib.hid (OT.out.turned (w2 := w2) (w0 := w2) rfl hm8 MC.out)
                try replace SR := Lib.hid (SR.out.mod hm8 NR.out)
                replace OT := Lib.hid ht8
                clear ht8 hm8 hnil8 hor8
                refine hK _ _ (fun _ => ⟨(MC.out.cell (a := ⟨B, 0, none⟩) hB2 (by simp)).trans K0.out, (MC.out.cell (a := ⟨B, 1, none⟩) hB2 (by simp)).trans K1.out, (MC.out.cell (a := ⟨B, 2, none⟩) hB2 (by simp)).trans K2.out⟩) ?_
                clear hK K
                refine AnyT.one (i := 7) (by kernel_rfl) rfl (fun K hK => ?_)
                refine step_append_tl _ (by rfl) _ _ _ (by rfl) w2.heap.size 34 i0 _ 3 32 Tryd.underlying22 hi0 hz0 hz1 hz2 rfl (by omega) _ _ _ _ (by rfl) OT.out _ _ _ _ (by rfl) SR.out (i + 1) (by omega) (by unfold maxLen; omega) (by omega) MC.out.size ?_
                intro p8 c8 w7 ht8 hm8 hnil8 hor8
                replace MC := Lib.hid (OT.out.turned (w2 := w2) (w0 := w2) rfl hm8 MC.out)
                try replace SR := Lib.hid (SR.out.mod hm8 NR.out)
                replace OT := Lib.hid ht8
                clear ht8 hm8 hnil8 hor8
                refine hK _ _ (fun _ => ⟨(MC.out.cell (a := ⟨B, 0, none⟩) hB2 (by simp)).trans K0.out, (MC.out.cell (a := ⟨B, 1, none⟩) hB2 (by simp)).trans K1.out, (MC.out.cell (a := ⟨B, 2, none⟩) hB2 (by simp)).trans K2.out⟩) ?_
                clear hK K
                have S3 := Lib.hid (HS2.out.mod MC.out (by simp))
                refine AnyT.one (i := 11) (by kernel_rfl) rfl (fun K hK => ?_)
                refine step_append_tl _ (by rfl) _ _ _ (by rfl) w2.heap.size 34 i0 _ 3 32 Tryd.underlying22 hi0 hz0 hz1 hz2 rfl (by omega) _ _ _ _ (by rfl) OT.out _ _ _ _ (by rfl) S3.out (n + 1) (by omega) (by unfold maxLen; omega) (by omega) MC.out.size ?_
                intro p8 c8 w8 ht8 hm8 hnil8 hor8
                replace MC := Lib.hid (OT.out.turned (w2 := w2) (w0 := w2) rfl hm8 MC.out)
                try replace SR := Lib.hid (SR.out.mod hm8 NR.out)
                replace OT := Lib.hid ht8
                clear ht8 hm8 hnil8 hor8
                refine hK _ _ (fun _ => ⟨(MC.out.cell (a := ⟨B, 0, none⟩) hB2 (by simp)).trans K0.out, (MC.out.cell (a := ⟨B, 1, none⟩) hB2 (by simp)).trans K1.out, (MC.out.cell (a := ⟨B, 2, none⟩) hB2 (by simp)).trans K2.out⟩) ?_
                clear hK K
                refine AnyT.run (i := 12) (by kernel_rfl) rfl rfl (fun K hK => ?_)
                go_simp
                refine hK _ _ (fun _ => ⟨(MC.out.cell (a := ⟨B, 0, none⟩) hB2 (by simp)).trans K0.out, (MC.out.cell (a := ⟨B, 1, none⟩) hB2 (by simp)).trans K1.out, (MC.out.cell (a := ⟨B, 2, none⟩) hB2 (by simp)).trans K2.out⟩) ?_
                clear hK K
                refine AnyT.run (i := 13) (by kernel_rfl) rfl rfl (fun K hK => ?_)
                go_simp
                refine hK _ _ (fun h => absurd h (by rw [show more _ _ = false from by kernel_rfl]; decide)) ?_
                clear hK K
                refine AnyT.done (by kernel_rfl) ?_ _
                go_wp2
                go_ret2
                refine .mk ?_
                rw [HV1.out]
                refine ⟨p8, n + 1, c8, rfl, ⟨?_, HIW.out⟩, HMW.out.same MC.out⟩
                have := OT.out.sl
                rw [List.nil_append, ← rcells_append, ← rcells_append] at this
                show Sl _ 3 p8 (n + 1) c8 (rcells (insR RS ⟨l, pg, ct⟩))
                unfold insR
                rw [show posR RS (⟨l, pg, ct⟩ : Rt).l = i from HPOS.out]
                simpa using this
            · have SR := Lib.hid (sl_root w2.drew l pg ct 34)
              have MC : Hid (Mod [] w2 (w2.drew.alloc (.cells #[.string (strOfNums l), .int .i64 pg, .int .i64 ct] 34))) := (Mod.of_drew w2).alloc
              go_simp
              refine hK _ _ (fun _ => ⟨(MC.out.cell (a := ⟨B, 0, none⟩) hB2 (by simp)).trans K0.out, (MC.out.cell (a := ⟨B, 1, none⟩) hB2 (by simp)).trans K1.out, (MC.out.cell (a := ⟨B, 2, none⟩) hB2 (by simp)).trans K2.out⟩) ?_
              clear hK K
              refine AnyT.run (i := 0) (by kernel_rfl) rfl rfl (fun K hK => ?_)
              have OT : Hid (Tl ((w2.drew.alloc (.cells #[.string (strOfNums l), .int .i64 pg, .int .i64 ct] 34)).alloc (.cells #[] 34)) w2.heap.size 3 (some ⟨w2.heap.size + 1, 0, none⟩) 0 0 []) := by
                have := Tl.of_own (own_empty' (w2.drew.alloc (.cells #[.string (strOfNums l), .int .i64 pg, .int .i64 ct] 34)) 34 3 w2.heap.size MC.out.size) (by simp)
                unfold Hid; simpa using this
              have NR : Hid (∀ a, (some (⟨w2.drew.heap.size, 0, none⟩ : Addr)) = some a → 0 < 1 → a.block ∉ ((some (⟨w2.heap.size + 1, 0, none⟩ : Addr)).map (·.block)).toList) := fun a ha _ hm => by
                cases ha; simp at hm
              replace SR := Lib.hid (SR.out.mod (Mod.of_alloc _ (.cells #[] 34)) (by simp))
              replace MC := Lib.hid (MC.out.same (Mod.of_alloc _ (.cells #[] 34)))
              have S1 := Lib.hid (HS1.out.mod MC.out (by simp))
              go_simp
              refine hK _ _ (fun _ => ⟨(MC.out.cell (a := ⟨B, 0, none⟩) hB2 (by simp)).trans K0.out, (MC.out.cell (a := ⟨B, 1, none⟩) hB2 (by simp)).trans K1.out, (MC.out.cell (a := ⟨B, 2, none⟩) hB2 (by simp)).trans K2.out⟩) ?_
              clear hK K
              refine AnyT.one (i := 4) (by kernel_rfl) rfl (fun K hK => ?_)
              refine step_append_tl _ (by rfl) _ _ _ (by rfl) w2.heap.size 34 i0 _ 3 32 Tryd.underlying22 hi0 hz0 hz1 hz2 rfl (by omega) _ _ _ _ (by rfl) OT.out _ _ _ _ (by rfl) S1.out i (by omega) (by unfold maxLen; omega) (by omega) MC.out.size ?_
              intro p8 c8 w6 ht8 hm8 hnil8 hor8
              replace MC := Lib.hid (OT.out.turned (w2 := w2) (w0 := w2) rfl hm8 MC.out)
              try replace SR := Lib.hid (SR.out.mod hm8 NR.out)
              replace OT := Lib.hid ht8
              clear ht8 hm8 hnil8 hor8
              refine hK _ _ (fun _ => ⟨(MC.out.cell (a := ⟨B, 0, none⟩) hB2 (by simp)).trans K0.out, (MC.out.cell (a := ⟨B, 1, none⟩) hB2 (by simp)).trans K1.out, (MC.out.cell (a := ⟨B, 2, none⟩) hB2 (by simp)).trans K2.out⟩) ?_
              clear hK K
              refine AnyT.one (i := 7) (by kernel_rfl) rfl (fun K hK => ?_)
              refine step_append_tl _ (by rfl) _ _ _ (by rfl) w2.heap.size 34 i0 _ 3 32 Tryd.underlying22 hi0 hz0 hz1 hz2 rfl (by omega) _ _ _ _ (by rfl) OT.out _ _ _ _ (by rfl) SR.out (i + 1) (by omega) (by unfold maxLen; omega) (by omega) MC.out.size ?_
              intro p8 c8 w7 ht8 hm8 hnil8 hor8
              replace MC := Lib.hid (OT.out.turned (w2 := w2) (w0 := w2) rfl hm8 MC.out)
              try replace SR := Lib.hid (SR.out.mod hm8 NR.out)
              replace OT := Lib.hid ht8
              clear ht8 hm8 hnil8 hor8
              refine hK _ _ (fun _ => ⟨(MC.out.cell (a := ⟨B, 0, none⟩) hB2 (by simp)).trans K0.out, (MC.out.cell (a := ⟨B, 1, none⟩) hB2 (by simp)).trans K1.out, (MC.out.cell (a := ⟨B, 2, none⟩) hB2 (by simp)).trans K2.out⟩) ?_
              clear hK K
              have S3 := Lib.hid (HS2.out.mod MC.out (by simp))
              refine AnyT.one (i := 11) (by kernel_rfl) rfl (fun K hK => ?_)
              refine step_append_tl _ (by rfl) _ _ _ (by rfl) w2.heap.size 34 i0 _ 3 32 Tryd.underlying22 hi0 hz0 hz1 hz2 rfl (by omega) _ _ _ _ (by rfl) OT.out _ _ _ _ (by rfl) S3.out (n + 1) (by omega) (by unfold maxLen; omega) (by omega) MC.out.size ?_
              intro p8 c8 w8 ht8 hm8 hnil8 hor8
              replace MC := Lib.hid (OT.out.turned (w2 := w2) (w0 := w2) rfl hm8 MC.out)
              try replace SR := Lib.hid (SR.out.mod hm8 NR.out)
              replace OT := Lib.hid ht8
              clear ht8 hm8 hnil8 hor8
              refine hK _ _ (fun _ => ⟨(MC.out.cell (a := ⟨B, 0, none⟩) hB2 (by simp)).trans K0.out, (MC.out.cell (a := ⟨B, 1, none⟩) hB2 (by simp)).trans K1.out, (MC.out.cell (a := ⟨B, 2, none⟩) hB2 (by simp)).trans K2.out⟩) ?_
              clear hK K
              refine AnyT.run (i := 12) (by kernel_rfl) rfl rfl (fun K hK => ?_)
              go_simp
              refine hK _ _ (fun _ => ⟨(MC.out.cell (a := ⟨B, 0, none⟩) hB2 (by simp)).trans K0.out, (MC.out.cell (a := ⟨B, 1, none⟩) hB2 (by simp)).trans K1.out, (MC.out.cell (a := ⟨B, 2, none⟩) hB2 (by simp)).trans K2.out⟩) ?_
              clear hK K
              refine AnyT.run (i := 13) (by kernel_rfl) rfl rfl (fun K hK => ?_)
              go_simp
              refine hK _ _ (fun h => absurd h (by rw [show more _ _ = false from by kernel_rfl]; decide)) ?_
              clear hK K
              refine AnyT.done (by kernel_rfl) ?_ _
              go_wp2
              go_ret2
              refine .mk ?_
              rw [HV1.out]
              refine ⟨p8, n + 1, c8, rfl, ⟨?_, HIW.out⟩, HMW.out.same MC.out⟩
              have := OT.out.sl
              rw [List.nil_append, ← rcells_append, ← rcells_append] at this
              show Sl _ 3 p8 (n + 1) c8 (rcells (insR RS ⟨l, pg, ct⟩))
              unfold insR
              rw [show posR RS (⟨l, pg, ct⟩ : Rt).l = i from HPOS.out]
              simpa using this
        · have hz1 : decide (i < n) = false := by simp; omega
          have hz2 : decide ((i : Int) < (n : Int)) = false := by simp; omega
          go_wp2_with fail
          refine par_region (by kernel_rfl) (fun oi vs w => wqE p n c i oi (vs oi) w) (fun w' => Mod [] wr w') (by kernel_rfl) (fun j vs vs' w o _ h1 _ h2 => by rw [← h1]; exact h2) ⟨⟨⟨⟨⟨⟨⟨⟨⟨⟨⟨⟨⟨⟨⟨⟨trivial, ?_⟩, ?_⟩, ?_⟩, ?_⟩, ?_⟩, ?_⟩, ?_⟩, ?_⟩, ?_⟩, ?_⟩, ?_⟩, ?_⟩, ?_⟩, ?_⟩, ?_⟩, ?_⟩ (Mod.of_drew wr) ?_
          · intro o ho listed vs a w' inv hun haft K hK
            obtain rfl := Option.some.inj ho
            refine par_run rfl ?_
            have e0 := inv.old 7 (by kernel_rfl)
            have INV := Lib.hid inv
            clear inv haft hun ho
            simp at e0
            go_simp
            exact hK _ _ INV.out.inv INV.out.val rfl
          · intro o ho listed vs a w' inv hun haft K hK
            obtain rfl := Option.some.inj ho
            refine par_run rfl ?_
            have e0 := inv.old 6 (by kernel_rfl)
            have INV := Lib.hid inv
            clear inv haft hun ho
            simp at e0
            go_simp
            exact hK _ _ INV.out.inv INV.out.val rfl
          · intro o ho listed vs a w' inv hun haft K hK
            obtain rfl := Option.some.inj ho
            refine par_run rfl ?_
            obtain ⟨e0, r0⟩ := inv.get haft 1 19 (by kernel_rfl) (by kernel_rfl)
            have INV := Lib.hid inv
            clear inv haft hun ho
            change vs 1 = .slice p n c at r0
            rw [r0] at e0
            have g0 := getD_opt e0
            go_simp
            exact hK _ _ INV.out.inv INV.out.val rfl
          · intro o ho listed vs a w' inv hun haft K hK
            obtain rfl := Option.some.inj ho
            refine par_run rfl ?_
            obtain ⟨e0, r0⟩ := inv.get haft 0 18 (by kernel_rfl) (by kernel_rfl)
            obtain ⟨e1, r1⟩ := inv.get haft 2 20 (by kernel_rfl) (by kernel_rfl)
            have INV := Lib.hid inv
            clear inv haft hun ho
            change vs 0 = .int .i64 i at r0
            rw [r0] at e0
            have g0 := getD_opt e0
            change vs 2 = .int .i64 n at r1
            rw [r1] at e1
            have g1 := getD_opt e1
            go_simp
            exact hK _ _ INV.out.inv INV.out.val rfl
          · intro o ho listed vs a w' inv hun haft K hK
            obtain rfl := Option.some.inj ho
            refine par_run rfl ?_
            obtain ⟨e0, r0⟩ := inv.get haft 3 21 (by kernel_rfl) (by kernel_rfl)
            have INV := Lib.hid inv
            clear inv haft hun ho
            change vs 3 = .bool false at r0
            rw [r0] at e0
            have g0 := getD_opt e0
            go_simp
            exact hK _ _ INV.out.inv INV.out.val rfl
          · intro o ho listed vs a w' inv hun haft K hK
            obtain rfl := Option.some.inj ho
            obtain ⟨e0, r0⟩ := inv.get haft 4 22 (by kernel_rfl) (by kernel_rfl)
            have INV := Lib.hid inv
            clear inv haft hun ho
            change vs 4 = .bool false at r0
            rw [r0] at e0
            have g0 := getD_opt e0
            exact par_skip rfl (by kernel_rfl) e0 (by simp [undef]) (hK _ _ INV.out.inv INV.out.val rfl)
          · intro o ho listed vs a w' inv hun haft K hK
            obtain rfl := Option.some.inj ho
            obtain ⟨e0, r0⟩ := inv.get haft 4 22 (by kernel_rfl) (by kernel_rfl)
            have INV := Lib.hid inv
            clear inv haft hun ho
            change vs 4 = .bool false at r0
            rw [r0] at e0
            have g0 := getD_opt e0
            exact par_skip rfl (by kernel_rfl) e0 (by simp [undef]) (hK _ _ INV.out.inv INV.out.val rfl)
          · intro o ho listed vs a w' inv hun haft K hK
            obtain rfl := Option.some.inj ho
            obtain ⟨e0, r0⟩ := inv.get haft 4 22 (by kernel_rfl) (by kernel_rfl)
            have INV := Lib.hid inv
            clear inv haft hun ho
            change vs 4 = .bool false at r0
            rw [r0] at e0
            have g0 := getD_opt e0
            exact par_skip rfl (by kernel_rfl) e0 (by simp [undef]) (hK _ _ INV.out.inv INV.out.val rfl)
          · intro o ho listed vs a w' inv hun haft K hK
            obtain rfl := Option.some.inj ho
            obtain ⟨e0, r0⟩ := inv.get haft 4 22 (by kernel_rfl) (by kernel_rfl)
            have INV := Lib.hid inv
            clear inv haft hun ho
            change vs 4 = .bool false at r0
            rw [r0] at e0
            have g0 := getD_opt e0
            exact par_skip rfl (by kernel_rfl) e0 (by simp [undef]) (hK _ _ INV.out.inv INV.out.val rfl)
          · intro o ho listed vs a w' inv hun haft K hK
            obtain rfl := Option.some.inj ho
            obtain ⟨e0, r0⟩ := inv.get haft 4 22 (by kernel_rfl) (by kernel_rfl)
            have INV := Lib.hid inv
            clear inv haft hun ho
            change vs 4 = .bool false at r0
            rw [r0] at e0
            have g0 := getD_opt e0
            exact par_skip rfl (by kernel_rfl) e0 (by simp [undef]) (hK _ _ INV.out.inv INV.out.val rfl)
          · intro o ho listed vs a w' inv hun haft K hK
            obtain rfl := Option.some.inj ho
            obtain ⟨e0, r0⟩ := inv.get haft 4 22 (by kernel_rfl) (by kernel_rfl)
            have INV := Lib.hid inv
            clear inv haft hun ho
            change vs 4 = .bool false at r0
            rw [r0] at e0
            have g0 := getD_opt e0
            exact par_skip rfl (by kernel_rfl) e0 (by simp [undef]) (hK _ _ INV.out.inv INV.out.val rfl)
          · intro o ho listed vs a w' inv hun haft K hK
            obtain rfl := Option.some.inj ho
            obtain ⟨e0, r0⟩ := inv.get haft 4 22 (by kernel_rfl) (by kernel_rfl)
            have INV := Lib.hid inv
            clear inv haft hun ho
            change vs 4 = .bool false at r0
            rw [r0] at e0
            have g0 := getD_opt e0
            exact par_skip rfl (by kernel_rfl) e0 (by simp [undef]) (hK _ _ INV.out.inv INV.out.val rfl)
          · intro o ho listed vs a w' inv hun haft K hK
            obtain rfl := Option.some.inj ho
            obtain ⟨e0, r0⟩ := inv.get haft 4 22 (by kernel_rfl) (by kernel_rfl)
            have INV := Lib.hid inv
            clear inv haft hun ho
            change vs 4 = .bool false at r0
            rw [r0] at e0
            have g0 := getD_opt e0
            exact par_skip rfl (by kernel_rfl) e0 (by simp [undef]) (hK _ _ INV.out.inv INV.out.val rfl)
          · intro o ho listed vs a w' inv hun haft K hK
            obtain rfl := Option.some.inj ho
            obtain ⟨e0, r0⟩ := inv.get haft 4 22 (by kernel_rfl) (by kernel_rfl)
            have INV := Lib.hid inv
            clear inv haft hun ho
            change vs 4 = .bool false at r0
            rw [r0] at e0
            have g0 := getD_opt e0
            exact par_skip rfl (by kernel_rfl) e0 (by simp [undef]) (hK _ _ INV.out.inv INV.out.val rfl)
          · intro o ho listed vs a w' inv hun haft K hK
            obtain rfl := Option.some.inj ho
            obtain ⟨e0, r0⟩ := inv.get haft 4 22 (by kernel_rfl) (by kernel_rfl)
            have INV := Lib.hid inv
            clear inv haft hun ho
            change vs 4 = .bool false at r0
            rw [r0] at e0
            have g0 := getD_opt e0
            exact par_skip rfl (by kernel_rfl) e0 (by simp [undef]) (hK _ _ INV.out.inv INV.out.val rfl)
          · intro o ho listed vs a w' inv hun haft K hK
            obtain rfl := Option.some.inj ho
            refine par_run rfl ?_
            obtain ⟨e0, r0⟩ := inv.get haft 4 22 (by kernel_rfl) (by kernel_rfl)
            have INV := Lib.hid inv
            clear inv haft hun ho
            change vs 4 = .bool false at r0
            rw [r0] at e0
            have g0 := getD_opt e0
            go_simp
            exact hK _ _ INV.out.inv INV.out.val rfl
          intro vs w2 X hm hr hslot hold hsize hdef
          have er := hslot 15 33 (by kernel_rfl)
          have h9 := hr 15 (by decide)
          change vs 15 = .bool false at h9
          rw [h9] at er
          clear h9
          have e0 := hold 0 (by kernel_rfl)
          have e1 := hold 1 (by kernel_rfl)
          have e2 := hold 2 (by kernel_rfl)
          have e3 := hold 3 (by kernel_rfl)
          have e4 := hold 4 (by kernel_rfl)
          have e5 := hold 5 (by kernel_rfl)
          have e6 := hold 6 (by kernel_rfl)
          have e7 := hold 7 (by kernel_rfl)
          have e8 := hold 8 (by kernel_rfl)
          have e9 := hold 9 (by kernel_rfl)
          have e10 := hold 10 (by kernel_rfl)
          have e11 := hold 11 (by kernel_rfl)
          have e12 := hold 12 (by kernel_rfl)
          have e13 := hold 13 (by kernel_rfl)
          have e14 := hold 14 (by kernel_rfl)
          have e15 := hold 15 (by kernel_rfl)
          have e16 := hold 16 (by kernel_rfl)
          have e17 := hold 17 (by kernel_rfl)
          have e34 := hold 34 (by kernel_rfl)
          have e35 := hold 35 (by kernel_rfl)
          have e36 := hold 36 (by kernel_rfl)
          have e37 := hold 37 (by kernel_rfl)
          have e38 := hold 38 (by kernel_rfl)
          have e39 := hold 39 (by kernel_rfl)
          have e40 := hold 40 (by kernel_rfl)
          have e41 := hold 41 (by kernel_rfl)
          have e42 := hold 42 (by kernel_rfl)
          have e43 := hold 43 (by kernel_rfl)
          have e44 := hold 44 (by kernel_rfl)
          have e45 := hold 45 (by kernel_rfl)
          have e46 := hold 46 (by kernel_rfl)
          have e47 := hold 47 (by kernel_rfl)
          simp only [Array.getD_eq_getD_getElem?, List.getElem?_toArray, List.getElem?_cons_zero, List.getElem?_cons_succ, Option.getD_some] at e0 e1 e2 e3 e4 e5 e6 e7 e8 e9 e10 e11 e12 e13 e14 e15 e16 e17 e34 e35 e36 e37 e38 e39 e40 e41 e42 e43 e44 e45 e46 e47
          have MR := Lib.hid hm
          clear hr hslot hold hm
          obtain ⟨⟨xs⟩, df⟩ := X
          replace hdef : df = [] := hdef
          subst hdef
          replace hsize : xs.length = 48 := hsize
          obtain ⟨x0, xs0, rfl, hs0⟩ := cons_of hsize
          obtain ⟨x1, xs1, rfl, hs1⟩ := cons_of hs0
          obtain ⟨x2, xs2, rfl, hs2⟩ := cons_of hs1
          obtain ⟨x3, xs3, rfl, hs3⟩ := cons_of hs2
          obtain ⟨x4, xs4, rfl, hs4⟩ := cons_of hs3
          obtain ⟨x5, xs5, rfl, hs5⟩ := cons_of hs4
          obtain ⟨x6, xs6, rfl, hs6⟩ := cons_of hs5
          obtain ⟨x7, xs7, rfl, hs7⟩ := cons_of hs6
          obtain ⟨x8, xs8, rfl, hs8⟩ := cons_of hs7
          obtain ⟨x9, xs9, rfl, hs9⟩ := cons_of hs8
          obtain ⟨x10, xs10, rfl, hs10⟩ := cons_of hs9
          obtain ⟨x11, xs11, rfl, hs11⟩ := cons_of hs10
          obtain ⟨x12, xs12, rfl, hs12⟩ := cons_of hs11
          obtain ⟨x13, xs13, rfl, hs13⟩ := cons_of hs12
          obtain ⟨x14, xs14, rfl, hs14⟩ := cons_of hs13
          obtain ⟨x15, xs15, rfl, hs15⟩ := cons_of hs14
          obtain ⟨x16, xs16, rfl, hs16⟩ := cons_of hs15
          obtain ⟨x17, xs17, rfl, hs17⟩ := cons_of hs16
          obtain ⟨x18, xs18, rfl, hs18⟩ := cons_of hs17
          obtain ⟨x19, xs19, rfl, hs19⟩ := cons_of hs18
          obtain ⟨x20, xs20, rfl, hs20⟩ := cons_of hs19
          obtain ⟨x21, xs21, rfl, hs21⟩ := cons_of hs20
          obtain ⟨x22, xs22, rfl, hs22⟩ := cons_of hs21
          obtain ⟨x23, xs23, rfl, hs23⟩ := cons_of hs22
          obtain ⟨x24, xs24, rfl, hs24⟩ := cons_of hs23
          obtain ⟨x25, xs25, rfl, hs25⟩ := cons_of hs24
          obtain ⟨x26, xs26, rfl, hs26⟩ := cons_of hs25
          obtain ⟨x27, xs27, rfl, hs27⟩ := cons_of hs26
          obtain ⟨x28, xs28, rfl, hs28⟩ := cons_of hs27
          obtain ⟨x29, xs29, rfl, hs29⟩ := cons_of hs28
          obtain ⟨x30, xs30, rfl, hs30⟩ := cons_of hs29
          obtain ⟨x31, xs31, rfl, hs31⟩ := cons_of hs30
          obtain ⟨x32, xs32, rfl, hs32⟩ := cons_of hs31
          obtain ⟨x33, xs33, rfl, hs33⟩ := cons_of hs32
          obtain ⟨x34, xs34, rfl, hs34⟩ := cons_of hs33
          obtain ⟨x35, xs35, rfl, hs35⟩ := cons_of hs34
          obtain ⟨x36, xs36, rfl, hs36⟩ := cons_of hs35
          obtain ⟨x37, xs37, rfl, hs37⟩ := cons_of hs36
          obtain ⟨x38, xs38, rfl, hs38⟩ := cons_of hs37
          obtain ⟨x39, xs39, rfl, hs39⟩ := cons_of hs38
          obtain ⟨x40, xs40, rfl, hs40⟩ := cons_of hs39
          obtain ⟨x41, xs41, rfl, hs41⟩ := cons_of hs40
          obtain ⟨x42, xs42, rfl, hs42⟩ := cons_of hs41
          obtain ⟨x43, xs43, rfl, hs43⟩ := cons_of hs42
          obtain ⟨x44, xs44, rfl, hs44⟩ := cons_of hs43
          obtain ⟨x45, xs45, rfl, hs45⟩ := cons_of hs44
          obtain ⟨x46, xs46, rfl, hs46⟩ := cons_of hs45
          obtain ⟨x47, xs47, rfl, hs47⟩ := cons_of hs46
          obtain rfl := List.eq_nil_of_length_eq_zero hs47
          clear hsize hs0 hs1 hs2 hs3 hs4 hs5 hs6 hs7 hs8 hs9 hs10 hs11 hs12 hs13 hs14 hs15 hs16 hs17 hs18 hs19 hs20 hs21 hs22 hs23 hs24 hs25 hs26 hs27 hs28 hs29 hs30 hs31 hs32 hs33 hs34 hs35 hs36 hs37 hs38 hs39 hs40 hs41 hs42 hs43 hs44 hs45 hs46 hs47
          rw [show (Array.mk (x0 :: x1 :: x2 :: x3 :: x4 :: x5 :: x6 :: x7 :: x8 :: x9 :: x10 :: x11 :: x12 :: x13 :: x14 :: x15 :: x16 :: x17 :: x18 :: x19 :: x20 :: x21 :: x22 :: x23 :: x24 :: x25 :: x26 :: x27 :: x28 :: x29 :: x30 :: x31 :: x32 :: x33 :: x34 :: x35 :: x36 :: x37 :: x38 :: x39 :: x40 :: x41 :: x42 :: x43 :: x44 :: x45 :: x46 :: x47 :: []) : Array Value) = List.toArray (x0 :: x1 :: x2 :: x3 :: x4 :: x5 :: x6 :: x7 :: x8 :: x9 :: x10 :: x11 :: x12 :: x13 :: x14 :: x15 :: x16 :: x17 :: x18 :: x19 :: x20 :: x21 :: x22 :: x23 :: x24 :: x25 :: x26 :: x27 :: x28 :: x29 :: x30 :: x31 :: x32 :: x33 :: x34 :: x35 :: x36 :: x37 :: x38 :: x39 :: x40 :: x41 :: x42 :: x43 :: x44 :: x45 :: x46 :: x47 :: []) from rfl]
          change x0 = _ at e0
          subst e0
          change x1 = _ at e1
          subst e1
          change x2 = _ at e2
          subst e2
          change x3 = _ at e3
          subst e3
          change x4 = _ at e4
          subst e4
          change x5 = _ at e5
          subst e5
          change x6 = _ at e6
          subst e6
          change x7 = _ at e7
          subst e7
          change x8 = _ at e8
          subst e8
          change x9 = _ at e9
          subst e9
          change x10 = _ at e10
          subst e10
          change x11 = _ at e11
          subst e11
          change x12 = _ at e12
          subst e12
          change x13 = _ at e13
          subst e13
          change x14 = _ at e14
          subst e14
          change x15 = _ at e15
          subst e15
          change x16 = _ at e16
          subst e16
          change x17 = _ at e17
          subst e17
          change x34 = _ at e34
          subst e34
          change x35 = _ at e35
          subst e35
          change x36 = _ at e36
          subst e36
          change x37 = _ at e37
          subst e37
          change x38 = _ at e38
          subst e38
          change x39 = _ at e39
          subst e39
          change x40 = _ at e40
          subst e40
          change x41 = _ at e41
          subst e41
          change x42 = _ at e42
          subst e42
          change x43 = _ at e43
          subst e43
          change x44 = _ at e44
          subst e44
          change x45 = _ at e45
          subst e45
          change x46 = _ at e46
          subst e46
          change x47 = _ at e47
          subst e47
          change x33 = .bool false at er
          subst er
          have HMR := Lib.hid (HM.out.same MR.out)
          have HPOS : Hid (posR RS l = i) := posR_of (by rw [HL.out]; omega) HALL.out (Or.inl (by rw [HL.out]; omega))
          have K0 := Lib.hid ((HMR.out.cell (a := ⟨B, 0, none⟩) hBl (by simp)).trans k0)
          have K1 := Lib.hid ((HMR.out.cell (a := ⟨B, 1, none⟩) hBl (by simp)).trans k1)
          have K2 := Lib.hid ((HMR.out.cell (a := ⟨B, 2, none⟩) hBl (by simp)).trans k2)
          have hB2 : B < w2.heap.size := Nat.lt_of_lt_of_le hBl HMR.out.size
          have HMW := Lib.hid (M2.out.same HMR.out)
          have HIW : Hid (∀ x ∈ insR RS ⟨l, pg, ct⟩, x.wf) := fun x hx => by
            unfold insR at hx
            rcases List.mem_append.1 hx with h | h
            · exact HIN.out.wf x (List.mem_of_mem_take h)
            · rcases List.mem_cons.1 h with rfl | h
              · exact HWF.out
              · exact HIN.out.wf x (List.mem_of_mem_drop h)
          obtain ⟨r1, s1⟩ := (HIN.out.sl.mod HMR.out (by simp)).sub_h Tryd.underlying22 sizeRoots i .i64 hi
          obtain ⟨pz, r2, s2, _⟩ := (HIN.out.sl.mod HMR.out (by simp)).sub_l Tryd.underlying22 sizeRoots i .i64 hi
          rw [rcells_take] at s1
          rw [rcells_drop] at s2
          have HS1 := Lib.hid s1
          have HS2 := Lib.hid s2
          have hcN := HIN.out.sl.le
          obtain ⟨i0, hi0, hz0, hz1, hz2⟩ := info_parts infoRoot
          clear s1 s2 k0 k1 k2 hidx hBl HG HLT HALL HM MR
          go_wp2
          refine AnyT.start (S := fun w' => w'.cell? ⟨B, 0, none⟩ = some (.string (strOfNums l)) ∧ w'.cell? ⟨B, 1, none⟩ = some (.int .i64 pg) ∧ w'.cell? ⟨B, 2, none⟩ = some (.int .i64 ct)) (by kernel_rfl) ⟨K0.out, K1.out, K2.out⟩ (fun hS => ?_)
          refine AnyT.take (i := 1) (k := 3) (v := ?_) rfl (by kernel_rfl) (fun _ _ _ h => h) hS (Or.inl ⟨by rfl, fun w' hw' => ?_⟩) ?_
          rotate_left
          · go_simp
            try rfl
          simp only [Act.put, List.setIfInBounds_toArray, List.set_cons_zero, List.set_cons_succ]
          refine AnyT.take (i := 2) (k := 3) (v := ?_) rfl (by kernel_rfl) (fun _ _ _ h => h) hS (Or.inl ⟨by rfl, fun w' hw' => ?_⟩) ?_
          rotate_left
          · go_simp
            try rfl
          simp only [Act.put, List.setIfInBounds_toArray, List.set_cons_zero, List.set_cons_succ]
          refine AnyT.take (i := 3) (k := 4) (v := ?_) rfl (by kernel_rfl) (fun _ _ _ h => h) hS (Or.inl ⟨by rfl, fun w' hw' => ?_⟩) ?_
          rotate_left
          · go_simp
            try rfl
          simp only [Act.put, List.setIfInBounds_toArray, List.set_cons_zero, List.set_cons_succ]
          refine AnyT.take (i := 5) (k := 6) (v := ?_) rfl (by kernel_rfl) (fun _ _ _ h => h) hS (Or.inl ⟨by rfl, fun w' hw' => ?_⟩) ?_
          rotate_left
          · go_simp
            try rfl
          simp only [Act.put, List.setIfInBounds_toArray, List.set_cons_zero, List.set_cons_succ]
          refine AnyT.take (i := 8) (k := 10) (v := ?_) rfl (by kernel_rfl) (fun _ _ _ h => h) hS (Or.inl ⟨by rfl, fun w' hw' => ?_⟩) ?_
          rotate_left
          · go_simp
            try rfl
          simp only [Act.put, List.setIfInBounds_toArray, List.set_cons_zero, List.set_cons_succ]
          refine AnyT.take (i := 9) (k := 10) (v := ?_) rfl (by kernel_rfl) (fun _ _ _ h => h) hS (Or.inl ⟨by rfl, fun w' hw' => ?_⟩) ?_
          rotate_left
          · go_simp
            try rfl
          simp only [Act.put, List.setIfInBounds_toArray, List.set_cons_zero, List.set_cons_succ]
          refine AnyT.take (i := 10) (k := 11) (v := ?_) rfl (by kernel_rfl) (fun _ _ _ h => h) hS (Or.inl ⟨by rfl, fun w' hw' => ?_⟩) ?_
          rotate_left
          · go_simp
            try rfl
          simp only [Act.put, List.setIfInBounds_toArray, List.set_cons_zero, List.set_cons_succ]
          clear hS
          refine AnyT.two (i := 0) (j := 6) (by kernel_rfl) rfl rfl (fun K hK => run_step rfl ?_) (fun K hK => run_step rfl ?_)
          · have OT : Hid (Tl (w2.drew.alloc (.cells #[] 34)) w2.heap.size 3 (some ⟨w2.heap.size, 0, none⟩) 0 0 []) := Tl.of_own (own_empty' w2.drew _ _ _ (Nat.le_refl _)) (by simp)
            have MC : Hid (Mod [] w2 (w2.drew.alloc (.cells #[] 34))) := (Mod.of_drew w2).alloc
            go_simp
            refine hK _ _ (fun _ => ⟨(MC.out.cell (a := ⟨B, 0, none⟩) hB2 (by simp)).trans K0.out, (MC.out.cell (a := ⟨B, 1, none⟩) hB2 (by simp)).trans K1.out, (MC.out.cell (a := ⟨B, 2, none⟩) hB2 (by simp)).trans K2.out⟩) ?_
            clear hK K
            have S1 := Lib.hid (HS1.out.mod MC.out (by simp))
            refine AnyT.two (i := 4) (j := 6) (by kernel_rfl) rfl rfl (fun K hK => ?_) (fun K hK => run_step rfl ?_)
            · refine step_append_tl _ (by rfl) _ _ _ (by rfl) w2.heap.size 34 i0 _ 3 32 Tryd.underlying22 hi0 hz0 hz1 hz2 rfl (by omega) _ _ _ _ (by rfl) OT.out _ _ _ _ (by rfl) S1.out i (by omega) (by unfold maxLen; omega) (by omega) MC.out.size ?_
              intro p8 c8 w6 ht8 hm8 hnil8 hor8
              replace MC := Lib.hid (OT.out.turned (w2 := w2) (w0 := w2) rfl hm8 MC.out)
              try replace SR := Lib.hid (SR.out.mod hm8 NR.out)
              replace OT := Lib.hid ht8
              clear ht8 hm8 hnil8 hor8
              refine hK _ _ (fun _ => ⟨(MC.out.cell (a := ⟨B, 0, none⟩) hB2 (by simp)).trans K0.out, (MC.out.cell (a := ⟨B, 1, none⟩) hB2 (by simp)).trans K1.out, (MC.out.cell (a := ⟨B, 2, none⟩) hB2 (by simp)).trans K2.out⟩) ?_
              clear hK K
              have SR := Lib.hid (sl_root w6 l pg ct 34)
              have NR : Hid (∀ a, (some (⟨w6.heap.size, 0, none⟩ : Addr)) = some a → 0 < 1 → a.block ∉ (p8.map (·.block)).toList) := fun a ha _ hm => by
                cases ha
                cases p8 with
                | none => simp at hm
                | some e => simp at hm; have := (OT.out.own e rfl).2.2; omega
              refine AnyT.run (i := 6) (by kernel_rfl) rfl rfl (fun K hK => ?_)
              have OT' := Lib.hid (OT.out.mod (Mod.of_alloc w6 (.cells #[.string (strOfNums l), .int .i64 pg, .int .i64 ct] 34)) (by simp))
              have MC' := Lib.hid (MC.out.same (Mod.of_alloc w6 (.cells #[.string (strOfNums l), .int .i64 pg, .int .i64 ct] 34)))
              clear OT MC
              have OT := OT'
              have MC := MC'
              clear OT' MC'
              go_simp
              refine hK _ _ (fun _ => ⟨(MC.out.cell (a := ⟨B, 0, none⟩) hB2 (by simp)).trans K0.out, (MC.out.cell (a := ⟨B, 1, none⟩) hB2 (by simp)).trans K1.out, (MC.out.cell (a := ⟨B, 2, none⟩) hB2 (by simp)).trans K2.out⟩) ?_
              clear hK K
              refine AnyT.one (i := 7) (by kernel_rfl) rfl (fun K hK => ?_)
              refine step_append_tl _ (by rfl) _ _ _ (by rfl) w2.heap.size 34 i0 _ 3 32 Tryd.underlying22 hi0 hz0 hz1 hz2 rfl (by omega) _ _ _ _ (by rfl) OT.out _ _ _ _ (by rfl) SR.out (i + 1) (by omega) (by unfold maxLen; omega) (by omega) MC.out.size ?_
              intro p8 c8 w7 ht8 hm8 hnil8 hor8
              replace MC := Lib.hid (OT.out.turned (w2 := w2) (w0 := w2) rfl hm8 MC.out)
              try replace SR := Lib.hid (SR.out.mod hm8 NR.out)
              replace OT := Lib.hid ht8
              clear ht8 hm8 hnil8 hor8
              refine hK _ _ (fun _ => ⟨(MC.out.cell (a := ⟨B, 0, none⟩) hB2 (by simp)).trans K0.out, (MC.out.cell (a := ⟨B, 1, none⟩) hB2 (by simp)).trans K1.out, (MC.out.cell (a := ⟨B, 2, none⟩) hB2 (by simp)).trans K2.out⟩) ?_
              clear hK K
              have S3 := Lib.hid (HS2.out.mod MC.out (by simp))
              refine AnyT.one (i := 11) (by kernel_rfl) rfl (fun K hK => ?_)
              refine step_append_tl _ (by rfl) _ _ _ (by rfl) w2.heap.size 34 i0 _ 3 32 Tryd.underlying22 hi0 hz0 hz1 hz2 rfl (by omega) _ _ _ _ (by rfl) OT.out _ _ _ _ (by rfl) S3.out (n + 1) (by omega) (by unfold maxLen; omega) (by omega) MC.out.size ?_
              intro p8 c8 w8 ht8 hm8 hnil8 hor8
              replace MC := Lib.hid (OT.out.turned (w2 := w2) (w0 := w2) rfl hm8 MC.out)
              try replace SR := Lib.hid (SR.out.mod hm8 NR.out)
              replace OT := Lib.hid ht8
              clear ht8 hm8 hnil8 hor8
              refine hK _ _ (fun _ => ⟨(MC.out.cell (a := ⟨B, 0, none⟩) hB2 (by simp)).trans K0.out, (MC.out.cell (a := ⟨B, 1, none⟩) hB2 (by simp)).trans K1.out, (MC.out.cell (a := ⟨B, 2, none⟩) hB2 (by simp)).trans K2.out⟩) ?_
              clear hK K
              refine AnyT.run (i := 12) (by kernel_rfl) rfl rfl (fun K hK => ?_)
              go_simp
              refine hK _ _ (fun _ => ⟨(MC.out.cell (a := ⟨B, 0, none⟩) hB2 (by simp)).trans K0.out, (MC.out.cell (a := ⟨B, 1, none⟩) hB2 (by simp)).trans K1.out, (MC.out.cell (a := ⟨B, 2, none⟩) hB2 (by simp)).trans K2.out⟩) ?_
              clear hK K
              refine AnyT.run (i := 13) (by kernel_rfl) rfl rfl (fun K hK => ?_)
              go_simp
              refine hK _ _ (fun h => absurd h (by rw [show more _ _ = false from by kernel_rfl]; decide)) ?_
              clear hK K
              refine AnyT.done (by kernel_rfl) ?_ _
              go_wp2
              go_ret2
              refine .mk ?_
              rw [HV1.out]
              refine ⟨p8, n + 1, c8, rfl, ⟨?_, HIW.out⟩, HMW.out.same MC.out⟩
              have := OT.out.sl
              rw [List.nil_append, ← rcells_append, ← rcells_append] at this
              show Sl _ 3 p8 (n + 1) c8 (rcells (insR RS ⟨l, pg, ct⟩))
              unfold insR
              rw [show posR RS (⟨l, pg, ct⟩ : Rt).l = i from HPOS.out]
              simpa using this
            · have SR : Hid (Sl ((w2.drew.alloc (.cells #[] 34)).alloc (.cells #[.string (strOfNums l), .int .i64 pg, .int .i64 ct] 34)) 3 (some ⟨w2.heap.size + 1, 0, none⟩) 1 1 (rcells [⟨l, pg, ct⟩])) := by
                have := sl_root (w2.drew.alloc (.cells #[] 34)) l pg ct 34
                unfold Hid; simpa using this
              have NR : Hid (∀ a, (some (⟨w2.heap.size + 1, 0, none⟩ : Addr)) = some a → 0 < 1 → a.block ∉ ((some (⟨w2.heap.size, 0, none⟩ : Addr)).map (·.block)).toList) := fun a ha _ hm => by
                cases ha; simp at hm
              have OT' := Lib.hid (OT.out.mod (Mod.of_alloc _ (.cells #[.string (strOfNums l), .int .i64 pg, .int .i64 ct] 34)) (by simp))
              have MC' := Lib.hid (MC.out.same (Mod.of_alloc _ (.cells #[.string (strOfNums l), .int .i64 pg, .int .i64 ct] 34)))
              clear OT MC
              have OT := OT'
              have MC := MC'
              replace S1 := Lib.hid (HS1.out.mod MC.out (by simp))
              clear OT' MC'
              go_simp
              refine hK _ _ (fun _ => ⟨(MC.out.cell (a := ⟨B, 0, none⟩) hB2 (by simp)).trans K0.out, (MC.out.cell (a := ⟨B, 1, none⟩) hB2 (by simp)).trans K1.out, (MC.out.cell (a := ⟨B, 2, none⟩) hB2 (by simp)).trans K2.out⟩) ?_
              clear hK K
              refine AnyT.one (i := 4) (by kernel_rfl) rfl (fun K hK => ?_)
              refine step_append_tl _ (by rfl) _ _ _ (by rfl) w2.heap.size 34 i0 _ 3 32 Tryd.underlying22 hi0 hz0 hz1 hz2 rfl (by omega) _ _ _ _ (by rfl) OT.out _ _ _ _ (by rfl) S1.out i (by omega) (by unfold maxLen; omega) (by omega) MC.out.size ?_
              intro p8 c8 w6 ht8 hm8 hnil8 hor8
              replace MC := Lib.hid (OT.out.turned (w2 := w2) (w0 := w2) rfl hm8 MC.out)
              try replace SR := Lib.hid (SR.out.mod hm8 NR.out)
              replace OT := Lib.hid ht8
              clear ht8 hm8 hnil8 hor8
              refine hK _ _ (fun _ => ⟨(MC.out.cell (a := ⟨B, 0, none⟩) hB2 (by simp)).trans K0.out, (MC.out.cell (a := ⟨B, 1, none⟩) hB2 (by simp)).trans K1.out, (MC.out.cell (a := ⟨B, 2, none⟩) hB2 (by simp)).trans K2.out⟩) ?_
              clear hK K
              refine AnyT.one (i := 7) (by kernel_rfl) rfl (fun K hK => ?_)
              refine step_append_tl _ (by rfl) _ _ _ (by rfl) w2.heap.size 34 i0 _ 3 32 Tryd.underlying22 hi0 hz0 hz1 hz2 rfl (by omega) _ _ _ _ (by rfl) OT.out _ _ _ _ (by rfl) SR.out (i + 1) (by omega) (by unfold maxLen; omega) (by omega) MC.out.size ?_
              intro p8 c8 w7 ht8 hm8 hnil8 hor8
              replace MC := Lib.hid (OT.out.turned (w2 := w2) (w0 := w2) rfl hm8 MC.out)
              try replace SR := Lib.hid (SR.out.mod hm8 NR.out)
              replace OT := Lib.hid ht8
              clear ht8 hm8 hnil8 hor8
              refine hK _ _ (fun _ => ⟨(MC.out.cell (a := ⟨B, 0, none⟩) hB2 (by simp)).trans K0.out, (MC.out.cell (a := ⟨B, 1, none⟩) hB2 (by simp)).trans K1.out, (MC.out.cell (a := ⟨B, 2, none⟩) hB2 (by simp)).trans K2.out⟩) ?_
              clear hK K
              have S3 := Lib.hid (HS2.out.mod MC.out (by simp))
              refine AnyT.one (i := 11) (by kernel_rfl) rfl (fun K hK => ?_)
              refine step_append_tl _ (by rfl) _ _ _ (by rfl) w2.heap.size 34 i0 _ 3 32 Tryd.underlying22 hi0 hz0 hz1 hz2 rfl (by omega) _ _ _ _ (by rfl) OT.out _ _ _ _ (by rfl) S3.out (n + 1) (by omega) (by unfold maxLen; omega) (by omega) MC.out.size ?_
              intro p8 c8 w8 ht8 hm8 hnil8 hor8
              replace MC := Lib.hid (OT.out.turned (w2 := w2) (w0 := w2) rfl hm8 MC.out)
              try replace SR := Lib.hid (SR.out.mod hm8 NR.out)
              replace OT := Lib.hid ht8
              clear ht8 hm8 hnil8 hor8
              refine hK _ _ (fun _ => ⟨(MC.out.cell (a := ⟨B, 0, none⟩) hB2 (by simp)).trans K0.out, (MC.out.cell (a := ⟨B, 1, none⟩) hB2 (by simp)).trans K1.out, (MC.out.cell (a := ⟨B, 2, none⟩) hB2 (by simp)).trans K2.out⟩) ?_
              clear hK K
              refine AnyT.run (i := 12) (by kernel_rfl) rfl rfl (fun K hK => ?_)
              go_simp
              refine hK _ _ (fun _ => ⟨(MC.out.cell (a := ⟨B, 0, none⟩) hB2 (by simp)).trans K0.out, (MC.out.cell (a := ⟨B, 1, none⟩) hB2 (by simp)).trans K1.out, (MC.out.cell (a := ⟨B, 2, none⟩) hB2 (by simp)).trans K2.out⟩) ?_
              clear hK K
              refine AnyT.run (i := 13) (by kernel_rfl) rfl rfl (fun K hK => ?_)
              go_simp
              refine hK _ _ (fun h => absurd h (by rw [show more _ _ = false from by kernel_rfl]; decide)) ?_
              clear hK K
              refine AnyT.done (by kernel_rfl) ?_ _
              go_wp2
              go_ret2
              refine .mk ?_
              rw [HV1.out]
              refine ⟨p8, n + 1, c8, rfl, ⟨?_, HIW.out⟩, HMW.out.same MC.out⟩
              have := OT.out.sl
              rw [List.nil_append, ← rcells_append, ← rcells_append] at this
              show Sl _ 3 p8 (n + 1) c8 (rcells (insR RS ⟨l, pg, ct⟩))
              unfold insR
              rw [show posR RS (⟨l, pg, ct⟩ : Rt).l = i from HPOS.out]
              simpa using this
          · have SR := Lib.hid (sl_root w2.drew l pg ct 34)
            have MC : Hid (Mod [] w2 (w2.drew.alloc (.cells #[.string (strOfNums l), .int .i64 pg, .int .i64 ct] 34))) := (Mod.of_drew w2).alloc
            go_simp
            refine hK _ _ (fun _ => ⟨(MC.out.cell (a := ⟨B, 0, none⟩) hB2 (by simp)).trans K0.out, (MC.out.cell (a := ⟨B, 1, none⟩) hB2 (by simp)).trans K1.out, (MC.out.cell (a := ⟨B, 2, none⟩) hB2 (by simp)).trans K2.out⟩) ?_
            clear hK K
            refine AnyT.run (i := 0) (by kernel_rfl) rfl rfl (fun K hK => ?_)
            have OT : Hid (Tl ((w2.drew.alloc (.cells #[.string (strOfNums l), .int .i64 pg, .int .i64 ct] 34)).alloc (.cells #[] 34)) w2.heap.size 3 (some ⟨w2.heap.size + 1, 0, none⟩) 0 0 []) := by
              have := Tl.of_own (own_empty' (w2.drew.alloc (.cells #[.string (strOfNums l), .int .i64 pg, .int .i64 ct] 34)) 34 3 w2.heap.size MC.out.size) (by simp)
              unfold Hid; simpa using this
            have NR : Hid (∀ a, (some (⟨w2.drew.heap.size, 0, none⟩ : Addr)) = some a → 0 < 1 → a.block ∉ ((some (⟨w2.heap.size + 1, 0, none⟩ : Addr)).map (·.block)).toList) := fun a ha _ hm => by
              cases ha; simp at hm
            replace SR := Lib.hid (SR.out.mod (Mod.of_alloc _ (.cells #[] 34)) (by simp))
            replace MC := Lib.hid (MC.out.same (Mod.of_alloc _ (.cells #[] 34)))
            have S1 := Lib.hid (HS1.out.mod MC.out (by simp))
            go_simp
            refine hK _ _ (fun _ => ⟨(MC.out.cell (a := ⟨B, 0, none⟩) hB2 (by simp)).trans K0.out, (MC.out.cell (a := ⟨B, 1, none⟩) hB2 (by simp)).trans K1.out, (MC.out.cell (a := ⟨B, 2, none⟩) hB2 (by simp)).trans K2.out⟩) ?_
            clear hK K
            refine AnyT.one (i := 4) (by kernel_rfl) rfl (fun K hK => ?_)
            refine step_append_tl _ (by rfl) _ _ _ (by rfl) w2.heap.size 34 i0 _ 3 32 Tryd.underlying22 hi0 hz0 hz1 hz2 rfl (by omega) _ _ _ _ (by rfl) OT.out _ _ _ _ (by rfl) S1.out i (by omega) (by unfold maxLen; omega) (by omega) MC.out.size ?_
            intro p8 c8 w6 ht8 hm8 hnil8 hor8
            replace MC := Lib.hid (OT.out.turned (w2 := w2) (w0 := w2) rfl hm8 MC.out)
            try replace SR := Lib.hid (SR.out.mod hm8 NR.out)
            replace OT := Lib.hid ht8
            clear ht8 hm8 hnil8 hor8
            refine hK _ _ (fun _ => ⟨(MC.out.cell (a := ⟨B, 0, none⟩) hB2 (by simp)).trans K0.out, (MC.out.cell (a := ⟨B, 1, none⟩) hB2 (by simp)).trans K1.out, (MC.out.cell (a := ⟨B, 2, none⟩) hB2 (by simp)).trans K2.out⟩) ?_
            clear hK K
            refine AnyT.one (i := 7) (by kernel_rfl) rfl (fun K hK => ?_)
            refine step_append_tl _ (by rfl) _ _ _ (by rfl) w2.heap.size 34 i0 _ 3 32 Tryd.underlying22 hi0 hz0 hz1 hz2 rfl (by omega) _ _ _ _ (by rfl) OT.out _ _ _ _ (by rfl) SR.out (i + 1) (by omega) (by unfold maxLen; omega) (by omega) MC.out.size ?_
            intro p8 c8 w7 ht8 hm8 hnil8 hor8
            replace MC := Lib.hid (OT.out.turned (w2 := w2) (w0 := w2) rfl hm8 MC.out)
            try replace SR := Lib.hid (SR.out.mod hm8 NR.out)
            replace OT := Lib.hid ht8
            clear ht8 hm8 hnil8 hor8
            refine hK _ _ (fun _ => ⟨(MC.out.cell (a := ⟨B, 0, none⟩) hB2 (by simp)).trans K0.out, (MC.out.cell (a := ⟨B, 1, none⟩) hB2 (by simp)).trans K1.out, (MC.out.cell (a := ⟨B, 2, none⟩) hB2 (by simp)).trans K2.out⟩) ?_
            clear hK K
            have S3 := Lib.hid (HS2.out.mod MC.out (by simp))
            refine AnyT.one (i := 11) (by kernel_rfl) rfl (fun K hK => ?_)
            refine step_append_tl _ (by rfl) _ _ _ (by rfl) w2.heap.size 34 i0 _ 3 32 Tryd.underlying22 hi0 hz0 hz1 hz2 rfl (by omega) _ _ _ _ (by rfl) OT.out _ _ _ _ (by rfl) S3.out (n + 1) (by omega) (by unfold maxLen; omega) (by omega) MC.out.size ?_
            intro p8 c8 w8 ht8 hm8 hnil8 hor8
            replace MC := Lib.hid (OT.out.turned (w2 := w2) (w0 := w2) rfl hm8 MC.out)
            try replace SR := Lib.hid (SR.out.mod hm8 NR.out)
            replace OT := Lib.hid ht8
            clear ht8 hm8 hnil8 hor8
            refine hK _ _ (fun _ => ⟨(MC.out.cell (a := ⟨B, 0, none⟩) hB2 (by simp)).trans K0.out, (MC.out.cell (a := ⟨B, 1, none⟩) hB2 (by simp)).trans K1.out, (MC.out.cell (a := ⟨B, 2, none⟩) hB2 (by simp)).trans K2.out⟩) ?_
            clear hK K
            refine AnyT.run (i := 12) (by kernel_rfl) rfl rfl (fun K hK => ?_)
            go_simp
            refine hK _ _ (fun _ => ⟨(MC.out.cell (a := ⟨B, 0, none⟩) hB2 (by simp)).trans K0.out, (MC.out.cell (a := ⟨B, 1, none⟩) hB2 (by simp)).trans K1.out, (MC.out.cell (a := ⟨B, 2, none⟩) hB2 (by simp)).trans K2.out⟩) ?_
            clear hK K
            refine AnyT.run (i := 13) (by kernel_rfl) rfl rfl (fun K hK => ?_)
            go_simp
            refine hK _ _ (fun h => absurd h (by rw [show more _ _ = false from by kernel_rfl]; decide)) ?_
            clear hK K
            refine AnyT.done (by kernel_rfl) ?_ _
            go_wp2
            go_ret2
            refine .mk ?_
            rw [HV1.out]
            refine ⟨p8, n + 1, c8, rfl, ⟨?_, HIW.out⟩, HMW.out.same MC.out⟩
            have := OT.out.sl
            rw [List.nil_append, ← rcells_append, ← rcells_append] at this
            show Sl _ 3 p8 (n + 1) c8 (rcells (insR RS ⟨l, pg, ct⟩))
            unfold insR
            rw [show posR RS (⟨l, pg, ct⟩ : Rt).l = i from HPOS.out]
            simpa using this
end Go.Proofs.YtpdkkokgpdabhaaDoor
