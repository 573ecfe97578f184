/- The pool's Trim, as a pure function. -/
import Derived.Test.YtibkhdlddllcjaaPoolHolds
namespace Go.Proofs.Ytibkhdlddllcjaa
open Go.RowKit Go.Maps
set_option linter.unusedSimpArgs false
set_option linter.unusedVariables false

def PS.trim (s : PS) (h : Int) : Int × PS :=
  if h2 : 2 < s.high then
    match look s.m (s.high - 1) with
    | none => (0, s)
    | some g => if g ≤ h then ((PS.trim ⟨s.cap, s.high - 1, cut s.m (s.high - 1)⟩ h).1 + 1, (PS.trim ⟨s.cap, s.high - 1, cut s.m (s.high - 1)⟩ h).2) else (0, s)
  else (0, s)
termination_by s.high.toNat
decreasing_by all_goals (simp; omega)

def PS.less (s : PS) : PS := ⟨s.cap, s.high - 1, cut s.m (s.high - 1)⟩
theorem PS.trim_low {s : PS} {h : Int} (h2 : ¬ 2 < s.high) : s.trim h = (0, s) := by rw [PS.trim]; simp [h2]
theorem PS.trim_none {s : PS} {h : Int} (hl : look s.m (s.high - 1) = none) : s.trim h = (0, s) := by rw [PS.trim]; simp [hl]
theorem PS.trim_old {s : PS} {h g : Int} (hl : look s.m (s.high - 1) = some g) (hg : ¬ g ≤ h) : s.trim h = (0, s) := by rw [PS.trim]; simp [hl, hg]
theorem PS.trim_step {s : PS} {h g : Int} (h2 : 2 < s.high) (hl : look s.m (s.high - 1) = some g) (hg : g ≤ h) : s.trim h = ((s.less.trim h).1 + 1, (s.less.trim h).2) := by
  rw [PS.trim]; simp [hl, hg, h2, PS.less]
theorem PS.Ok.less {s : PS} (h : s.Ok) (h2 : 2 < s.high) : s.less.Ok := by
  refine ⟨h.cap, by simp [PS.less]; omega, by have := h.high; simp [PS.less]; omega, fun p hp => ?_, fun p hp => h.wf p (List.mem_filter.1 hp).1, h.srt.cut _⟩
  obtain ⟨h3, h4⟩ := List.mem_filter.1 hp
  have := h.at_ p h3
  simp at h4
  simp [PS.less]; omega

def TrimR (sb bm : Nat) (s : PS) (h : Int) (w : World) (v : Value) (w' : World) : Prop := v = .int .i64 (s.trim h).1 ∧ PoolAt w' sb bm (s.trim h).2 ∧ Mod [sb, bm] w w'
set_option maxRecDepth 100000 in
set_option maxHeartbeats 1000000 in
theorem trim_any (sb bm : Nat) (s : PS) (h : Int) (w : World) (hr : PoolAt w sb bm s) :
    Calls Try.prog 15 #[.pointer (some ⟨sb, 0, none⟩), .int .u64 h] w (Ret (TrimR sb bm s h w)) := by
  have HR0 := Lib.hid hr
  clear hr
  go_enter Try.func15, Try.ntmps15
  go_wp2_with fail
  go_loopw [5] (fun o wr => ∃ (j : Nat) (t : PS), o = .int .i64 j ∧ PoolAt wr sb bm t ∧ Mod [sb, bm] w wr ∧ (j : Int) + t.high ≤ 2048 ∧ s.trim h = ((t.trim h).1 + j, (t.trim h).2)) (fun o _ => 2048 - (intOf o).toNat)
  case atStart => exact ⟨0, s, rfl, HR0.out, Mod.refl _ _, by have := HR0.out.ok.high; have := HR0.out.ok.cap; omega, by simp⟩
  case round =>
    obtain ⟨j, t, rfl, hr, hm, hj, ht⟩ := hrel
    have c1 : wr.cell? ⟨sb, 1, none⟩ = some (.int .i64 t.high) := cell_of_at hr.at_ 1
    have c2 : wr.cell? ⟨sb, 2, none⟩ = some (.map (some bm)) := cell_of_at hr.at_ 2
    have f1 : wr.frozen? ⟨sb, 1, none⟩ = false := free_of_at hr.at_ 1
    have hlow := hr.ok.low
    have hhigh := hr.ok.high
    have hcap := hr.ok.cap
    have hkey := keyOf_int_mk (P := Try.prog) Try.underlying3 (wf_i64 (x := t.high - 1) (by omega) (by omega))
    have hwr : IntKind.i64.wrap (t.high - 1) = t.high - 1 := IntWalk.i64_in _ (by omega)
    have hown := hr.map.own
    have hrun : ∀ n, (Instr.lookup 54 (.map (some bm)) (.int .i64 (t.high - 1)) true).run Try.prog (wr.drewN n) = .ok (.tuple #[.int .u64 ((look t.m (t.high - 1)).getD 0), .bool (look t.m (t.high - 1)).isSome]) (wr.drewN n) := by
      intro n
      have hown' : (wr.drewN n).ownsMap Try.prog 3 (plainElem Try.prog 25) bm t.m.length (dmap .u64 t.m) := hown
      obtain ⟨vv, ps, hrun, hv⟩ := hown'.look_ok law3 Try.underlying54 (zero22 _) (plainElem_int Try.underlying25 (q := .u64) (a := 0) (by decide)) hkey
      obtain ⟨c, rfl, hc, hwc⟩ := plainElem_int_inv Try.underlying25 hv
      rw [has_dmap] at hrun
      rw [atKey_dmap] at hc
      simp only [Prod.mk.injEq, DataW.lit.injEq, Lit.int.injEq, true_and] at hc
      rw [hrun, hc.1]
    have HR := Lib.hid hr
    have HM := Lib.hid hm
    have HT := Lib.hid ht
    clear hr hm ht HR0
    by_cases h2 : 2 < t.high
    · cases hl : look t.m (t.high - 1) with
      | none =>
        rw [hl] at hrun
        simp only [Option.isSome_none, Option.getD_none] at hrun
        have HE := Lib.hid (PS.trim_none (h := h) hl)
        clear hown hkey hl
        go_wp2
        go_quiet (fail)
        go_wp2
        go_ret
        have ht := HT.out
        rw [HE.out] at ht
        exact .mk ⟨by rw [ht]; simp, by rw [ht]; exact HR.out.mod (Mod.refl [] wr).drewN (by simp) (by simp), HM.out.drewN⟩
      | some g =>
        rw [hl] at hrun
        simp only [Option.isSome_some, Option.getD_some] at hrun
        by_cases hg : g ≤ h
        · have HE := Lib.hid (PS.trim_step (h := h) h2 hl hg)
          have HO := Lib.hid (HR.out.ok.less h2)
          have HK := Lib.hid hkey
          clear hown hkey hl
          go_wp2
          go_quiet (fail)
          go_wp2
          obtain ⟨w5, hw5⟩ : ∃ w5, w5 = (wr.drewN nq).setCell ⟨sb, 1, none⟩ (.int .i64 (t.high - 1)) := ⟨_, rfl⟩
          rw [← hw5]
          have hat5 : w5.heap[sb]? = some (.cells #[.int .i64 t.cap, .int .i64 (t.high - 1), .map (some bm)] 56 (0, 0)) := by rw [hw5]; exact at_setCell (by exact HR.out.at_) 1 _
          have hmap5 : MapI Try.prog 3 25 .u64 w5 bm t.m := by rw [hw5]; exact HR.out.map.of_block (at_setCell_other HR.out.ne 1 _)
          have hm5 : Mod [sb, bm] wr w5 := by rw [hw5]; exact Mod.setCell (S := [sb, bm]) (b := sb) ((Mod.refl [sb, bm] wr).drewN) (Or.inl (by simp))
          have d1 : w5.cell? ⟨sb, 1, none⟩ = some (.int .i64 (t.high - 1)) := cell_of_at hat5 1
          have d2 : w5.cell? ⟨sb, 2, none⟩ = some (.map (some bm)) := cell_of_at hat5 2
          have HA5 := Lib.hid hat5
          have HP5 := Lib.hid hmap5
          have HM5 := Lib.hid hm5
          have HO2 := Lib.hid (show w5.drew.ownsMap (H := Unit) Try.prog 3 (plainElem Try.prog 25) bm t.m.length (dmap .u64 t.m) from hmap5.own)
          clear hw5 hat5 hmap5 hm5 c1 c2 f1 hrun
          go_region_law (refine step_delete_own _ (by rfl) _ _ _ _ (by rfl) 25 law3 Try.underlying54 _ bm _ _ (by rfl) HO2.out _ _ (by rfl) HK.out ?_; intro w3 hown3 hturn3; (have HO3 := Lib.hid hown3); (have HT3 := Lib.hid hturn3); clear hown3 hturn3)
          all_goals
            have H : Hid (PoolAt w3 sb bm t.less ∧ Mod [sb, bm] w w3) := by
              have hO := HO3.out
              rw [del_dmap] at hO
              have hO2 := ownsMap_tight hO
              rw [size_dmap] at hO2
              have hm3 : Mod [bm] w5 w3 := ((Mod.of_drew _).mono (by simp)).same (Mod.of_grown HT3.out.grown)
              exact ⟨⟨hm3.at HA5.out (by simpa using HR.out.ne.symm), ⟨hO2, HP5.out.srt.cut _⟩, HO.out⟩, (HM.out.same HM5.out).same (hm3.mono (by simp))⟩
            clear HO2
            go_wp2
            go_roundw
            case rel => exact ⟨j + 1, t.less, by go_num, H.out.1, H.out.2, by simp [PS.less]; omega, by rw [HT.out, HE.out]; simp; omega⟩
            case measure => simp [intOf]; omega
        · have HE := Lib.hid (PS.trim_old (h := h) hl hg)
          clear hown hkey hl
          go_wp2
          go_quiet (fail)
          go_wp2
          go_ret
          have ht := HT.out
          rw [HE.out] at ht
          exact .mk ⟨by rw [ht]; simp, by rw [ht]; exact HR.out.mod (Mod.refl [] wr).drewN (by simp) (by simp), HM.out.drewN⟩
    · have HE := Lib.hid (PS.trim_low (h := h) h2)
      clear hown hkey hrun
      go_wp2
      go_ret
      have ht := HT.out
      rw [HE.out] at ht
      exact .mk ⟨by rw [ht]; simp, by rw [ht]; exact HR.out, HM.out⟩
end Go.Proofs.Ytibkhdlddllcjaa
