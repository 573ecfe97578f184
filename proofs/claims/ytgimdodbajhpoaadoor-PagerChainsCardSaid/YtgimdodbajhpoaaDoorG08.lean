/- The pool, more: Alloc. Slices of the document's Key, appended to. Freed pages in memory. -/
import Derived.Test.YtgimdodbajhpoaaDoorG07
import Derived.Test.YtgimdodbajhpoaaDoorG05
import Derived.Test.YtgimdodbajhpoaaDoorG04
import Derived.Test.YtgimdodbajhpoaaDoorG03
import Derived.Test.YtgimdodbajhpoaaDoorRows
namespace Go.Proofs.YtgimdodbajhpoaaDoor
open Go.RowKit Go.Maps
set_option linter.unusedSimpArgs false
set_option linter.unusedVariables false

def LessR (hb bb : Nat) (h y no gen : Int) (w w' : World) : Prop := w' = if gen ≤ h ∧ no < y then w.setCell ⟨bb, 0, none⟩ (.int .i64 no) else w
def EndR (R : World → Prop) : Ending → World → Prop := fun e w' => e = .returned (.tuple #[]) ∧ R w'
theorem less_any (hb bb : Nat) (h y no gen : Int) (w : World) (c1 : w.cell? ⟨hb, 0, none⟩ = some (.int .u64 h)) (c2 : w.cell? ⟨bb, 0, none⟩ = some (.int .i64 y)) (f2 : w.frozen? ⟨bb, 0, none⟩ = false) :
    Calls Tryd.prog 48 #[.int .i64 no, .int .u64 gen, .pointer (some ⟨hb, 0, none⟩), .pointer (some ⟨bb, 0, none⟩)] w (EndR (LessR hb bb h y no gen w)) := by
  by_cases h1 : gen ≤ h
  · by_cases h2 : no < y
    · have HL : Hid (LessR hb bb h y no gen w (w.setCell ⟨bb, 0, none⟩ (.int .i64 no))) := by unfold LessR; rw [if_pos ⟨h1, h2⟩]; exact rfl
      go_enter Tryd.func48, Tryd.ntmps48
      go_wp2
      go_end0
      exact ⟨rfl, HL.out⟩
    · have HL : Hid (LessR hb bb h y no gen w w) := by unfold LessR; rw [if_neg (by omega)]; exact rfl
      go_enter Tryd.func48, Tryd.ntmps48
      go_wp2
      go_end0
      exact ⟨rfl, HL.out⟩
  · have HL : Hid (LessR hb bb h y no gen w w) := by unfold LessR; rw [if_neg (by omega)]; exact rfl
    go_enter Tryd.func48, Tryd.ntmps48
    go_wp2
    go_end0
    exact ⟨rfl, HL.out⟩

/-- The least page that may be used, below the high mark; or the high mark. -/
structure Best (s : PS) (h : Int) (left : Lit → Bool) (y : Int) : Prop where
  le : y ≤ s.high
  all : ∀ p ∈ s.m, left (.int .i64 p.1) = false → p.2 ≤ h → y ≤ p.1
  one : y = s.high ∨ ∃ p ∈ s.m, p.2 ≤ h ∧ y = p.1
theorem find_none {m : List (Int × Int)} {h : Int} (hn : ∀ p ∈ m, ¬ p.2 ≤ h) : m.find? (fun p => decide (p.2 ≤ h)) = none := by
  rw [List.find?_eq_none]; intro p hp; simpa using hn p hp
theorem find_some {m : List (Int × Int)} {h : Int} {p : Int × Int} (hs : Srt m) (hp : p ∈ m) (hle : p.2 ≤ h) (hall : ∀ q ∈ m, q.2 ≤ h → p.1 ≤ q.1) : m.find? (fun p => decide (p.2 ≤ h)) = some p := by
  induction m with
  | nil => simp at hp
  | cons a r ih =>
    obtain ⟨h1, h2⟩ := List.pairwise_cons.1 hs
    rcases List.mem_cons.1 hp with rfl | hp'
    · rw [List.find?_cons, decide_eq_true hle]
    · have ha : ¬ a.2 ≤ h := fun hc => by
        have := hall a (by simp) hc
        have := h1 p hp'
        omega
      rw [List.find?_cons, decide_eq_false ha]
      exact ih h2 hp' (fun q hq => hall q (by simp [hq]))

def AllocR (sb bm : Nat) (s : PS) (h : Int) (w : World) (v : Value) (w' : World) : Prop :=
  v = .tuple #[.int .i64 (s.alloc h).1.1, .int .i64 (s.alloc h).1.2] ∧ PoolAt w' sb bm (s.alloc h).2 ∧ Mod [sb, bm] w w'
set_option maxRecDepth 100000 in
set_option maxHeartbeats 1000000 in
theorem alloc_any (sb bm : Nat) (s : PS) (h : Int) (w : World) (hr : PoolAt w sb bm s) :
    Calls Tryd.prog 31 #[.pointer (some ⟨sb, 0, none⟩), .int .u64 h] w (Ret (AllocR sb bm s h w)) := by
  have hlt1 := lt_of_at hr.at_
  have hlt2 := hr.map.lt
  have HR := Lib.hid hr
  have c1 : w.cell? ⟨sb, 1, none⟩ = some (.int .i64 s.high) := cell_of_at hr.at_ 1
  have c2 : w.cell? ⟨sb, 2, none⟩ = some (.map (some bm)) := cell_of_at hr.at_ 2
  clear hr
  go_enter Tryd.func31, Tryd.ntmps31
  have hmA : Mod [] w ((w.alloc (.cells #[.int .u64 h] 33)).alloc (.cells #[.int .i64 s.high] 3)) := (Mod.of_alloc _ _).same (Mod.of_alloc _ _)
  have HMA := Lib.hid hmA
  clear hmA
  go_wp2_with (first
    | (at_range; go_must (refine wpList_range_own _ rfl _ 51 rfl 3 33 law3 Tryd.underlying51 _ bm _ _ rfl (HR.out.map.mod HMA.out (by simp)).own ?_); intro w0 hrg0 hg0 hs0)
    | go_in)
  go_frame
  have hN : ((w.alloc (.cells #[.int .u64 h] 33)).alloc (.cells #[.int .i64 s.high] 3)).heap.size = w.heap.size + 2 := by simp
  rw [hN] at hrg0 hs0 ⊢
  have hm0 : Mod [] w w0 := HMA.out.same (Mod.of_grown_none hg0)
  have hbb : w0.heap[w.heap.size + 1]? = some (.cells #[.int .i64 s.high] 3 (0, 0)) := by
    rw [hg0.block _ (by rw [hN]; omega) (by simp)]; exact at_alloc' _ _ (by simp)
  have hhb : w0.heap[w.heap.size]? = some (.cells #[.int .u64 h] 33 (0, 0)) := by
    rw [hg0.block _ (by rw [hN]; omega) (by simp)]; exact at_alloc_other (at_alloc w _) _
  have HM0 := Lib.hid hm0
  have HG0 := Lib.hid hg0
  have hs0' : w.heap.size + 2 < w0.heap.size := by omega
  clear hm0 hg0 hs0 hN
  go_loopw [8, 9] (fun _ _ wr => ∃ (y : Int) (left : Lit → Bool) (cnt : Nat), wr.heap[w.heap.size + 1]? = some (.cells #[.int .i64 y] 3 (0, 0)) ∧ wr.heap[w.heap.size]? = some (.cells #[.int .u64 h] 33 (0, 0)) ∧
      wr.ranges Tryd.prog 3 (plainElem Tryd.prog 33) bm (w.heap.size + 2) s.m.length (dmap .u64 s.m) left cnt ∧ Mod [] w wr ∧ Best s h left y)
    (fun _ _ wr => wr.rangeLeft bm (w.heap.size + 2))
  case atStart =>
    refine ⟨s.high, _, _, hbb, hhb, hrg0, HM0.out, Int.le_refl _, fun p hp hl => ?_, Or.inl rfl⟩
    rw [has_dmap, look_of_mem HR.out.map.srt hp] at hl; cases hl
  case round =>
    obtain ⟨y, left, cnt, hy, hh, hrg, hmd, hbest⟩ := hrel
    have HY := Lib.hid hy
    have HH := Lib.hid hh
    have HMD := Lib.hid hmd
    have HB := Lib.hid hbest
    have cy : wr.cell? ⟨w.heap.size + 1, 0, none⟩ = some (.int .i64 y) := cell_of_at hy 0
    have fy : wr.frozen? ⟨w.heap.size + 1, 0, none⟩ = false := free_of_at hy 0
    have ch : wr.cell? ⟨w.heap.size, 0, none⟩ = some (.int .u64 h) := cell_of_at hh 0
    clear hy hh hmd hbest hbb hhb hrg0 HM0 HG0 c1 c2
    go_wp2_with (first
      | (at_next; refine wpList_next_ranges_ii _ rfl _ rfl 3 33 .i64 .u64 law3 Tryd.underlying3 Tryd.underlying33 bm (w.heap.size + 2) _ _ _ _ rfl hrg ?_ ?_)
      | go_in)
    · intro _ hl0
      have hr1 : PoolAt wr sb bm s := HR.out.mod HMD.out (by simp) (by simp)
      have d0 : wr.cell? ⟨sb, 0, none⟩ = some (.int .i64 s.cap) := cell_of_at hr1.at_ 0
      have d1 : wr.cell? ⟨sb, 1, none⟩ = some (.int .i64 s.high) := cell_of_at hr1.at_ 1
      have d2 : wr.cell? ⟨sb, 2, none⟩ = some (.map (some bm)) := cell_of_at hr1.at_ 2
      have e1 : wr.frozen? ⟨sb, 1, none⟩ = false := free_of_at hr1.at_ 1
      have hok := hr1.ok
      have hhi := hok.high
      have hcap := hok.cap
      have hlow := hok.low
      have HR1 := Lib.hid hr1
      have HOK := Lib.hid hok
      have hwfy : -9223372036854775808 ≤ y ∧ y ≤ 9223372036854775807 := by
        have hb := HB.out
        refine ⟨?_, by have := hb.le; omega⟩
        rcases hb.one with h | ⟨p, hp, _, h⟩
        · omega
        · have := (hok.at_ p hp).1; omega
      have hkey := keyOf_int_mk (P := Tryd.prog) Tryd.underlying3 (wf_i64 hwfy.1 hwfy.2)
      have hown := hr1.map.own
      clear hrg hr1 hok
      by_cases hlt : y < s.high
      · have HA : Hid (s.alloc h = ((y, 0), ⟨s.cap, s.high, cut s.m y⟩)) := by
          have hb := HB.out
          rcases hb.one with h1 | ⟨p, hp, hle, rfl⟩
          · omega
          · unfold PS.alloc; rw [find_some HOK.out.srt hp hle (fun q hq hq2 => hb.all q hq (hl0 _) hq2)]; exact rfl
        go_wp2
        go_quiet (fail)
        have HO2 := Lib.hid (show (wr.drewN nq).drew.ownsMap (H := Unit) Tryd.prog 3 (plainElem Tryd.prog 33) bm s.m.length (dmap .u64 s.m) from hown)
        go_wp2
        go_region_law (refine step_delete_own _ (by rfl) _ _ _ _ (by rfl) 33 law3 Tryd.underlying51 _ bm _ _ (by rfl) HO2.out _ _ (by rfl) hkey ?_; intro w3 hown3 hturn3; (have ey3 := ((Mod.of_grown hturn3.grown).cell (a := ⟨w.heap.size + 1, 0, none⟩) (by have := lt_of_at HY.out; simpa using this) (by simp; omega))); (have HO3 := Lib.hid hown3); (have HT3 := Lib.hid hturn3); clear hown3 hturn3)
        all_goals
          have H : Hid (PoolAt w3 sb bm ⟨s.cap, s.high, cut s.m y⟩ ∧ Mod [sb, bm] w w3) := by
            have hr := HR1.out
            have hO := HO3.out
            rw [del_dmap] at hO
            have hO2 := ownsMap_tight hO
            rw [size_dmap] at hO2
            have hm3 : Mod [bm] wr w3 := (((Mod.of_drewN wr nq).mono (by simp)).same ((Mod.of_drew _).mono (by simp))).same (Mod.of_grown HT3.out.grown)
            exact ⟨⟨hm3.at hr.at_ (by simpa using hr.ne.symm), ⟨hO2, hr.map.srt.cut y⟩, ⟨hcap, hlow, hhi, fun p hp => hr.ok.at_ p (List.mem_filter.1 hp).1, fun p hp => hr.ok.wf p (List.mem_filter.1 hp).1, hr.map.srt.cut y⟩⟩, (HMD.out.mono (by simp)).same (hm3.mono (by simp))⟩
          clear HO2 hown
          go_wp2
          go_ret2
          exact .mk ⟨by rw [HA.out]; rfl, by rw [HA.out]; exact H.out.1, H.out.2⟩
      · have hyh : y = s.high := by have := HB.out.le; omega
        have hnone : s.m.find? (fun p => decide (p.2 ≤ h)) = none := find_none fun p hp hle => by
          have h1 := HB.out.all p hp (hl0 _) hle
          have h2 := (HOK.out.at_ p hp).2
          omega
        by_cases hfull : s.high = s.cap
        · have HA : Hid (s.alloc h = ((0, 2), s)) := by unfold PS.alloc; rw [hnone]; exact if_pos hfull
          have hbeq : (s.high == s.cap) = true := by simp [hfull]
          clear hyh hnone hfull
          go_wp2
          go_quiet (fail)
          go_wp2
          go_quiet (fail)
          go_wp2
          go_ret2
          exact .mk ⟨by rw [HA.out]; rfl, by rw [HA.out]; exact HR1.out.mod (Mod.refl [] wr).drewN.drewN (by simp) (by simp), (HMD.out.mono (by simp)).drewN.drewN⟩
        · have HA : Hid (s.alloc h = ((s.high, 0), ⟨s.cap, s.high + 1, s.m⟩)) := by unfold PS.alloc; rw [hnone]; exact if_neg hfull
          have hbeq : (s.high == s.cap) = false := by simp [hfull]
          have HF := Lib.hid hfull
          subst hyh
          clear hnone hfull
          go_wp2
          go_quiet (fail)
          go_wp2
          go_quiet (fail)
          go_wp2
          go_ret2
          have hr := HR1.out
          refine .mk ⟨by rw [HA.out]; rfl, ?_, ?_⟩
          · rw [HA.out]
            exact ⟨at_setCell (by exact hr.at_) 1 _, hr.map.of_block (at_setCell_other hr.ne 1 _), ⟨hcap, show (2 : Int) ≤ s.high + 1 by omega, show s.high + 1 ≤ s.cap by have := HF.out; omega, fun p hp => show 2 ≤ p.1 ∧ p.1 < s.high + 1 by have := hr.ok.at_ p hp; omega, hr.ok.wf, hr.ok.srt⟩⟩
          · exact Mod.setCell (S := [sb, bm]) (b := sb) ((HMD.out.mono (by simp)).drewN) (Or.inl (by simp))
    · intro x c w1 cnt1 hwx hwc hlx hat hrg1 hlt hg1 hs1 hen
      have hm : (x, c) ∈ s.m := mem_of_atKey hat
      have HM := Lib.hid hm
      have hy1 : w1.heap[w.heap.size + 1]? = some (.cells #[.int .i64 y] 3 (0, 0)) := (Mod.of_grown hg1).at HY.out (by simp)
      have hh1 : w1.heap[w.heap.size]? = some (.cells #[.int .u64 h] 33 (0, 0)) := (Mod.of_grown hg1).at HH.out (by simp)
      have hmd1 : Mod [] w w1 := HMD.out.trans (Mod.of_grown hg1) (by simp)
      have HY1 := Lib.hid hy1
      have HH1 := Lib.hid hh1
      have HM1 := Lib.hid hmd1
      have HRG := Lib.hid hrg
      have HRG1 := Lib.hid hrg1
      clear hm hat hy1 hh1 hmd1 hg1 hs1 cy fy ch hwx hwc hrg hrg1
      go_wp2_with fail
      refine (less_any w.heap.size (w.heap.size + 1) h y x c w1 (cell_of_at HH1.out 0) (cell_of_at HY1.out 0) (free_of_at HY1.out 0)).mono ?_
      rintro _ w2 ⟨rfl, hw2⟩
      have HW2 := Lib.hid hw2
      clear hw2 hen
      go_wp2
      go_roundw
      case rel =>
        have hb := HB.out
        have hrg1 := HRG1.out
        have hnb : bm ≠ w.heap.size + 1 := by omega
        have hbest1 : ∀ y', y' = (if c ≤ h ∧ x < y then x else y) → Best s h (fun z => left z && !z.sameKey (.int .i64 x)) y' := by
          intro y' hy'
          refine ⟨?_, fun p hp hl hle => ?_, ?_⟩
          · have := hb.le; split at hy' <;> omega
          · simp only [sameKey_int, Bool.and_eq_false_iff, Bool.not_eq_false', beq_iff_eq] at hl
            rcases hl with hl | hl
            · have := hb.all p hp hl hle; split at hy' <;> omega
            · have h1 := look_of_mem HR.out.map.srt hp
              have h2 := look_of_mem HR.out.map.srt HM.out
              rw [hl] at h1; simp only at h2; rw [h1] at h2; cases h2
              split at hy' <;> omega
          · split at hy'
            · right; exact ⟨_, HM.out, by simp; omega, hy'⟩
            · rw [hy']; exact hb.one
        have hw2 := HW2.out
        by_cases hc : c ≤ h ∧ x < y
        · rw [LessR, if_pos hc] at hw2
          subst hw2
          have hg : w1.grownBy (w1.setCell ⟨w.heap.size + 1, 0, none⟩ (.int .i64 x)) (some (w.heap.size + 1)) := grownBy_setCell _ _ _ _
          exact ⟨x, _, cnt1, at_setCell HY1.out 0 _, (Mod.of_setCell _ _ _ _).at HH1.out (by simp), hrg1.kept hg (by simp; omega) (by simp), HM1.out.trans (Mod.of_setCell _ _ _ _) (by simp), hbest1 x (by rw [if_pos hc])⟩
        · rw [LessR, if_neg hc] at hw2
          subst hw2
          exact ⟨y, _, cnt1, HY1.out, HH1.out, hrg1, HM1.out, hbest1 y (by rw [if_neg hc])⟩
      case measure =>
        have hw2 := HW2.out
        have hnb : bm ≠ w.heap.size + 1 := by omega
        by_cases hc : c ≤ h ∧ x < y
        · rw [LessR, if_pos hc] at hw2
          subst hw2
          have hg : w1.grownBy (w1.setCell ⟨w.heap.size + 1, 0, none⟩ (.int .i64 x)) (some (w.heap.size + 1)) := grownBy_setCell _ _ _ _
          rw [(HRG1.out.kept hg (by simp; omega) (by simp)).left_eq, HRG.out.left_eq]; exact hlt
        · rw [LessR, if_neg hc] at hw2
          subst hw2
          rw [HRG1.out.left_eq, HRG.out.left_eq]; exact hlt
end Go.Proofs.YtgimdodbajhpoaaDoor
namespace Go.Proofs.YtgimdodbajhpoaaDoor
open Go.RowKit Go.Maps
set_option linter.unusedSimpArgs false
set_option linter.unusedVariables false

theorem Tl.of_key {w w' : World} {p : Option Addr} {n c : Nat} {l : List Int} (h : w'.ownsRow w.heap.size 5 1 (.slice p n c) n (bs l)) : Tl w' w.heap.size 1 p n c (bs l) := Tl.of_own h (bs_one _)
/-- What a call has just made lies in no block that was there. -/
theorem Tl.apart {w w' : World} {b1 s1 s2 n1 c1 n2 c2 : Nat} {q p : Option Addr} {x1 x2 : List Value} (h : Tl w b1 s1 q n1 c1 x1) (h2 : Tl w' w.heap.size s2 p n2 c2 x2) : ∀ a, p = some a → a.block ∉ (q.map (·.block)).toList := by
  intro a ha hm
  have h1 := (h2.own a ha).2.1
  cases q with
  | none => simp at hm
  | some e => simp at hm; have := (h.own e rfl).2.2; omega
theorem Tl.turned {w w' w2 : World} {base s n c : Nat} {q : Option Addr} {x : List Value} (h : Tl w base s q n c x) {w0 : World} (hb : w0.heap.size = base) (hm : Mod (q.map (·.block)).toList w w') (h0 : Mod [] w0 w) : Mod [] w0 w' :=
  h0.trans hm fun b hb2 => Or.inr (by
    cases q with
    | none => simp at hb2
    | some e => simp at hb2; have := (h.own e rfl).2.1; omega)
set_option maxRecDepth 100000 in
theorem Tl.sub_key {w : World} {base : Nat} {p : Option Addr} {c : Nat} {l : List Int} (h : Tl w base 1 p 8 c (bs l)) (lo k : Nat) (hk : lo + k = 8) (hpos : 0 < k) (d : Int) (hd : d = lo) :
    ∃ p', (∀ W, (Instr.slice 22 (.slice p 8 c) (some (.int .i64 d)) none none).run Tryd.prog W = .ok (.slice p' k (c - lo)) W) ∧ Tl w base 1 p' k (c - lo) (bs (l.drop lo)) ∧ p'.map (·.block) = p.map (·.block) := by
  have hle := h.sl.le
  obtain ⟨p', r, t, e⟩ := h.sub_l Tryd.underlying22 sizeBytes lo .i64 (by omega) (by omega)
  subst hd
  rw [show 8 - lo = k from by omega] at r t
  refine ⟨p', r, ?_, e⟩
  rw [Nat.mul_one] at t
  simpa [bs, List.map_drop] using t

def PayT (l : List Int) (w : World) (v : Value) (w' : World) : Prop := ∃ p n c, v = .slice p n c ∧ n = l.length ∧ (p = none ↔ l = []) ∧ Tl w' w.heap.size 1 p n c (bs l) ∧ Mod [] w w'
end Go.Proofs.YtgimdodbajhpoaaDoor
namespace Go.Proofs.YtgimdodbajhpoaaDoor
open Go.RowKit Go.Maps
set_option linter.unusedSimpArgs false
set_option linter.unusedVariables false

def fcells (m : List (Int × Int)) : List Value := m.flatMap fun p => [.int .i64 p.1, .int .u64 p.2]
theorem fcells_len (m : List (Int × Int)) : (fcells m).length = m.length * 2 := by
  induction m with
  | nil => rfl
  | cons a r ih => simp [fcells] at ih ⊢; omega
theorem fcells_append (a b : List (Int × Int)) : fcells (a ++ b) = fcells a ++ fcells b := by simp [fcells]
theorem fcells_one (m : List (Int × Int)) : ∀ u ∈ fcells m, u.oneCell' = true := by
  intro u hu; simp [fcells] at hu; obtain ⟨a, b, _, rfl | rfl⟩ := hu <;> rfl
theorem fcells_take (m : List (Int × Int)) (i : Nat) : (fcells m).take (i * 2) = fcells (m.take i) := by
  induction m generalizing i with
  | nil => simp [fcells]
  | cons a r ih =>
    cases i with
    | zero => simp [fcells]
    | succ i => have := ih i; simp only [fcells, List.flatMap_cons, List.take_succ_cons, Nat.succ_mul] at this ⊢; simp [List.take_append, this]
theorem fcells_drop (m : List (Int × Int)) (i : Nat) : (fcells m).drop (i * 2) = fcells (m.drop i) := by
  induction m generalizing i with
  | nil => simp [fcells]
  | cons a r ih =>
    cases i with
    | zero => simp [fcells]
    | succ i => have := ih i; simp only [fcells, List.flatMap_cons, List.drop_succ_cons, Nat.succ_mul] at this ⊢; simp [List.drop_append, this]
theorem fcells_get (m : List (Int × Int)) (i : Nat) (hi : i < m.length) : (fcells m)[i * 2]? = some (.int .i64 (m.getD i (0, 0)).1) ∧ (fcells m)[i * 2 + 1]? = some (.int .u64 (m.getD i (0, 0)).2) := by
  induction m generalizing i with
  | nil => simp at hi
  | cons a r ih =>
    cases i with
    | zero => simp [fcells]
    | succ i =>
      obtain ⟨h1, h2⟩ := ih i (by simpa using hi)
      simp only [fcells, List.flatMap_cons] at h1 h2 ⊢
      constructor
      · rw [show (i + 1) * 2 = i * 2 + 2 by omega, List.getElem?_append_right (by simp)]; simpa using h1
      · rw [show (i + 1) * 2 + 1 = (i * 2 + 1) + 2 by omega, List.getElem?_append_right (by simp)]; simpa using h2

theorem sizeFreed (W : World) : (sizeOf (Tryd.prog.elem 43)).run Tryd.prog W = .ok 2 W := by kernel_rfl
end Go.Proofs.YtgimdodbajhpoaaDoor
