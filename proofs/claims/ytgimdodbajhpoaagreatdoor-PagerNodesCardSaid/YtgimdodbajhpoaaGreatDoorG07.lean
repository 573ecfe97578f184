/- The pool of freed pages: what each of its functions does, as a pure function of its list of pages and versions. The pool, more: Alloc. -/
import Derived.Test.YtgimdodbajhpoaaGreatDoorG03
import Derived.Test.YtgimdodbajhpoaaGreatDoorRows
namespace Go.Proofs.YtgimdodbajhpoaaGreatDoor
open Go.RowKit Go.Maps
set_option linter.unusedSimpArgs false
set_option linter.unusedVariables false

structure PS where
  cap : Int
  high : Int
  m : List (Int × Int)

namespace PS
def alloc (s : PS) (h : Int) : (Int × Int) × PS :=
  match s.m.find? (fun p => decide (p.2 ≤ h)) with
  | some p => ((p.1, 0), ⟨s.cap, s.high, cut s.m p.1⟩)
  | none => if s.high = s.cap then ((0, 2), s) else ((s.high, 0), ⟨s.cap, s.high + 1, s.m⟩)
def free (s : PS) (no gen : Int) : Int × PS :=
  if no < 2 ∨ s.high ≤ no then (1, s) else if (look s.m no).isSome then (8, s) else (0, ⟨s.cap, s.high, ins no gen s.m⟩)
structure Ok (s : PS) : Prop where
  cap : s.cap ≤ 2048
  low : 2 ≤ s.high
  high : s.high ≤ s.cap
  at_ : ∀ p ∈ s.m, 2 ≤ p.1 ∧ p.1 < s.high
  wf : ∀ p ∈ s.m, 0 ≤ p.2 ∧ p.2 < 2 ^ 64
  srt : Srt s.m
/-- No more freed pages than pages. -/
theorem Ok.small {s : PS} (h : s.Ok) : s.m.length ≤ 2048 := by
  have key : ∀ (m : List (Int × Int)) (lo hi : Int), Srt m → (∀ p ∈ m, lo ≤ p.1 ∧ p.1 < hi) → lo ≤ hi → (m.length : Int) ≤ hi - lo := by
    intro m
    induction m with
    | nil => intro lo hi _ _ h; simp; omega
    | cons a r ih =>
      intro lo hi hs hb _
      obtain ⟨h1, h2⟩ := List.pairwise_cons.1 hs
      have ha := hb a (by simp)
      have := ih (a.1 + 1) hi h2 (fun p hp => ⟨by have := h1 p hp; omega, (hb p (by simp [hp])).2⟩) (by omega)
      simp; omega
  have := key s.m 2 s.high h.srt h.at_ h.low
  have := h.high; have := h.cap
  omega
end PS

theorem wf_u64 {x : Int} (h0 : 0 ≤ x) (h : x < 2 ^ 64) : (Lit.int .u64 x).wf = true := by simp [Lit.wf, IntKind.min, IntKind.max, IntKind.signed, IntKind.bits]; omega
theorem wf_i64 {x : Int} (h0 : -9223372036854775808 ≤ x) (h : x ≤ 9223372036854775807) : (Lit.int .i64 x).wf = true := WalkArith.wf_i64 (by omega)

/-- Block sb is a pool whose map lies in block bm. -/
structure PoolAt (w : World) (sb bm : Nat) (s : PS) : Prop where
  at_ : w.heap[sb]? = some (.cells #[.int .i64 s.cap, .int .i64 s.high, .map (some bm)] 64 (0, 0))
  map : MapI Tryz.prog 3 37 .u64 w bm s.m
  ok : s.Ok

namespace PoolAt
variable {w w' : World} {sb bm : Nat} {s : PS}
theorem ne (h : PoolAt w sb bm s) : bm ≠ sb := h.map.ne_cells h.at_
theorem mod {S : List Nat} (h : PoolAt w sb bm s) (hm : Mod S w w') (h1 : sb ∉ S) (h2 : bm ∉ S) : PoolAt w' sb bm s := ⟨hm.at h.at_ h1, h.map.mod hm h2, h.ok⟩
end PoolAt

theorem law3 : Keyed Tryz.prog 3 := int_keyed Tryz.underlying3
theorem zero22 (w : World) : (zeroValue 37).run Tryz.prog w = .ok (.int .u64 0) w := by kernel_rfl


def FreeR (sb bm : Nat) (s : PS) (no gen : Int) (w : World) (v : Value) (w' : World) : Prop := v = .int .i64 (s.free no gen).1 ∧ PoolAt w' sb bm (s.free no gen).2 ∧ Mod [sb, bm] w w'
theorem free_any (sb bm : Nat) (s : PS) (no gen : Int) (w : World) (hr : PoolAt w sb bm s) (hg0 : 0 ≤ gen) (hg1 : gen < 2 ^ 64) (hn0 : -9223372036854775808 ≤ no) (hn1 : no ≤ 9223372036854775807) :
    Calls Tryz.prog 22 #[.pointer (some ⟨sb, 0, none⟩), .int .i64 no, .int .u64 gen] w (Ret (FreeR sb bm s no gen w)) := by
  have c1 : w.cell? ⟨sb, 1, none⟩ = some (.int .i64 s.high) := cell_of_at hr.at_ 1
  have c2 : w.cell? ⟨sb, 2, none⟩ = some (.map (some bm)) := cell_of_at hr.at_ 2
  have hown := hr.map.own
  have hkey := keyOf_int_mk (P := Tryz.prog) Tryz.underlying3 (wf_i64 hn0 hn1)
  have hsm := hr.ok.small
  have HR := Lib.hid hr
  clear hr
  by_cases c1 : no < 2
  · have HF : Hid (s.free no gen = (1, s)) := by unfold PS.free; rw [if_pos (Or.inl c1)]; exact rfl
    go_enter Tryz.func22, Tryz.ntmps22
    go_wp2
    go_ret
    exact .mk ⟨by rw [HF.out]; rfl, by rw [HF.out]; exact HR.out, Mod.refl _ _⟩
  · by_cases c2 : s.high ≤ no
    · have HF : Hid (s.free no gen = (1, s)) := by unfold PS.free; rw [if_pos (Or.inr c2)]; exact rfl
      go_enter Tryz.func22, Tryz.ntmps22
      go_wp2
      go_ret
      exact .mk ⟨by rw [HF.out]; rfl, by rw [HF.out]; exact HR.out, Mod.refl _ _⟩
    · have hh := has_dmap .u64 s.m no
      cases hl : (look s.m no).isSome
      all_goals
        rw [hl] at hh
        have HF : Hid (s.free no gen = if (look s.m no).isSome then (8, s) else (0, ⟨s.cap, s.high, ins no gen s.m⟩)) := by unfold PS.free; rw [if_neg (by omega)]; exact rfl
        have HL := Lib.hid hl
        have hex : Hid (∃ w', True) := ⟨w, trivial⟩
        clear hl
        go_enter Tryz.func22, Tryz.ntmps22
        go_wp2_with (first
          | (at_lookup; refine wpList_lookup_own_ok_int _ rfl _ _ 62 rfl 3 37 .u64 law3 Tryz.underlying62 Tryz.underlying37 (zero22 _) bm _ _ rfl hown _ _ rfl hkey ?_; intro c hat hwc; clear hat)
          | (at_mapUpdate; refine wpList_mapUpdate_in _ rfl _ _ _ 62 rfl 3 37 law3 Tryz.underlying62 _ bm _ _ rfl hown (by unfold maxLen; omega) _ _ _ rfl rfl hkey _ [] (plainElem_int Tryz.underlying37 (q := .u64) (a := gen) (wf_u64 hg0 hg1)) ?_; intro w1 hown1 hturn1; (have HO1 := Lib.hid hown1); (have HT1 := Lib.hid hturn1); clear hown1 hturn1)
          | go_in)
        go_ret
        rw [Hid] at HF HL
        rw [HL] at HF
        first
          | exact .mk ⟨by rw [HF]; rfl, by rw [HF]; exact HR.out, Mod.refl _ _⟩
          | exact .mk ⟨by rw [HF]; rfl, by
              rw [HF]
              have hr := HR.out
              have hO := HO1.out
              rw [put_dmap _ hr.map.srt] at hO
              have hO2 := ownsMap_tight hO
              rw [size_dmap] at hO2
              refine ⟨(Mod.of_grown HT1.out.grown).at hr.at_ (by simpa using hr.ne.symm), ⟨hO2, hr.map.srt.ins⟩, ⟨hr.ok.cap, hr.ok.low, hr.ok.high, fun p hp => ?_, fun p hp => ?_, hr.map.srt.ins⟩⟩
              · rcases mem_ins hp with rfl | hp
                · simp; omega
                · exact hr.ok.at_ p hp
              · rcases mem_ins hp with rfl | hp
                · exact ⟨hg0, hg1⟩
                · exact hr.ok.wf p hp, (Mod.of_grown HT1.out.grown).mono (by simp)⟩
end Go.Proofs.YtgimdodbajhpoaaGreatDoor
namespace Go.Proofs.YtgimdodbajhpoaaGreatDoor
open Go.RowKit Go.Maps
set_option linter.unusedSimpArgs false
set_option linter.unusedVariables false

def LessR (hb bb : Nat) (h y no gen : Int) (w w' : World) : Prop := w' = if gen ≤ h ∧ no < y then w.setCell ⟨bb, 0, none⟩ (.int .i64 no) else w
def EndR (R : World → Prop) : Ending → World → Prop := fun e w' => e = .returned (.tuple #[]) ∧ R w'
theorem less_any (hb bb : Nat) (h y no gen : Int) (w : World) (c1 : w.cell? ⟨hb, 0, none⟩ = some (.int .u64 h)) (c2 : w.cell? ⟨bb, 0, none⟩ = some (.int .i64 y)) (f2 : w.frozen? ⟨bb, 0, none⟩ = false) :
    Calls Tryz.prog 35 #[.int .i64 no, .int .u64 gen, .pointer (some ⟨hb, 0, none⟩), .pointer (some ⟨bb, 0, none⟩)] w (EndR (LessR hb bb h y no gen w)) := by
  by_cases h1 : gen ≤ h
  · by_cases h2 : no < y
    · have HL : Hid (LessR hb bb h y no gen w (w.setCell ⟨bb, 0, none⟩ (.int .i64 no))) := by unfold LessR; rw [if_pos ⟨h1, h2⟩]; exact rfl
      go_enter Tryz.func35, Tryz.ntmps35
      go_wp2
      go_end0
      exact ⟨rfl, HL.out⟩
    · have HL : Hid (LessR hb bb h y no gen w w) := by unfold LessR; rw [if_neg (by omega)]; exact rfl
      go_enter Tryz.func35, Tryz.ntmps35
      go_wp2
      go_end0
      exact ⟨rfl, HL.out⟩
  · have HL : Hid (LessR hb bb h y no gen w w) := by unfold LessR; rw [if_neg (by omega)]; exact rfl
    go_enter Tryz.func35, Tryz.ntmps35
    go_wp2
    go_end0
    exact ⟨rfl, HL.out⟩

/-- The least page that may be used, below the high mark; or the high mark. -/
structure Best (s : PS) (h : Int) (left : Lit → Bool) (y : Int) : Prop where
  le : y ≤ s.high
  all : ∀ p ∈ s.m, left (.int .i64 p.1) = false → p.2 ≤ h → y ≤ p.1
  one : y = s.high ∨ ∃ p ∈ s.m, p.2 ≤ h ∧ y = p.1
theorem find_none {m : List (Int × Int)} {h : Int} (hn : ∀ p ∈ m, ¬ p.2 ≤ h) : m.find? (fun p => decide (p.2 ≤ h)) = none := by
  rw [List.find?_eq_none]; intro p hp; simpa using hn p hp
theorem find_some {m : List (Int × Int)} {h : Int} {p : Int × Int} (hs : Srt m) (hp : p ∈ m) (hle : p.2 ≤ h) (hall : ∀ q ∈ m, q.2 ≤ h → p.1 ≤ q.1) : m.find? (fun p => decide (p.2 ≤ h)) = some p := by
  induction m with
  | nil => simp at hp
  | cons a r ih =>
    obtain ⟨h1, h2⟩ := List.pairwise_cons.1 hs
    rcases List.mem_cons.1 hp with rfl | hp'
    · rw [List.find?_cons, decide_eq_true hle]
    · have ha : ¬ a.2 ≤ h := fun hc => by
        have := hall a (by simp) hc
        have := h1 p hp'
        omega
      rw [List.find?_cons, decide_eq_false ha]
      exact ih h2 hp' (fun q hq => hall q (by simp [hq]))

def AllocR (sb bm : Nat) (s : PS) (h : Int) (w : World) (v : Value) (w' : World) : Prop :=
  v = .tuple #[.int .i64 (s.alloc h).1.1, .int .i64 (s.alloc h).1.2] ∧ PoolAt w' sb bm (s.alloc h).2 ∧ Mod [sb, bm] w w'
set_option maxRecDepth 100000 in
set_option maxHeartbeats 1000000 in
theorem alloc_any (sb bm : Nat) (s : PS) (h : Int) (w : World) (hr : PoolAt w sb bm s) :
    Calls Tryz.prog 24 #[.pointer (some ⟨sb, 0, none⟩), .int .u64 h] w (Ret (AllocR sb bm s h w)) := by
  have hlt1 := lt_of_at hr.at_
  have hlt2 := hr.map.lt
  have HR := Lib.hid hr
  have c1 : w.cell? ⟨sb, 1, none⟩ = some (.int .i64 s.high) := cell_of_at hr.at_ 1
  have c2 : w.cell? ⟨sb, 2, none⟩ = some (.map (some bm)) := cell_of_at hr.at_ 2
  clear hr
  go_enter Tryz.func24, Tryz.ntmps24
  have hmA : Mod [] w ((w.alloc (.cells #[.int .u64 h] 37)).alloc (.cells #[.int .i64 s.high] 3)) := (Mod.of_alloc _ _).same (Mod.of_alloc _ _)
  have HMA := Lib.hid hmA
  clear hmA
  go_wp2_with (first
    | (at_range; go_must (refine wpList_range_own _ rfl _ 62 rfl 3 37 law3 Tryz.underlying62 _ bm _ _ rfl (HR.out.map.mod HMA.out (by simp)).own ?_); intro w0 hrg0 hg0 hs0)
    | go_in)
  go_frame
  have hN : ((w.alloc (.cells #[.int .u64 h] 37)).alloc (.cells #[.int .i64 s.high] 3)).heap.size = w.heap.size + 2 := by simp
  rw [hN] at hrg0 hs0 ⊢
  have hm0 : Mod [] w w0 := HMA.out.same (Mod.of_grown_none hg0)
  have hbb : w0.heap[w.heap.size + 1]? = some (.cells #[.int .i64 s.high] 3 (0, 0)) := by
    rw [hg0.block _ (by rw [hN]; omega) (by simp)]; exact at_alloc' _ _ (by simp)
  have hhb : w0.heap[w.heap.size]? = some (.cells #[.int .u64 h] 37 (0, 0)) := by
    rw [hg0.block _ (by rw [hN]; omega) (by simp)]; exact at_alloc_other (at_alloc w _) _
  have HM0 := Lib.hid hm0
  have HG0 := Lib.hid hg0
  have hs0' : w.heap.size + 2 < w0.heap.size := by omega
  clear hm0 hg0 hs0 hN
  go_loopw [8, 9] (fun _ _ wr => ∃ (y : Int) (left : Lit → Bool) (cnt : Nat), wr.heap[w.heap.size + 1]? = some (.cells #[.int .i64 y] 3 (0, 0)) ∧ wr.heap[w.heap.size]? = some (.cells #[.int .u64 h] 37 (0, 0)) ∧
      wr.ranges Tryz.prog 3 (plainElem Tryz.prog 37) bm (w.heap.size + 2) s.m.length (dmap .u64 s.m) left cnt ∧ Mod [] w wr ∧ Best s h left y)
    (fun _ _ wr => wr.rangeLeft bm (w.heap.size + 2))
  case atStart =>
    refine ⟨s.high, _, _, hbb, hhb, hrg0, HM0.out, Int.le_refl _, fun p hp hl => ?_, Or.inl rfl⟩
    rw [has_dmap, look_of_mem HR.out.map.srt hp] at hl; cases hl
  case round =>
    obtain ⟨y, left, cnt, hy, hh, hrg, hmd, hbest⟩ := hrel
    have HY := Lib.hid hy
    have HH := Lib.hid hh
    have HMD := Lib.hid hmd
    have HB := Lib.hid hbest
    have cy : wr.cell? ⟨w.heap.size + 1, 0, none⟩ = some (.int .i64 y) := cell_of_at hy 0
    have fy : wr.frozen? ⟨w.heap.size + 1, 0, none⟩ = false := free_of_at hy 0
    have ch : wr.cell? ⟨w.heap.size, 0, none⟩ = some (.int .u64 h) := cell_of_at hh 0
    clear hy hh hmd hbest hbb hhb hrg0 HM0 HG0 c1 c2
    go_wp2_with (first
      | (at_next; refine wpList_next_ranges_ii _ rfl _ rfl 3 37 .i64 .u64 law3 Tryz.underlying3 Tryz.underlying37 bm (w.heap.size + 2) _ _ _ _ rfl hrg ?_ ?_)
      | go_in)
    · intro _ hl0
      have hr1 : PoolAt wr sb bm s := HR.out.mod HMD.out (by simp) (by simp)
      have d0 : wr.cell? ⟨sb, 0, none⟩ = some (.int .i64 s.cap) := cell_of_at hr1.at_ 0
      have d1 : wr.cell? ⟨sb, 1, none⟩ = some (.int .i64 s.high) := cell_of_at hr1.at_ 1
      have d2 : wr.cell? ⟨sb, 2, none⟩ = some (.map (some bm)) := cell_of_at hr1.at_ 2
      have e1 : wr.frozen? ⟨sb, 1, none⟩ = false := free_of_at hr1.at_ 1
      have hok := hr1.ok
      have hhi := hok.high
      have hcap := hok.cap
      have hlow := hok.low
      have HR1 := Lib.hid hr1
      have HOK := Lib.hid hok
      have hwfy : -9223372036854775808 ≤ y ∧ y ≤ 9223372036854775807 := by
        have hb := HB.out
        refine ⟨?_, by have := hb.le; omega⟩
        rcases hb.one with h | ⟨p, hp, _, h⟩
        · omega
        · have := (hok.at_ p hp).1; omega
      have hkey := keyOf_int_mk (P := Tryz.prog) Tryz.underlying3 (wf_i64 hwfy.1 hwfy.2)
      have hown := hr1.map.own
      clear hrg hr1 hok
      by_cases hlt : y < s.high
      · have HA : Hid (s.alloc h = ((y, 0), ⟨s.cap, s.high, cut s.m y⟩)) := by
          have hb := HB.out
          rcases hb.one with h1 | ⟨p, hp, hle, rfl⟩
          · omega
          · unfold PS.alloc; rw [find_some HOK.out.srt hp hle (fun q hq hq2 => hb.all q hq (hl0 _) hq2)]; exact rfl
        go_wp2
        go_quiet (fail)
        have HO2 := Lib.hid (show (wr.drewN nq).drew.ownsMap (H := Unit) Tryz.prog 3 (plainElem Tryz.prog 37) bm s.m.length (dmap .u64 s.m) from hown)
        go_wp2
        go_region_law (refine step_delete_own _ (by rfl) _ _ _ _ (by rfl) 37 law3 Tryz.underlying62 _ bm _ _ (by rfl) HO2.out _ _ (by rfl) hkey ?_; intro w3 hown3 hturn3; (have ey3 := ((Mod.of_grown hturn3.grown).cell (a := ⟨w.heap.size + 1, 0, none⟩) (by have := lt_of_at HY.out; simpa using this) (by simp; omega))); (have HO3 := Lib.hid hown3); (have HT3 := Lib.hid hturn3); clear hown3 hturn3)
        all_goals
          have H : Hid (PoolAt w3 sb bm ⟨s.cap, s.high, cut s.m y⟩ ∧ Mod [sb, bm] w w3) := by
            have hr := HR1.out
            have hO := HO3.out
            rw [del_dmap] at hO
            have hO2 := ownsMap_tight hO
            rw [size_dmap] at hO2
            have hm3 : Mod [bm] wr w3 := (((Mod.of_drewN wr nq).mono (by simp)).same ((Mod.of_drew _).mono (by simp))).same (Mod.of_grown HT3.out.grown)
            exact ⟨⟨hm3.at hr.at_ (by simpa using hr.ne.symm), ⟨hO2, hr.map.srt.cut y⟩, ⟨hcap, hlow, hhi, fun p hp => hr.ok.at_ p (List.mem_filter.1 hp).1, fun p hp => hr.ok.wf p (List.mem_filter.1 hp).1, hr.map.srt.cut y⟩⟩, (HMD.out.mono (by simp)).same (hm3.mono (by simp))⟩
          clear HO2 hown
          go_wp2
          go_ret2
          exact .mk ⟨by rw [HA.out]; rfl, by rw [HA.out]; exact H.out.1, H.out.2⟩
      · have hyh : y = s.high := by have := HB.out.le; omega
        have hnone : s.m.find? (fun p => decide (p.2 ≤ h)) = none := find_none fun p hp hle => by
          have h1 := HB.out.all p hp (hl0 _) hle
          have h2 := (HOK.out.at_ p hp).2
          omega
        by_cases hfull : s.high = s.cap
        · have HA : Hid (s.alloc h = ((0, 2), s)) := by unfold PS.alloc; rw [hnone]; exact if_pos hfull
          have hbeq : (s.high == s.cap) = true := by simp [hfull]
          clear hyh hnone hfull
          go_wp2
          go_quiet (fail)
          go_wp2
          go_quiet (fail)
          go_wp2
          go_ret2
          exact .mk ⟨by rw [HA.out]; rfl, by rw [HA.out]; exact HR1.out.mod (Mod.refl [] wr).drewN.drewN (by simp) (by simp), (HMD.out.mono (by simp)).drewN.drewN⟩
        · have HA : Hid (s.alloc h = ((s.high, 0), ⟨s.cap, s.high + 1, s.m⟩)) := by unfold PS.alloc; rw [hnone]; exact if_neg hfull
          have hbeq : (s.high == s.cap) = false := by simp [hfull]
          have HF := Lib.hid hfull
          subst hyh
          clear hnone hfull
          go_wp2
          go_quiet (fail)
          go_wp2
          go_quiet (fail)
          go_wp2
          go_ret2
          have hr := HR1.out
          refine .mk ⟨by rw [HA.out]; rfl, ?_, ?_⟩
          · rw [HA.out]
            exact ⟨at_setCell (by exact hr.at_) 1 _, hr.map.of_block (at_setCell_other hr.ne 1 _), ⟨hcap, show (2 : Int) ≤ s.high + 1 by omega, show s.high + 1 ≤ s.cap by have := HF.out; omega, fun p hp => show 2 ≤ p.1 ∧ p.1 < s.high + 1 by have := hr.ok.at_ p hp; omega, hr.ok.wf, hr.ok.srt⟩⟩
          · exact Mod.setCell (S := [sb, bm]) (b := sb) ((HMD.out.mono (by simp)).drewN) (Or.inl (by simp))
    · intro x c w1 cnt1 hwx hwc hlx hat hrg1 hlt hg1 hs1 hen
      have hm : (x, c) ∈ s.m := mem_of_atKey hat
      have HM := Lib.hid hm
      have hy1 : w1.heap[w.heap.size + 1]? = some (.cells #[.int .i64 y] 3 (0, 0)) := (Mod.of_grown hg1).at HY.out (by simp)
      have hh1 : w1.heap[w.heap.size]? = some (.cells #[.int .u64 h] 37 (0, 0)) := (Mod.of_grown hg1).at HH.out (by simp)
      have hmd1 : Mod [] w w1 := HMD.out.trans (Mod.of_grown hg1) (by simp)
      have HY1 := Lib.hid hy1
      have HH1 := Lib.hid hh1
      have HM1 := Lib.hid hmd1
      have HRG := Lib.hid hrg
      have HRG1 := Lib.hid hrg1
      clear hm hat hy1 hh1 hmd1 hg1 hs1 cy fy ch hwx hwc hrg hrg1
      go_wp2_with fail
      refine (less_any w.heap.size (w.heap.size + 1) h y x c w1 (cell_of_at HH1.out 0) (cell_of_at HY1.out 0) (free_of_at HY1.out 0)).mono ?_
      rintro _ w2 ⟨rfl, hw2⟩
      have HW2 := Lib.hid hw2
      clear hw2 hen
      go_wp2
      go_roundw
      case rel =>
        have hb := HB.out
        have hrg1 := HRG1.out
        have hnb : bm ≠ w.heap.size + 1 := by omega
        have hbest1 : ∀ y', y' = (if c ≤ h ∧ x < y then x else y) → Best s h (fun z => left z && !z.sameKey (.int .i64 x)) y' := by
          intro y' hy'
          refine ⟨?_, fun p hp hl hle => ?_, ?_⟩
          · have := hb.le; split at hy' <;> omega
          · simp only [sameKey_int, Bool.and_eq_false_iff, Bool.not_eq_false', beq_iff_eq] at hl
            rcases hl with hl | hl
            · have := hb.all p hp hl hle; split at hy' <;> omega
            · have h1 := look_of_mem HR.out.map.srt hp
              have h2 := look_of_mem HR.out.map.srt HM.out
              rw [hl] at h1; simp only at h2; rw [h1] at h2; cases h2
              split at hy' <;> omega
          · split at hy'
            · right; exact ⟨_, HM.out, by simp; omega, hy'⟩
            · rw [hy']; exact hb.one
        have hw2 := HW2.out
        by_cases hc : c ≤ h ∧ x < y
        · rw [LessR, if_pos hc] at hw2
          subst hw2
          have hg : w1.grownBy (w1.setCell ⟨w.heap.size + 1, 0, none⟩ (.int .i64 x)) (some (w.heap.size + 1)) := grownBy_setCell _ _ _ _
          exact ⟨x, _, cnt1, at_setCell HY1.out 0 _, (Mod.of_setCell _ _ _ _).at HH1.out (by simp), hrg1.kept hg (by simp; omega) (by simp), HM1.out.trans (Mod.of_setCell _ _ _ _) (by simp), hbest1 x (by rw [if_pos hc])⟩
        · rw [LessR, if_neg hc] at hw2
          subst hw2
          exact ⟨y, _, cnt1, HY1.out, HH1.out, hrg1, HM1.out, hbest1 y (by rw [if_neg hc])⟩
      case measure =>
        have hw2 := HW2.out
        have hnb : bm ≠ w.heap.size + 1 := by omega
        by_cases hc : c ≤ h ∧ x < y
        · rw [LessR, if_pos hc] at hw2
          subst hw2
          have hg : w1.grownBy (w1.setCell ⟨w.heap.size + 1, 0, none⟩ (.int .i64 x)) (some (w.heap.size + 1)) := grownBy_setCell _ _ _ _
          rw [(HRG1.out.kept hg (by simp; omega) (by simp)).left_eq, HRG.out.left_eq]; exact hlt
        · rw [LessR, if_neg hc] at hw2
          subst hw2
          rw [HRG1.out.left_eq, HRG.out.left_eq]; exact hlt
end Go.Proofs.YtgimdodbajhpoaaGreatDoor
