/- The snapshots' registry: what each of its functions does, as a pure function of its list of numbers and versions. -/
import Derived.Test.YtghpmhpbccgdcaaLib
import Derived.Test.YtghpmhpbccgdcaaRows
namespace Go.Proofs.Ytghpmhpbccgdcaa
open Go.RowKit Go.Maps

structure RS where
  m : List (Int × Int)
  last : Int

namespace RS
def open_ (s : RS) (v : Int) : (Int × Int) × RS := if 64 ≤ s.m.length then ((0, 6), s) else ((s.last + 1, 0), ⟨s.m ++ [(s.last + 1, v)], s.last + 1⟩)
def close (s : RS) (no : Int) : Int × RS := if (look s.m no).isSome then (0, ⟨cut s.m no, s.last⟩) else (9, s)
def version (s : RS) (no : Int) : Int × Int := ((look s.m no).getD 0, if (look s.m no).isSome then 0 else 9)
def horizon (s : RS) (n : Int) : Int := s.m.foldl (fun a p => min a p.2) n
structure Ok (s : RS) : Prop where
  low : 0 ≤ s.last
  le : ∀ p ∈ s.m, p.1 ≤ s.last
  wf : ∀ p ∈ s.m, 0 ≤ p.2 ∧ p.2 < 2 ^ 64
end RS

theorem wf_u64 {x : Int} (h0 : 0 ≤ x) (h : x < 2 ^ 64) : (Lit.int .u64 x).wf = true := by simp [Lit.wf, IntKind.min, IntKind.max, IntKind.signed, IntKind.bits]; omega
theorem wf_i64 {x : Int} (h0 : -9223372036854775808 ≤ x) (h : x ≤ 9223372036854775807) : (Lit.int .i64 x).wf = true := WalkArith.wf_i64 (by omega)

/-- Block sb is a registry whose map lies in block bm. -/
structure SnapAt (w : World) (sb bm : Nat) (s : RS) : Prop where
  at_ : w.heap[sb]? = some (.cells #[.map (some bm), .int .i64 s.last] 50 (0, 0))
  map : MapI Try.prog 3 22 .u64 w bm s.m
  ok : s.Ok

namespace SnapAt
variable {w w' : World} {sb bm : Nat} {s : RS}
theorem ne (h : SnapAt w sb bm s) : bm ≠ sb := h.map.ne_cells h.at_
theorem mod {S : List Nat} (h : SnapAt w sb bm s) (hm : Mod S w w') (h1 : sb ∉ S) (h2 : bm ∉ S) : SnapAt w' sb bm s := ⟨hm.at h.at_ h1, h.map.mod hm h2, h.ok⟩
end SnapAt

theorem law3 : Keyed Try.prog 3 := int_keyed Try.underlying3
theorem zero22 (w : World) : (zeroValue 22).run Try.prog w = .ok (.int .u64 0) w := by kernel_rfl

def NewR (w : World) (v : Value) (w' : World) : Prop := ∃ sb bm, v = .pointer (some ⟨sb, 0, none⟩) ∧ SnapAt w' sb bm ⟨[], 0⟩ ∧ Mod [] w w' ∧ w.heap.size ≤ sb ∧ w.heap.size ≤ bm
theorem new_any (w : World) : Calls Try.prog 8 #[] w (Ret (NewR w)) := by
  have hmm := @run_makeMap Try.prog
  go_enter Try.func8, Try.ntmps8
  go_wp2
  go_ret
  refine .mk ⟨_, w.heap.size, rfl, ⟨at_alloc' _ _ (by simp), (MapI.made w).of_block ?_, ⟨by decide, by simp, by simp⟩⟩, (Mod.of_alloc _ _).same (Mod.of_alloc _ _), by simp, Nat.le_refl _⟩
  exact Below.heap_alloc _ _ _ (by simp)

def OpenR (sb bm : Nat) (s : RS) (x : Int) (w : World) (v : Value) (w' : World) : Prop :=
  v = .tuple #[.int .i64 (s.open_ x).1.1, .int .i64 (s.open_ x).1.2] ∧ SnapAt w' sb bm (s.open_ x).2 ∧ Mod [sb, bm] w w'

theorem open_any (sb bm : Nat) (s : RS) (x : Int) (w : World) (hr : SnapAt w sb bm s) (hx0 : 0 ≤ x) (hx1 : x < 2 ^ 64) (hl : s.last < 2 ^ 62) :
    Calls Try.prog 9 #[.pointer (some ⟨sb, 0, none⟩), .int .u64 x] w (Ret (OpenR sb bm s x w)) := by
  have c0 : w.cell? ⟨sb, 0, none⟩ = some (.map (some bm)) := cell_of_at hr.at_ 0
  have hlow := hr.ok.low
  have hown := hr.map.own
  by_cases hfull : 64 ≤ (Maps.size (dmap .u64 s.m) : Int)
  · have hf : s.open_ x = ((0, 6), s) := by
      rw [size_dmap] at hfull; unfold RS.open_; rw [if_pos (by omega)]
    go_enter Try.func9, Try.ntmps9
    go_wp2_with (first
      | (at_len; refine wpList_len_own _ rfl _ 48 rfl 3 22 Try.underlying48 _ bm _ _ rfl hown ?_)
      | go_in)
    go_ret2
    exact .mk ⟨by rw [hf]; rfl, by rw [hf]; exact hr, Mod.refl _ _⟩
  · have hf : s.open_ x = ((s.last + 1, 0), ⟨s.m ++ [(s.last + 1, x)], s.last + 1⟩) := by
      rw [size_dmap] at hfull; unfold RS.open_; rw [if_neg (by omega)]
    have hkey := keyOf_int_mk (P := Try.prog) Try.underlying3 (wf_i64 (x := s.last + 1) (by omega) (by omega))
    have c1 : w.cell? ⟨sb, 1, none⟩ = some (.int .i64 s.last) := cell_of_at hr.at_ 1
    have f1 : w.frozen? ⟨sb, 1, none⟩ = false := free_of_at hr.at_ 1
    have hown2 := hown.setCell (a := ⟨sb, 1, none⟩) hr.ne (.int .i64 (s.last + 1))
    obtain ⟨w2, hrun, hown3, hturn⟩ := hown2.drew.store law3 Try.underlying48 (by have := hr.map.own.size_le; rw [size_dmap] at hfull this; unfold maxLen; omega) hkey (plainElem_int Try.underlying22 (q := .u64) (a := x) (wf_u64 hx0 hx1))
    rw [put_dmap _ hr.map.srt, ins_last (fun p hp => by have := hr.ok.le p hp; omega)] at hown3
    go_enter Try.func9, Try.ntmps9
    go_wp2_with (first
      | (at_len; refine wpList_len_own _ rfl _ 48 rfl 3 22 Try.underlying48 _ bm _ _ rfl hown ?_)
      | go_in)
    have hb1 := at_setCell hr.at_ 1 (.int .i64 (s.last + 1))
    have hb2 : w2.heap[sb]? = some (.cells #[.map (some bm), .int .i64 (s.last + 1)] 50 (0, 0)) := (Mod.of_grown hturn.grown).at (b := sb) hb1 (by simpa using hr.ne.symm)
    have hm : Mod [sb, bm] w w2 := ((Mod.of_setCell w sb 1 (.int .i64 (s.last + 1))).mono (by simp)).same (((Mod.of_drew _).mono (by simp)).same ((Mod.of_grown hturn.grown).mono (by simp)))
    have H : Hid (SnapAt w2 sb bm ⟨s.m ++ [(s.last + 1, x)], s.last + 1⟩) := ⟨hb2, ⟨by simpa using hown3, by
        have := (Srt.ins (x := s.last + 1) (v := x) hr.map.srt); rwa [ins_last (fun p hp => by have := hr.ok.le p hp; omega)] at this⟩, ⟨by simp; omega, by
        intro p hp; simp at hp; rcases hp with hp | rfl
        · have := hr.ok.le p hp; simp; omega
        · simp, by
        intro p hp; simp at hp; rcases hp with hp | rfl
        · exact hr.ok.wf p hp
        · exact ⟨hx0, hx1⟩⟩⟩
    have g0 : (w.setCell ⟨sb, 1, none⟩ (.int .i64 (s.last + 1))).cell? ⟨sb, 0, none⟩ = some (.map (some bm)) := cell_of_at hb1 0
    have g1 : (w.setCell ⟨sb, 1, none⟩ (.int .i64 (s.last + 1))).cell? ⟨sb, 1, none⟩ = some (.int .i64 (s.last + 1)) := cell_of_at hb1 1
    have g2 : w2.cell? ⟨sb, 1, none⟩ = some (.int .i64 (s.last + 1)) := cell_of_at hb2 1
    clear hown2 hown3 hb1 hb2 hturn hkey
    go_region
    go_wp2
    go_ret2
    exact .mk ⟨by rw [hf]; rfl, by rw [hf]; exact H.out, hm⟩

def VersionR (s : RS) (no : Int) (w : World) (v : Value) (w' : World) : Prop := v = .tuple #[.int .u64 (s.version no).1, .int .i64 (s.version no).2] ∧ w' = w
theorem version_any (sb bm : Nat) (s : RS) (no : Int) (w : World) (hr : SnapAt w sb bm s) (h0 : -9223372036854775808 ≤ no) (h1 : no ≤ 9223372036854775807) :
    Calls Try.prog 12 #[.pointer (some ⟨sb, 0, none⟩), .int .i64 no] w (Ret (VersionR s no w)) := by
  have c0 : w.cell? ⟨sb, 0, none⟩ = some (.map (some bm)) := cell_of_at hr.at_ 0
  have hown := hr.map.own
  have hkey := keyOf_int_mk (P := Try.prog) Try.underlying3 (wf_i64 h0 h1)
  have hh := has_dmap .u64 s.m no
  cases hl : (look s.m no).isSome
  all_goals
    rw [hl] at hh
    have HV : Hid (s.version no = ((look s.m no).getD 0, if (look s.m no).isSome then 0 else 9)) := rfl
    have HL := Lib.hid hl
    clear hl
    go_enter Try.func12, Try.ntmps12
    go_wp2_with (first
      | (at_lookup; refine wpList_lookup_own_ok_int _ rfl _ _ 48 rfl 3 22 .u64 law3 Try.underlying48 Try.underlying22 (zero22 _) bm _ _ rfl hown _ _ rfl hkey ?_; intro c hat hwc; (have HA := Lib.hid hat); clear hat)
      | go_in)
    go_ret2
    have hat := HA.out
    rw [atKey_dmap] at hat
    simp only [DataW.lit.injEq, Lit.int.injEq, true_and] at hat
    have hz : (look s.m no).isSome = false → (look s.m no).getD 0 = 0 := by cases look s.m no <;> simp
    refine .mk ⟨?_, rfl⟩
    first
      | (rw [HV.out, HL.out, hat]; rfl)
      | (rw [HV.out, HL.out, hz HL.out]; rfl)

def CloseR (sb bm : Nat) (s : RS) (no : Int) (w : World) (v : Value) (w' : World) : Prop := v = .int .i64 (s.close no).1 ∧ SnapAt w' sb bm (s.close no).2 ∧ Mod [sb, bm] w w'
theorem close_any (sb bm : Nat) (s : RS) (no : Int) (w : World) (hr : SnapAt w sb bm s) (h0 : -9223372036854775808 ≤ no) (h1 : no ≤ 9223372036854775807) :
    Calls Try.prog 10 #[.pointer (some ⟨sb, 0, none⟩), .int .i64 no] w (Ret (CloseR sb bm s no w)) := by
  have c0 : w.cell? ⟨sb, 0, none⟩ = some (.map (some bm)) := cell_of_at hr.at_ 0
  have hown := hr.map.own
  have hkey := keyOf_int_mk (P := Try.prog) Try.underlying3 (wf_i64 h0 h1)
  have hh := has_dmap .u64 s.m no
  cases hl : (look s.m no).isSome
  all_goals
    rw [hl] at hh
    have HC : Hid (s.close no = if (look s.m no).isSome then (0, ⟨cut s.m no, s.last⟩) else (9, s)) := rfl
    have HL := Lib.hid hl
    clear hl
    go_enter Try.func10, Try.ntmps10
    go_wp2_with (first
      | (at_lookup; refine wpList_lookup_own_ok_int _ rfl _ _ 48 rfl 3 22 .u64 law3 Try.underlying48 Try.underlying22 (zero22 _) bm _ _ rfl hown _ _ rfl hkey ?_; intro c hat hwc; clear hat)
      | (at_delete; refine wpList_delete_own _ rfl _ _ 48 3 rfl 22 law3 Try.underlying48 _ bm _ _ rfl hown _ _ rfl hkey ?_; intro w1 hown1 hturn)
      | go_in)
    go_ret
    rw [Hid] at HC HL
    rw [HL] at HC
    first
      | exact .mk ⟨by rw [HC]; rfl, by rw [HC]; exact hr, Mod.refl _ _⟩
      | exact .mk ⟨by rw [HC]; rfl, by
          rw [HC]
          exact ⟨(Mod.of_grown hturn.grown).at hr.at_ (by simpa using hr.ne.symm), ⟨by rw [del_dmap] at hown1; have := ownsMap_tight hown1; rwa [size_dmap] at this, hr.map.srt.cut no⟩,
            ⟨hr.ok.low, fun p hp => hr.ok.le p (List.mem_filter.1 hp).1, fun p hp => hr.ok.wf p (List.mem_filter.1 hp).1⟩⟩, (Mod.of_grown hturn.grown).mono (by simp)⟩

theorem foldl_min_le : ∀ (m : List (Int × Int)) (n : Int), m.foldl (fun a p => min a p.2) n ≤ n ∧ (∀ p ∈ m, m.foldl (fun a p => min a p.2) n ≤ p.2) ∧ (m.foldl (fun a p => min a p.2) n = n ∨ ∃ p ∈ m, m.foldl (fun a p => min a p.2) n = p.2)
  | [], n => ⟨Int.le_refl _, by simp, Or.inl rfl⟩
  | a :: r, n => by
    obtain ⟨h1, h2, h3⟩ := foldl_min_le r (min n a.2)
    simp only [List.foldl_cons]
    refine ⟨by omega, fun p hp => ?_, ?_⟩
    · rcases List.mem_cons.1 hp with rfl | hp
      · omega
      · exact h2 p hp
    · rcases h3 with h3 | ⟨p, hp, h3⟩
      · by_cases c : n ≤ a.2
        · left; omega
        · right; exact ⟨a, by simp, by omega⟩
      · right; exact ⟨p, by simp [hp], h3⟩
theorem foldl_min_unique {m : List (Int × Int)} {n y : Int} (h1 : y ≤ n) (h2 : ∀ p ∈ m, y ≤ p.2) (h3 : y = n ∨ ∃ p ∈ m, y = p.2) : m.foldl (fun a p => min a p.2) n = y := by
  obtain ⟨g1, g2, g3⟩ := foldl_min_le m n
  rcases h3 with h3 | ⟨p, hp, h3⟩ <;> rcases g3 with g3 | ⟨q, hq, g3⟩
  · omega
  · have := h2 q hq; omega
  · have := g2 p hp; omega
  · have := h2 q hq; have := g2 p hp; omega

def HorizonR (sb bm : Nat) (s : RS) (n : Int) (w : World) (v : Value) (w' : World) : Prop := v = .int .u64 (s.horizon n) ∧ SnapAt w' sb bm s ∧ Mod [] w w'
theorem horizon_any (sb bm : Nat) (s : RS) (n : Int) (w : World) (hr : SnapAt w sb bm s) :
    Calls Try.prog 11 #[.pointer (some ⟨sb, 0, none⟩), .int .u64 n] w (Ret (HorizonR sb bm s n w)) := by
  have c0 : w.cell? ⟨sb, 0, none⟩ = some (.map (some bm)) := cell_of_at hr.at_ 0
  have hown := hr.map.own
  go_enter Try.func11, Try.ntmps11
  go_wp2_with (first
    | (at_range; refine wpList_range_own _ rfl _ 48 rfl 3 22 law3 Try.underlying48 _ bm _ _ rfl hown ?_; intro w0 hrg0 hg0 hs0)
    | go_in)
  go_frame
  go_loopw [1, 6] (fun y _ wr => ∃ (a : Int) (left : Lit → Bool) (cnt : Nat), y = .int .u64 a ∧ wr.ranges Try.prog 3 (plainElem Try.prog 22) bm w.heap.size s.m.length (dmap .u64 s.m) left cnt ∧ w.grownBy wr none ∧ (a ≤ n ∧ (∀ p ∈ s.m, left (.int .i64 p.1) = false → a ≤ p.2) ∧ (a = n ∨ ∃ p ∈ s.m, a = p.2)))
    (fun _ _ wr => wr.rangeLeft bm w.heap.size)
  case atStart =>
    refine ⟨n, _, _, rfl, hrg0, hg0, Int.le_refl _, fun p hp hl => ?_, Or.inl rfl⟩
    rw [has_dmap, look_of_mem hr.map.srt hp] at hl; cases hl
  case round =>
    obtain ⟨a, left, cnt, rfl, hrg, hgw, hinv⟩ := hrel
    have HI := Lib.hid hinv
    clear hinv
    go_wp2_with (first
      | (at_next; refine wpList_next_ranges_ii _ rfl _ rfl 3 22 .i64 .u64 law3 Try.underlying3 Try.underlying22 bm w.heap.size _ _ _ _ rfl hrg ?_ ?_)
      | go_in)
    · intro _ hl0
      go_wp2
      go_ret
      obtain ⟨i1, i2, i3⟩ := HI.out
      have hm := Mod.of_grown_none hgw
      exact .mk ⟨by rw [RS.horizon, foldl_min_unique i1 (fun p hp => i2 p hp (hl0 _)) i3]; rfl, hr.mod hm (by simp) (by simp), hm⟩
    · intro x c w1 cnt1 hwx hwc hlx hat hrg1 hlt hg1 hs1 hen
      have hgw1 := hgw.andThen hg1 (fun j hj => by cases hj; exact Or.inl (Nat.le_refl _))
      have hm : (x, c) ∈ s.m := by
        have h1 := hat (.lit (.int .u64 0))
        have h2 := hat (.lit (.int .u64 1))
        rw [atKey_dmap] at h1 h2
        simp only [DataW.lit.injEq, Lit.int.injEq, true_and] at h1 h2
        cases hk : look s.m x with
        | none => rw [hk] at h1 h2; simp at h1 h2; omega
        | some d => rw [hk] at h1; simp at h1; rw [← h1]; exact mem_of_look hk
      have HM := Lib.hid hm
      clear hm hat
      go_wp2
      go_roundw
      case rel =>
        obtain ⟨i1, i2, i3⟩ := HI.out
        refine ⟨_, _, cnt1, rfl, hrg1, hgw1, ?_, fun p hp hl => ?_, ?_⟩
        · split <;> omega
        · simp only [sameKey_int, Bool.and_eq_false_iff, Bool.not_eq_false', beq_iff_eq] at hl
          rcases hl with hl | hl
          · have := i2 p hp hl; split <;> omega
          · have h1 := look_of_mem hr.map.srt hp
            have h2 := look_of_mem hr.map.srt HM.out
            rw [hl] at h1; simp only at h2; rw [h1] at h2; cases h2
            split <;> omega
        · by_cases hc : c < a
          · right; exact ⟨_, HM.out, by rw [if_pos hc]⟩
          · rw [if_neg hc]; exact i3
      case measure => rw [hrg1.left_eq, hrg.left_eq]; exact hlt
end Go.Proofs.Ytghpmhpbccgdcaa
