/- SnapHolds: the walk. -/
import Derived.Test.YtghpmhpbccgdcaaSnapAwake
namespace Go.Proofs.Ytghpmhpbccgdcaa
open Go.RowKit Go.Maps

/-- One step of a script. -/
structure Do where
  kind : Int
  no : Int
  version : Int
structure Script (w : World) (b off len : Nat) (l : Nat → Do) : Prop where
  c0 : ∀ i, i < len → w.cell? ⟨b, off + i * 3, none⟩ = some (.int .i64 (l i).kind)
  c1 : ∀ i, i < len → w.cell? ⟨b, off + i * 3 + 1, none⟩ = some (.int .i64 (l i).no)
  c2 : ∀ i, i < len → w.cell? ⟨b, off + i * 3 + 2, none⟩ = some (.int .u64 (l i).version)
  w1 : ∀ i, i < len → -9223372036854775808 ≤ (l i).no ∧ (l i).no ≤ 9223372036854775807
  w2 : ∀ i, i < len → 0 ≤ (l i).version ∧ (l i).version < 2 ^ 64
  lt : 0 < len → b < w.heap.size

def LawR (w : World) (v : Value) (w' : World) : Prop := v = .bool true ∧ Below w.heap.size w w'

theorem size23 (W : World) : (sizeOf (Try.prog.elem 23)).run Try.prog W = .ok 3 W := by kernel_rfl
set_option maxRecDepth 100000 in
set_option maxHeartbeats 1000000 in
theorem holds_any (v : Int) (a : Option Addr) (len cap b off : Nat) (l : Nat → Do) (n : Int) (w : World) (hv0 : 0 ≤ v) (hv1 : v < 2 ^ 64) (hlen : len ≤ 9223372036854775807)
    (ha : 0 < len → a = some ⟨b, off, none⟩) (hs : Script w b off len l) :
    Calls Try.prog 3 #[.int .u64 v, .slice a len cap, .int .u64 n] w (Ret (LawR w)) := by
  have hidx := fun W => idx_of (P := Try.prog) (T := 23) (E := 0) (c := 3) (cap := cap) (by kernel_rfl) size23 (by decide) ha W .i64
  go_enter Try.func3, Try.ntmps3
  go_wp2_with fail
  refine (awake_any _).mono ?_
  rintro _ w1 ⟨_, rfl, rfl, m1⟩
  go_wp2_with fail
  refine (new_any _).mono ?_
  rintro _ w2 ⟨_, rfl, sb, bm, rfl, h2, m2, hsb, hbm⟩
  go_wp2_with fail
  refine (open_any sb bm _ _ _ h2 (by omega) (by omega) (by decide)).mono ?_
  rintro _ w3 ⟨_, rfl, rfl, h3, m3⟩
  have e3 : RS.open_ ⟨[], 0⟩ v = ((1, 0), ⟨[(1, v)], 1⟩) := rfl
  rw [e3] at h3 ⊢
  clear e3
  have hbel := (m1.below.trans (m2.below.mono m1.size)).trans (m3.below_of (B := w.heap.size) (by have := m1.size; have := m2.size; omega) (by have := m1.size; simp; omega))
  have hsz := m1.size
  clear m1 m2 m3 h2
  go_wp2_with fail
  go_loopw [10, 11, 12, 13] (fun la i _ _ wr => ∃ (s : RS) (k : Nat), k ≤ len ∧ k ≤ 200 ∧ i = .int .i64 k ∧ la = .int .i64 s.last ∧ SnapAt wr sb bm s ∧ Below w.heap.size w wr ∧ (1, v) ∈ s.m ∧ s.last ≤ 1 + k) (fun _ i _ _ _ => len - (intOf i).toNat)
  case atStart => exact ⟨⟨[(1, v)], 1⟩, 0, by omega, by omega, rfl, rfl, h3, hbel, by simp, by simp⟩
  case round =>
    obtain ⟨s, k, hk, hk2, rfl, rfl, hr, hb, hm, hl⟩ := hrel
    by_cases hlt : k < len ∧ k < 200
    · obtain ⟨hlt, hlt2⟩ := hlt
      have q0 := hs.c0 k hlt
      have q1 := hs.c1 k hlt
      have q2 := hs.c2 k hlt
      have p1 := hs.w1 k hlt
      have p2 := hs.w2 k hlt
      have hb0 := hs.lt (by omega)
      rw [← hb.cell (p := ⟨b, _, none⟩) hb0] at q0 q1 q2
      generalize l k = d at *
      go_wp2_with fail
      · have hlow := hr.ok.low
        refine (open_any sb bm _ _ _ hr p2.1 p2.2 (by omega)).mono ?_
        rintro _ w4 ⟨_, rfl, rfl, h4, m4⟩
        have hb4 := hb.trans (m4.below_of (B := w.heap.size) hb.size (by simp; omega))
        by_cases hfull : 64 ≤ s.m.length
        · have e4 : s.open_ d.version = ((0, 6), s) := by unfold RS.open_; rw [if_pos hfull]
          rw [e4] at h4 ⊢
          clear e4
          clear m4 hr q0 q1 q2 p1 p2 hidx
          go_wp2_with fail
          refine (horizon_any sb bm _ _ _ h4).mono ?_
          rintro _ w5 ⟨_, rfl, rfl, h5, m5⟩
          have hb5 := hb4.trans (m5.below.mono hb4.size)
          obtain ⟨f1, f2, _⟩ := foldl_min_le (s).m n
          have f3 := f2 _ hm
          simp only at f3
          rw [show (s).m.foldl (fun a p => min a p.2) n = (s).horizon n from rfl] at f1 f3
          have f1' : ¬ n < (s).horizon n := by omega
          have f3' : ¬ v < (s).horizon n := by omega
          clear f2
          go_wp2_with fail
          refine (horizon_any sb bm _ _ _ h5).mono ?_
          rintro _ w6 ⟨_, rfl, rfl, h6, m6⟩
          have hb6 := hb5.trans (m6.below.mono hb5.size)
          go_wp2
          go_roundw
          case rel => exact ⟨(s), k + 1, by omega, by omega, by go_num, by first | rfl | go_num | rw [H4.out], h6, hb6, hm, by first | omega | (simp only; omega)⟩
          case measure => simp [intOf]; omega
        · have e4 : s.open_ d.version = ((s.last + 1, 0), ⟨s.m ++ [(s.last + 1, d.version)], s.last + 1⟩) := by unfold RS.open_; rw [if_neg hfull]
          rw [e4] at h4 ⊢
          clear e4
          have hm0 := hm
          replace hm : (1, v) ∈ s.m ++ [(s.last + 1, d.version)] := by simp [hm0]
          clear hm0
          clear m4 hr q0 q1 q2 p1 p2 hidx
          go_wp2_with fail
          refine (horizon_any sb bm _ _ _ h4).mono ?_
          rintro _ w5 ⟨_, rfl, rfl, h5, m5⟩
          have hb5 := hb4.trans (m5.below.mono hb4.size)
          obtain ⟨f1, f2, _⟩ := foldl_min_le (⟨s.m ++ [(s.last + 1, d.version)], s.last + 1⟩ : RS).m n
          have f3 := f2 _ hm
          simp only at f3
          rw [show (⟨s.m ++ [(s.last + 1, d.version)], s.last + 1⟩ : RS).m.foldl (fun a p => min a p.2) n = (⟨s.m ++ [(s.last + 1, d.version)], s.last + 1⟩ : RS).horizon n from rfl] at f1 f3
          have f1' : ¬ n < (⟨s.m ++ [(s.last + 1, d.version)], s.last + 1⟩ : RS).horizon n := by omega
          have f3' : ¬ v < (⟨s.m ++ [(s.last + 1, d.version)], s.last + 1⟩ : RS).horizon n := by omega
          clear f2
          go_wp2_with fail
          refine (horizon_any sb bm _ _ _ h5).mono ?_
          rintro _ w6 ⟨_, rfl, rfl, h6, m6⟩
          have hb6 := hb5.trans (m6.below.mono hb5.size)
          go_wp2
          go_roundw
          case rel => exact ⟨(⟨s.m ++ [(s.last + 1, d.version)], s.last + 1⟩ : RS), k + 1, by omega, by omega, by go_num, by first | rfl | go_num | rw [H4.out], h6, hb6, hm, by first | omega | (simp only; omega)⟩
          case measure => simp [intOf]; omega
      · refine (close_any sb bm _ _ _ hr p1.1 p1.2).mono ?_
        rintro _ w4 ⟨_, rfl, rfl, h4, m4⟩
        have hb4 := hb.trans (m4.below_of (B := w.heap.size) hb.size (by simp; omega))
        have hne : d.no ≠ 1 := by simpa using (by assumption : (d.no != 1) = true)
        have hm0 := hm
        replace hm : (1, v) ∈ (s.close d.no).2.m := by
          unfold RS.close; split
          · simp [cut, hm0]; omega
          · exact hm0
        have hl4 : (s.close d.no).2.last = s.last := by unfold RS.close; split <;> rfl
        have hl5 : (s.close d.no).2.last ≤ 1 + k := by omega
        have H4 := Lib.hid hl4
        clear hm0 hne hl4
        clear m4 hr q0 q1 q2 p1 p2 hidx
        go_wp2_with fail
        refine (horizon_any sb bm _ _ _ h4).mono ?_
        rintro _ w5 ⟨_, rfl, rfl, h5, m5⟩
        have hb5 := hb4.trans (m5.below.mono hb4.size)
        obtain ⟨f1, f2, _⟩ := foldl_min_le ((s.close d.no).2).m n
        have f3 := f2 _ hm
        simp only at f3
        rw [show ((s.close d.no).2).m.foldl (fun a p => min a p.2) n = ((s.close d.no).2).horizon n from rfl] at f1 f3
        have f1' : ¬ n < ((s.close d.no).2).horizon n := by omega
        have f3' : ¬ v < ((s.close d.no).2).horizon n := by omega
        clear f2
        go_wp2_with fail
        refine (horizon_any sb bm _ _ _ h5).mono ?_
        rintro _ w6 ⟨_, rfl, rfl, h6, m6⟩
        have hb6 := hb5.trans (m6.below.mono hb5.size)
        go_wp2
        go_roundw
        case rel => exact ⟨((s.close d.no).2), k + 1, by omega, by omega, by go_num, by first | rfl | go_num | rw [H4.out], h6, hb6, hm, by first | omega | (simp only; omega)⟩
        case measure => simp [intOf]; omega
      · have h4 := hr
        have hb4 := hb
        have m4 := hb
        clear m4 hr q0 q1 q2 p1 p2 hidx
        go_wp2_with fail
        refine (horizon_any sb bm _ _ _ h4).mono ?_
        rintro _ w5 ⟨_, rfl, rfl, h5, m5⟩
        have hb5 := hb4.trans (m5.below.mono hb4.size)
        obtain ⟨f1, f2, _⟩ := foldl_min_le (s).m n
        have f3 := f2 _ hm
        simp only at f3
        rw [show (s).m.foldl (fun a p => min a p.2) n = (s).horizon n from rfl] at f1 f3
        have f1' : ¬ n < (s).horizon n := by omega
        have f3' : ¬ v < (s).horizon n := by omega
        clear f2
        go_wp2_with fail
        refine (horizon_any sb bm _ _ _ h5).mono ?_
        rintro _ w6 ⟨_, rfl, rfl, h6, m6⟩
        have hb6 := hb5.trans (m6.below.mono hb5.size)
        go_wp2
        go_roundw
        case rel => exact ⟨(s), k + 1, by omega, by omega, by go_num, by first | rfl | go_num | rw [H4.out], h6, hb6, hm, by first | omega | (simp only; omega)⟩
        case measure => simp [intOf]; omega
    · by_cases hlt1 : k < len
      all_goals
        go_wp2_with fail
        refine (version_any sb bm s 1 _ hr (by decide) (by decide)).mono ?_
        rintro _ w4 ⟨_, rfl, rfl, rfl⟩
        have l1 : look s.m 1 = some v := look_of_mem hr.map.srt hm
        have l2 : look (cut s.m 1) 1 = none := by
          cases h : look (cut s.m 1) 1 with
          | none => rfl
          | some x => have := (List.mem_filter.1 (mem_of_look h)).2; simp at this
        have e1 : s.version 1 = (v, 0) := by simp [RS.version, l1]
        have e2 : s.close 1 = (0, ⟨cut s.m 1, s.last⟩) := by simp [RS.close, l1]
        have e3 : (⟨cut s.m 1, s.last⟩ : RS).close 1 = (9, ⟨cut s.m 1, s.last⟩) := by simp [RS.close, l2]
        clear l1 l2 hidx
        rw [e1]
        have E2 := Lib.hid e2
        have E3 := Lib.hid e3
        clear e1 e2 e3
        go_wp2_with fail
        refine (close_any sb bm s 1 _ hr (by decide) (by decide)).mono ?_
        rintro _ w5 ⟨_, rfl, rfl, h5, m5⟩
        rw [E2.out] at h5 ⊢
        go_wp2_with fail
        refine (close_any sb bm _ 1 _ h5 (by decide) (by decide)).mono ?_
        rintro _ w6 ⟨_, rfl, rfl, h6, m6⟩
        rw [E3.out] at h6 ⊢
        go_wp2_with fail
        go_ret
        exact .mk ⟨rfl, (hb.trans (m5.below_of (B := w.heap.size) hb.size (by simp; omega))).trans (m6.below_of (B := w.heap.size) (by have := hb.size; have := m5.size; omega) (by simp; omega))⟩
end Go.Proofs.Ytghpmhpbccgdcaa
