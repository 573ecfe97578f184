/- SnapRises, SnapLimit: the walks. -/
import Derived.Test.YtghpmhpbccgdcaaSnapRef2
import Derived.Test.YtghpmhpbccgdcaaSnapAwake
namespace Go.Proofs.Ytghpmhpbccgdcaa
open Go.RowKit Go.Maps
set_option linter.unusedSimpArgs false
set_option linter.unusedVariables false

def LawR2 (w : World) (v : Value) (w' : World) : Prop := v = .bool true ∧ Below w.heap.size w w'

/-- The first n snapshots, of versions f. -/
def fullv (f : Nat → Int) (n : Nat) : List (Int × Int) := (List.range n).map fun (i : Nat) => ((i : Int) + 1, f i)
theorem fullv_len (f : Nat → Int) (n : Nat) : (fullv f n).length = n := by simp [fullv]
theorem fullv_succ (f : Nat → Int) (n : Nat) : fullv f (n + 1) = fullv f n ++ [((n : Int) + 1, f n)] := by simp [fullv, List.range_succ]
theorem fullv_get (f : Nat → Int) (n j : Nat) (hj : j < n) : (fullv f n)[j]? = some ((j : Int) + 1, f j) := by simp [fullv, hj]
theorem fullv_srt (f : Nat → Int) (n : Nat) : Srt (fullv f n) := by
  unfold Srt fullv
  rw [List.pairwise_map]
  exact List.pairwise_lt_range.imp (fun h => by simp; omega)
theorem full_open (f : Nat → Int) (k : Nat) (hk : k < 64) : (⟨fullv f k, k⟩ : RS).open_ (f k) = (((k : Int) + 1, 0), ⟨fullv f (k + 1), (k : Int) + 1⟩) := by
  unfold RS.open_; rw [if_neg (by rw [fullv_len]; omega), fullv_succ]
theorem drop_head (f : Nat → Int) (n j : Nat) (hj : j < n) : (fullv f n).drop j = ((j : Int) + 1, f j) :: (fullv f n).drop (j + 1) := by
  have hl : j < (fullv f n).length := by rw [fullv_len]; exact hj
  rw [← List.getElem_cons_drop hl]
  congr 1
  have := fullv_get f n j hj
  rw [List.getElem?_eq_getElem hl] at this
  exact Option.some.inj this
theorem cut_head {x v : Int} {r : List (Int × Int)} (h : Srt ((x, v) :: r)) : cut ((x, v) :: r) x = r := by
  unfold cut
  rw [List.filter_cons, if_neg (by simp), List.filter_eq_self]
  intro p hp
  have := (List.pairwise_cons.1 h).1 p hp
  simp at this ⊢; omega
theorem full_close (f : Nat → Int) (n j : Nat) (hj : j < n) : (⟨(fullv f n).drop j, n⟩ : RS).close ((j : Int) + 1) = (0, ⟨(fullv f n).drop (j + 1), n⟩) := by
  have hs : Srt ((fullv f n).drop j) := (fullv_srt f n).sublist (List.drop_sublist _ _)
  rw [drop_head f n j hj] at hs ⊢
  unfold RS.close
  rw [if_pos (by simp [look]), cut_head hs]
theorem full_rise (f : Nat → Int) (n j : Nat) (x : Int) (hj : j < n) : (⟨(fullv f n).drop j, n⟩ : RS).horizon x ≤ (⟨(fullv f n).drop (j + 1), n⟩ : RS).horizon x := by
  unfold RS.horizon
  rw [drop_head f n j hj]
  obtain ⟨h1, h2, _⟩ := foldl_min_le (((j : Int) + 1, f j) :: (fullv f n).drop (j + 1)) x
  obtain ⟨_, _, h3⟩ := foldl_min_le ((fullv f n).drop (j + 1)) x
  rcases h3 with h3 | ⟨p, hp, h3⟩
  · rw [h3]; exact h1
  · rw [h3]; exact h2 p (by simp [hp])

set_option maxRecDepth 100000 in
set_option maxHeartbeats 1000000 in
theorem limit_any (v no : Int) (w : World) (hv0 : 0 ≤ v) (hv1 : v < 2 ^ 64) (hn0 : 0 ≤ no) (hn1 : no < 256) :
    Calls Try.prog 6 #[.int .u64 v, .int .u8 no] w (Ret (LawR2 w)) := by
  go_enter Try.func6, Try.ntmps6
  go_wp2_with fail
  refine (awake_any _).mono ?_
  rintro _ w1 ⟨_, rfl, rfl, m1⟩
  go_wp2_with fail
  refine (new_any _).mono ?_
  rintro _ w2 ⟨_, rfl, sb, bm, rfl, h2, m2, hsb, hbm⟩
  have H2 := Lib.hid h2
  have hb2 := m1.below.trans (m2.below.mono m1.size)
  have hs1 : w.heap.size ≤ sb ∧ w.heap.size ≤ bm := by have := m1.size; omega
  clear h2 m1 m2 hsb hbm
  go_wp2_with fail
  go_loopw [6] (fun i wr => ∃ (k : Nat), k ≤ 64 ∧ i = .int .i64 k ∧ SnapAt wr sb bm ⟨fullv (fun _ => v) k, k⟩ ∧ Below w.heap.size w wr) (fun i _ => 64 - (intOf i).toNat)
  case atStart => exact ⟨0, by omega, rfl, H2.out, hb2⟩
  case round =>
    obtain ⟨k, hk, rfl, hr, hb⟩ := hrel
    clear H2 hb2
    by_cases hlt : k < 64
    · have HR := Lib.hid hr
      have HB := Lib.hid hb
      clear hr hb
      go_wp2_with fail
      refine (open_any sb bm _ v _ HR.out hv0 hv1 (by simp; omega)).mono ?_
      rintro _ w4 ⟨_, rfl, rfl, h4, m4⟩
      rw [full_open (fun _ => v) k hlt] at h4 ⊢
      have H4 := Lib.hid h4
      have M4 := Lib.hid m4
      clear h4 m4
      go_wp2
      go_roundw
      case rel => exact ⟨k + 1, by omega, by go_num, by have := H4.out; rwa [show ((k + 1 : Nat) : Int) = (k : Int) + 1 from by omega], HB.out.trans (M4.out.below_of (B := w.heap.size) HB.out.size (by simp; exact hs1))⟩
      case measure => simp [intOf]; omega
    · obtain rfl : k = 64 := by omega
      have e1 : (⟨fullv (fun _ => v) 64, (64 : Nat)⟩ : RS).open_ v = ((0, 6), ⟨fullv (fun _ => v) 64, (64 : Nat)⟩) := by unfold RS.open_; rw [if_pos (by rw [fullv_len]; omega)]
      have hk1 : (0 : Int) ≤ no % 64 ∧ no % 64 < 64 := by omega
      have hmem : ((1 + no % 64), v) ∈ fullv (fun _ => v) 64 := by
        unfold fullv; rw [List.mem_map]
        exact ⟨(no % 64).toNat, by simp; omega, by simp; omega⟩
      have hlook := look_of_mem (fullv_srt _ _) hmem
      simp only at hlook
      have e2 : (⟨fullv (fun _ => v) 64, (64 : Nat)⟩ : RS).close (1 + no % 64) = (0, ⟨cut (fullv (fun _ => v) 64) (1 + no % 64), (64 : Nat)⟩) := by unfold RS.close; rw [if_pos (by rw [hlook]; rfl)]
      have hlen : (cut (fullv (fun _ => v) 64) (1 + no % 64)).length = 63 := by
        obtain ⟨i, hi, _, _, h⟩ := (qat_facts (no := 1 + no % 64) (fullv_srt (fun _ => v) 64)).2 (by rw [hlook]; rfl)
        rw [← h, List.length_append, List.length_take, List.length_drop]; rw [fullv_len] at hi ⊢; omega
      have HR := Lib.hid hr
      have HB := Lib.hid hb
      have HE1 := Lib.hid e1
      have HE2 := Lib.hid e2
      have HLN := Lib.hid hlen
      clear hr hb e1 e2 hlen hlook hmem
      obtain ⟨m0, hm0⟩ : ∃ m0, m0 = fullv (fun _ => v) 64 := ⟨_, rfl⟩
      obtain ⟨m1, hm1⟩ : ∃ m1, m1 = cut m0 (1 + no % 64) := ⟨_, rfl⟩
      obtain ⟨x, hx⟩ : ∃ x, x = IntKind.u64.wrap (v + 1) := ⟨_, rfl⟩
      have hx0 : 0 ≤ x ∧ x < 2 ^ 64 := by rw [hx]; rw [IntKind.wrap_u64]; omega
      rw [← hm0] at HR HE1 HE2 HLN
      rw [← hm1] at HE2 HLN
      clear hm0 hm1
      have e3 : (⟨m1, (64 : Nat)⟩ : RS).open_ x = ((65, 0), ⟨m1 ++ [(65, x)], 65⟩) := by unfold RS.open_; rw [if_neg (by rw [HLN.out]; omega)]; rfl
      have hwr : IntKind.i64.wrap (1 + no % 64) = 1 + no % 64 := IntWalk.i64_in _ (by omega)
      have HE3 := Lib.hid e3
      clear e3
      go_wp2_with fail
      refine (open_any sb bm _ v _ HR.out hv0 hv1 (by simp)).mono ?_
      rintro _ w4 ⟨_, rfl, rfl, h4, m4⟩
      rw [HE1.out] at h4 ⊢
      have H4 := Lib.hid h4
      have HB4 := Lib.hid (HB.out.trans (m4.below_of (B := w.heap.size) HB.out.size (by simp; exact hs1)))
      clear h4 m4 HR HB
      go_wp2_with fail
      refine (close_any sb bm _ _ _ H4.out (by omega) (by omega)).mono ?_
      rintro _ w5 ⟨_, rfl, rfl, h5, m5⟩
      rw [HE2.out] at h5 ⊢
      have H5 := Lib.hid h5
      have HB5 := Lib.hid (HB4.out.trans (m5.below_of (B := w.heap.size) HB4.out.size (by simp; exact hs1)))
      clear h5 m5 H4 HB4
      go_wp2_with fail
      rw [← hx]
      refine (open_any sb bm _ x _ H5.out hx0.1 hx0.2 (by simp)).mono ?_
      rintro _ w6 ⟨_, rfl, rfl, h6, m6⟩
      rw [HE3.out] at h6 ⊢
      have H6 := Lib.hid h6
      have HB6 := Lib.hid (HB5.out.trans (m6.below_of (B := w.heap.size) HB5.out.size (by simp; exact hs1)))
      clear h6 m6 H5 HB5
      have e4 : (⟨m1 ++ [(65, x)], 65⟩ : RS).version 65 = (x, 0) := by
        have hsr := H6.out.map.srt
        have := look_of_mem (p := ((65 : Int), x)) hsr (by simp)
        unfold RS.version; simp only at this ⊢; rw [this]; rfl
      have e5 : (⟨m1 ++ [(65, x)], 65⟩ : RS).open_ v = ((0, 6), ⟨m1 ++ [(65, x)], 65⟩) := by unfold RS.open_; rw [if_pos (by simp [HLN.out])]
      have HE4 := Lib.hid e4
      have HE5 := Lib.hid e5
      clear e4 e5
      go_wp2_with fail
      refine (version_any sb bm _ 65 _ H6.out (by omega) (by omega)).mono ?_
      rintro _ w7 ⟨_, rfl, rfl, rfl⟩
      rw [HE4.out]
      go_wp2_with fail
      refine (open_any sb bm _ v _ H6.out hv0 hv1 (by simp)).mono ?_
      rintro _ w8 ⟨_, rfl, rfl, h8, m8⟩
      rw [HE5.out] at h8 ⊢
      have H8 := Lib.hid h8
      have HB8 := Lib.hid (HB6.out.trans (m8.below_of (B := w.heap.size) HB6.out.size (by simp; exact hs1)))
      clear h8 m8 H6 HB6
      go_wp2_with fail
      refine (numbers_any sb bm _ _ H8.out (by simp [HLN.out])).mono ?_
      rintro _ w9 ⟨_, rfl, p9, n9, c9, rfl, e9, hrow9, m9⟩
      have hn9 : n9 = 64 := by rw [e9]; simp [HLN.out]
      have HB9 := Lib.hid (HB8.out.trans (m9.below.mono HB8.out.size))
      clear e9 hrow9 m9
      subst hn9
      go_wp2_with fail
      go_ret
      exact .mk ⟨rfl, HB9.out⟩

def us (l : List Int) : List Value := l.map (.int .u64 ·)
theorem us_get {l : List Int} {k : Nat} (hk : k < l.length) : (us l)[k]? = some (.int .u64 (l.getD k 0)) := by
  rw [getD_at hk, us, List.getElem?_map, List.getElem?_eq_getElem hk]; rfl
theorem ints_full (f : Nat → Int) (k : Nat) : ints ((fullv f (k + 1)).map (·.1)) = ints ((fullv f k).map (·.1)) ++ [.int .i64 ((k : Int) + 1)] := by
  rw [fullv_succ, List.map_append]; simp [ints]
theorem full_no (f : Nat → Int) (n j : Nat) (hj : j < n) : ((fullv f n).map (·.1)).getD j 0 = (j : Int) + 1 := by
  rw [getD_at (by rw [List.length_map, fullv_len]; exact hj), List.getElem_map]
  have hl : j < (fullv f n).length := by rw [fullv_len]; exact hj
  have := fullv_get f n j hj
  rw [List.getElem?_eq_getElem hl] at this
  rw [Option.some.inj this]
theorem sizeInts2 (W : World) : (sizeOf (Try.prog.elem 38)).run Try.prog W = .ok 1 W := by kernel_rfl
theorem sizeU (W : World) : (sizeOf (Try.prog.elem 37)).run Try.prog W = .ok 1 W := by kernel_rfl

set_option maxRecDepth 100000 in
set_option maxHeartbeats 1000000 in
theorem rises_any (a : Option Addr) (len cap : Nat) (l : List Int) (x : Int) (w : World) (hl : Sl w 1 a len cap (us l)) (hw : ∀ y ∈ l, 0 ≤ y ∧ y < 2 ^ 64) :
    Calls Try.prog 4 #[.slice a len cap, .int .u64 x] w (Ret (LawR2 w)) := by
  obtain ⟨i0, hi0, hz0, hz1, hz2⟩ := info_parts infoInt
  have hll : l.length = len := by have := hl.len; simpa [us] using this
  have hcm := hl.capm
  have hcl := hl.le
  unfold maxLen at hcm
  obtain ⟨b, off, hab, hat⟩ := hl.at_
  have hidx := fun W => Sl.idx (P := Try.prog) (cap := cap) Try.underlying37 sizeU (fun h => (hab h).1) W .i64
  have HAB := Lib.hid hab
  have HAT := Lib.hid hat
  have HW := Lib.hid hw
  have HLL := Lib.hid hll
  clear hl hab hat hw hll
  obtain ⟨f, hf⟩ : ∃ f : Nat → Int, f = fun i => l.getD i 0 := ⟨_, rfl⟩
  have HF := Lib.hid hf
  clear hf
  go_enter Try.func4, Try.ntmps4
  go_wp2_with fail
  refine (awake_any _).mono ?_
  rintro _ w1 ⟨_, rfl, rfl, m1⟩
  go_wp2_with fail
  refine (new_any _).mono ?_
  rintro _ w2 ⟨_, rfl, sb, bm, rfl, h2, m2, hsb, hbm⟩
  have hlt2 : sb < w2.heap.size ∧ bm < w2.heap.size := ⟨lt_of_at h2.at_, h2.map.own.lt⟩
  have H2 := Lib.hid h2
  have HB2 := Lib.hid (m1.below.trans (m2.below.mono m1.size))
  have hs1 : w.heap.size ≤ sb ∧ w.heap.size ≤ bm ∧ w.heap.size ≤ w2.heap.size := by have := m1.size; have := m2.size; omega
  generalize hbase : w2.heap.size = base at *
  clear h2 m1 m2 hsb hbm
  go_wp2_with fail
  go_loopw [6, 7] (fun o i wr => ∃ (k : Nat) (p : Option Addr) (c : Nat), k ≤ 64 ∧ k ≤ len ∧ i = .int .i64 k ∧ o = .slice p k c ∧ SnapAt wr sb bm ⟨fullv f k, k⟩ ∧ wr.ownsRow base 3 1 (.slice p k c) k (ints ((fullv f k).map (·.1))) ∧ Below w.heap.size w wr ∧ base ≤ wr.heap.size) (fun _ i _ => 64 - (intOf i).toNat)
  case atStart => exact ⟨0, none, 0, by omega, by omega, rfl, rfl, H2.out, ⟨by simp [ints, fullv], Or.inl ⟨rfl, rfl⟩⟩, HB2.out, by omega⟩
  case round =>
    obtain ⟨k, p, c, hk, hk2, rfl, rfl, hr, hown, hb, hsz⟩ := hrel
    have HR := Lib.hid hr
    have HO := Lib.hid hown
    have HB := Lib.hid hb
    clear hr hown hb H2 HB2
    by_cases h1 : k < len
    · by_cases h2 : k < 64
      · have d0 := HAT.out k _ (us_get (l := l) (by rw [HLL.out]; exact h1))
        have hy := HW.out (l.getD k 0) (by rw [getD_at (by rw [HLL.out]; exact h1)]; exact List.getElem_mem _)
        rw [← HB.out.cell (p := ⟨b, off + k, none⟩) (World.block_lt_of_cell? w _ d0)] at d0
        rw [show l.getD k 0 = f k from by rw [HF.out]] at d0 hy
        have hop := full_open f k h2
        have HOP := Lib.hid hop
        clear hop
        go_wp2_with fail
        refine (open_any sb bm _ (f k) _ HR.out hy.1 hy.2 (by simp; omega)).mono ?_
        rintro _ w4 ⟨_, rfl, rfl, h4, m4⟩
        rw [HOP.out] at h4 ⊢
        have H4 := Lib.hid h4
        have HB4 := Lib.hid (HB.out.trans (m4.below_of (B := w.heap.size) HB.out.size (by simp; omega)))
        have HO4 := Lib.hid (ownsRow_mod HO.out m4 (fun b' hb' => by have := own_base HO.out b' hb'; simp; omega))
        have hs4 := m4.size
        clear h4 m4 HR HB HO d0
        go_wp2_with (first
          | (at_builtin; go_must (refine wpList_append_src _ rfl _ _ _ rfl base 3 i0 _ 1 8 Try.underlying38 hi0 hz0 hz1 hz2 rfl (by omega) (.slice p k c) _ _ rfl (ownsRow_mod HO4.out (Mod.of_alloc w4 _) (by simp)) _ _ _ [.int .i64 ((k : Int) + 1)] rfl (Sl.one_new _ _ _ rfl) (k + 1) (by omega) (by unfold maxLen; omega) (by omega) (by simp; omega) ?_); intro p' c' w5 hown1 hgrow hnil hlie; (have HO5 := Lib.hid hown1); (have HG5 := Lib.hid hgrow); clear hown1 hgrow hnil hlie)
          | go_in)
        have hne : ∀ z, z < base → z ∉ (Value.ownBlock (.slice p k c)).toList := fun z hz hb => by have := own_base HO4.out z (by simpa using hb); omega
        have hbe : ∀ z ∈ (Value.ownBlock (.slice p k c)).toList, w.heap.size ≤ z := fun z hb => by have := own_base HO4.out z (by simpa using hb); omega
        go_roundw
        case rel =>
          have m5 := Mod.of_grown' HG5.out
          refine ⟨k + 1, _, _, by omega, by omega, by go_num, rfl, ?_, by rw [ints_full]; exact HO5.out, ?_, ?_⟩
          · have := (H4.out.mod (Mod.of_alloc w4 _) (by simp) (by simp)).mod m5 (hne _ hlt2.1) (hne _ hlt2.2)
            rwa [show ((k + 1 : Nat) : Int) = (k : Int) + 1 from by omega]
          · exact HB4.out.trans (((Mod.of_alloc w4 _).below_of (B := w.heap.size) HB4.out.size (by simp)).trans (m5.below_of (B := w.heap.size) (by have := HB4.out.size; simp; omega) hbe))
          · have := m5.size; simp at this; omega
        case measure => simp [intOf]; omega
      ·   go_wp2_with fail
          refine (horizon_any sb bm _ x _ HR.out).mono ?_
          rintro _ w4 ⟨_, rfl, rfl, h4, m4⟩
          have H4 := Lib.hid h4
          have HB4 := Lib.hid (HB.out.trans (m4.below.mono HB.out.size))
          have HO4 := Lib.hid (ownsRow_mod HO.out m4 (by simp))
          clear h4 m4 HR HB HO
          have hnl : (fullv f k).drop 0 = fullv f k := rfl
          rw [← hnl] at H4 ⊢
          have HSL := Lib.hid (Sl.of_own HO4.out (ints_one _)).1
          obtain ⟨g, og, hg, hgat⟩ := HSL.out.at_
          have hidx2 := fun W => Sl.idx (P := Try.prog) (cap := c) Try.underlying38 sizeInts2 (fun h => (hg h).1) W .i64
          have HGA := Lib.hid hgat
          have hgb : 0 < k → base ≤ g := fun h => own_base HO4.out g (by rw [(hg h).1]; simp [Value.ownBlock])
          have HGB := Lib.hid hgb
          clear hg hgat hidx hgb
          go_wp2_with fail
          go_loopw [10, 11] (fun o i wr => ∃ (j : Nat), j ≤ k ∧ i = .int .i64 j ∧ o = .int .u64 ((⟨(fullv f k).drop j, k⟩ : RS).horizon x) ∧ SnapAt wr sb bm ⟨(fullv f k).drop j, k⟩ ∧ Mod [sb, bm] w4 wr ∧ Below w.heap.size w wr) (fun _ i _ => k - (intOf i).toNat)
          case atStart => exact ⟨0, by omega, rfl, rfl, H4.out, Mod.refl _ _, HB4.out⟩
          case round =>
            obtain ⟨j, hj, rfl, rfl, hr, hm, hb⟩ := hrel
            have HR := Lib.hid hr
            have HM := Lib.hid hm
            have HB := Lib.hid hb
            clear hr hb hm HB4 H4
            by_cases hjl : j < k
            · have d0 := HGA.out j _ (ints_get (by rw [List.length_map, fullv_len]; exact hjl))
              rw [full_no f k j hjl] at d0
              rw [← HM.out.cell (a := ⟨g, og + j, none⟩) (World.block_lt_of_cell? w4 _ d0) (by have := HGB.out (by omega); simp; omega)] at d0
              have HC := Lib.hid (full_close f k j hjl)
              have hrise := full_rise f k j x hjl
              go_wp2_with fail
              refine (close_any sb bm _ _ _ HR.out (by omega) (by omega)).mono ?_
              rintro _ w5 ⟨_, rfl, rfl, h5, m5⟩
              rw [HC.out] at h5 ⊢
              have H5 := Lib.hid h5
              have HB5 := Lib.hid (HB.out.trans (m5.below_of (B := w.heap.size) HB.out.size (by simp; omega)))
              have HM5 := Lib.hid (HM.out.same m5)
              clear h5 m5 HR HB HM d0
              go_wp2_with fail
              obtain ⟨h1', hh1⟩ : ∃ h1', h1' = (⟨(fullv f k).drop (j + 1), k⟩ : RS).horizon x := ⟨_, rfl⟩
              obtain ⟨h0', hh0⟩ : ∃ h0', h0' = (⟨(fullv f k).drop j, k⟩ : RS).horizon x := ⟨_, rfl⟩
              rw [← hh1, ← hh0] at hrise
              have hnl1 : ¬ h1' < h0' := by omega
              refine (horizon_any sb bm _ x _ H5.out).mono ?_
              rintro _ w6 ⟨_, rfl, rfl, h6, m6⟩
              have H6 := Lib.hid h6
              have HB6 := Lib.hid (HB5.out.trans (m6.below.mono HB5.out.size))
              have HM6 := Lib.hid (HM5.out.same (m6.mono (by simp)))
              rw [← hh1]
              rw [← hh0] at *
              have HH1 := Lib.hid hh1
              clear h6 m6 H5 HB5 HM5 hrise hh0 hh1
              go_wp2_with fail
              refine (horizon_any sb bm _ x _ H6.out).mono ?_
              rintro _ w7 ⟨_, rfl, rfl, h7, m7⟩
              have H7 := Lib.hid h7
              have HB7 := Lib.hid (HB6.out.trans (m7.below.mono HB6.out.size))
              have HM7 := Lib.hid (HM6.out.same (m7.mono (by simp)))
              clear h7 m7 H6 HB6 HM6
              go_wp2
              go_roundw
              case rel => exact ⟨j + 1, by omega, by go_num, rfl, H7.out, HM7.out, HB7.out⟩
              case measure => simp [intOf]; omega
            · obtain rfl : j = k := by omega
              have hdr : (fullv f j).drop j = [] := by rw [List.drop_eq_nil_iff, fullv_len]; omega
              have hz : (⟨(fullv f j).drop j, j⟩ : RS).horizon x = x := by rw [hdr]; rfl
              rw [hz]
              clear hz
              go_wp2_with fail
              refine (numbers_any sb bm _ _ HR.out (by simp [hdr])).mono ?_
              rintro _ w9 ⟨_, rfl, p9, n9, c9, rfl, e9, hrow9, m9⟩
              have hn9 : n9 = 0 := by rw [e9]; simp [hdr]
              have HB9 := Lib.hid (HB.out.trans (m9.below.mono HB.out.size))
              clear e9 hrow9 m9
              subst hn9
              go_wp2_with fail
              go_ret
              exact .mk ⟨rfl, HB9.out⟩
    ·   go_wp2_with fail
        refine (horizon_any sb bm _ x _ HR.out).mono ?_
        rintro _ w4 ⟨_, rfl, rfl, h4, m4⟩
        have H4 := Lib.hid h4
        have HB4 := Lib.hid (HB.out.trans (m4.below.mono HB.out.size))
        have HO4 := Lib.hid (ownsRow_mod HO.out m4 (by simp))
        clear h4 m4 HR HB HO
        have hnl : (fullv f k).drop 0 = fullv f k := rfl
        rw [← hnl] at H4 ⊢
        have HSL := Lib.hid (Sl.of_own HO4.out (ints_one _)).1
        obtain ⟨g, og, hg, hgat⟩ := HSL.out.at_
        have hidx2 := fun W => Sl.idx (P := Try.prog) (cap := c) Try.underlying38 sizeInts2 (fun h => (hg h).1) W .i64
        have HGA := Lib.hid hgat
        have hgb : 0 < k → base ≤ g := fun h => own_base HO4.out g (by rw [(hg h).1]; simp [Value.ownBlock])
        have HGB := Lib.hid hgb
        clear hg hgat hidx hgb
        go_wp2_with fail
        go_loopw [10, 11] (fun o i wr => ∃ (j : Nat), j ≤ k ∧ i = .int .i64 j ∧ o = .int .u64 ((⟨(fullv f k).drop j, k⟩ : RS).horizon x) ∧ SnapAt wr sb bm ⟨(fullv f k).drop j, k⟩ ∧ Mod [sb, bm] w4 wr ∧ Below w.heap.size w wr) (fun _ i _ => k - (intOf i).toNat)
        case atStart => exact ⟨0, by omega, rfl, rfl, H4.out, Mod.refl _ _, HB4.out⟩
        case round =>
          obtain ⟨j, hj, rfl, rfl, hr, hm, hb⟩ := hrel
          have HR := Lib.hid hr
          have HM := Lib.hid hm
          have HB := Lib.hid hb
          clear hr hb hm HB4 H4
          by_cases hjl : j < k
          · have d0 := HGA.out j _ (ints_get (by rw [List.length_map, fullv_len]; exact hjl))
            rw [full_no f k j hjl] at d0
            rw [← HM.out.cell (a := ⟨g, og + j, none⟩) (World.block_lt_of_cell? w4 _ d0) (by have := HGB.out (by omega); simp; omega)] at d0
            have HC := Lib.hid (full_close f k j hjl)
            have hrise := full_rise f k j x hjl
            go_wp2_with fail
            refine (close_any sb bm _ _ _ HR.out (by omega) (by omega)).mono ?_
            rintro _ w5 ⟨_, rfl, rfl, h5, m5⟩
            rw [HC.out] at h5 ⊢
            have H5 := Lib.hid h5
            have HB5 := Lib.hid (HB.out.trans (m5.below_of (B := w.heap.size) HB.out.size (by simp; omega)))
            have HM5 := Lib.hid (HM.out.same m5)
            clear h5 m5 HR HB HM d0
            go_wp2_with fail
            obtain ⟨h1', hh1⟩ : ∃ h1', h1' = (⟨(fullv f k).drop (j + 1), k⟩ : RS).horizon x := ⟨_, rfl⟩
            obtain ⟨h0', hh0⟩ : ∃ h0', h0' = (⟨(fullv f k).drop j, k⟩ : RS).horizon x := ⟨_, rfl⟩
            rw [← hh1, ← hh0] at hrise
            have hnl1 : ¬ h1' < h0' := by omega
            refine (horizon_any sb bm _ x _ H5.out).mono ?_
            rintro _ w6 ⟨_, rfl, rfl, h6, m6⟩
            have H6 := Lib.hid h6
            have HB6 := Lib.hid (HB5.out.trans (m6.below.mono HB5.out.size))
            have HM6 := Lib.hid (HM5.out.same (m6.mono (by simp)))
            rw [← hh1]
            rw [← hh0] at *
            have HH1 := Lib.hid hh1
            clear h6 m6 H5 HB5 HM5 hrise hh0 hh1
            go_wp2_with fail
            refine (horizon_any sb bm _ x _ H6.out).mono ?_
            rintro _ w7 ⟨_, rfl, rfl, h7, m7⟩
            have H7 := Lib.hid h7
            have HB7 := Lib.hid (HB6.out.trans (m7.below.mono HB6.out.size))
            have HM7 := Lib.hid (HM6.out.same (m7.mono (by simp)))
            clear h7 m7 H6 HB6 HM6
            go_wp2
            go_roundw
            case rel => exact ⟨j + 1, by omega, by go_num, rfl, H7.out, HM7.out, HB7.out⟩
            case measure => simp [intOf]; omega
          · obtain rfl : j = k := by omega
            have hdr : (fullv f j).drop j = [] := by rw [List.drop_eq_nil_iff, fullv_len]; omega
            have hz : (⟨(fullv f j).drop j, j⟩ : RS).horizon x = x := by rw [hdr]; rfl
            rw [hz]
            clear hz
            go_wp2_with fail
            refine (numbers_any sb bm _ _ HR.out (by simp [hdr])).mono ?_
            rintro _ w9 ⟨_, rfl, p9, n9, c9, rfl, e9, hrow9, m9⟩
            have hn9 : n9 = 0 := by rw [e9]; simp [hdr]
            have HB9 := Lib.hid (HB.out.trans (m9.below.mono HB.out.size))
            clear e9 hrow9 m9
            subst hn9
            go_wp2_with fail
            go_ret
            exact .mk ⟨rfl, HB9.out⟩
end Go.Proofs.Ytghpmhpbccgdcaa
