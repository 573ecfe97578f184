/- What a link says: the program's and the document's. -/
import Derived.Test.YtbogdjjeipdbaaaDoorNodePay2
import Derived.Test.YtbogdjjeipdbaaaDoorTlKey
import Derived.Test.YtbogdjjeipdbaaaDoorReader
namespace Go.Proofs.YtbogdjjeipdbaaaDoor
open Go.RowKit Go.Maps
set_option linter.unusedSimpArgs false
set_option linter.unusedVariables false

def linkOk (next : Int) (b : List Int) : Prop := 1 ≤ b.length ∧ b.length ≤ 1010 ∧ 0 ≤ next ∧ next ≤ 2147483647
instance (next : Int) (b : List Int) : Decidable (linkOk next b) := by unfold linkOk; exact inferInstance
def linkL (next : Int) (b : List Int) : List Int := if linkOk next b then be 4 next ++ (be 2 b.length ++ b) else []
theorem linkL_of {next : Int} {b : List Int} (h : linkOk next b) : linkL next b = be 4 next ++ (be 2 b.length ++ b) := if_pos h
theorem linkL_no {next : Int} {b : List Int} (h : ¬ linkOk next b) : linkL next b = [] := if_neg h
theorem linkL_len (next : Int) (b : List Int) : (linkL next b).length ≤ 1016 := by
  unfold linkL; split
  · rename_i h; simp [be_len]; have := h.2.1; omega
  · simp
theorem linkL_wf {next : Int} {b : List Int} (h : ∀ x ∈ b, 0 ≤ x ∧ x < 256) : ∀ x ∈ linkL next b, 0 ≤ x ∧ x < 256 := by
  intro x hx
  unfold linkL at hx
  split at hx
  · simp only [List.mem_append] at hx
    rcases hx with hx | hx | hx
    · exact be_wf _ _ x hx
    · exact be_wf _ _ x hx
    · exact h x hx
  · simp at hx

set_option maxRecDepth 100000 in
set_option maxHeartbeats 4000000 in
theorem link_any (q : Option Addr) (m d : Nat) (b : List Int) (next : Int) (w : World) (h : BytesIn w q m d b) :
    Calls Tryd.prog 11 #[.int .i64 next, .slice q m d] w (Ret (NPayR (linkL next b) w)) := by
  have hbl := h.len
  have hcm := h.sl.capm; have hle := h.sl.le
  unfold maxLen at hcm
  by_cases hok : linkOk next b
  · have HV : Hid (linkL next b = be 4 next ++ (be 2 m ++ b)) := by unfold Hid; rw [linkL_of hok, hbl]
    obtain ⟨o1, o2, o3, o4⟩ := hok
    have HSQ : Hid (Sl w 1 q m d (bs b)) := h.sl
    have HB2 := Lib.hid (be2_of (n := m) (by omega) (by omega))
    have hw8 : IntKind.u8.wrap ((m : Int) / 256) = (m : Int) / 256 := by rw [IntKind.wrap_u8]; omega
    have hw9 : IntKind.u8.wrap (m : Int) = (m : Int) % 256 := IntKind.wrap_u8 _
    have hw10 : IntKind.u32.wrap next = next := by rw [IntKind.wrap_u32]; omega
    obtain ⟨BB, hBB⟩ : ∃ BB, BB = be 4 next ++ (be 2 m ++ b) := ⟨_, rfl⟩
    obtain ⟨N, hN⟩ : ∃ N, N = m + 6 := ⟨_, rfl⟩
    have HBB : Hid (be 4 next ++ ([(m : Int) / 256, (m : Int) % 256] ++ b) = BB) := by unfold Hid; rw [hBB, HB2.out]
    have HBL : Hid (BB.length = N) := by unfold Hid; rw [hBB, hN]; simp [be_len]; omega
    have hNle : N ≤ 1016 := by omega
    have hN0 : 0 < N := by omega
    rw [← hBB] at HV
    have hm1 : 1 ≤ m := by omega
    have hm2 : m ≤ 1010 := by omega
    clear h hbl hBB hN o1 o2
    go_enter Tryd.func11, Tryd.ntmps11
    go_wp2_with fail
    refine (put32_any next _ (by omega) (by omega)).mono ?_
    rintro _ w2 ⟨_, rfl, p2, n2, c2, rfl, e2, s2, m2⟩
    obtain rfl : n2 = 4 := by rw [e2, be_len]
    have PA : Hid (PartsAt ((w2.alloc (.cells #[.int .u8 ((m : Int) / 256), .int .u8 ((m : Int) % 256)] 5)).alloc (.cells #[.slice p2 4 c2, .slice (some ⟨w2.heap.size, 0, none⟩) 2 2, .slice q m d] 37)) (some ⟨(w2.alloc (.cells #[.int .u8 ((m : Int) / 256), .int .u8 ((m : Int) % 256)] 5)).heap.size, 0, none⟩) 3 3 [(p2, 4, c2, be 4 next), (some ⟨w2.heap.size, 0, none⟩, 2, 2, [(m : Int) / 256, (m : Int) % 256]), (q, m, d, b)]) :=
      PartsAt.three' _ _ (s2.mod (Mod.of_alloc _ _) (by simp)) (lit_bytes w2 [(m : Int) / 256, (m : Int) % 256] _ (by show 2 ≤ 1000; omega)) (HSQ.out.mod (m2.alloc) (by simp))
    have HFLT : Hid (flat [(p2, 4, c2, be 4 next), (some ⟨w2.heap.size, 0, none⟩, 2, 2, [(m : Int) / 256, (m : Int) % 256]), (q, m, d, b)] = BB) := by unfold Hid; rw [flat3']; exact HBB.out
    generalize hfl : [(p2, 4, c2, be 4 next), (some ⟨w2.heap.size, 0, none⟩, 2, 2, [(m : Int) / 256, (m : Int) % 256]), (q, m, d, b)] = FL at PA HFLT
    have M2 : Hid (Mod [] w ((w2.alloc (.cells #[.int .u8 ((m : Int) / 256), .int .u8 ((m : Int) % 256)] 5)).alloc (.cells #[.slice p2 4 c2, .slice (some ⟨w2.heap.size, 0, none⟩) 2 2, .slice q m d] 37))) := (m2.alloc).alloc
    have hal : (w2.alloc (.cells #[.int .u8 ((m : Int) / 256), .int .u8 ((m : Int) % 256)] 5)).heap.size = w2.heap.size + 1 := Array.size_push _
    rw [hal] at PA
    clear e2 s2 m2 hfl hal
    go_wp2_with fail
    refine (concat_any _ 3 3 FL _ PA.out (by rw [HFLT.out, HBL.out]; omega)).mono ?_
    rintro _ w3 ⟨_, rfl, p3, n3, c3, rfl, e3, s3, m3⟩
    rw [HFLT.out] at e3 s3
    obtain rfl : n3 = N := by rw [e3]; exact HBL.out
    have S3 := Lib.hid (Sl.of_own s3 (bs_one _)).1
    have M3 := Lib.hid (M2.out.same m3)
    have Q3 : Hid (p3 ≠ none) := fun e => by obtain ⟨_, _, h, _⟩ := S3.out.addr hN0; rw [e] at h; cases h
    clear e3 s3 m3
    go_wp2
    go_ret
    exact .mk ⟨p3, _, c3, rfl, by rw [HV.out, HBL.out], ⟨fun e => absurd e Q3.out, fun e => by rw [HV.out] at e; rw [← HBB.out] at e; simp at e⟩, by rw [HV.out]; exact S3.out, M3.out⟩
  · have HV := Lib.hid (linkL_no hok)
    unfold linkOk at hok
    rw [hbl] at hok
    have K : ∀ w', Mod [] w w' → NPayR (linkL next b) w (.slice none 0 0) w' := fun w' hm => ⟨none, 0, 0, rfl, by rw [HV.out]; rfl, by rw [HV.out]; simp, by rw [HV.out]; exact Sl.nil _ _, hm⟩
    have HK := Lib.hid K
    clear K h hbl
    by_cases o1 : 1 ≤ m
    · by_cases o2 : m ≤ 1010
      · by_cases o3 : 0 ≤ next
        · have o4 : 2147483647 < next := by omega
          clear hok
          go_enter Tryd.func11, Tryd.ntmps11
          go_wp2
          go_ret
          exact .mk (HK.out _ (Mod.refl _ _))
        · have o4 : next < 0 := by omega
          clear hok o3
          go_enter Tryd.func11, Tryd.ntmps11
          go_wp2
          go_ret
          exact .mk (HK.out _ (Mod.refl _ _))
      · have o4 : 1010 < m := by omega
        clear hok o2
        go_enter Tryd.func11, Tryd.ntmps11
        go_wp2
        go_ret
        exact .mk (HK.out _ (Mod.refl _ _))
    · obtain rfl : m = 0 := by omega
      clear hok o1
      go_enter Tryd.func11, Tryd.ntmps11
      go_wp2
      go_ret
      exact .mk (HK.out _ (Mod.refl _ _))

theorem be_drop2 (v : Int) : (be 8 v).drop 6 = be 2 v := by
  rw [be_succ 7, be_succ 6, be_succ 5, be_succ 4, be_succ 3, be_succ 2]; rfl
theorem be_dropk {v : Int} {k : Nat} (hk : k = 2 ∨ k = 4) : (be 8 v).drop (8 - k) = be k v := by
  rcases hk with rfl | rfl
  · exact be_drop2 v
  · exact be_drop v
set_option maxRecDepth 100000 in
theorem qbig_any (v : Int) (k : Nat) (w : World) (h0 : 0 ≤ v) (h1 : v < 2 ^ 63) (hk : k = 2 ∨ k = 4) :
    Calls Tryd.prog 21 #[.int .i64 v, .int .i64 k] w (Ret (ValR (be k v) w)) := by
  have hwr : IntKind.u64.wrap v = v := by rw [IntKind.wrap_u64]; omega
  have hw8 : IntKind.i64.wrap (8 - (k : Int)) = ((8 - k : Nat) : Int) := by rw [IntWalk.i64_in _ (by omega)]; omega
  have HBD := Lib.hid (be_dropk (v := v) hk)
  have HBL := Lib.hid (be_len k v)
  go_enter Tryd.func21, Tryd.ntmps21
  go_wp2_with fail
  refine (qkey_any v _ (by omega) (by omega)).mono ?_
  rintro _ w2 ⟨_, rfl, q1, n1, c1, rfl, e1', s1', m1⟩
  obtain rfl : n1 = 8 := by rw [e1', be_len]
  obtain ⟨p2, r2, t2, _⟩ := (Tl.of_key s1').sub_key (8 - k) k (by omega) (by omega) ((8 - k : Nat) : Int) rfl
  rw [HBD.out] at t2
  have T2 := Lib.hid t2.sl
  have M2 := Lib.hid m1
  clear e1' s1' m1 t2
  go_wp2
  go_ret
  exact .mk ⟨p2, k, _, rfl, HBL.out.symm, T2.out, M2.out⟩
set_option maxRecDepth 100000 in
set_option maxHeartbeats 4000000 in
theorem qlink_any (q : Option Addr) (m d : Nat) (b : List Int) (next : Int) (w : World) (h : BytesIn w q m d b) :
    Calls Tryd.prog 13 #[.int .i64 next, .slice q m d] w (Ret (PayT (linkL next b) w)) := by
  have hbl := h.len
  have hcm := h.sl.capm; have hle := h.sl.le
  unfold maxLen at hcm
  by_cases hok : linkOk next b
  · have HV : Hid (linkL next b = be 4 next ++ be 2 m ++ b) := by unfold Hid; rw [linkL_of hok, hbl, List.append_assoc]
    have HVL : Hid ((linkL next b).length = 4 + 2 + m) := by unfold Hid; rw [HV.out]; simp [be_len, hbl]; omega
    obtain ⟨o1, o2, o3, o4⟩ := hok
    have HSQ : Hid (Sl w 1 q m d (bs b)) := h.sl
    have hm1 : 1 ≤ m := by omega
    have hm2 : m ≤ 1010 := by omega
    obtain ⟨i0, hi0, hz0, hz1, hz2⟩ := info_parts infoU8
    have OT : Hid (Tl (w.alloc (.cells #[] 5)) w.heap.size 1 (some ⟨w.heap.size, 0, none⟩) 0 0 (bs [])) := Tl.of_own (own_row w [] _ _ (Nat.le_refl _) (by simp)) (by simp [bs])
    have MC : Hid (Mod [] w (w.alloc (.cells #[] 5))) := Mod.of_alloc w _
    clear h hbl o1 o2
    go_enter Tryd.func13, Tryd.ntmps13
    go_wp2_with fail
    refine (qbig_any next 4 _ o3 (by omega) (Or.inr rfl)).mono ?_
    rintro _ w2 ⟨_, rfl, p2, n2, c2, rfl, e2, s2, m2⟩
    obtain rfl : n2 = 4 := by rw [e2, be_len]
    replace MC := Lib.hid (MC.out.same m2)
    replace OT := Lib.hid (OT.out.mod m2 (by simp))
    have S2 := Lib.hid s2
    have L2 := MC.out.size
    clear e2 s2 m2
    go_wp2_with (first
      | (at_builtin; (refine wpList_append_tl _ rfl _ _ _ rfl w.heap.size 5 i0 _ 1 1 Tryd.underlying37 hi0 hz0 hz1 hz2 rfl (by omega) _ _ _ _ rfl OT.out _ _ _ _ rfl S2.out 4 rfl (by unfold maxLen; omega) (by omega) L2 ?_); intro o1 d1 w3 ht1 hm1 hnil1 hor1; (have HO1 : Hid (o1 ≠ none) := fun e => by have := (hnil1.1 e).2; cases this); (replace MC := Lib.hid (OT.out.turned (w2 := w) rfl hm1 MC.out)); (replace OT := Lib.hid ht1); clear ht1 hm1 hnil1 hor1)
      | fail)
    refine (qbig_any m 2 _ (by omega) (by omega) (Or.inl rfl)).mono ?_
    rintro _ w4 ⟨_, rfl, p4, n4, c4, rfl, e4, s4, m4⟩
    obtain rfl : n4 = 2 := by rw [e4, be_len]
    replace MC := Lib.hid (MC.out.same m4)
    replace OT := Lib.hid (OT.out.mod m4 (by simp))
    have S4 := Lib.hid s4
    have L4 := MC.out.size
    clear e4 s4 m4 L2
    go_wp2_with (first
      | (at_builtin; (refine wpList_append_tl _ rfl _ _ _ rfl w.heap.size 5 i0 _ 1 1 Tryd.underlying37 hi0 hz0 hz1 hz2 rfl (by omega) _ _ _ _ rfl OT.out _ _ _ _ rfl S4.out (4 + 2) rfl (by unfold maxLen; omega) (by omega) L4 ?_); intro o2 d2 w5 ht2 hm2' hnil2 hor2; (have HO2 : Hid (o2 ≠ none) := fun e => by have := (hnil2.1 e).2; cases this); (replace MC := Lib.hid (OT.out.turned (w2 := w) rfl hm2' MC.out)); (replace OT := Lib.hid ht2); (have S5 := Lib.hid (HSQ.out.mod MC.out (by simp))); (have L5 := MC.out.size); clear ht2 hm2' hnil2 hor2)
      | (at_builtin; (refine wpList_append_tl _ rfl _ _ _ rfl w.heap.size 5 i0 _ 1 1 Tryd.underlying37 hi0 hz0 hz1 hz2 rfl (by omega) _ _ _ _ rfl OT.out _ _ _ _ rfl S5.out (4 + 2 + m) rfl (by unfold maxLen; omega) (by omega) L5 ?_); intro o3 d3 w6 ht3 hm3 hnil3 hor3; (have HO3 : Hid (o3 ≠ none) := fun e => by have := (hnil3.1 e).2; omega); (replace MC := Lib.hid (OT.out.turned (w2 := w) rfl hm3 MC.out)); (replace OT := Lib.hid ht3); clear ht3 hm3 hnil3 hor3)
      | fail)
    go_ret
    refine .mk ⟨o3, _, d3, rfl, HVL.out.symm, ⟨fun e => absurd e HO3.out, fun e => by have := HVL.out; rw [e] at this; simp at this; omega⟩, ?_, MC.out⟩
    rw [HV.out, bs_append, bs_append]; simpa [bs] using OT.out
  · have HV := Lib.hid (linkL_no hok)
    unfold linkOk at hok
    rw [hbl] at hok
    have K : ∀ w', Mod [] w w' → PayT (linkL next b) w (.slice none 0 0) w' := fun w' hm => ⟨none, 0, 0, rfl, by rw [HV.out]; rfl, by rw [HV.out]; simp, by rw [HV.out]; exact Tl.none' _ _ _, hm⟩
    have HK := Lib.hid K
    clear K h hbl
    by_cases o1 : 1 ≤ m
    · by_cases o2 : m ≤ 1010
      · by_cases o3 : 0 ≤ next
        · have o4 : 2147483647 < next := by omega
          clear hok
          go_enter Tryd.func13, Tryd.ntmps13
          go_wp2
          go_ret
          exact .mk (HK.out _ (Mod.refl _ _))
        · have o4 : next < 0 := by omega
          clear hok o3
          go_enter Tryd.func13, Tryd.ntmps13
          go_wp2
          go_ret
          exact .mk (HK.out _ (Mod.refl _ _))
      · have o4 : 1010 < m := by omega
        clear hok o2
        go_enter Tryd.func13, Tryd.ntmps13
        go_wp2
        go_ret
        exact .mk (HK.out _ (Mod.refl _ _))
    · obtain rfl : m = 0 := by omega
      clear hok o1
      go_enter Tryd.func13, Tryd.ntmps13
      go_wp2
      go_ret
      exact .mk (HK.out _ (Mod.refl _ _))
end Go.Proofs.YtbogdjjeipdbaaaDoor
