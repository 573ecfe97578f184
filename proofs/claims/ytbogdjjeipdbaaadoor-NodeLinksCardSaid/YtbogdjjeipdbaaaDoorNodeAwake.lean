/- What the document fixes ahead of the laws on nodes. -/
import Derived.Test.YtbogdjjeipdbaaaDoorFromPay
import Derived.Test.YtbogdjjeipdbaaaDoorZeros2
import Derived.Test.YtbogdjjeipdbaaaDoorTlKey
namespace Go.Proofs.YtbogdjjeipdbaaaDoor
open Go.RowKit Go.Maps
set_option linter.unusedSimpArgs false
set_option linter.unusedVariables false

theorem awake_leaf : payLeaf [] = [1, 0, 0] := by decide
theorem awake_may : mayBr [] [7] = true := by decide
theorem awake_br : payBr [] [7] = [2, 0, 0, 0, 0, 0, 7] := by decide
set_option maxRecDepth 100000 in
set_option maxHeartbeats 8000000 in
theorem awake_any (w : World) : Calls Tryd.prog 6 #[] w (Ret (BoolM true w)) := by
  obtain ⟨W1, hW1⟩ : ∃ W1, W1 = ((w.alloc (.cells #[.slice none 0 0] 48)).alloc (.cells #[.int .i64 7] 3)).alloc (.cells #[.slice none 0 0, .slice (some ⟨w.heap.size + 1, 0, none⟩) 1 1] 34) := ⟨_, rfl⟩
  have HM1 : Hid (Mod [] w W1) := by rw [hW1]; exact (Mod.refl [] w).alloc.alloc.alloc
  have HL1 : Hid (LeafAt W1 w.heap.size []) := by
    rw [hW1]
    exact ⟨none, 0, 0, at_alloc_other (at_alloc_other (at_alloc w _) _) _, ⟨by simpa [ccells] using Sl.nil _ 4, by simp⟩⟩
  have HB1 : Hid (BrAt W1 (w.heap.size + 1 + 1) [] [7]) := by
    rw [hW1]
    refine ⟨none, 0, 0, _, 1, 1, at_alloc' _ _ (by simp), ⟨by simpa using Sl.nil _ 1, by simp⟩, ?_⟩
    have h1 := (Sl.one_new (w.alloc (.cells #[.slice none 0 0] 48)) (.int .i64 7) 3 rfl).mod (Mod.of_alloc _ (.cells #[.slice none 0 0, .slice (some ⟨w.heap.size + 1, 0, none⟩) 1 1] 34)) (by simp)
    simpa using h1
  obtain ⟨i0, hi0, hz0, hz1, hz2⟩ := info_parts infoU8
  go_enter Tryd.func6, Tryd.ntmps6
  go_wp2_with fail
  rw [← hW1]
  have HWE := Lib.hid hW1
  clear hW1
  refine (leafpay_any w.heap.size [] _ HL1.out (by decide)).mono ?_
  rintro _ w2 ⟨_, rfl, p2, n2, c2, rfl, e2, z2, s2, m2⟩
  rw [show ([] : List Cv).map Cv.pl = [] from rfl, awake_leaf] at e2
  obtain rfl : n2 = 3 := e2
  have HM2 := Lib.hid m2
  clear z2 s2 m2
  go_wp2_with fail
  refine (brpay_any (w.heap.size + 1 + 1) [] [7] _ (HB1.out.mod0 HM2.out) (by decide)).mono ?_
  rintro _ w3 ⟨_, rfl, p3, n3, c3, rfl, e3, z3, s3, m3⟩
  rw [show ([] : List Bv).map Bv.l = [] from rfl, awake_br] at e3 z3 s3
  obtain rfl : n3 = 7 := e3
  have HM3 : Hid (Mod [] W1 w3) := HM2.out.same m3
  have HS3 := Lib.hid s3
  obtain ⟨F3, o3, rfl, hF3, hc3⟩ := s3.addr (by omega)
  have hle3 := s3.le
  clear z3 s3 m3
  go_wp2_with fail
  refine (frompay_len none 0 0 _ (by omega)).mono ?_
  rintro _ w4 ⟨_, rfl, rfl, rfl⟩
  have T8 : Hid ((w4.alloc (.cells #[] 5)).ownsRow w4.heap.size 5 1 (.slice (some ⟨w4.heap.size, 0, none⟩) 0 0) 0 []) := own_row w4 [] _ _ (Nat.le_refl _) (by simp)
  have S8 : Hid (Sl (w4.alloc (.cells #[] 5)) 1 (some ⟨F3, o3, none⟩) 7 c3 (bs [2, 0, 0, 0, 0, 0, 7])) := HS3.out.mod (Mod.of_alloc w4 _) (by simp)
  have hs8 : w4.heap.size ≤ (w4.alloc (.cells #[] 5)).heap.size := (Mod.of_alloc w4 _).size
  go_wp2_with (first
    | (at_builtin; (refine wpList_append_src _ rfl _ _ _ rfl w4.heap.size 5 i0 _ 1 1 Tryd.underlying37 hi0 hz0 hz1 hz2 rfl (by omega) (.slice (some ⟨w4.heap.size, 0, none⟩) 0 0) 0 [] rfl T8.out _ _ _ _ rfl S8.out 7 (by omega) (by unfold maxLen; omega) (by omega) hs8 ?_); intro p12 c12 w12 ht12 hm12 hnil12 hor12; (have T12 : Hid (Tl w12 w4.heap.size 1 p12 7 c12 (bs [2, 0, 0, 0, 0, 0, 7])) := Tl.of_own ht12 (bs_one _)); (have F12 : Hid (Fz w12 p12) := fz_own ht12); (have M12 : Hid (Mod [] w4 w12) := (Mod.of_alloc w4 _).trans (Mod.of_grown' hm12) (by simp [Value.ownBlock])); (have hs12 := M12.out.size); clear ht12 hm12 hnil12 hor12)
    | (at_builtin; (refine wpList_append_zeros_fz _ rfl _ _ _ _ rfl w4.heap.size 5 i0 Tryd.underlying37 Tryd.underlying3 hi0 hz0 hz1 hz2 _ _ _ [2, 0, 0, 0, 0, 0, 7] rfl T12.out F12.out 1009 rfl 1016 (by omega) (by omega) hs12 ?_); intro p13 c13 w13 ht13 hm13 hnil13 hfz13; (have T13 := Lib.hid ht13); (have M13 : Hid (Mod [] w4 w13) := T12.out.turned (w2 := w4) (w0 := w4) rfl hm13 M12.out); clear ht13 hm13 hnil13 hfz13)
    | fail)
  have HIN : Hid (BytesIn w13 p13 1016 c13 (payBr [] [7] ++ zs (1016 - (payBr [] [7]).length))) := by
    rw [awake_br]
    refine ⟨T13.out.sl, fun x hx => ?_⟩
    rcases List.mem_append.1 hx with h | h
    · simp at h; omega
    · exact zs_wf _ x h
  have HFP := Lib.hid (frompay_br p13 c13 _ [] [7] w13 HIN.out awake_may rfl)
  have HMF : Hid (Mod [] w w13) := HM1.out.same (HM3.out.same M13.out)
  have HS13 := Lib.hid (HS3.out.mod M13.out (by simp))
  clear T8 S8 T12 F12 M12 T13 M13 hs8 hs12 HIN HL1 HB1 hc3
  refine HFP.out.mono ?_
  rintro _ w5 ⟨_, rfl, B, kv, rfl, hbr, hkv, m5⟩
  have HS5 := Lib.hid (HS13.out.mod m5 (by simp))
  have HM5 : Hid (Mod [] w w5) := HMF.out.same m5
  obtain ⟨q1, q2, q3, q4, q5, q6, hat, -, hkids⟩ := hbr
  have hq5 : q5 = 1 := by have := hkids.len; simpa using this.symm
  subst hq5
  obtain ⟨KB, KO, rfl, _, hkc⟩ := hkids.addr (by omega)
  have k1 : w5.cell? ⟨B, 1, none⟩ = some (.slice (some ⟨KB, KO, none⟩) 1 q6) := cell_of_at hat 1
  have k2 : w5.cell? ⟨KB, KO, none⟩ = some (.int .i64 7) := by have := hkc 0 (.int .i64 7) rfl; simpa using this
  have hik := fun W => Sl.idx (P := Tryd.prog) (cap := q6) (m := 1) (size := 1) Tryd.underlying24 sizeKids (fun _ => rfl) W .i64 0 (by omega) (b := KB) (off := KO)
  simp only [Nat.zero_mul, Nat.add_zero, show ((0 : Nat) : Int) = 0 from rfl] at hik
  obtain ⟨F5, o5, hp5, _, hc5⟩ := HS5.out.addr (by omega)
  cases hp5
  have k3 : w5.cell? ⟨F3, o3 + 6, none⟩ = some (.int .u8 7) := hc5 6 _ rfl
  have hik6 := fun W => Sl.idx (P := Tryd.prog) (cap := c3) (m := 7) (size := 1) Tryd.underlying37 sizeBytes (fun _ => rfl) W .i64 6 (by omega) (b := F3) (off := o3)
  simp only [Nat.mul_one, show ((6 : Nat) : Int) = 6 from rfl] at hik6
  clear hkv m5 hat hkids hkc hc5 HFP HMF HS13
  have hta : ∀ (W : World) (v : Value), (Instr.typeAssert (.iface 32 v) 30 32 true).run Tryd.prog W = .ok (.tuple #[v, .bool true]) W := fun W v => by kernel_rfl
  go_wp2
  go_ret
  exact .mk ⟨rfl, HM5.out⟩
end Go.Proofs.YtbogdjjeipdbaaaDoor
