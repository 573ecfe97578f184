/- A branch is read from its page; what is too long or short is refused. -/
import Derived.Test.YtbogdjjeipdbaaaDoorReader3
namespace Go.Proofs.YtbogdjjeipdbaaaDoor
open Go.RowKit Go.Maps
set_option linter.unusedSimpArgs false
set_option linter.unusedVariables false

theorem be2_back (v : Nat) (h : v < 65536) : (be 2 (v : Int)).getD 0 0 * 256 + (be 2 (v : Int)).getD 1 0 = v := by
  rw [be2_of (by omega) (by omega)]; simp; omega
set_option maxRecDepth 100000 in
theorem frompay_len (p : Option Addr) (n c : Nat) (w : World) (hn : n ≠ 1016) :
    Calls Tryd.prog 18 #[.slice p n c] w (Ret fun v w' => v = .tuple #[.nilIface, .int .i64 5] ∧ w' = w) := by
  have hb : ((n : Int) != 1016) = true := by simp; omega
  clear hn
  go_enter Tryd.func18, Tryd.ntmps18
  go_wp2
  go_ret2
  exact .mk ⟨rfl, rfl⟩
def FPBrR (ks : List (List Int)) (kids : List Int) (w : World) (v : Value) (w' : World) : Prop :=
  ∃ B kv, v = .tuple #[.iface 32 (.pointer (some ⟨B, 0, none⟩)), .int .i64 0] ∧ BrAt w' B kv kids ∧ kv.map Bv.l = ks ∧ Mod [] w w'
set_option maxRecDepth 100000 in
set_option maxHeartbeats 8000000 in
theorem frompay_br (p : Option Addr) (c : Nat) (b : List Int) (ks : List (List Int)) (kids : List Int) (w : World) (h : BytesIn w p 1016 c b) (hm : mayBr ks kids = true) (hb : b = payBr ks kids ++ zs (1016 - (payBr ks kids).length)) :
    Calls Tryd.prog 18 #[.slice p 1016 c] w (Ret (FPBrR ks kids w)) := by
  obtain ⟨h1, h2, h3, h4⟩ := mayBr_spec hm
  have hpb : payBr ks kids = brBytes ks kids := by unfold payBr; rw [if_pos hm]
  have hpl := payBr_len ks kids
  have hn5 : 5 * ks.length ≤ 1009 := by have := ksum_len ks; unfold brLen at h4; omega
  obtain ⟨z, hz⟩ : ∃ z, z = zs (1016 - (payBr ks kids).length) := ⟨_, rfl⟩
  have hb2 : b = 2 :: (be 2 ks.length ++ (be 4 (kids.getD 0 0) ++ brFrom ks kids 0 z)) := by
    rw [hb, ← hz, hpb, brFrom_zero]; unfold brBytes brHead; simp
  have HFIL : Hid (filledL b (payBr ks kids) = true) := by
    unfold Hid
    rw [filledL_iff (by rw [h.len]; exact hpl), h.len]; exact hb
  have HPN : Hid (payBr ks kids ≠ []) := by unfold Hid; rw [hpb]; unfold brBytes brHead; simp
  have HPWF : Hid (∀ x ∈ payBr ks kids, 0 ≤ x ∧ x < 256) := fun x hx => h.wf x (by rw [hb]; simp [hx])
  have t1 : tk b 1 = [2] := by unfold tk; rw [if_pos (by rw [h.len]; omega), hb2]; rfl
  have t2 : rd b 1 = be 2 ks.length ++ (be 4 (kids.getD 0 0) ++ brFrom ks kids 0 z) := by unfold rd; rw [if_pos (by rw [h.len]; omega), hb2]; rfl
  have t3 : bd b false 1 = false := by unfold bd; rw [if_pos (by rw [h.len]; omega)]
  have hl2 : 2 ≤ (be 2 ks.length ++ (be 4 (kids.getD 0 0) ++ brFrom ks kids 0 z)).length := by simp [be_len]
  have t4 : tk (be 2 ks.length ++ (be 4 (kids.getD 0 0) ++ brFrom ks kids 0 z)) 2 = be 2 ks.length := by
    unfold tk; rw [if_pos hl2, List.take_append_of_le_length (by rw [be_len]; omega), List.take_of_length_le (by rw [be_len]; omega)]
  have t5 : rd (be 2 ks.length ++ (be 4 (kids.getD 0 0) ++ brFrom ks kids 0 z)) 2 = be 4 (kids.getD 0 0) ++ brFrom ks kids 0 z := by
    unfold rd; rw [if_pos hl2, List.drop_append, List.drop_of_length_le (by rw [be_len]; omega), be_len]; rfl
  have t6 : bd (be 2 ks.length ++ (be 4 (kids.getD 0 0) ++ brFrom ks kids 0 z)) false 2 = false := by unfold bd; rw [if_pos hl2]
  have t7 := be2_back ks.length (by omega)
  have HR0 : Hid (RdAt (w.alloc (.cells #[.slice p 1016 c, .bool false] 61)) w.heap.size w.heap.size b false) := by
    refine ⟨p, 1016, c, at_alloc w _, ⟨h.sl.mod (Mod.of_alloc w _) (by simp), h.wf⟩, fun a ha h0 => ?_⟩
    obtain ⟨b', o, hp, hlt, _⟩ := h.sl.addr h0
    rw [ha] at hp; cases hp; exact hlt
  have HTK := Lib.hid (take_any _ _ _ _ 1 _ HR0.out (by omega))
  unfold TakeR at HTK
  rw [t1, t2, t3] at HTK
  have HSH := fun W h => Lib.hid (short_any w.heap.size w.heap.size (be 2 ks.length ++ (be 4 (kids.getD 0 0) ++ brFrom ks kids 0 z)) false W h)
  unfold ShortR at HSH
  simp only [t4, t5, t6, t7] at HSH
  have HBR := fun W h hN => Lib.hid (rbranch_any w.heap.size w.heap.size ks kids z W h (fun k hk => by have := (riseL_key h1 hk).2; omega) h2 (fun x hx => by have := h3 x hx; omega) (by omega) hN)
  have HPAY := fun B kv W h e => Lib.hid (brpay_any B kv kids W h (by rw [show kv.map Bv.l = ks from e]; omega))
  have H := Lib.hid h
  have hnk : ks.length ≤ 1000 := by omega
  have HM0 : Hid (Mod [] w (w.alloc (.cells #[.slice p 1016 c, .bool false] 61))) := Mod.of_alloc w _
  clear h hm hb hb2 h1 h2 h3 h4 hpb hpl hn5 hz t1 t2 t3 t4 t5 t6 t7 hl2
  go_enter Tryd.func18, Tryd.ntmps18
  go_wp2_with fail
  refine HTK.out.mono ?_
  rintro _ w1 ⟨_, rfl, q, d, rfl, b1, g1, r1, m1⟩
  obtain ⟨bb, off, rfl, hlt, hc⟩ := b1.sl.addr (by omega)
  have d0 := hc 0 _ (bs_get (by simp))
  have hi0 := fun W => Sl.idx (P := Tryd.prog) (cap := d) (m := 1) (size := 1) Tryd.underlying37 sizeBytes (fun _ => rfl) W .i64 0 (by omega) (b := bb) (off := off)
  simp only [Nat.zero_mul, Nat.add_zero, show ((0 : Nat) : Int) = 0 from rfl, List.getD_cons_zero] at hi0 d0
  have R1 := Lib.hid r1
  have M1 : Hid (Mod [] w w1) := HM0.out.trans m1 (fun b hb => Or.inr (by simp at hb; omega))
  clear r1 m1 hc b1 g1 HTK
  go_wp2_with fail
  refine (HSH _ R1.out).out.mono ?_
  rintro _ w2 ⟨_, rfl, rfl, r2, m2⟩
  have R2 := Lib.hid r2
  have M2 : Hid (Mod [] w w2) := M1.out.trans m2 (fun b hb => Or.inr (by simp at hb; omega))
  clear r2 m2 HSH R1 d0
  go_wp2_with fail
  refine (HBR _ R2.out M2.out.size).out.mono ?_
  rintro _ w3 ⟨_, rfl, B, kv, rfl, hbr, hkv, r3, m3⟩
  have HB3 := Lib.hid hbr
  have HKV := Lib.hid hkv
  have f1 : w3.cell? ⟨w.heap.size, 1, none⟩ = some (.bool false) := r3.bad_cell
  have M3 : Hid (Mod [] w w3) := M2.out.trans m3 (fun b hb => Or.inr (by simp at hb; omega))
  have HP3 := Lib.hid (HPAY B kv w3 hbr hkv).out
  rw [hkv] at HP3
  clear hbr hkv r3 m3 HBR R2 M2 HPAY
  go_wp2_with fail
  refine HP3.out.mono ?_
  rintro _ w4 ⟨_, rfl, p4, n4, c4, rfl, e4, z4, s4, m4⟩
  have hp4 : p4.isSome = true := by
    cases p4 with
    | none => exact absurd (z4.1 rfl) HPN.out
    | some a => rfl
  have HIN4 : Hid (BytesIn w4 p4 n4 c4 (payBr ks kids)) := ⟨s4, HPWF.out⟩
  have M34 := Lib.hid m4
  have HFL := Lib.hid (filled_any p 1016 c b p4 n4 c4 (payBr ks kids) w4 ⟨H.out.sl.mod (M3.out.same m4) (by simp), H.out.wf⟩ HIN4.out)
  rw [HFIL.out, hp4] at HFL
  clear e4 z4 s4 m4 hp4 HP3
  go_wp2_with fail
  refine HFL.out.mono ?_
  rintro _ w5 ⟨_, rfl, rfl, m5⟩
  have M35 : Hid (Mod [] w3 w5) := M34.out.same m5
  clear m5 HFL
  go_wp2
  go_ret2
  exact .mk ⟨B, kv, rfl, HB3.out.mod0 M35.out, HKV.out, M3.out.same M35.out⟩
end Go.Proofs.YtbogdjjeipdbaaaDoor
