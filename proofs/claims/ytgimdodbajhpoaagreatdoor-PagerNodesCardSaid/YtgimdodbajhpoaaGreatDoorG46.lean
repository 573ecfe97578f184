/- A branch is read from its page; what is too long or short is refused. A leaf is read from its page. The document's Pay: bytes of a number; a leaf's cells. -/
import Derived.Test.YtgimdodbajhpoaaGreatDoorG42
import Derived.Test.YtgimdodbajhpoaaGreatDoorG44
import Derived.Test.YtgimdodbajhpoaaGreatDoorG45
import Derived.Test.YtgimdodbajhpoaaGreatDoorG40
import Derived.Test.YtgimdodbajhpoaaGreatDoorG24
import Derived.Test.YtgimdodbajhpoaaGreatDoorG10
import Derived.Test.YtgimdodbajhpoaaGreatDoorG20
namespace Go.Proofs.YtgimdodbajhpoaaGreatDoor
open Go.RowKit Go.Maps
set_option linter.unusedSimpArgs false
set_option linter.unusedVariables false

theorem be2_back (v : Nat) (h : v < 65536) : (be 2 (v : Int)).getD 0 0 * 256 + (be 2 (v : Int)).getD 1 0 = v := by
  rw [be2_of (by omega) (by omega)]; simp; omega
set_option maxRecDepth 100000 in
theorem frompay_len (p : Option Addr) (n c : Nat) (w : World) (hn : n ≠ 1016) :
    Calls Tryz.prog 36 #[.slice p n c] w (Ret fun v w' => v = .tuple #[.nilIface, .int .i64 5] ∧ w' = w) := by
  have hb : ((n : Int) != 1016) = true := by simp; omega
  clear hn
  go_enter Tryz.func36, Tryz.ntmps36
  go_wp2
  go_ret2
  exact .mk ⟨rfl, rfl⟩
def FPBrR (ks : List (List Int)) (kids : List Int) (w : World) (v : Value) (w' : World) : Prop :=
  ∃ B kv, v = .tuple #[.iface 49 (.pointer (some ⟨B, 0, none⟩)), .int .i64 0] ∧ BrN w' B kv kids ∧ BrA w.heap.size w' B kv ∧ kv.map Bv.l = ks ∧ Mod [] w w'
set_option maxRecDepth 100000 in
set_option maxHeartbeats 8000000 in
theorem frompay_br (p : Option Addr) (c : Nat) (b : List Int) (ks : List (List Int)) (kids : List Int) (w : World) (h : BytesIn w p 1016 c b) (hm : mayBr ks kids = true) (hb : b = payBr ks kids ++ zs (1016 - (payBr ks kids).length)) :
    Calls Tryz.prog 36 #[.slice p 1016 c] w (Ret (FPBrR ks kids w)) := by
  obtain ⟨h1, h2, h3, h4⟩ := mayBr_spec hm
  have hpb : payBr ks kids = brBytes ks kids := by unfold payBr; rw [if_pos hm]
  have hpl := payBr_len ks kids
  have hn5 : 5 * ks.length ≤ 1009 := by have := ksum_len ks; unfold brLen at h4; omega
  obtain ⟨z, hz⟩ : ∃ z, z = zs (1016 - (payBr ks kids).length) := ⟨_, rfl⟩
  have hb2 : b = 2 :: (be 2 ks.length ++ (be 4 (kids.getD 0 0) ++ brFrom ks kids 0 z)) := by
    rw [hb, ← hz, hpb, brFrom_zero]; unfold brBytes brHead; simp
  have HFIL : Hid (filledL b (payBr ks kids) = true) := by
    unfold Hid
    rw [filledL_iff (by rw [h.len]; exact hpl), h.len]; exact hb
  have HPN : Hid (payBr ks kids ≠ []) := by unfold Hid; rw [hpb]; unfold brBytes brHead; simp
  have HPWF : Hid (∀ x ∈ payBr ks kids, 0 ≤ x ∧ x < 256) := fun x hx => h.wf x (by rw [hb]; simp [hx])
  have t1 : tk b 1 = [2] := by unfold tk; rw [if_pos (by rw [h.len]; omega), hb2]; rfl
  have t2 : rdr b 1 = be 2 ks.length ++ (be 4 (kids.getD 0 0) ++ brFrom ks kids 0 z) := by unfold rdr; rw [if_pos (by rw [h.len]; omega), hb2]; rfl
  have t3 : bd b false 1 = false := by unfold bd; rw [if_pos (by rw [h.len]; omega)]
  have hl2 : 2 ≤ (be 2 ks.length ++ (be 4 (kids.getD 0 0) ++ brFrom ks kids 0 z)).length := by simp [be_len]
  have t4 : tk (be 2 ks.length ++ (be 4 (kids.getD 0 0) ++ brFrom ks kids 0 z)) 2 = be 2 ks.length := by
    unfold tk; rw [if_pos hl2, List.take_append_of_le_length (by rw [be_len]; omega), List.take_of_length_le (by rw [be_len]; omega)]
  have t5 : rdr (be 2 ks.length ++ (be 4 (kids.getD 0 0) ++ brFrom ks kids 0 z)) 2 = be 4 (kids.getD 0 0) ++ brFrom ks kids 0 z := by
    unfold rdr; rw [if_pos hl2, List.drop_append, List.drop_of_length_le (by rw [be_len]; omega), be_len]; rfl
  have t6 : bd (be 2 ks.length ++ (be 4 (kids.getD 0 0) ++ brFrom ks kids 0 z)) false 2 = false := by unfold bd; rw [if_pos hl2]
  have t7 := be2_back ks.length (by omega)
  have HR0 : Hid (RdAt (w.alloc (.cells #[.slice p 1016 c, .bool false] 108)) w.heap.size w.heap.size b false) := by
    refine ⟨p, 1016, c, at_alloc w _, ⟨h.sl.mod (Mod.of_alloc w _) (by simp), h.wf⟩, fun a ha h0 => ?_⟩
    obtain ⟨b', o, hp, hlt, _⟩ := h.sl.addr h0
    rw [ha] at hp; cases hp; exact hlt
  have HTK := Lib.hid (take_any _ _ _ _ 1 _ HR0.out (by omega))
  unfold TakeR at HTK
  rw [t1, t2, t3] at HTK
  have HSH := fun W h => Lib.hid (short_any w.heap.size w.heap.size (be 2 ks.length ++ (be 4 (kids.getD 0 0) ++ brFrom ks kids 0 z)) false W h)
  unfold ShortR at HSH
  simp only [t4, t5, t6, t7] at HSH
  have HBR := fun W h hN => Lib.hid (rbranch_any w.heap.size w.heap.size ks kids z W h (fun k hk => by have := (riseL_key h1 hk).2; omega) h2 (fun x hx => by have := h3 x hx; omega) (by omega) hN)
  have HPAY := fun B kv W h e => Lib.hid (brpay_any B kv kids W h (by rw [show kv.map Bv.l = ks from e]; omega))
  have H := Lib.hid h
  have hnk : ks.length ≤ 1000 := by omega
  have HM0 : Hid (Mod [] w (w.alloc (.cells #[.slice p 1016 c, .bool false] 108))) := Mod.of_alloc w _
  clear h hm hb hb2 h1 h2 h3 h4 hpb hpl hn5 hz t1 t2 t3 t4 t5 t6 t7 hl2
  go_enter Tryz.func36, Tryz.ntmps36
  go_wp2_with fail
  refine HTK.out.mono ?_
  rintro _ w1 ⟨_, rfl, q, d, rfl, b1, g1, r1, m1⟩
  obtain ⟨bb, off, rfl, hlt, hc⟩ := b1.sl.addr (by omega)
  have d0 := hc 0 _ (bs_get (by simp))
  have hi0 := fun W => Sl.idx (P := Tryz.prog) (cap := d) (m := 1) (size := 1) Tryz.underlying40 sizeBytes (fun _ => rfl) W .i64 0 (by omega) (b := bb) (off := off)
  simp only [Nat.zero_mul, Nat.add_zero, show ((0 : Nat) : Int) = 0 from rfl, List.getD_cons_zero] at hi0 d0
  have R1 := Lib.hid r1
  have M1 : Hid (Mod [] w w1) := HM0.out.trans m1 (fun b hb => Or.inr (by simp at hb; omega))
  clear r1 m1 hc b1 g1 HTK
  go_wp2_with fail
  refine (HSH _ R1.out).out.mono ?_
  rintro _ w2 ⟨_, rfl, rfl, r2, m2⟩
  have R2 := Lib.hid r2
  have M2 : Hid (Mod [] w w2) := M1.out.trans m2 (fun b hb => Or.inr (by simp at hb; omega))
  clear r2 m2 HSH R1 d0
  go_wp2_with fail
  refine (HBR _ R2.out M2.out.size).out.mono ?_
  rintro _ w3 ⟨_, rfl, B, kv, rfl, hbr, hba, hkv, r3, m3⟩
  have HBA := Lib.hid (hba.le M2.out.size)
  have HBL := Lib.hid hbr.lt
  have HB3 := Lib.hid hbr
  have HKV := Lib.hid hkv
  have f1 : w3.cell? ⟨w.heap.size, 1, none⟩ = some (.bool false) := r3.bad_cell
  have M3 : Hid (Mod [] w w3) := M2.out.trans m3 (fun b hb => Or.inr (by simp at hb; omega))
  have HP3 := Lib.hid (HPAY B kv w3 hbr.br hkv).out
  rw [hkv] at HP3
  clear hbr hba hkv r3 m3 HBR R2 M2 HPAY
  go_wp2_with fail
  refine HP3.out.mono ?_
  rintro _ w4 ⟨_, rfl, p4, n4, c4, rfl, e4, z4, s4, m4⟩
  have hp4 : p4.isSome = true := by
    cases p4 with
    | none => exact absurd (z4.1 rfl) HPN.out
    | some a => rfl
  have HIN4 : Hid (BytesIn w4 p4 n4 c4 (payBr ks kids)) := ⟨s4, HPWF.out⟩
  have M34 := Lib.hid m4
  have HFL := Lib.hid (filled_any p 1016 c b p4 n4 c4 (payBr ks kids) w4 ⟨H.out.sl.mod (M3.out.same m4) (by simp), H.out.wf⟩ HIN4.out)
  rw [HFIL.out, hp4] at HFL
  clear e4 z4 s4 m4 hp4 HP3
  go_wp2_with fail
  refine HFL.out.mono ?_
  rintro _ w5 ⟨_, rfl, rfl, m5⟩
  have M35 : Hid (Mod [] w3 w5) := M34.out.same m5
  clear m5 HFL
  go_wp2
  go_ret2
  exact .mk ⟨B, kv, rfl, HB3.out.mod M35.out (by simp), HBA.out.mod M35.out (by simp) HBL.out, HKV.out, M3.out.same M35.out⟩
end Go.Proofs.YtgimdodbajhpoaaGreatDoor
namespace Go.Proofs.YtgimdodbajhpoaaGreatDoor
open Go.RowKit Go.Maps
set_option linter.unusedSimpArgs false
set_option linter.unusedVariables false

def FPLfR (cs : List Cl) (w : World) (v : Value) (w' : World) : Prop :=
  ∃ L xs, v = .tuple #[.iface 78 (.pointer (some ⟨L, 0, none⟩)), .int .i64 0] ∧ LeafN w' L xs ∧ LeafA w.heap.size w' L xs ∧ xs.map Cv.pl = cs ∧ Mod [] w w'
set_option maxRecDepth 100000 in
set_option maxHeartbeats 8000000 in
theorem frompay_leaf (p : Option Addr) (c : Nat) (b : List Int) (cs : List Cl) (w : World) (h : BytesIn w p 1016 c b) (hm : mayLeaf cs = true) (hb : b = payLeaf cs ++ zs (1016 - (payLeaf cs).length)) :
    Calls Tryz.prog 36 #[.slice p 1016 c] w (Ret (FPLfR cs w)) := by
  obtain ⟨h1, h2, h3⟩ := mayLeaf_spec hm
  have hpb : payLeaf cs = leafBytes cs := by unfold payLeaf; rw [if_pos hm]
  have hpl := payLeaf_len cs
  have hn3 : 3 * cs.length ≤ 1013 := by have := lsum_len cs; unfold leafLen at h3; omega
  obtain ⟨z, hz⟩ : ∃ z, z = zs (1016 - (payLeaf cs).length) := ⟨_, rfl⟩
  have hb2 : b = 1 :: (be 2 cs.length ++ lfFrom cs 0 z) := by
    rw [hb, ← hz, hpb]; unfold leafBytes lfFrom; simp
  have HFIL : Hid (filledL b (payLeaf cs) = true) := by
    unfold Hid
    rw [filledL_iff (by rw [h.len]; exact hpl), h.len]; exact hb
  have HPN : Hid (payLeaf cs ≠ []) := by unfold Hid; rw [hpb]; unfold leafBytes; simp
  have HPWF : Hid (∀ x ∈ payLeaf cs, 0 ≤ x ∧ x < 256) := fun x hx => h.wf x (by rw [hb]; simp [hx])
  have t1 : tk b 1 = [1] := by unfold tk; rw [if_pos (by rw [h.len]; omega), hb2]; rfl
  have t2 : rdr b 1 = be 2 cs.length ++ lfFrom cs 0 z := by unfold rdr; rw [if_pos (by rw [h.len]; omega), hb2]; rfl
  have t3 : bd b false 1 = false := by unfold bd; rw [if_pos (by rw [h.len]; omega)]
  obtain ⟨t7, t5, t6⟩ := tk2_be (v := cs.length) (by omega) (lfFrom cs 0 z)
  have HR0 : Hid (RdAt (w.alloc (.cells #[.slice p 1016 c, .bool false] 108)) w.heap.size w.heap.size b false) := by
    refine ⟨p, 1016, c, at_alloc w _, ⟨h.sl.mod (Mod.of_alloc w _) (by simp), h.wf⟩, fun a ha h0 => ?_⟩
    obtain ⟨b', o, hp, hlt, _⟩ := h.sl.addr h0
    rw [ha] at hp; cases hp; exact hlt
  have HTK := Lib.hid (take_any _ _ _ _ 1 _ HR0.out (by omega))
  unfold TakeR at HTK
  rw [t1, t2, t3] at HTK
  have HSH := fun W h => Lib.hid (short_any w.heap.size w.heap.size (be 2 cs.length ++ lfFrom cs 0 z) false W h)
  unfold ShortR at HSH
  simp only [t5, t6, t7] at HSH
  have HLF := fun W h hN => Lib.hid (rleaf_any w.heap.size w.heap.size cs z W h (fun c hc => ⟨h1 c hc, by have := (riseL_key h2 (List.mem_map_of_mem hc)).2; omega⟩) (by omega) hN)
  have HPAY := fun L xs W h e => Lib.hid (leafpay_any L xs W h (by rw [show xs.map Cv.pl = cs from e]; omega))
  have H := Lib.hid h
  have hnk : cs.length ≤ 1000 := by omega
  have HM0 : Hid (Mod [] w (w.alloc (.cells #[.slice p 1016 c, .bool false] 108))) := Mod.of_alloc w _
  clear h hm hb hb2 h1 h2 h3 hpb hpl hn3 hz t1 t2 t3 t5 t6 t7
  go_enter Tryz.func36, Tryz.ntmps36
  go_wp2_with fail
  refine HTK.out.mono ?_
  rintro _ w1 ⟨_, rfl, q, d, rfl, b1, g1, r1, m1⟩
  obtain ⟨bb, off, rfl, hlt, hc⟩ := b1.sl.addr (by omega)
  have d0 := hc 0 _ (bs_get (by simp))
  have hi0 := fun W => Sl.idx (P := Tryz.prog) (cap := d) (m := 1) (size := 1) Tryz.underlying40 sizeBytes (fun _ => rfl) W .i64 0 (by omega) (b := bb) (off := off)
  simp only [Nat.zero_mul, Nat.add_zero, show ((0 : Nat) : Int) = 0 from rfl, List.getD_cons_zero] at hi0 d0
  have R1 := Lib.hid r1
  have M1 : Hid (Mod [] w w1) := HM0.out.trans m1 (fun b hb => Or.inr (by simp at hb; omega))
  clear r1 m1 hc b1 g1 HTK
  go_wp2_with fail
  refine (HSH _ R1.out).out.mono ?_
  rintro _ w2 ⟨_, rfl, rfl, r2, m2⟩
  have R2 := Lib.hid r2
  have M2 : Hid (Mod [] w w2) := M1.out.trans m2 (fun b hb => Or.inr (by simp at hb; omega))
  clear r2 m2 HSH R1 d0
  go_wp2_with fail
  refine (HLF _ R2.out M2.out.size).out.mono ?_
  rintro _ w3 ⟨_, rfl, L, xs, rfl, hlf, hla, hxs, r3, m3⟩
  have HLA := Lib.hid (hla.le M2.out.size)
  have HLL := Lib.hid hlf.lt
  have HL3 := Lib.hid hlf
  have HXS := Lib.hid hxs
  have f1 : w3.cell? ⟨w.heap.size, 1, none⟩ = some (.bool false) := r3.bad_cell
  have M3 : Hid (Mod [] w w3) := M2.out.trans m3 (fun b hb => Or.inr (by simp at hb; omega))
  have HP3 := Lib.hid (HPAY L xs w3 hlf.leaf hxs).out
  rw [hxs] at HP3
  clear hlf hla hxs r3 m3 HLF R2 M2 HPAY
  go_wp2_with fail
  refine HP3.out.mono ?_
  rintro _ w4 ⟨_, rfl, p4, n4, c4, rfl, e4, z4, s4, m4⟩
  have hp4 : p4.isSome = true := by
    cases p4 with
    | none => exact absurd (z4.1 rfl) HPN.out
    | some a => rfl
  have HIN4 : Hid (BytesIn w4 p4 n4 c4 (payLeaf cs)) := ⟨s4, HPWF.out⟩
  have M34 := Lib.hid m4
  have HFL := Lib.hid (filled_any p 1016 c b p4 n4 c4 (payLeaf cs) w4 ⟨H.out.sl.mod (M3.out.same m4) (by simp), H.out.wf⟩ HIN4.out)
  rw [HFIL.out, hp4] at HFL
  clear e4 z4 s4 m4 hp4 HP3
  go_wp2_with fail
  refine HFL.out.mono ?_
  rintro _ w5 ⟨_, rfl, rfl, m5⟩
  have M35 : Hid (Mod [] w3 w5) := M34.out.same m5
  clear m5 HFL
  go_wp2
  go_ret2
  exact .mk ⟨L, xs, rfl, HL3.out.mod M35.out (by simp), HLA.out.mod M35.out (by simp) HLL.out, HXS.out, M3.out.same M35.out⟩
end Go.Proofs.YtgimdodbajhpoaaGreatDoor
namespace Go.Proofs.YtgimdodbajhpoaaGreatDoor
open Go.RowKit Go.Maps
set_option linter.unusedSimpArgs false
set_option linter.unusedVariables false

theorem be_drop2 (v : Int) : (be 8 v).drop 6 = be 2 v := by
  simp only [be, List.nil_append, List.append_assoc, List.cons_append, List.drop_succ_cons, List.drop_zero]
theorem be_dropk {v : Int} {k : Nat} (hk : k = 2 ∨ k = 4) : (be 8 v).drop (8 - k) = be k v := by
  rcases hk with rfl | rfl
  · exact be_drop2 v
  · exact be_drop v
theorem BytesIn.modge {w w' : World} {S : List Nat} {p : Option Addr} {n c : Nat} {l : List Int} (h : BytesIn w p n c l) (hm : Mod S w w') (hS : ∀ b ∈ S, w.heap.size ≤ b) : BytesIn w' p n c l :=
  ⟨h.sl.mod hm (fun a ha hn hb => by
    obtain ⟨b, o, e, hlt, _⟩ := h.sl.addr hn
    rw [e] at ha; cases ha
    have := hS _ hb; simp at this; omega), h.wf⟩
/-- A number's last bytes, in a block of the call's own. -/
def BigR (k : Nat) (v : Int) (w : World) (u : Value) (w' : World) : Prop := ∃ p c, u = .slice p k c ∧ Tl w' w.heap.size 1 p k c (bs (be k v)) ∧ Mod [] w w'
set_option maxRecDepth 100000 in
set_option maxHeartbeats 1000000 in
theorem qbigt_any (v : Int) (k : Nat) (w : World) (h0 : 0 ≤ v) (h1 : v < 2 ^ 63) (hk : k = 2 ∨ k = 4) :
    Calls Tryz.prog 32 #[.int .i64 v, .int .i64 k] w (Ret (BigR k v w)) := by
  have hwr : IntKind.u64.wrap v = v := by rw [IntKind.wrap_u64]; omega
  have hw8 : IntKind.i64.wrap (8 - (k : Int)) = ((8 - k : Nat) : Int) := by rw [IntWalk.i64_in _ (by omega)]; omega
  have HBD := Lib.hid (be_dropk (v := v) hk)
  go_enter Tryz.func32, Tryz.ntmps32
  go_wp2_with fail
  refine (qkey_any v _ (by omega) (by omega)).mono ?_
  rintro _ w2 ⟨_, rfl, q1, n1, c1, rfl, e1', s1', m1⟩
  obtain rfl : n1 = 8 := by rw [e1', be_len]
  obtain ⟨p2, r2, t2, _⟩ := (Tl.of_key s1').sub_key (8 - k) k (by omega) (by omega) ((8 - k : Nat) : Int) rfl
  rw [HBD.out] at t2
  have T2 := Lib.hid t2
  have M2 := Lib.hid m1
  clear e1' s1' m1 t2
  go_wp2
  go_ret
  exact .mk ⟨p2, _, rfl, T2.out, M2.out⟩
/-- A slice in an own block, which isn't C. -/
structure TlC (C : Nat) (w : World) (base size : Nat) (p : Option Addr) (n cap : Nat) (cells : List Value) : Prop where
  tl : Tl w base size p n cap cells
  ne : ∀ a, p = some a → a.block ≠ C
theorem TlC.sl {C : Nat} {w : World} {base size : Nat} {p : Option Addr} {n cap : Nat} {cells : List Value} (h : TlC C w base size p n cap cells) : Sl w size p n cap cells := h.tl.sl
theorem TlC.own {C : Nat} {w : World} {base size : Nat} {p : Option Addr} {n cap : Nat} {cells : List Value} (h : TlC C w base size p n cap cells) : ∀ a, p = some a → a.spot = none ∧ base ≤ a.block ∧ a.block < w.heap.size := h.tl.own
theorem TlC.mod {C : Nat} {w w' : World} {base size : Nat} {p : Option Addr} {n cap : Nat} {cells : List Value} {S : List Nat} (h : TlC C w base size p n cap cells) (hm : Mod S w w') (hn : ∀ a, p = some a → a.block ∉ S) : TlC C w' base size p n cap cells := ⟨h.tl.mod hm hn, h.ne⟩
/-- Nothing that was there has turned, and block C is K. -/
structure ModC (C : Nat) (K : Obj) (b w : World) : Prop where
  m : Mod [] b w
  at_ : w.heap[C]? = some K
theorem ModC.same {C : Nat} {K : Obj} {b w w' : World} (h : ModC C K b w) (hm : Mod [] w w') : ModC C K b w' := ⟨h.m.same hm, hm.at h.at_ (by simp)⟩
theorem ModC.size {C : Nat} {K : Obj} {b w : World} (h : ModC C K b w) : b.heap.size ≤ w.heap.size := h.m.size
theorem ModC.lt {C : Nat} {K : Obj} {b w : World} (h : ModC C K b w) : C < w.heap.size := lt_of_at h.at_
theorem TlC.turned {C : Nat} {K : Obj} {w w' : World} {base s n c : Nat} {q : Option Addr} {x : List Value} (h : TlC C w base s q n c x) {w0 : World} (hb : w0.heap.size = base) (hm : Mod (q.map (·.block)).toList w w') (h0 : ModC C K w0 w) : ModC C K w0 w' :=
  ⟨h.tl.turned (w2 := w) hb hm h0.m, hm.at h0.at_ (fun hc => by
    cases q with
    | none => simp at hc
    | some a => simp at hc; exact h.ne a rfl hc.symm)⟩
theorem appc_bytes {C : Nat} (w : World) (hC : C < w.heap.size) (base : Nat) (p : Option Addr) (n c : Nat) (l : List Int) (h : TlC C w base 1 p n c (bs l)) (q : Option Addr) (m d : Nat) (k : List Int) (hs : Sl w 1 q m d (bs k)) (hb : n + m ≤ 1000000) (hbase : base ≤ w.heap.size) :
    ∃ p' c' w', (Builtin.append_ #[40, 40] 40 #[.slice p n c, .slice q m d]).run Tryz.prog w = .ok (.slice p' (n + m) c') w' ∧ TlC C w' base 1 p' (n + m) c' (bs (l ++ k)) ∧ Mod (p.map (·.block)).toList w w' ∧ (p' = none ↔ p = none ∧ m = 0) ∧ (p'.map (·.block) = p.map (·.block) ∨ p'.map (·.block) = some w.heap.size) := by
  obtain ⟨p', c', w', h1, h2, h3, h4, h5⟩ := app_bytes w base p n c l h.tl q m d k hs hb hbase
  refine ⟨p', c', w', h1, ⟨h2, fun a ha => ?_⟩, h3, h4, h5⟩
  rcases h5 with h9 | h9
  · rw [ha] at h9
    cases p with
    | none => simp at h9
    | some a2 => simp at h9; rw [h9]; exact h.ne a2 rfl
  · rw [ha] at h9; simp at h9; omega
/-- A block of two bytes, and no more. -/
structure LitC (C : Nat) (w : World) (base size : Nat) (p : Option Addr) (n cap : Nat) (cells : List Value) : Prop where
  sl : Sl w size p n cap cells
  own : ∀ a, p = some a → a.spot = none ∧ base ≤ a.block ∧ a.block < w.heap.size
  lit : ∀ a, p = some a → ∃ cs : Array Value, w.heap[a.block]? = some (.cells cs 5 (0, 0)) ∧ cs.size = 2
theorem LitC.mod {C : Nat} {w w' : World} {base size : Nat} {p : Option Addr} {n cap : Nat} {cells : List Value} {S : List Nat} (h : LitC C w base size p n cap cells) (hm : Mod S w w') (hn : ∀ a, p = some a → a.block ∉ S) : LitC C w' base size p n cap cells :=
  ⟨h.sl.mod hm (fun a ha _ => hn a ha), fun a ha => ⟨(h.own a ha).1, (h.own a ha).2.1, Nat.lt_of_lt_of_le (h.own a ha).2.2 hm.size⟩, fun a ha => by
    obtain ⟨cs, h1, h2⟩ := h.lit a ha
    exact ⟨cs, hm.at h1 (hn a ha), h2⟩⟩
theorem TlC.not_lit {C : Nat} {w : World} {base : Nat} {p : Option Addr} {n cap : Nat} {cells : List Value} (h : TlC C w base 1 p n cap cells) (hn : 3 ≤ n) : ∀ b (cs : Array Value), w.heap[b]? = some (.cells cs 5 (0, 0)) → cs.size = 2 → b ∉ (p.map (·.block)).toList := by
  intro b cs h1 h2 hb
  cases p with
  | none => simp at hb
  | some a =>
    simp at hb
    obtain ⟨b', off, e, _, hc⟩ := h.sl.addr (by omega)
    cases e
    simp at hb; subst hb
    have hl := h.sl.len
    have h3 := hc 2 _ (List.getElem?_eq_getElem (by omega))
    rw [cell_of_at h1] at h3
    have := (Array.getElem?_eq_some_iff.1 h3).1
    omega
end Go.Proofs.YtgimdodbajhpoaaGreatDoor
