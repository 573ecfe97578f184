/- The document's Pay of a leaf. -/
import Derived.Test.YtgimdodbajhpoaaGreatDoorG46
namespace Go.Proofs.YtgimdodbajhpoaaGreatDoor
open Go.RowKit Go.Maps
set_option linter.unusedSimpArgs false
set_option linter.unusedVariables false

/-- What the document's Pay hands back. -/
def QPayR (l : List Int) (w : World) (v : Value) (w' : World) : Prop := ∃ p n c, v = .slice p n c ∧ n = l.length ∧ Sl w' 1 p n c (bs l) ∧ Mod [] w w'
theorem mayLeaf_cells {cs : List Cl} (h : mayLeaf cs = true) : cs.length ≤ 400 ∧ ∀ i c, cs[i]? = some c → mayCl c = true ∧ 1 ≤ c.key.length ∧ c.key.length ≤ 100 ∧ ((cs.take i).flatMap cellBytes).length ≤ 1013 := by
  obtain ⟨h1, h2, h3⟩ := mayLeaf_spec h
  refine ⟨?_, fun i c hc => ⟨h1 c (List.mem_of_getElem? hc), (riseL_key h2 (List.mem_map.2 ⟨c, List.mem_of_getElem? hc, rfl⟩)).1, (riseL_key h2 (List.mem_map.2 ⟨c, List.mem_of_getElem? hc, rfl⟩)).2, ?_⟩⟩
  · have := lsum_len cs; unfold leafLen at h3; omega
  · rw [flatCells_len]
    have e : lsum cs = lsum (cs.take i) + lsum (cs.drop i) := by rw [← lsum_append, List.take_append_drop]
    unfold leafLen at h3; omega
def qlR (p9 : Option Addr) (M c9 B0 BB C : Nat) (L : List Int) (sz hd : Int) (ls : Array Bool) (vs : Nat → Value) (oi : Nat) (w : World) : Prop :=
  match oi with
  | 0 => vs 0 = .slice p9 M c9
  | 1 => vs 1 = .pointer (some ⟨C, 2, none⟩)
  | 2 => vs 2 = .int .i64 sz
  | 3 => ∃ p c, vs 3 = .slice p 2 c ∧ (ls.getD 4 true = true ∨ TlC C w B0 1 p 2 c (bs (be 2 sz)))
  | 4 => ∃ p c, vs 4 = .slice p (M + 2) c ∧ (ls.getD 8 true = true ∨ TlC C w BB 1 p (M + 2) c (bs (L ++ be 2 sz)))
  | 5 => vs 5 = .pointer (some ⟨C, 3, none⟩)
  | 6 => vs 6 = .int .i64 hd
  | 7 => ∃ p c, vs 7 = .slice p 4 c ∧ (ls.getD 8 true = true ∨ TlC C w B0 1 p 4 c (bs (be 4 hd)))
  | 8 => ∃ p c, vs 8 = .slice p (M + 2 + 4) c ∧ (ls.getD 10 true = true ∨ TlC C w BB 1 p (M + 2 + 4) c (bs (L ++ be 2 sz ++ be 4 hd)))
  | 9 => ∃ p c, vs 9 = .slice p 2 c ∧ (ls.getD 10 true = true ∨ LitC C w B0 1 p 2 c (bs ([0, 0])))
  | 10 => ∃ p c, vs 10 = .slice p (M + 2 + 4 + 2) c ∧ TlC C w BB 1 p (M + 2 + 4 + 2) c (bs (L ++ be 2 sz ++ be 4 hd ++ [0, 0]))
  | 11 => ∃ p c, vs 11 = .slice p (M + 2 + 4 + 2) c ∧ TlC C w BB 1 p (M + 2 + 4 + 2) c (bs (L ++ be 2 sz ++ be 4 hd ++ [0, 0]))
  | _ => True
theorem qlR_keep {p9 : Option Addr} {M c9 B0 BB C : Nat} {L : List Int} {sz hd : Int} {ls ls' : Array Bool} {vs : Nat → Value} {oi : Nat} {w w' : World} (hm : Mod [] w w') (hl : ∀ k, ls.getD k true = true → ls'.getD k true = true) (hr : qlR p9 M c9 B0 BB C L sz hd ls vs oi w) : qlR p9 M c9 B0 BB C L sz hd ls' vs oi w' := by
  unfold qlR at hr ⊢
  split at hr
  · exact hr
  · exact hr
  · exact hr
  · obtain ⟨p, c, h1, h2⟩ := hr; exact ⟨p, c, h1, h2.imp (hl _) (fun h => h.mod hm (by simp))⟩
  · obtain ⟨p, c, h1, h2⟩ := hr; exact ⟨p, c, h1, h2.imp (hl _) (fun h => h.mod hm (by simp))⟩
  · exact hr
  · exact hr
  · obtain ⟨p, c, h1, h2⟩ := hr; exact ⟨p, c, h1, h2.imp (hl _) (fun h => h.mod hm (by simp))⟩
  · obtain ⟨p, c, h1, h2⟩ := hr; exact ⟨p, c, h1, h2.imp (hl _) (fun h => h.mod hm (by simp))⟩
  · obtain ⟨p, c, h1, h2⟩ := hr; exact ⟨p, c, h1, h2.imp (hl _) (fun h => h.mod hm (by simp))⟩
  · obtain ⟨p, c, h1, h2⟩ := hr; exact ⟨p, c, h1, h2.mod hm (by simp)⟩
  · obtain ⟨p, c, h1, h2⟩ := hr; exact ⟨p, c, h1, h2.mod hm (by simp)⟩
  · trivial
theorem qlR_val {p9 : Option Addr} {M c9 B0 BB C : Nat} {L : List Int} {sz hd : Int} {ls ls' : Array Bool} {vs : Nat → Value} {oi : Nat} {w w' : World} (n3 : oi ≠ 3) (n4 : oi ≠ 4) (n7 : oi ≠ 7) (n8 : oi ≠ 8) (n9 : oi ≠ 9) (n10 : oi ≠ 10) (n11 : oi ≠ 11) (hr : qlR p9 M c9 B0 BB C L sz hd ls vs oi w) : qlR p9 M c9 B0 BB C L sz hd ls' vs oi w' := by
  unfold qlR at hr ⊢
  split at hr
  · exact hr
  · exact hr
  · exact hr
  · exact (n3 rfl).elim
  · exact (n4 rfl).elim
  · exact hr
  · exact hr
  · exact (n7 rfl).elim
  · exact (n8 rfl).elim
  · exact (n9 rfl).elim
  · exact (n10 rfl).elim
  · exact (n11 rfl).elim
  · trivial
theorem qlR_loc {p9 : Option Addr} {M c9 B0 BB C : Nat} {L : List Int} {sz hd : Int} {ls : Array Bool} {vs vs' : Nat → Value} {oi : Nat} {w : World} (h1 : vs oi = vs' oi)  (hr : qlR p9 M c9 B0 BB C L sz hd ls vs oi w) : qlR p9 M c9 B0 BB C L sz hd ls vs' oi w := by
  unfold qlR at hr ⊢
  split at hr
  · rw [← h1]; exact hr
  · rw [← h1]; exact hr
  · rw [← h1]; exact hr
  · rw [← h1]; exact hr
  · rw [← h1]; exact hr
  · rw [← h1]; exact hr
  · rw [← h1]; exact hr
  · rw [← h1]; exact hr
  · rw [← h1]; exact hr
  · rw [← h1]; exact hr
  · rw [← h1]; exact hr
  · rw [← h1]; exact hr
  · trivial
theorem qlR_app4 {p9 : Option Addr} {M c9 B0 BB C : Nat} {L : List Int} {sz hd : Int} {ls ls' : Array Bool} {vs : Nat → Value} {oi : Nat} {w w' : World} {S : List Nat} (hm : Mod S w w') (hS : ∀ b ∈ S, b < B0) (hl : ∀ k, ls.getD k true = true → ls'.getD k true = true) (d4 : ls'.getD 4 true = true) (hi : ls.getD oi true = true) (u4 : ls.getD 4 true = false) (u8 : ls.getD 8 true = false) (u10 : ls.getD 10 true = false) (u11 : ls.getD 11 true = false) (hr : qlR p9 M c9 B0 BB C L sz hd ls vs oi w) : qlR p9 M c9 B0 BB C L sz hd ls' vs oi w' := by
  unfold qlR at hr ⊢
  split at hr
  · exact hr
  · exact hr
  · exact hr
  · obtain ⟨p, c, h1, h2⟩ := hr; exact ⟨p, c, h1, Or.inl d4⟩
  · rw [u4] at hi; cases hi
  · exact hr
  · exact hr
  · obtain ⟨p, c, h1, h2⟩ := hr; exact ⟨p, c, h1, h2.imp (hl _) (fun h => h.mod hm (fun a ha hb => by have := (h.own a ha).2.1; have := hS _ hb; omega))⟩
  · rw [u8] at hi; cases hi
  · obtain ⟨p, c, h1, h2⟩ := hr; exact ⟨p, c, h1, h2.imp (hl _) (fun h => h.mod hm (fun a ha hb => by have := (h.own a ha).2.1; have := hS _ hb; omega))⟩
  · rw [u10] at hi; cases hi
  · rw [u11] at hi; cases hi
  · trivial
theorem qlR_app8 {p9 : Option Addr} {M c9 B0 BB C : Nat} {L : List Int} {sz hd : Int} {ls ls' : Array Bool} {vs : Nat → Value} {oi : Nat} {w w' : World} {S : List Nat} (hm : Mod S w w') (hL : ∀ b cs, w.heap[b]? = some (.cells cs 5 (0, 0)) → cs.size = 2 → b ∉ S) (hl : ∀ k, ls.getD k true = true → ls'.getD k true = true) (d4 : ls'.getD 4 true = true) (d8 : ls'.getD 8 true = true) (hi : ls.getD oi true = true) (u8 : ls.getD 8 true = false) (u10 : ls.getD 10 true = false) (u11 : ls.getD 11 true = false) (hr : qlR p9 M c9 B0 BB C L sz hd ls vs oi w) : qlR p9 M c9 B0 BB C L sz hd ls' vs oi w' := by
  unfold qlR at hr ⊢
  split at hr
  · exact hr
  · exact hr
  · exact hr
  · obtain ⟨p, c, h1, h2⟩ := hr; exact ⟨p, c, h1, Or.inl d4⟩
  · obtain ⟨p, c, h1, h2⟩ := hr; exact ⟨p, c, h1, Or.inl d8⟩
  · exact hr
  · exact hr
  · obtain ⟨p, c, h1, h2⟩ := hr; exact ⟨p, c, h1, Or.inl d8⟩
  · rw [u8] at hi; cases hi
  · obtain ⟨p, c, h1, h2⟩ := hr; exact ⟨p, c, h1, h2.imp (hl _) (fun h => h.mod hm (fun a ha hb => by obtain ⟨cs, q1, q2⟩ := h.lit a ha; exact hL _ _ q1 q2 hb))⟩
  · rw [u10] at hi; cases hi
  · rw [u11] at hi; cases hi
  · trivial
theorem qlR_app10 {p9 : Option Addr} {M c9 B0 BB C : Nat} {L : List Int} {sz hd : Int} {ls ls' : Array Bool} {vs : Nat → Value} {oi : Nat} {w w' : World} {S : List Nat} (hm : Mod S w w') (hl : ∀ k, ls.getD k true = true → ls'.getD k true = true) (d4 : ls'.getD 4 true = true) (d8 : ls'.getD 8 true = true) (d10 : ls'.getD 10 true = true) (hi : ls.getD oi true = true) (u10 : ls.getD 10 true = false) (u11 : ls.getD 11 true = false) (hr : qlR p9 M c9 B0 BB C L sz hd ls vs oi w) : qlR p9 M c9 B0 BB C L sz hd ls' vs oi w' := by
  unfold qlR at hr ⊢
  split at hr
  · exact hr
  · exact hr
  · exact hr
  · obtain ⟨p, c, h1, h2⟩ := hr; exact ⟨p, c, h1, Or.inl d4⟩
  · obtain ⟨p, c, h1, h2⟩ := hr; exact ⟨p, c, h1, Or.inl d8⟩
  · exact hr
  · exact hr
  · obtain ⟨p, c, h1, h2⟩ := hr; exact ⟨p, c, h1, Or.inl d8⟩
  · obtain ⟨p, c, h1, h2⟩ := hr; exact ⟨p, c, h1, Or.inl d10⟩
  · obtain ⟨p, c, h1, h2⟩ := hr; exact ⟨p, c, h1, Or.inl d10⟩
  · rw [u10] at hi; cases hi
  · rw [u11] at hi; cases hi
  · trivial
set_option maxRecDepth 100000 in
set_option maxHeartbeats 8000000 in
theorem qpay_leaf (cp : Option Addr) (cn cc : Nat) (xs : List Cv) (kp : Option Addr) (kn kc : Nat) (ks : List Bv) (qp : Option Addr) (qn qc : Nat) (kids : List Int) (w : World) (h : NdIn w false cp cn cc xs kp kn kc ks qp qn qc kids) (hsm : csz xs + kz ks + kids.length ≤ 5000) (hmay : mayLeaf (xs.map Cv.pl) = true) :
    Calls Tryz.prog 15 #[.agg #[.bool false, .slice cp cn cc, .slice kp kn kc, .slice qp qn qc]] w (Ret (QPayR (payLeaf (xs.map Cv.pl)) w)) := by
  have hxl := h.cells.len
  obtain ⟨hcn, hcells⟩ := mayLeaf_cells hmay
  rw [List.length_map, hxl] at hcn
  have HPV : Hid (payLeaf (xs.map Cv.pl) = 1 :: (be 2 (cn : Int) ++ (xs.map Cv.pl).flatMap cellBytes)) := by unfold Hid payLeaf leafBytes; rw [if_pos hmay, List.length_map, hxl]
  obtain ⟨W0, hW0⟩ : ∃ W0, W0 = w.alloc (.cells #[.bool false, .slice cp cn cc, .slice kp kn kc, .slice qp qn qc] 26) := ⟨_, rfl⟩
  have HM0 : Hid (Mod [] w W0) := by rw [hW0]; exact Mod.of_alloc w _
  have HA0 : Hid (W0.heap[w.heap.size]? = some (.cells #[.bool false, .slice cp cn cc, .slice kp kn kc, .slice qp qn qc] 26 (0, 0))) := by rw [hW0]; exact at_alloc w _
  have HMAY := Lib.hid (qmay_leaf cp cn cc xs kp kn kc ks qp qn qc kids W0 (h.mod0 HM0.out) hsm)
  rw [hmay] at HMAY
  unfold BoolM at HMAY
  obtain ⟨b2, off2, hp2, hcs2⟩ := h.cells.sl.at_
  have hidx2 := fun W => Sl.idx (P := Tryz.prog) (cap := cc) Tryz.underlying22 sizeRCells (fun h => (hp2 h).1) W .i64
  have HLT2 : Hid (0 < cn → b2 < w.heap.size) := fun h => (hp2 h).2
  have HG2 : Hid (∀ i, i < cn → ∃ kp kn kc kl ip im ic il sz hd, (xs.map Cv.pl)[i]? = some (⟨kl, il, sz, hd⟩ : Cl) ∧ BytesIn w kp kn kc kl ∧ BytesIn w ip im ic il ∧ w.cell? ⟨b2, off2 + i * 4, none⟩ = some (.slice kp kn kc) ∧ w.cell? ⟨b2, off2 + i * 4 + 1, none⟩ = some (.slice ip im ic) ∧
      w.cell? ⟨b2, off2 + i * 4 + 2, none⟩ = some (.int .i64 sz) ∧ w.cell? ⟨b2, off2 + i * 4 + 3, none⟩ = some (.int .i64 hd)) := fun i hi => by
    obtain ⟨kp, kn, kc, kl, ip, im, ic, il, sz, hd, hx, h1, h2, _, d0, d1, d2, d3⟩ := h.cells.get hcs2 i hi
    have hio := h.cells.io _ (List.mem_of_getElem? hx)
    refine ⟨kp, kn, kc, kl, ip, im, ic, il, sz, hd, ?_, hio.1, hio.2, d0, d1, d2, d3⟩
    rw [List.getElem?_map, hx]; rfl
  have HCS := Lib.hid hcells
  have HXL : Hid ((xs.map Cv.pl).length = cn) := by unfold Hid; rw [List.length_map, hxl]
  generalize xs.map Cv.pl = cs at *
  have HWS : Hid (W0.heap.size = w.heap.size + 1) := by rw [hW0]; unfold Hid; simp
  have c0 : W0.cell? ⟨w.heap.size, 0, none⟩ = some (.bool false) := cell_of_at HA0.out 0
  have c1 : W0.cell? ⟨w.heap.size, 1, none⟩ = some (.slice cp cn cc) := cell_of_at HA0.out 1
  have c2 : W0.cell? ⟨w.heap.size, 2, none⟩ = some (.slice kp kn kc) := cell_of_at HA0.out 2
  have c3 : W0.cell? ⟨w.heap.size, 3, none⟩ = some (.slice qp qn qc) := cell_of_at HA0.out 3
  clear h hp2 hcs2 hsm hxl hcells hmay
  go_enter Tryz.func15, Tryz.ntmps15
  go_wp2_with fail
  rw [← hW0]
  clear hW0 c0 c1 c2 c3
  refine HMAY.out.mono ?_
  rintro _ w1 ⟨_, rfl, rfl, m1⟩
  have M1 := Lib.hid m1
  have HA1 := Lib.hid (m1.at HA0.out (by simp))
  obtain ⟨A, hA⟩ : ∃ A, A = w.heap.size := ⟨_, rfl⟩
  have hlt := lt_of_at HA1.out
  rw [← hA] at HA1 HWS hlt ⊢
  have d0 : w1.cell? ⟨A, 0, none⟩ = some (.bool false) := cell_of_at HA1.out 0
  have d1 : w1.cell? ⟨A, 1, none⟩ = some (.slice cp cn cc) := cell_of_at HA1.out 1
  have OT : Hid (Tl (w1.alloc (.cells #[.int .u8 1] 5)) w1.heap.size 1 (some ⟨w1.heap.size, 0, none⟩) 1 1 (bs [1])) := Tl.of_own (own_row w1 (bs [1]) 5 w1.heap.size (Nat.le_refl _) (by rw [bs_len]; simp [maxLen])) (bs_one _)
  have HAW := Lib.hid hA
  have HA0W : Hid (W0.heap[A]? = some (.cells #[.bool false, .slice cp cn cc, .slice kp kn kc, .slice qp qn qc] 26 (0, 0))) := by rw [hA]; exact HA0.out
  clear m1 HMAY HA0 hA
  go_wp2_with (first
    | (go_at_call 32; refine (qbigt_any (cn : Int) 2 _ (by omega) (by omega) (Or.inl rfl)).mono ?_; rintro _ w2 ⟨_, rfl, pb, cb, rfl, tb, mb⟩
       obtain ⟨pa, ca, wa, hra, hta, hma, -, -⟩ := app_bytes w2 w1.heap.size (some ⟨w1.heap.size, 0, none⟩) 1 1 [1] (OT.out.mod mb (by simp)) pb 2 cb (be 2 (cn : Int)) tb.sl (by omega) (by have := mb.size; simp at this; omega)
       have HTA := Lib.hid hta
       have HMA : Hid (Mod [] w1 wa) := ((Mod.of_alloc w1 _).same mb).trans hma (by simp)
       clear tb mb hta hma)
    | (at_builtin; go_must (refine wpList_append_run rfl _ _ _ _ rfl _ _ _ _ rfl rfl hra ?_))
    | fail)
  have HT0 : Hid (Tl wa (A + 1) 1 pa 3 ca (bs (1 :: (be 2 (cn : Int) ++ (cs.take 0).flatMap cellBytes)))) := by
    have := HTA.out.base_le (show A + 1 ≤ w1.heap.size by have := M1.out.size; have := HWS.out; omega)
    simpa [Hid] using this
  have HATA := Lib.hid (HMA.out.at HA1.out (by simp))
  have HM0A : Hid (Mod [] W0 wa) := M1.out.same HMA.out
  clear hra HTA HMA OT d0 d1 HA1 hlt
  go_loopw [5, 6] (fun ov iv wr => ∃ (i m d : Nat) (o : Option Addr), i ≤ cn ∧ iv = .int .i64 i ∧ ov = .slice o m d ∧ m = 3 + ((cs.take i).flatMap cellBytes).length ∧ Tl wr (A + 1) 1 o m d (bs (1 :: (be 2 (cn : Int) ++ (cs.take i).flatMap cellBytes))) ∧ wr.heap[A]? = some (.cells #[.bool false, .slice cp cn cc, .slice kp kn kc, .slice qp qn qc] 26 (0, 0)) ∧ Mod [] W0 wr) (fun _ iv _ => cn - (intOf iv).toNat)
  case atStart => exact ⟨0, 3, ca, pa, Nat.zero_le _, rfl, rfl, by simp, HT0.out, HATA.out, HM0A.out⟩
  case round =>
    clear HT0 HATA HM0A
    obtain ⟨i, m, d, o, hi, rfl, rfl, hm, ht, hat, hmd⟩ := hrel
    have g1 : wr.cell? ⟨A, 1, none⟩ = some (.slice cp cn cc) := cell_of_at hat 1
    have HAT := Lib.hid hat
    have HM := Lib.hid hmd
    have OT := Lib.hid ht
    have HML := Lib.hid hm
    clear hmd ht hm hat
    by_cases hlt : i < cn
    · obtain ⟨xp, xn, xc, xl, yp, yn, yc, yl, sz, hd, hx, hbx, hby, e0, e1, e2, e3⟩ := HG2.out i hlt
      have hbl := HLT2.out (by omega)
      have hMw : Mod [] w wr := HM0.out.same HM.out
      rw [← hMw.cell (a := ⟨b2, _, none⟩) hbl (by simp)] at e0 e1 e2 e3
      have HMw := Lib.hid hMw
      have HBX := Lib.hid hbx
      have HBY := Lib.hid hby
      obtain ⟨hmc, hk1, hk2, hflat⟩ := HCS.out i _ hx
      have hxn : xl.length = xn := hbx.len
      have hyn : yl.length = yn := hby.len
      have hm1 : m ≤ 1016 := by have := HML.out; omega
      simp only at hk1 hk2
      have hxn2 : xn ≤ 100 := by omega
      have HX := Lib.hid hx
      have HMC := Lib.hid hmc
      have HXN := Lib.hid hxn
      have HYN := Lib.hid hyn
      have hwi : IntKind.i64.wrap ((i : Int) + 1) = (i : Int) + 1 := IntWalk.i64_in _ (by omega)
      have hw8 : IntKind.u8.wrap (xn : Int) = (xn : Int) := by rw [IntKind.wrap_u8]; omega
      have hidxi := fun W => hidx2 W i hlt
      obtain ⟨WC, hWC⟩ : ∃ WC, WC = wr.alloc (.cells #[.slice xp xn xc, .slice yp yn yc, .int .i64 sz, .int .i64 hd] 57) := ⟨_, rfl⟩
      have HC : Hid (WC.heap[wr.heap.size]? = some (.cells #[.slice xp xn xc, .slice yp yn yc, .int .i64 sz, .int .i64 hd] 57 (0, 0))) := by rw [hWC]; exact at_alloc wr _
      have MWC : Hid (Mod [] wr WC) := by rw [hWC]; exact Mod.of_alloc wr _
      have hC1 : WC.heap.size = wr.heap.size + 1 := by rw [hWC]; simp
      have HC1 := Lib.hid hC1
      clear hx hbx hby hmc hflat hk1 hk2 hxn hyn hMw hC1
      go_wp2
      rw [← hWC]
      obtain ⟨C, hC⟩ : ∃ C, C = wr.heap.size := ⟨_, rfl⟩
      rw [← hC] at HC HC1 ⊢
      have HCE := Lib.hid hC
      clear hWC hC
      have k0 : WC.cell? ⟨C, 0, none⟩ = some (.slice xp xn xc) := cell_of_at HC.out 0
      have K0 := Lib.hid k0
      refine AnyT.start (S := fun w' => w'.cell? ⟨C, 0, none⟩ = some (.slice xp xn xc)) (by kernel_rfl) k0 (fun hS => ?_)
      clear k0
      refine AnyT.take (i := 0) (k := 6) (v := ?_) rfl (by kernel_rfl) (fun _ _ _ h => h) hS (Or.inl ⟨by rfl, fun w' hw' => ?_⟩) ?_
      rotate_left
      · go_simp
        try rfl
      simp only [Act.put, List.setIfInBounds_toArray, List.set_cons_zero, List.set_cons_succ]
      refine AnyT.take (i := 1) (k := 2) (v := ?_) rfl (by kernel_rfl) (fun _ _ _ h => h) hS (Or.inl ⟨by rfl, fun w' hw' => ?_⟩) ?_
      rotate_left
      · go_simp
        try rfl
      simp only [Act.put, List.setIfInBounds_toArray, List.set_cons_zero, List.set_cons_succ]
      refine AnyT.take (i := 2) (k := 3) (v := ?_) rfl (by kernel_rfl) (fun _ _ _ h => h) hS (Or.inl ⟨by rfl, fun w' hw' => ?_⟩) ?_
      rotate_left
      · go_simp
        try rfl
      simp only [Act.put, List.setIfInBounds_toArray, List.set_cons_zero, List.set_cons_succ]
      refine AnyT.take (i := 3) (k := 4) (v := ?_) rfl (by kernel_rfl) (fun _ _ _ h => h) hS (Or.inl ⟨by rfl, fun w' hw' => ?_⟩) ?_
      rotate_left
      · go_simp
        try rfl
      simp only [Act.put, List.setIfInBounds_toArray, List.set_cons_zero, List.set_cons_succ]
      refine AnyT.take (i := 4) (k := 5) (v := ?_) rfl (by kernel_rfl) (fun _ _ _ h => h) hS (Or.inl ⟨by rfl, fun w' hw' => ?_⟩) ?_
      rotate_left
      · go_simp
        try rfl
      simp only [Act.put, List.setIfInBounds_toArray, List.set_cons_zero, List.set_cons_succ]
      refine AnyT.take (i := 7) (k := 8) (v := ?_) rfl (by kernel_rfl) (fun _ _ _ h => h) hS (Or.inl ⟨by rfl, fun w' hw' => ?_⟩) ?_
      rotate_left
      · go_simp
        try rfl
      simp only [Act.put, List.setIfInBounds_toArray, List.set_cons_zero, List.set_cons_succ]
      refine AnyT.take (i := 8) (k := 9) (v := ?_) rfl (by kernel_rfl) (fun _ _ _ h => h) hS (Or.inl ⟨by rfl, fun w' hw' => ?_⟩) ?_
      rotate_left
      · go_simp
        try rfl
      simp only [Act.put, List.setIfInBounds_toArray, List.set_cons_zero, List.set_cons_succ]
      clear hS
      refine AnyT.run (i := 5) (by kernel_rfl) rfl rfl (fun K hK => ?_)
      go_simp
      have MC : Hid (Mod [] WC (WC.drew.alloc (.cells #[.int .u8 xn] 5))) := (Mod.of_drew WC).alloc
      have hCl := lt_of_at HC.out
      refine hK _ _ (fun _ => (MC.out.cell (a := ⟨C, 0, none⟩) hCl (by simp)).trans K0.out) ?_
      clear hK K
      have HOB : Hid (∀ a, o = some a → a.block < C ∧ A < a.block) := fun a ha => by have := (OT.out.own a ha).2; have := HCE.out; omega
      have HON : Hid (∀ b, b ∈ (o.map (fun a : Addr => a.block)).toList → (b < C ∧ A < b)) := fun b hb => by
        cases o with
        | none => simp at hb
        | some a => simp at hb; subst hb; exact HOB.out a rfl
      have hbs : A + 1 ≤ wr.heap.size := by have := HM.out.size; have := HWS.out; omega
      obtain ⟨p6, c6, w6, hr6, ht6, hm6, hn6, hb6⟩ := app_bytes (WC.drew.alloc (.cells #[.int .u8 xn] 5)) (A + 1) o m d _ ((OT.out.mod MWC.out (by simp)).mod MC.out (by simp)) (some ⟨WC.heap.size, 0, none⟩) 1 1 [(xn : Int)] (Sl.one_new WC.drew _ _ rfl) (by omega) (Nat.le_trans (Nat.le_trans hbs MWC.out.size) MC.out.size)
      have HT6 := Lib.hid ht6
      have M6 : Hid (Mod (o.map (·.block)).toList WC w6) := (MC.out.mono (by simp)).same hm6
      have K6 : Hid (w6.heap[C]? = some (.cells #[.slice xp xn xc, .slice yp yn yc, .int .i64 sz, .int .i64 hd] 57 (0, 0))) := M6.out.at HC.out (fun hb => by have := (HON.out C hb).1; omega)
      have HB6 : Hid (∀ a, p6 = some a → a.block ≠ C ∧ A < a.block) := fun a ha => by
        have h1 := (ht6.own a ha).2.1
        refine ⟨fun e => ?_, by omega⟩
        rcases hb6 with h | h
        · rw [ha] at h
          cases o with
          | none => simp at h
          | some a2 => simp at h; have := (HOB.out a2 rfl).1; omega
        · rw [ha] at h; simp at h; have := HC1.out; omega
      clear ht6 hm6 hn6 hb6
      refine AnyT.one (i := 6) (by kernel_rfl) rfl (fun K hK => ?_)
      refine step_append_run rfl _ _ _ _ rfl _ _ _ _ rfl rfl hr6 ?_
      refine hK _ _ (fun _ => cell_of_at K6.out 0) ?_
      clear hK K hr6
      have HMw6 : Hid (Mod (o.map (·.block)).toList w w6) := ((HMw.out.same MWC.out).mono (by simp)).same M6.out
      have HBX6 := Lib.hid (HBX.out.modge HMw6.out (fun b hb => by have := (HON.out b hb).2; have := HAW.out; omega))
      obtain ⟨p9, c9, w9, hr9, ht9, hm9, hn9, hb9⟩ := app_bytes w6 (A + 1) p6 (m + 1) c6 _ HT6.out xp xn xc xl HBX6.out.sl (by omega) (Nat.le_trans (Nat.le_trans hbs MWC.out.size) M6.out.size)
      have HON6 : Hid (∀ b, b ∈ (p6.map (fun a : Addr => a.block)).toList → (b ≠ C ∧ A < b)) := fun b hb => by
        cases p6 with
        | none => simp at hb
        | some a => simp at hb; subst hb; exact HB6.out a rfl
      have HT9 := Lib.hid ht9
      have K9 : Hid (w9.heap[C]? = some (.cells #[.slice xp xn xc, .slice yp yn yc, .int .i64 sz, .int .i64 hd] 57 (0, 0))) := hm9.at K6.out (fun hb => (HON6.out C hb).1 rfl)
      have HB9 : Hid (∀ a, p9 = some a → a.block ≠ C ∧ A < a.block) := fun a ha => by
        have h1 := (ht9.own a ha).2.1
        refine ⟨fun e => ?_, by omega⟩
        rcases hb9 with h | h
        · rw [ha] at h
          cases p6 with
          | none => simp at h
          | some a2 => simp at h; have := (HB6.out a2 rfl).1; omega
        · rw [ha] at h; simp at h; have := lt_of_at K6.out; omega
      have HM09 : Hid (Mod [] W0 w9) := (HT6.out.turned (w2 := w) HWS.out hm9 (OT.out.mod MWC.out (by simp) |>.turned (w2 := w) HWS.out M6.out (HM.out.same MWC.out)))
      clear ht9 hm9 hn9 hb9
      refine AnyT.one (i := 9) (by kernel_rfl) rfl (fun K hK => ?_)
      refine step_append_run rfl _ _ _ _ rfl _ _ _ _ rfl rfl hr9 ?_
      refine hK _ _ (fun _ => cell_of_at K9.out 0) ?_
      clear hK K hr9
      refine AnyT.run (i := 10) (by kernel_rfl) rfl rfl (fun K hK => ?_)
      go_simp
      refine hK _ _ (fun h => absurd h (by rw [show more _ _ = false from by kernel_rfl]; decide)) ?_
      clear hK K
      refine AnyT.done (by kernel_rfl) ?_ _
      have HAT9 : Hid (w9.heap[A]? = some (.cells #[.bool false, .slice cp cn cc, .slice kp kn kc, .slice qp qn qc] 26 (0, 0))) := HM09.out.at HA0W.out (by simp)
      have HMw9 : Hid (Mod [] w w9) := HM0.out.same HM09.out
      have h92 : w9.cell? ⟨C, 2, none⟩ = some (.int .i64 sz) := cell_of_at K9.out 2
      obtain ⟨M, hM⟩ : ∃ M, M = m + 1 + xn := ⟨_, rfl⟩
      obtain ⟨L, hL⟩ : ∃ L, L = 1 :: (be 2 (cn : Int) ++ (cs.take i).flatMap cellBytes) ++ [(xn : Int)] ++ xl := ⟨_, rfl⟩
      rw [← hM, ← hL] at HT9
      rw [← hM]
      have HMM := Lib.hid hM
      have HLL := Lib.hid hL
      have hMle : M ≤ 1200 := by omega
      have hM1 : 1 ≤ M := by omega
      clear hM hL OT K6 HT6 M6 HBX6 HOB HON HMw6 HB6 HON6 g1 e0 e1 e2 e3 MC
      by_cases hz : sz = 0
      · have hzb : (sz == 0) = true := by simpa using hz
        obtain ⟨hh0, hy200⟩ := (mayCl_spec HMC.out).1 hz
        simp only at hh0 hy200
        have hyn2 : yn ≤ 200 := by rw [← HYN.out]; exact hy200
        have h91 : w9.cell? ⟨C, 1, none⟩ = some (.slice yp yn yc) := cell_of_at K9.out 1
        have HZ := Lib.hid hz
        clear hz hh0 hy200
        go_wp2
        have k1 : w9.cell? ⟨C, 1, none⟩ = some (.slice yp yn yc) := cell_of_at K9.out 1
        have hC9 := lt_of_at K9.out
        refine AnyT.start (S := fun w' => w'.cell? ⟨C, 1, none⟩ = some (.slice yp yn yc)) (by kernel_rfl) k1 (fun hS => ?_)
        clear k1
        refine AnyT.take (i := 0) (k := 5) (v := ?_) rfl (by kernel_rfl) (fun _ _ _ h => h) hS (Or.inl ⟨by rfl, fun w' hw' => ?_⟩) ?_
        rotate_left
        · go_simp
          try rfl
        simp only [Act.put, List.setIfInBounds_toArray, List.set_cons_zero, List.set_cons_succ]
        refine AnyT.take (i := 1) (k := 2) (v := ?_) rfl (by kernel_rfl) (fun _ _ _ h => h) hS (Or.inl ⟨by rfl, fun w' hw' => ?_⟩) ?_
        rotate_left
        · go_simp
          try rfl
        simp only [Act.put, List.setIfInBounds_toArray, List.set_cons_zero, List.set_cons_succ]
        refine AnyT.take (i := 2) (k := 3) (v := ?_) rfl (by kernel_rfl) (fun _ _ _ h => h) hS (Or.inl ⟨by rfl, fun w' hw' => ?_⟩) ?_
        rotate_left
        · go_simp
          try rfl
        simp only [Act.put, List.setIfInBounds_toArray, List.set_cons_zero, List.set_cons_succ]
        refine AnyT.take (i := 3) (k := 4) (v := ?_) rfl (by kernel_rfl) (fun _ _ _ h => h) hS (Or.inl ⟨by rfl, fun w' hw' => ?_⟩) ?_
        rotate_left
        · go_simp
          try rfl
        simp only [Act.put, List.setIfInBounds_toArray, List.set_cons_zero, List.set_cons_succ]
        refine AnyT.take (i := 6) (k := 7) (v := ?_) rfl (by kernel_rfl) (fun _ _ _ h => h) hS (Or.inl ⟨by rfl, fun w' hw' => ?_⟩) ?_
        rotate_left
        · go_simp
          try rfl
        simp only [Act.put, List.setIfInBounds_toArray, List.set_cons_zero, List.set_cons_succ]
        refine AnyT.take (i := 7) (k := 8) (v := ?_) rfl (by kernel_rfl) (fun _ _ _ h => h) hS (Or.inl ⟨by rfl, fun w' hw' => ?_⟩) ?_
        rotate_left
        · go_simp
          try rfl
        simp only [Act.put, List.setIfInBounds_toArray, List.set_cons_zero, List.set_cons_succ]
        clear hS
        refine AnyT.run (i := 4) (by kernel_rfl) rfl rfl (fun K hK => ?_)
        go_simp
        refine (qbigt_any (yn : Int) 2 w9.drew (by omega) (by omega) (Or.inl rfl)).mono ?_
        rintro _ wb ⟨_, rfl, pb, cb, rfl, tb, mb⟩
        have MB : Hid (Mod [] w9 wb) := (Mod.of_drew w9).same mb
        have KB : Hid (wb.heap[C]? = some (.cells #[.slice xp xn xc, .slice yp yn yc, .int .i64 sz, .int .i64 hd] 57 (0, 0))) := MB.out.at K9.out (by simp)
        refine hK _ _ (fun _ => cell_of_at KB.out 1) ?_
        clear hK K
        have hbsb : A + 1 ≤ wb.heap.size := by have := HM09.out.size; have := MB.out.size; have := HWS.out; omega
        obtain ⟨pd, cd, wd, hrd, htd, hmd, hnd, hbd⟩ := app_bytes wb (A + 1) p9 M c9 L (HT9.out.mod MB.out (by simp)) pb 2 cb (be 2 (yn : Int)) tb.sl (by omega) hbsb
        have HTD := Lib.hid htd
        have HON9 : Hid (∀ b, b ∈ (p9.map (fun a : Addr => a.block)).toList → (b ≠ C ∧ A < b)) := fun b hb => by
          cases p9 with
          | none => simp at hb
          | some a => simp at hb; subst hb; exact HB9.out a rfl
        have KD : Hid (wd.heap[C]? = some (.cells #[.slice xp xn xc, .slice yp yn yc, .int .i64 sz, .int .i64 hd] 57 (0, 0))) := hmd.at KB.out (fun hb => (HON9.out C hb).1 rfl)
        have HM0D : Hid (Mod [] W0 wd) := (HT9.out.mod MB.out (by simp)).turned (w2 := w) HWS.out hmd (HM09.out.same MB.out)
        have HBYD := Lib.hid (HBY.out.modge (HM0.out.same HM0D.out) (by simp))
        have HOND : Hid (∀ b, b ∈ (pd.map (fun a : Addr => a.block)).toList → b ≠ C) := fun b hb => by
          rcases hbd with h | h
          · rw [h] at hb; exact (HON9.out b hb).1
          · rw [h] at hb; simp at hb; have := lt_of_at KB.out; omega
        clear htd hmd hnd hbd tb mb
        refine AnyT.one (i := 5) (by kernel_rfl) rfl (fun K hK => ?_)
        refine step_append_run rfl _ _ _ _ rfl _ _ _ _ rfl rfl hrd ?_
        refine hK _ _ (fun _ => cell_of_at KD.out 1) ?_
        clear hK K hrd
        obtain ⟨pe, ce, we, hre, hte, hme, hne, hbe⟩ := app_bytes wd (A + 1) pd (M + 2) cd _ HTD.out yp yn yc yl HBYD.out.sl (by omega) (by have := HM0D.out.size; have := HWS.out; omega)
        have HTE := Lib.hid hte
        have HM0E : Hid (Mod [] W0 we) := HTD.out.turned (w2 := w) HWS.out hme HM0D.out
        have KE : Hid (we.heap[C]? = some (.cells #[.slice xp xn xc, .slice yp yn yc, .int .i64 sz, .int .i64 hd] 57 (0, 0))) := hme.at KD.out (fun hb => HOND.out C hb rfl)
        clear hte hme hne hbe
        refine AnyT.one (i := 8) (by kernel_rfl) rfl (fun K hK => ?_)
        refine step_append_run rfl _ _ _ _ rfl _ _ _ _ rfl rfl hre ?_
        refine hK _ _ (fun _ => cell_of_at KE.out 1) ?_
        clear hK K hre
        refine AnyT.run (i := 9) (by kernel_rfl) rfl rfl (fun K hK => ?_)
        go_simp
        refine hK _ _ (fun h => absurd h (by rw [show more _ _ = false from by kernel_rfl]; decide)) ?_
        clear hK K
        refine AnyT.done (by kernel_rfl) ?_ _
        have HATE : Hid (we.heap[A]? = some (.cells #[.bool false, .slice cp cn cc, .slice kp kn kc, .slice qp qn qc] 26 (0, 0))) := HM0E.out.at HA0W.out (by simp)
        have HCB : Hid (cellBytes (⟨xl, yl, sz, hd⟩ : Cl) = (xn : Int) :: (xl ++ (be 2 (yn : Int) ++ yl))) := by
          unfold Hid cellBytes valBytes; simp only; rw [if_pos HZ.out, HXN.out, HYN.out]
        have HTK : Hid ((cs.take (i + 1)).flatMap cellBytes = (cs.take i).flatMap cellBytes ++ cellBytes (⟨xl, yl, sz, hd⟩ : Cl)) := by
          obtain ⟨h1, h2⟩ := List.getElem?_eq_some_iff.1 HX.out
          unfold Hid; rw [List.take_succ_eq_append_getElem h1, List.flatMap_append, h2]; simp
        have HNE : Hid (M + 2 + yn = 3 + ((cs.take (i + 1)).flatMap cellBytes).length) := by
          unfold Hid; rw [HTK.out, HCB.out, HMM.out, HML.out]; simp [be_len, HXN.out, HYN.out]; omega
        have HLE : Hid (L ++ be 2 (yn : Int) ++ yl = 1 :: (be 2 (cn : Int) ++ (cs.take (i + 1)).flatMap cellBytes)) := by
          unfold Hid; rw [HTK.out, HCB.out, HLL.out]; simp
        rw [HLE.out] at HTE
        clear h91 h92 hbsb
        go_wp2
        go_roundw
        case rel => exact ⟨i + 1, M + 2 + yn, ce, pe, by omega, by go_num, rfl, HNE.out, HTE.out, HATE.out, HM0E.out⟩
        case measure => simp [intOf]; omega
      · have hzb : (sz == 0) = false := by simpa using hz
        obtain ⟨⟨z1, z2⟩, ⟨z3, z4⟩, z5⟩ := (mayCl_spec HMC.out).2 hz
        simp only at z1 z2 z3 z4 z5
        have HZ := Lib.hid hz
        obtain ⟨B0, hB0⟩ : ∃ B0, B0 = w9.heap.size := ⟨_, rfl⟩
        have HB0 := Lib.hid hB0
        have HOB : ∀ x ∈ (p9.map (fun a : Addr => a.block)).toList, x < B0 := fun x hx => by
          cases p9 with
          | none => simp at hx
          | some a => simp at hx; have := (HT9.out.own a rfl).2.2; rw [hB0]; omega
        obtain ⟨BB, hBB⟩ : ∃ BB, BB = A + 1 := ⟨_, rfl⟩
        have HBB : Hid (W0.heap.size = BB) := by rw [hBB]; exact HWS.out
        have HT9' : Hid (TlC C w9 BB 1 p9 M c9 (bs L)) := ⟨by rw [hBB]; exact HT9.out, fun a ha => (HB9.out a ha).1⟩
        have HS0 : Hid (ModC C (.cells #[.slice xp xn xc, .slice yp yn yc, .int .i64 sz, .int .i64 hd] 57 (0, 0)) W0 w9) := ⟨HM09.out, K9.out⟩
        clear hz hB0 hBB HT9 HB9 z5
        go_wp2
        refine par_region2 (by kernel_rfl) (fun ls oi vs w => qlR p9 M c9 B0 BB C L sz hd ls vs oi w) (fun ls w' => ModC C (.cells #[.slice xp xn xc, .slice yp yn yc, .int .i64 sz, .int .i64 hd] 57 (0, 0)) W0 w' ∧ B0 ≤ w'.heap.size ∧ (ls.getD 4 true = true ∨ TlC C w' BB 1 p9 M c9 (bs L))) (by kernel_rfl) (fun ls j vs vs' w o ho h1 hd h2 => qlR_loc h1  h2) ⟨⟨⟨⟨⟨⟨⟨⟨⟨⟨⟨⟨trivial, ?_⟩, ?_⟩, ?_⟩, ?_⟩, ?_⟩, ?_⟩, ?_⟩, ?_⟩, ?_⟩, ?_⟩, ?_⟩, ?_⟩ ⟨HS0.out.same (Mod.of_drew w9), (by rw [HB0.out]; exact Nat.le_refl _), Or.inr (HT9'.out.mod (Mod.of_drew w9) (by simp))⟩ ?_
        · intro o ho listed vs a w' inv hun haft K hK
          obtain rfl := Option.some.inj ho
          refine par_run rfl ?_
          have hun' : ∀ h : listed.getD 0 true = true, False := fun h => by rw [hun] at h; cases h
          have e0 := inv.oldU hun 5 11 [10, 8, 4, 0] (by kernel_rfl) (by kernel_rfl)
          have INV := Lib.hid inv
          clear inv haft hun ho
          simp at e0
          have MO : ∀ k, listed.getD k true = true → (listed.setIfInBounds 0 true).getD k true = true := fun k h => set_mono h
          go_simp
          exact hK _ _ ⟨INV.out.inv.1, INV.out.inv.2.1, INV.out.inv.2.2.imp (MO _) id⟩ (fun j hj hl => qlR_keep (Mod.refl _ _) MO (INV.out.val j hj hl)) rfl
        · intro o ho listed vs a w' inv hun haft K hK
          obtain rfl := Option.some.inj ho
          refine par_run rfl ?_
          have hun' : ∀ h : listed.getD 1 true = true, False := fun h => by rw [hun] at h; cases h
          have e0 := inv.old 7 (by kernel_rfl)
          have INV := Lib.hid inv
          clear inv haft hun ho
          simp at e0
          have MO : ∀ k, listed.getD k true = true → (listed.setIfInBounds 1 true).getD k true = true := fun k h => set_mono h
          go_simp
          exact hK _ _ ⟨INV.out.inv.1, INV.out.inv.2.1, INV.out.inv.2.2.imp (MO _) id⟩ (fun j hj hl => qlR_keep (Mod.refl _ _) MO (INV.out.val j hj hl)) rfl
        · intro o ho listed vs a w' inv hun haft K hK
          obtain rfl := Option.some.inj ho
          refine par_run rfl ?_
          have hun' : ∀ h : listed.getD 2 true = true, False := fun h => by rw [hun] at h; cases h
          obtain ⟨e0, r0⟩ := inv.get haft 1 100 (by kernel_rfl) (by kernel_rfl)
          have INV := Lib.hid inv
          clear inv haft hun ho
          change vs 1 = .pointer (some ⟨C, 2, none⟩) at r0
          rw [r0] at e0
          have g0 := getD_opt e0
          have cy : w'.cell? ⟨C, 2, none⟩ = some (.int .i64 sz) := cell_of_at INV.out.inv.1.at_ 2
          have MO : ∀ k, listed.getD k true = true → (listed.setIfInBounds 2 true).getD k true = true := fun k h => set_mono h
          go_simp
          exact hK _ _ ⟨INV.out.inv.1, INV.out.inv.2.1, INV.out.inv.2.2.imp (MO _) id⟩ (fun j hj hl => qlR_keep (Mod.refl _ _) MO (INV.out.val j hj hl)) rfl
        · intro o ho listed vs a w' inv hun haft K hK
          obtain rfl := Option.some.inj ho
          refine par_run rfl ?_
          have hun' : ∀ h : listed.getD 3 true = true, False := fun h => by rw [hun] at h; cases h
          obtain ⟨e0, r0⟩ := inv.get haft 2 101 (by kernel_rfl) (by kernel_rfl)
          have INV := Lib.hid inv
          clear inv haft hun ho
          change vs 2 = .int .i64 sz at r0
          rw [r0] at e0
          have g0 := getD_opt e0
          have MO : ∀ k, listed.getD k true = true → (listed.setIfInBounds 3 true).getD k true = true := fun k h => set_mono h
          go_simp
          refine (qbigt_any sz 2 _ (by omega) (by omega) (by simp)).mono ?_
          rintro _ w3 ⟨_, rfl, p3, c3, rfl, t3, m3⟩
          exact hK _ _ ⟨INV.out.inv.1.same m3, Nat.le_trans INV.out.inv.2.1 m3.size, INV.out.inv.2.2.imp (MO _) (fun h => h.mod m3 (by simp))⟩ (fun j hj hl => qlR_keep m3 MO (INV.out.val j hj hl)) ⟨_, _, rfl, Or.inr ⟨t3.base_le INV.out.inv.2.1, fun a ha => by have := (t3.own a ha).2.1; have := INV.out.inv.1.lt; omega⟩⟩
        · intro o ho listed vs a w' inv hun haft K hK
          obtain rfl := Option.some.inj ho
          refine par_run rfl ?_
          have hun' : ∀ h : listed.getD 4 true = true, False := fun h => by rw [hun] at h; cases h
          obtain ⟨e0, r0⟩ := inv.get haft 0 99 (by kernel_rfl) (by kernel_rfl)
          obtain ⟨e1, r1⟩ := inv.get haft 3 102 (by kernel_rfl) (by kernel_rfl)
          have un4 : listed.getD 4 true = false := hun
          have un8 : listed.getD 8 true = false := inv.unlisted hun [4] 8 (by kernel_rfl)
          have un10 : listed.getD 10 true = false := inv.unlisted hun [8,4] 10 (by kernel_rfl)
          have un11 : listed.getD 11 true = false := inv.unlisted hun [10,8,4] 11 (by kernel_rfl)
          have ld3 : listed.getD 3 true = true := ParInv2.lst haft 3 (by kernel_rfl)
          have INV := Lib.hid inv
          clear inv haft hun ho
          change vs 0 = .slice p9 M c9 at r0
          rw [r0] at e0
          have g0 := getD_opt e0
          obtain ⟨p1, c1, h1, t1⟩ := r1
          rw [h1] at e1
          have s1 := t1.resolve_left hun'
          have g1 := getD_opt e1
          have MO : ∀ k, listed.getD k true = true → (listed.setIfInBounds 4 true).getD k true = true := fun k h => set_mono h
          obtain ⟨p', c', w3, hr, ht', hm3, hn', hb'⟩ := appc_bytes w' INV.out.inv.1.lt BB p9 M c9 L (INV.out.inv.2.2.resolve_left hun') p1 _ c1 _ s1.sl (by omega) (by rw [← HBB.out]; exact INV.out.inv.1.size)
          have M3 := Lib.hid (TlC.turned ((INV.out.inv.2.2.resolve_left hun')) (by rw [← HBB.out]) hm3 INV.out.inv.1)
          refine oper_append_run _ _ _ _ rfl _ _ _ _ (by simpa [Act.eval] using g0) (by simpa [Act.eval] using g1) hr ?_
          refine hK _ _ ⟨M3.out, Nat.le_trans INV.out.inv.2.1 hm3.size, Or.inl (set_self)⟩ (fun j hj hl => qlR_app4 hm3 HOB MO set_self hl un4 un8 un10 un11 (INV.out.val j hj hl)) ⟨_, _, rfl, ?_⟩
          exact Or.inr ht'
        · intro o ho listed vs a w' inv hun haft K hK
          obtain rfl := Option.some.inj ho
          refine par_run rfl ?_
          have hun' : ∀ h : listed.getD 5 true = true, False := fun h => by rw [hun] at h; cases h
          have e0 := inv.old 7 (by kernel_rfl)
          have INV := Lib.hid inv
          clear inv haft hun ho
          simp at e0
          have MO : ∀ k, listed.getD k true = true → (listed.setIfInBounds 5 true).getD k true = true := fun k h => set_mono h
          go_simp
          exact hK _ _ ⟨INV.out.inv.1, INV.out.inv.2.1, INV.out.inv.2.2.imp (MO _) id⟩ (fun j hj hl => qlR_keep (Mod.refl _ _) MO (INV.out.val j hj hl)) rfl
        · intro o ho listed vs a w' inv hun haft K hK
          obtain rfl := Option.some.inj ho
          refine par_run rfl ?_
          have hun' : ∀ h : listed.getD 6 true = true, False := fun h => by rw [hun] at h; cases h
          obtain ⟨e0, r0⟩ := inv.get haft 5 104 (by kernel_rfl) (by kernel_rfl)
          have INV := Lib.hid inv
          clear inv haft hun ho
          change vs 5 = .pointer (some ⟨C, 3, none⟩) at r0
          rw [r0] at e0
          have g0 := getD_opt e0
          have cy : w'.cell? ⟨C, 3, none⟩ = some (.int .i64 hd) := cell_of_at INV.out.inv.1.at_ 3
          have MO : ∀ k, listed.getD k true = true → (listed.setIfInBounds 6 true).getD k true = true := fun k h => set_mono h
          go_simp
          exact hK _ _ ⟨INV.out.inv.1, INV.out.inv.2.1, INV.out.inv.2.2.imp (MO _) id⟩ (fun j hj hl => qlR_keep (Mod.refl _ _) MO (INV.out.val j hj hl)) rfl
        · intro o ho listed vs a w' inv hun haft K hK
          obtain rfl := Option.some.inj ho
          refine par_run rfl ?_
          have hun' : ∀ h : listed.getD 7 true = true, False := fun h => by rw [hun] at h; cases h
          obtain ⟨e0, r0⟩ := inv.get haft 6 105 (by kernel_rfl) (by kernel_rfl)
          have INV := Lib.hid inv
          clear inv haft hun ho
          change vs 6 = .int .i64 hd at r0
          rw [r0] at e0
          have g0 := getD_opt e0
          have MO : ∀ k, listed.getD k true = true → (listed.setIfInBounds 7 true).getD k true = true := fun k h => set_mono h
          go_simp
          refine (qbigt_any hd 4 _ (by omega) (by omega) (by simp)).mono ?_
          rintro _ w3 ⟨_, rfl, p3, c3, rfl, t3, m3⟩
          exact hK _ _ ⟨INV.out.inv.1.same m3, Nat.le_trans INV.out.inv.2.1 m3.size, INV.out.inv.2.2.imp (MO _) (fun h => h.mod m3 (by simp))⟩ (fun j hj hl => qlR_keep m3 MO (INV.out.val j hj hl)) ⟨_, _, rfl, Or.inr ⟨t3.base_le INV.out.inv.2.1, fun a ha => by have := (t3.own a ha).2.1; have := INV.out.inv.1.lt; omega⟩⟩
        · intro o ho listed vs a w' inv hun haft K hK
          obtain rfl := Option.some.inj ho
          refine par_run rfl ?_
          have hun' : ∀ h : listed.getD 8 true = true, False := fun h => by rw [hun] at h; cases h
          obtain ⟨e0, r0⟩ := inv.get haft 4 103 (by kernel_rfl) (by kernel_rfl)
          obtain ⟨e1, r1⟩ := inv.get haft 7 106 (by kernel_rfl) (by kernel_rfl)
          have un8 : listed.getD 8 true = false := hun
          have un10 : listed.getD 10 true = false := inv.unlisted hun [8] 10 (by kernel_rfl)
          have un11 : listed.getD 11 true = false := inv.unlisted hun [10,8] 11 (by kernel_rfl)
          have ld4 : listed.getD 4 true = true := ParInv2.lst haft 4 (by kernel_rfl)
          have ld7 : listed.getD 7 true = true := ParInv2.lst haft 7 (by kernel_rfl)
          have ld3 : listed.getD 3 true = true := inv.lstTo [3] 4 3 (by kernel_rfl) ld4
          have INV := Lib.hid inv
          clear inv haft hun ho
          obtain ⟨p0, c0, h0, t0⟩ := r0
          rw [h0] at e0
          have s0 := t0.resolve_left hun'
          have g0 := getD_opt e0
          obtain ⟨p1, c1, h1, t1⟩ := r1
          rw [h1] at e1
          have s1 := t1.resolve_left hun'
          have g1 := getD_opt e1
          have MO : ∀ k, listed.getD k true = true → (listed.setIfInBounds 8 true).getD k true = true := fun k h => set_mono h
          obtain ⟨p', c', w3, hr, ht', hm3, hn', hb'⟩ := appc_bytes w' INV.out.inv.1.lt BB p0 _ c0 _ s0 p1 _ c1 _ s1.sl (by omega) (by rw [← HBB.out]; exact INV.out.inv.1.size)
          have M3 := Lib.hid (TlC.turned (s0) (by rw [← HBB.out]) hm3 INV.out.inv.1)
          refine oper_append_run _ _ _ _ rfl _ _ _ _ (by simpa [Act.eval] using g0) (by simpa [Act.eval] using g1) hr ?_
          refine hK _ _ ⟨M3.out, Nat.le_trans INV.out.inv.2.1 hm3.size, Or.inl (MO _ ld4)⟩ (fun j hj hl => qlR_app8 hm3 (TlC.not_lit s0 (by omega)) MO (MO _ ld4) set_self hl un8 un10 un11 (INV.out.val j hj hl)) ⟨_, _, rfl, ?_⟩
          exact Or.inr ht'
        · intro o ho listed vs a w' inv hun haft K hK
          obtain rfl := Option.some.inj ho
          refine par_run rfl ?_
          have hun' : ∀ h : listed.getD 9 true = true, False := fun h => by rw [hun] at h; cases h
          have INV := Lib.hid inv
          clear inv haft hun ho
          have MO : ∀ k, listed.getD k true = true → (listed.setIfInBounds 9 true).getD k true = true := fun k h => set_mono h
          go_simp
          exact hK _ _ ⟨INV.out.inv.1.same (Mod.of_alloc _ _), Nat.le_trans INV.out.inv.2.1 (Mod.of_alloc _ _).size, INV.out.inv.2.2.imp (MO _) (fun h => h.mod (Mod.of_alloc _ _) (by simp))⟩ (fun j hj hl => qlR_keep (Mod.of_alloc _ _) MO (INV.out.val j hj hl)) ⟨_, _, rfl, Or.inr ⟨(Sl.of_own (own_row w' (bs [0, 0]) 5 B0 INV.out.inv.2.1 (by rw [bs_len]; simp [maxLen])) (bs_one _)).1, fun a ha => by cases ha; exact ⟨rfl, INV.out.inv.2.1, by simp⟩, fun a ha => by cases ha; exact ⟨_, at_alloc w' _, rfl⟩⟩⟩
        · intro o ho listed vs a w' inv hun haft K hK
          obtain rfl := Option.some.inj ho
          refine par_run rfl ?_
          have hun' : ∀ h : listed.getD 10 true = true, False := fun h => by rw [hun] at h; cases h
          obtain ⟨e0, r0⟩ := inv.get haft 8 107 (by kernel_rfl) (by kernel_rfl)
          obtain ⟨e1, r1⟩ := inv.get haft 9 108 (by kernel_rfl) (by kernel_rfl)
          have un10 : listed.getD 10 true = false := hun
          have un11 : listed.getD 11 true = false := inv.unlisted hun [10] 11 (by kernel_rfl)
          have ld8 : listed.getD 8 true = true := ParInv2.lst haft 8 (by kernel_rfl)
          have ld9 : listed.getD 9 true = true := ParInv2.lst haft 9 (by kernel_rfl)
          have ld4 : listed.getD 4 true = true := inv.lstTo [4] 8 4 (by kernel_rfl) ld8
          have ld7 : listed.getD 7 true = true := inv.lstTo [7] 8 7 (by kernel_rfl) ld8
          have ld3 : listed.getD 3 true = true := inv.lstTo [3] 4 3 (by kernel_rfl) ld4
          have INV := Lib.hid inv
          clear inv haft hun ho
          obtain ⟨p0, c0, h0, t0⟩ := r0
          rw [h0] at e0
          have s0 := t0.resolve_left hun'
          have g0 := getD_opt e0
          obtain ⟨p1, c1, h1, t1⟩ := r1
          rw [h1] at e1
          have s1 := t1.resolve_left hun'
          have g1 := getD_opt e1
          have MO : ∀ k, listed.getD k true = true → (listed.setIfInBounds 10 true).getD k true = true := fun k h => set_mono h
          obtain ⟨p', c', w3, hr, ht', hm3, hn', hb'⟩ := appc_bytes w' INV.out.inv.1.lt BB p0 _ c0 _ s0 p1 _ c1 _ s1.sl (by omega) (by rw [← HBB.out]; exact INV.out.inv.1.size)
          have M3 := Lib.hid (TlC.turned (s0) (by rw [← HBB.out]) hm3 INV.out.inv.1)
          refine oper_append_run _ _ _ _ rfl _ _ _ _ (by simpa [Act.eval] using g0) (by simpa [Act.eval] using g1) hr ?_
          refine hK _ _ ⟨M3.out, Nat.le_trans INV.out.inv.2.1 hm3.size, Or.inl (MO _ ld4)⟩ (fun j hj hl => qlR_app10 hm3  MO (MO _ ld4) (MO _ ld8) set_self hl un10 un11 (INV.out.val j hj hl)) ⟨_, _, rfl, ?_⟩
          exact ht'
        · intro o ho listed vs a w' inv hun haft K hK
          obtain rfl := Option.some.inj ho
          refine par_run rfl ?_
          have hun' : ∀ h : listed.getD 11 true = true, False := fun h => by rw [hun] at h; cases h
          obtain ⟨e0, r0⟩ := inv.get haft 10 109 (by kernel_rfl) (by kernel_rfl)
          have INV := Lib.hid inv
          clear inv haft hun ho
          obtain ⟨p0, c0, h0, t0⟩ := r0
          rw [h0] at e0
          have s0 := t0
          have g0 := getD_opt e0
          have MO : ∀ k, listed.getD k true = true → (listed.setIfInBounds 11 true).getD k true = true := fun k h => set_mono h
          go_simp
          exact hK _ _ ⟨INV.out.inv.1, INV.out.inv.2.1, INV.out.inv.2.2.imp (MO _) id⟩ (fun j hj hl => qlR_keep (Mod.refl _ _) MO (INV.out.val j hj hl)) ⟨_, _, rfl, s0⟩
        intro ls vs w2 X hall hm hr hslot hold hsize hdef
        have er := hslot 11 5 (by kernel_rfl)
        obtain ⟨p8, c8, h9, T9⟩ := hr 11 (by decide)
        rw [h9] at er
        clear h9
        have MR := Lib.hid hm
        obtain ⟨g, hX, hg⟩ := frame_mix [false, false, false, false, false, true, false, false, false, false, false, false, false, false, false, false, false, false, false, false, false, false, false, false, false, false, false, false, false, false, false, false, false, false, false, false, false, false, false, false, false, false, false, false, false, false, false, false, false, false, false, false, false, false, false, false, false, false, false, false, false, false, false, false, false, false, false, false, false, false, false, false, false, false, false, false, false, false, false, false, false, false, false, false, false, false, false, false, false, false, false, false, false, false, false, false, false, false, false, true, true, true, true, true, true, true, true, true, true, true, false] (by rfl) hsize hdef hold (by kernel_rfl)
        rw [hg] at er
        clear hr hslot hold hm hg hsize hdef
        subst hX
        dsimp only [mixF]
        rw [er]
        clear er
        have HTE := Lib.hid T9
        have HMR := Lib.hid MR.1
        clear T9 MR
        have HATE : Hid (w2.heap[A]? = some (.cells #[.bool false, .slice cp cn cc, .slice kp kn kc, .slice qp qn qc] 26 (0, 0))) := HMR.out.m.at HA0W.out (by simp)
        have HCB : Hid (cellBytes (⟨xl, yl, sz, hd⟩ : Cl) = (xn : Int) :: (xl ++ (be 2 sz ++ (be 4 hd ++ [0, 0])))) := by
          unfold Hid cellBytes valBytes; simp only; rw [if_neg HZ.out, HXN.out]
        have HTK : Hid ((cs.take (i + 1)).flatMap cellBytes = (cs.take i).flatMap cellBytes ++ cellBytes (⟨xl, yl, sz, hd⟩ : Cl)) := by
          obtain ⟨h1, h2⟩ := List.getElem?_eq_some_iff.1 HX.out
          unfold Hid; rw [List.take_succ_eq_append_getElem h1, List.flatMap_append, h2]; simp
        have HNE : Hid (M + 2 + 4 + 2 = 3 + ((cs.take (i + 1)).flatMap cellBytes).length) := by
          unfold Hid; rw [HTK.out, HCB.out, HMM.out, HML.out]; simp [be_len, HXN.out]; omega
        have HLE : Hid (L ++ be 2 sz ++ be 4 hd ++ [0, 0] = 1 :: (be 2 (cn : Int) ++ (cs.take (i + 1)).flatMap cellBytes)) := by
          unfold Hid; rw [HTK.out, HCB.out, HLL.out]; simp
        have HTF : Hid (Tl w2 (A + 1) 1 p8 (M + 2 + 4 + 2) c8 (bs (1 :: (be 2 (cn : Int) ++ (cs.take (i + 1)).flatMap cellBytes)))) := by
          unfold Hid; rw [← HLE.out, ← HWS.out, HBB.out]; exact HTE.out.tl
        clear h92 HTE
        go_wp2
        go_roundw
        case rel => exact ⟨i + 1, M + 2 + 4 + 2, c8, p8, by omega, by go_num, rfl, HNE.out, HTF.out, HATE.out, HMR.out.m⟩
        case measure => simp [intOf]; omega
    · obtain rfl : i = cn := by omega
      have HFIN : Hid (QPayR (payLeaf cs) w (.slice o m d) wr) := by
        have e : cs.take i = cs := List.take_of_length_le (by rw [HXL.out]; omega)
        have h1 := OT.out
        have h2 := HML.out
        rw [e] at h1 h2
        refine ⟨o, m, d, rfl, ?_, ?_, HM0.out.same HM.out⟩
        · rw [HPV.out, h2]; simp [be_len]; omega
        · rw [HPV.out]; exact h1.sl
      go_wp2
      go_ret
      exact .mk HFIN.out
end Go.Proofs.YtgimdodbajhpoaaGreatDoor
