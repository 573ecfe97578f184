/- What a leaf's page says. -/
import Derived.Test.YtgimdodbajhpoaaGreatDoorG38
namespace Go.Proofs.YtgimdodbajhpoaaGreatDoor
open Go.RowKit Go.Maps
set_option linter.unusedSimpArgs false
set_option linter.unusedVariables false

def lpayR (q : Option Addr) (m d A : Nat) (kp : Option Addr) (kn kc : Nat) (ip : Option Addr) (im ic : Nat) (sz hd : Int) (VL : Nat) (VB : List Int) (ML : Nat) (BB : List Int) (oi : Nat) (v : Value) (w : World) : Prop :=
  match oi with
  | 0 => v = .slice q m d
  | 1 => v = .pointer (some ⟨A, 0, none⟩)
  | 2 => v = .slice kp kn kc
  | 3 => v = .int .i64 kn
  | 4 => v = .int .u8 kn
  | 5 => ∃ p c, v = .slice p 1 c ∧ Sl w 1 p 1 c (bs [(kn : Int)]) ∧ p ≠ none
  | 6 => v = .pointer (some ⟨A, 0, none⟩)
  | 7 => v = .slice kp kn kc
  | 8 => v = .agg #[.slice kp kn kc, .slice ip im ic, .int .i64 sz, .int .i64 hd]
  | 9 => ∃ p c, v = .slice p VL c ∧ Sl w 1 p VL c (bs VB) ∧ p ≠ none
  | 10 => ∃ p l, v = .slice p 4 4 ∧ PartsAt w p 4 4 l ∧ flat l = BB
  | 11 => ∃ p c, v = .slice p ML c ∧ Sl w 1 p ML c (bs BB) ∧ p ≠ none
  | 12 => ∃ p c, v = .slice p ML c ∧ Sl w 1 p ML c (bs BB) ∧ p ≠ none
  | _ => True
theorem lpayR_keep {q : Option Addr} {m d A : Nat} {kp : Option Addr} {kn kc : Nat} {ip : Option Addr} {im ic : Nat} {sz hd : Int} {VL : Nat} {VB : List Int} {ML : Nat} {BB : List Int} {oi : Nat} {v : Value} {w w' : World} (hm : Mod [] w w') (hr : lpayR q m d A kp kn kc ip im ic sz hd VL VB ML BB oi v w) : lpayR q m d A kp kn kc ip im ic sz hd VL VB ML BB oi v w' := by
  have hk := Keep.of_mod hm
  unfold lpayR at hr ⊢
  split at hr
  · exact hr
  · exact hr
  · exact hr
  · exact hr
  · exact hr
  · obtain ⟨p, c, h1, h2, h3⟩ := hr; exact ⟨p, c, h1, h2.keep hk, h3⟩
  · exact hr
  · exact hr
  · exact hr
  · obtain ⟨p, c, h1, h2, h3⟩ := hr; exact ⟨p, c, h1, h2.keep hk, h3⟩
  · obtain ⟨p, l, h1, h2, h3⟩ := hr; exact ⟨p, l, h1, ⟨h2.sl.keep hk, fun x hx => (h2.each x hx).keep hk⟩, h3⟩
  · obtain ⟨p, c, h1, h2, h3⟩ := hr; exact ⟨p, c, h1, h2.keep hk, h3⟩
  · obtain ⟨p, c, h1, h2, h3⟩ := hr; exact ⟨p, c, h1, h2.keep hk, h3⟩
  · trivial
set_option maxRecDepth 100000 in
set_option maxHeartbeats 8000000 in
theorem leafpay_any (L : Nat) (xs : List Cv) (w : World) (h : LeafAt w L xs) (hb : leafLen (xs.map Cv.pl) ≤ 1000000000000) :
    Calls Tryz.prog 131 #[.pointer (some ⟨L, 0, none⟩)] w (Ret (NPayR (payLeaf (xs.map Cv.pl)) w)) := by
  have HMAY := Lib.hid (leafmay_any L xs w h hb)
  obtain ⟨p, n, c, hat, hx⟩ := h
  have hxl := hx.len
  have HP0 : Hid (mayLeaf (xs.map Cv.pl) = false → payLeaf (xs.map Cv.pl) = []) := fun h => by unfold payLeaf; rw [h]; rfl
  have HP1 : Hid (mayLeaf (xs.map Cv.pl) = true → payLeaf (xs.map Cv.pl) = leafBytes (xs.map Cv.pl)) := fun h => by unfold payLeaf; rw [if_pos h]
  have HSP : Hid (mayLeaf (xs.map Cv.pl) = true → n ≤ 400 ∧ leafLen (xs.map Cv.pl) ≤ 1016 ∧ ∀ (i : Nat) c, (xs.map Cv.pl)[i]? = some c → mayCl c = true ∧ c.key.length ≤ 100) := fun h => by
    obtain ⟨h1, h2, h3⟩ := mayLeaf_spec h
    refine ⟨?_, h3, fun i c hc => ⟨h1 c (List.mem_of_getElem? hc), (riseL_key h2 (List.mem_map.2 ⟨c, List.mem_of_getElem? hc, rfl⟩)).2⟩⟩
    have h4 := lsum_len (xs.map Cv.pl)
    rw [List.length_map, hxl] at h4
    unfold leafLen at h3; omega
  obtain ⟨b, off, hp, hcs⟩ := hx.sl.at_
  have hcm := hx.sl.capm; have hle := hx.sl.le
  unfold maxLen at hcm
  have hidx := fun W => Sl.idx (P := Tryz.prog) (cap := c) Tryz.underlying79 sizeCells (fun h => (hp h).1) W .i64
  have HLT : Hid (0 < n → b < w.heap.size) := fun h => (hp h).2
  have HG := Lib.hid (fun i hi => hx.get hcs i hi)
  have HLN : Hid ((xs.map Cv.pl).length = n) := by unfold Hid; rw [List.length_map]; exact hxl
  have HLB : Hid (leafBytes (xs.map Cv.pl) = 1 :: (be 2 n ++ ((xs.map Cv.pl).take n).flatMap cellBytes)) := by unfold Hid leafBytes; rw [HLN.out, List.take_of_length_le (by rw [HLN.out]; omega)]
  have HLE := Lib.hid (lsum_take_le (xs.map Cv.pl))
  have HST : Hid (∀ i c, (xs.map Cv.pl)[i]? = some c → lsum ((xs.map Cv.pl).take (i + 1)) = lsum ((xs.map Cv.pl).take i) + clLen c ∧ ((xs.map Cv.pl).take (i + 1)).flatMap cellBytes = ((xs.map Cv.pl).take i).flatMap cellBytes ++ cellBytes c) := fun i c h => by
    obtain ⟨h1, h2⟩ := List.getElem?_eq_some_iff.1 h
    refine ⟨by rw [lsum_take h1, h2], ?_⟩
    rw [List.take_succ_eq_append_getElem h1, h2, List.flatMap_append]; simp
  have HFL : Hid (∀ i, (((xs.map Cv.pl).take i).flatMap cellBytes).length = lsum ((xs.map Cv.pl).take i)) := fun i => flatCells_len _
  have HAT := Lib.hid hat
  generalize xs.map Cv.pl = cs at *
  clear hat hx hp hcs hxl hb
  go_enter Tryz.func131, Tryz.ntmps131
  go_wp2_with fail
  refine HMAY.out.mono ?_
  rintro _ w1 ⟨_, rfl, rfl, m1⟩
  have HM1 := Lib.hid m1
  have HAT1 := Lib.hid (m1.at HAT.out (by simp))
  clear m1 HMAY HAT
  cases hB : mayLeaf cs with
  | false =>
    have HP := Lib.hid (HP0.out hB)
    clear hB
    go_wp2
    go_ret
    exact .mk ⟨none, 0, 0, rfl, by rw [HP.out]; rfl, by rw [HP.out]; simp, by rw [HP.out]; exact Sl.nil _ _, HM1.out⟩
  | true =>
    have HP := Lib.hid (HP1.out hB)
    obtain ⟨hn4, hlb, hcl⟩ := HSP.out hB
    have HCL := Lib.hid hcl
    have hlb2 : 3 + lsum cs ≤ 1016 := hlb
    have HB2 := Lib.hid (be2_of (n := n) (by omega) (by omega))
    have c0 : w1.cell? ⟨L, 0, none⟩ = some (.slice p n c) := cell_of_at HAT1.out 0
    have hw8 : IntKind.u8.wrap ((n : Int) / 256) = (n : Int) / 256 := by rw [IntKind.wrap_u8]; omega
    have hw9 : IntKind.u8.wrap (n : Int) = (n : Int) % 256 := IntKind.wrap_u8 _
    clear hB HP0 HP1 HSP hcl hlb
    go_wp2
    go_region
    have HS2 : Hid (Sl (w1.alloc (.cells #[.int .u8 1, .int .u8 ((n : Int) / 256), .int .u8 ((n : Int) % 256)] 5)).drew 1 (some ⟨w1.heap.size, 0, none⟩) 3 3 (bs (1 :: (be 2 n ++ (cs.take 0).flatMap cellBytes)))) := by
      rw [HB2.out]
      exact (lit_bytes w1 [1, (n : Int) / 256, (n : Int) % 256] 5 (by simp)).mod (Mod.of_drew _) (by simp)
    have HM2 : Hid (Mod [] w (w1.alloc (.cells #[.int .u8 1, .int .u8 ((n : Int) / 256), .int .u8 ((n : Int) % 256)] 5)).drew) := HM1.out.alloc.drew
    have HAT2 := Lib.hid ((Mod.of_drew _).at (at_alloc_other HAT1.out (.cells #[.int .u8 1, .int .u8 ((n : Int) / 256), .int .u8 ((n : Int) % 256)] 5)) (by simp))
    clear c0
    generalize (w1.alloc (.cells #[.int .u8 1, .int .u8 ((n : Int) / 256), .int .u8 ((n : Int) % 256)] 5)).drew = W2 at *
    have c0 : W2.cell? ⟨L, 0, none⟩ = some (.slice p n c) := cell_of_at HAT2.out 0
    go_wp2
    go_loopw [3, 28] (fun o iv wr => ∃ (i m d : Nat) (q : Option Addr), i ≤ n ∧ iv = .int .i64 i ∧ o = .slice q m d ∧ m = 3 + lsum (cs.take i) ∧ q ≠ none ∧ Sl wr 1 q m d (bs (1 :: (be 2 n ++ (cs.take i).flatMap cellBytes))) ∧ Mod [] w wr) (fun _ iv _ => n - (intOf iv).toNat)
    case atStart => exact ⟨0, 3, 3, _, by omega, rfl, rfl, rfl, by simp, HS2.out, HM2.out⟩
    case round =>
      obtain ⟨i, m, d, q, hi, rfl, rfl, hm, hq, hs, hmd⟩ := hrel
      have HMM := Lib.hid hm
      have HQ := Lib.hid hq
      have HS0 := Lib.hid hs
      have HM := Lib.hid hmd
      clear hm hq hs hmd HS2 HM2 c0
      by_cases hlt : i < n
      · obtain ⟨kp, kn, kc, kl, ip, im, ic, il, sz, hd, _, hcl, hk, hii, d0, d1, d2, d3⟩ := HG.out i hlt
        have hbl := HLT.out (by omega)
        rw [← HM.out.cell (a := ⟨b, _, none⟩) hbl (by simp)] at d0 d1 d2 d3
        obtain ⟨hmc, hk100⟩ := HCL.out i _ hcl
        simp only at hk100
        have hkl := hk.len
        have hk1 : kn ≤ 100 := by omega
        obtain ⟨st1, st2⟩ := HST.out i _ hcl
        have hle1 := HLE.out (i + 1)
        have hcb := cellBytes_len ⟨kl, il, sz, hd⟩
        have HMC := Lib.hid hmc
        have HK0 := Lib.hid hk
        have HI0 := Lib.hid hii
        obtain ⟨w5, hw5⟩ : ∃ w5, w5 = wr.alloc (.cells #[.slice kp kn kc, .slice ip im ic, .int .i64 sz, .int .i64 hd] 82) := ⟨_, rfl⟩
        obtain ⟨A, hA⟩ : ∃ A, A = wr.heap.size := ⟨_, rfl⟩
        have HM5 : Hid (Mod [] wr w5) := by rw [hw5]; exact Mod.of_alloc wr _
        have hat5 : w5.heap[A]? = some (.cells #[.slice kp kn kc, .slice ip im ic, .int .i64 sz, .int .i64 hd] 82 (0, 0)) := by rw [hw5, hA]; exact at_alloc wr _
        have HS : Hid (Sl w5 1 q m d (bs (1 :: (be 2 n ++ (cs.take i).flatMap cellBytes)))) := HS0.out.mod HM5.out (by simp)
        have HK : Hid (BytesIn w5 kp kn kc kl) := ⟨hk.sl.mod (HM.out.same HM5.out) (by simp), hk.wf⟩
        have HI : Hid (BytesIn w5 ip im ic il) := ⟨hii.sl.mod (HM.out.same HM5.out) (by simp), hii.wf⟩
        have hc0 : w5.cell? ⟨A, 0, none⟩ = some (.slice kp kn kc) := cell_of_at hat5 0
        have hc1 : w5.cell? ⟨A, 1, none⟩ = some (.slice ip im ic) := cell_of_at hat5 1
        have hc2 : w5.cell? ⟨A, 2, none⟩ = some (.int .i64 sz) := cell_of_at hat5 2
        have hc3 : w5.cell? ⟨A, 3, none⟩ = some (.int .i64 hd) := cell_of_at hat5 3
        have hAl : A < w5.heap.size := lt_of_at hat5
        obtain ⟨VB, hVB⟩ : ∃ VB, VB = valBytes ⟨kl, il, sz, hd⟩ := ⟨_, rfl⟩
        obtain ⟨VL, hVL⟩ : ∃ VL, VL = VB.length := ⟨_, rfl⟩
        have hvlen : 2 ≤ VL := by rw [hVL, hVB, valBytes_len]; split <;> omega
        have HVAL : Hid (∀ w', Mod [] w5 w' → Calls Tryz.prog 132 #[.agg #[.slice kp kn kc, .slice ip im ic, .int .i64 sz, .int .i64 hd]] w' (Ret (ValR VB w'))) := fun w' hm' => by
          rw [hVB]; exact value_any kp kn kc kl ip im ic il sz hd w' ⟨HI.out.sl.mod hm' (by simp), HI.out.wf⟩ HMC.out
        have HVL : Hid (VB.length = VL) := hVL.symm
        obtain ⟨BB, hBB⟩ : ∃ BB, BB = 1 :: (be 2 n ++ (cs.take (i + 1)).flatMap cellBytes) := ⟨_, rfl⟩
        obtain ⟨ML, hML⟩ : ∃ ML, ML = 3 + lsum (cs.take (i + 1)) := ⟨_, rfl⟩
        have HBB : Hid ((1 :: (be 2 n ++ (cs.take i).flatMap cellBytes)) ++ ([(kn : Int)] ++ (kl ++ VB)) = BB) := by
          unfold Hid; rw [hBB, st2, hVB]; unfold cellBytes; rw [hkl]; simp
        have HBL : Hid (ML = BB.length) := by
          unfold Hid; rw [hML, hBB]; simp only [List.length_cons, List.length_append, be_len, HFL.out]; omega
        have HBBE := Lib.hid hBB
        have HMLE := Lib.hid hML
        have hML1 : ML ≤ 1016 := by omega
        have hML0 : 0 < ML := by omega
        have hw10 : IntKind.u8.wrap (kn : Int) = (kn : Int) := by rw [IntKind.wrap_u8]; omega
        have HQ0 := Lib.hid HQ.out
        have HM05 : Hid (Mod [] w w5) := HM.out.same HM5.out
        clear hk hii hcl hmc hk100 hat5 hVB hVL hBB hML st1 st2 hle1 hcb HS0 HK0 HI0
        go_wp2_with fail
        rw [← hw5, ← hA]
        clear hw5 hA d0 d1 d2 d3
        refine par_region (by kernel_rfl) (fun oi vs w => lpayR q m d A kp kn kc ip im ic sz hd VL VB ML BB oi (vs oi) w) (fun w' => Mod [] w5 w') (by kernel_rfl) (fun j vs vs' w o _ h1 _ h2 => by rw [← h1]; exact h2) ⟨⟨⟨⟨⟨⟨⟨⟨⟨⟨⟨⟨⟨trivial, ?_⟩, ?_⟩, ?_⟩, ?_⟩, ?_⟩, ?_⟩, ?_⟩, ?_⟩, ?_⟩, ?_⟩, ?_⟩, ?_⟩, ?_⟩ (Mod.of_drew w5) ?_
        · intro o ho listed vs a w' inv hun haft K hK
          obtain rfl := Option.some.inj ho
          refine par_run rfl ?_
          have e0 := inv.oldU hun 3 12 [11, 10, 0] (by kernel_rfl) (by kernel_rfl)
          have INV := Lib.hid inv
          clear inv haft hun ho
          simp at e0
          go_simp
          exact hK _ _ INV.out.inv INV.out.val rfl
        · intro o ho listed vs a w' inv hun haft K hK
          obtain rfl := Option.some.inj ho
          refine par_run rfl ?_
          have e0 := inv.old 5 (by kernel_rfl)
          have INV := Lib.hid inv
          clear inv haft hun ho
          simp at e0
          go_simp
          exact hK _ _ INV.out.inv INV.out.val rfl
        · intro o ho listed vs a w' inv hun haft K hK
          obtain rfl := Option.some.inj ho
          refine par_run rfl ?_
          obtain ⟨e0, r0⟩ := inv.get haft 1 33 (by kernel_rfl) (by kernel_rfl)
          have INV := Lib.hid inv
          clear inv haft hun ho
          change vs 1 = .pointer (some ⟨A, 0, none⟩) at r0
          rw [r0] at e0
          have g0 := getD_opt e0
          have c0 := (INV.out.inv.cell (a := ⟨A, 0, none⟩) hAl (by simp)).trans hc0
          go_simp
          exact hK _ _ INV.out.inv INV.out.val rfl
        · intro o ho listed vs a w' inv hun haft K hK
          obtain rfl := Option.some.inj ho
          refine par_run rfl ?_
          obtain ⟨e0, r0⟩ := inv.get haft 2 34 (by kernel_rfl) (by kernel_rfl)
          have INV := Lib.hid inv
          clear inv haft hun ho
          change vs 2 = .slice kp kn kc at r0
          rw [r0] at e0
          have g0 := getD_opt e0
          go_simp
          exact hK _ _ INV.out.inv INV.out.val rfl
        · intro o ho listed vs a w' inv hun haft K hK
          obtain rfl := Option.some.inj ho
          refine par_run rfl ?_
          obtain ⟨e0, r0⟩ := inv.get haft 3 35 (by kernel_rfl) (by kernel_rfl)
          have INV := Lib.hid inv
          clear inv haft hun ho
          change vs 3 = .int .i64 kn at r0
          rw [r0] at e0
          have g0 := getD_opt e0
          go_simp
          exact hK _ _ INV.out.inv INV.out.val rfl
        · intro o ho listed vs a w' inv hun haft K hK
          obtain rfl := Option.some.inj ho
          refine par_run rfl ?_
          obtain ⟨e0, r0⟩ := inv.get haft 4 36 (by kernel_rfl) (by kernel_rfl)
          have INV := Lib.hid inv
          clear inv haft hun ho
          change vs 4 = .int .u8 kn at r0
          rw [r0] at e0
          have g0 := getD_opt e0
          go_simp
          exact hK _ _ INV.out.inv.alloc (fun j hj hl => lpayR_keep (Mod.of_alloc _ _) (INV.out.val j hj hl)) ⟨_, _, rfl, lit_bytes _ [(kn : Int)] _ (by simp), by simp⟩
        · intro o ho listed vs a w' inv hun haft K hK
          obtain rfl := Option.some.inj ho
          refine par_run rfl ?_
          have e0 := inv.old 5 (by kernel_rfl)
          have INV := Lib.hid inv
          clear inv haft hun ho
          simp at e0
          go_simp
          exact hK _ _ INV.out.inv INV.out.val rfl
        · intro o ho listed vs a w' inv hun haft K hK
          obtain rfl := Option.some.inj ho
          refine par_run rfl ?_
          obtain ⟨e0, r0⟩ := inv.get haft 6 38 (by kernel_rfl) (by kernel_rfl)
          have INV := Lib.hid inv
          clear inv haft hun ho
          change vs 6 = .pointer (some ⟨A, 0, none⟩) at r0
          rw [r0] at e0
          have g0 := getD_opt e0
          have c0 := (INV.out.inv.cell (a := ⟨A, 0, none⟩) hAl (by simp)).trans hc0
          go_simp
          exact hK _ _ INV.out.inv INV.out.val rfl
        · intro o ho listed vs a w' inv hun haft K hK
          obtain rfl := Option.some.inj ho
          refine par_run rfl ?_
          have e0 := inv.old 5 (by kernel_rfl)
          have INV := Lib.hid inv
          clear inv haft hun ho
          simp at e0
          have c0 := (INV.out.inv.cell (a := ⟨A, 0, none⟩) hAl (by simp)).trans hc0
          have c1 := (INV.out.inv.cell (a := ⟨A, 1, none⟩) hAl (by simp)).trans hc1
          have c2 := (INV.out.inv.cell (a := ⟨A, 2, none⟩) hAl (by simp)).trans hc2
          have c3 := (INV.out.inv.cell (a := ⟨A, 3, none⟩) hAl (by simp)).trans hc3
          go_simp
          exact hK _ _ INV.out.inv INV.out.val rfl
        · intro o ho listed vs a w' inv hun haft K hK
          obtain rfl := Option.some.inj ho
          refine par_run rfl ?_
          obtain ⟨e0, r0⟩ := inv.get haft 8 40 (by kernel_rfl) (by kernel_rfl)
          have INV := Lib.hid inv
          clear inv haft hun ho
          change vs 8 = .agg #[.slice kp kn kc, .slice ip im ic, .int .i64 sz, .int .i64 hd] at r0
          rw [r0] at e0
          have g0 := getD_opt e0
          go_simp
          refine (HVAL _ (INV.out.inv)).mono ?_
          rintro _ w3 ⟨_, rfl, p3, n3, c3, rfl, e3, s3, m3⟩
          obtain rfl : n3 = VL := by rw [e3]; exact HVL.out
          have t3 := s3
          exact hK _ _ (INV.out.inv.same m3) (fun j hj hl => lpayR_keep m3 (INV.out.val j hj hl)) ⟨_, _, rfl, t3, fun e => by obtain ⟨_, _, h, _⟩ := t3.addr (by omega); rw [e] at h; cases h⟩
        · intro o ho listed vs a w' inv hun haft K hK
          obtain rfl := Option.some.inj ho
          refine par_run rfl ?_
          obtain ⟨e0, r0⟩ := inv.get haft 0 32 (by kernel_rfl) (by kernel_rfl)
          obtain ⟨e1, r1⟩ := inv.get haft 5 37 (by kernel_rfl) (by kernel_rfl)
          obtain ⟨e2, r2⟩ := inv.get haft 7 39 (by kernel_rfl) (by kernel_rfl)
          obtain ⟨e3, r3⟩ := inv.get haft 9 41 (by kernel_rfl) (by kernel_rfl)
          have INV := Lib.hid inv
          clear inv haft hun ho
          change vs 0 = .slice q m d at r0
          rw [r0] at e0
          have g0 := getD_opt e0
          obtain ⟨p1, c1, h1, s1, q1⟩ := r1
          rw [h1] at e1
          have g1 := getD_opt e1
          change vs 7 = .slice kp kn kc at r2
          rw [r2] at e2
          have g2 := getD_opt e2
          obtain ⟨p3, c3, h3, s3, q3⟩ := r3
          rw [h3] at e3
          have g3 := getD_opt e3
          have PA : Hid (∀ T, _) := fun T => PartsAt.four' w' T (HS.out.mod INV.out.inv (by simp)) s1 (HK.out.sl.mod INV.out.inv (by simp)) s3
          clear s1 h1 s3 h3
          go_simp
          exact hK _ _ INV.out.inv.alloc (fun j hj hl => lpayR_keep (Mod.of_alloc _ _) (INV.out.val j hj hl)) ⟨_, _, rfl, PA.out _, by rw [flat4']; exact HBB.out⟩
        · intro o ho listed vs a w' inv hun haft K hK
          obtain rfl := Option.some.inj ho
          refine par_run rfl ?_
          obtain ⟨e0, r0⟩ := inv.get haft 10 42 (by kernel_rfl) (by kernel_rfl)
          have INV := Lib.hid inv
          clear inv haft hun ho
          obtain ⟨p0, l0, h0, pa, hfl⟩ := r0
          rw [h0] at e0
          have g0 := getD_opt e0
          go_simp
          refine (concat_any p0 4 4 l0 _ pa (by rw [hfl, ← HBL.out]; omega)).mono ?_
          rintro _ w3 ⟨_, rfl, p3, n3, c3, rfl, e3, s3, m3⟩
          rw [hfl] at e3 s3
          obtain rfl : n3 = ML := by rw [e3]; exact HBL.out.symm
          have t3 := (Sl.of_own s3 (bs_one _)).1
          exact hK _ _ (INV.out.inv.same m3) (fun j hj hl => lpayR_keep m3 (INV.out.val j hj hl)) ⟨_, _, rfl, t3, fun e => by obtain ⟨_, _, h, _⟩ := t3.addr (by omega); rw [e] at h; cases h⟩
        · intro o ho listed vs a w' inv hun haft K hK
          obtain rfl := Option.some.inj ho
          refine par_run rfl ?_
          obtain ⟨e0, r0⟩ := inv.get haft 11 43 (by kernel_rfl) (by kernel_rfl)
          have INV := Lib.hid inv
          clear inv haft hun ho
          obtain ⟨p0, c0, h0, s0, q0⟩ := r0
          rw [h0] at e0
          have g0 := getD_opt e0
          go_simp
          exact hK _ _ INV.out.inv INV.out.val ⟨_, _, rfl, s0, q0⟩
        intro vs w2 X hm hr hslot hold hsize hdef
        have er := hslot 12 3 (by kernel_rfl)
        obtain ⟨p9, c9, h9, s9, q9⟩ := hr 12 (by decide)
        rw [h9] at er
        have SR := Lib.hid s9
        have QR := Lib.hid q9
        clear h9 s9 q9
        have e0 := hold 0 (by kernel_rfl)
        have e1 := hold 1 (by kernel_rfl)
        have e2 := hold 2 (by kernel_rfl)
        have e4 := hold 4 (by kernel_rfl)
        have e5 := hold 5 (by kernel_rfl)
        have e6 := hold 6 (by kernel_rfl)
        have e7 := hold 7 (by kernel_rfl)
        have e8 := hold 8 (by kernel_rfl)
        have e9 := hold 9 (by kernel_rfl)
        have e10 := hold 10 (by kernel_rfl)
        have e11 := hold 11 (by kernel_rfl)
        have e12 := hold 12 (by kernel_rfl)
        have e13 := hold 13 (by kernel_rfl)
        have e14 := hold 14 (by kernel_rfl)
        have e15 := hold 15 (by kernel_rfl)
        have e16 := hold 16 (by kernel_rfl)
        have e17 := hold 17 (by kernel_rfl)
        have e18 := hold 18 (by kernel_rfl)
        have e19 := hold 19 (by kernel_rfl)
        have e20 := hold 20 (by kernel_rfl)
        have e21 := hold 21 (by kernel_rfl)
        have e22 := hold 22 (by kernel_rfl)
        have e23 := hold 23 (by kernel_rfl)
        have e24 := hold 24 (by kernel_rfl)
        have e25 := hold 25 (by kernel_rfl)
        have e26 := hold 26 (by kernel_rfl)
        have e27 := hold 27 (by kernel_rfl)
        have e28 := hold 28 (by kernel_rfl)
        have e29 := hold 29 (by kernel_rfl)
        have e30 := hold 30 (by kernel_rfl)
        have e31 := hold 31 (by kernel_rfl)
        have e44 := hold 44 (by kernel_rfl)
        have e45 := hold 45 (by kernel_rfl)
        simp only [Array.getD_eq_getD_getElem?, List.getElem?_toArray, List.getElem?_cons_zero, List.getElem?_cons_succ, Option.getD_some] at e0 e1 e2 e4 e5 e6 e7 e8 e9 e10 e11 e12 e13 e14 e15 e16 e17 e18 e19 e20 e21 e22 e23 e24 e25 e26 e27 e28 e29 e30 e31 e44 e45
        have MR := Lib.hid hm
        clear hr hslot hold hm
        obtain ⟨⟨xs⟩, df⟩ := X
        replace hdef : df = [] := hdef
        subst hdef
        replace hsize : xs.length = 46 := hsize
        obtain ⟨x0, xs0, rfl, hs0⟩ := cons_of hsize
        obtain ⟨x1, xs1, rfl, hs1⟩ := cons_of hs0
        obtain ⟨x2, xs2, rfl, hs2⟩ := cons_of hs1
        obtain ⟨x3, xs3, rfl, hs3⟩ := cons_of hs2
        obtain ⟨x4, xs4, rfl, hs4⟩ := cons_of hs3
        obtain ⟨x5, xs5, rfl, hs5⟩ := cons_of hs4
        obtain ⟨x6, xs6, rfl, hs6⟩ := cons_of hs5
        obtain ⟨x7, xs7, rfl, hs7⟩ := cons_of hs6
        obtain ⟨x8, xs8, rfl, hs8⟩ := cons_of hs7
        obtain ⟨x9, xs9, rfl, hs9⟩ := cons_of hs8
        obtain ⟨x10, xs10, rfl, hs10⟩ := cons_of hs9
        obtain ⟨x11, xs11, rfl, hs11⟩ := cons_of hs10
        obtain ⟨x12, xs12, rfl, hs12⟩ := cons_of hs11
        obtain ⟨x13, xs13, rfl, hs13⟩ := cons_of hs12
        obtain ⟨x14, xs14, rfl, hs14⟩ := cons_of hs13
        obtain ⟨x15, xs15, rfl, hs15⟩ := cons_of hs14
        obtain ⟨x16, xs16, rfl, hs16⟩ := cons_of hs15
        obtain ⟨x17, xs17, rfl, hs17⟩ := cons_of hs16
        obtain ⟨x18, xs18, rfl, hs18⟩ := cons_of hs17
        obtain ⟨x19, xs19, rfl, hs19⟩ := cons_of hs18
        obtain ⟨x20, xs20, rfl, hs20⟩ := cons_of hs19
        obtain ⟨x21, xs21, rfl, hs21⟩ := cons_of hs20
        obtain ⟨x22, xs22, rfl, hs22⟩ := cons_of hs21
        obtain ⟨x23, xs23, rfl, hs23⟩ := cons_of hs22
        obtain ⟨x24, xs24, rfl, hs24⟩ := cons_of hs23
        obtain ⟨x25, xs25, rfl, hs25⟩ := cons_of hs24
        obtain ⟨x26, xs26, rfl, hs26⟩ := cons_of hs25
        obtain ⟨x27, xs27, rfl, hs27⟩ := cons_of hs26
        obtain ⟨x28, xs28, rfl, hs28⟩ := cons_of hs27
        obtain ⟨x29, xs29, rfl, hs29⟩ := cons_of hs28
        obtain ⟨x30, xs30, rfl, hs30⟩ := cons_of hs29
        obtain ⟨x31, xs31, rfl, hs31⟩ := cons_of hs30
        obtain ⟨x32, xs32, rfl, hs32⟩ := cons_of hs31
        obtain ⟨x33, xs33, rfl, hs33⟩ := cons_of hs32
        obtain ⟨x34, xs34, rfl, hs34⟩ := cons_of hs33
        obtain ⟨x35, xs35, rfl, hs35⟩ := cons_of hs34
        obtain ⟨x36, xs36, rfl, hs36⟩ := cons_of hs35
        obtain ⟨x37, xs37, rfl, hs37⟩ := cons_of hs36
        obtain ⟨x38, xs38, rfl, hs38⟩ := cons_of hs37
        obtain ⟨x39, xs39, rfl, hs39⟩ := cons_of hs38
        obtain ⟨x40, xs40, rfl, hs40⟩ := cons_of hs39
        obtain ⟨x41, xs41, rfl, hs41⟩ := cons_of hs40
        obtain ⟨x42, xs42, rfl, hs42⟩ := cons_of hs41
        obtain ⟨x43, xs43, rfl, hs43⟩ := cons_of hs42
        obtain ⟨x44, xs44, rfl, hs44⟩ := cons_of hs43
        obtain ⟨x45, xs45, rfl, hs45⟩ := cons_of hs44
        obtain rfl := List.eq_nil_of_length_eq_zero hs45
        clear hsize hs0 hs1 hs2 hs3 hs4 hs5 hs6 hs7 hs8 hs9 hs10 hs11 hs12 hs13 hs14 hs15 hs16 hs17 hs18 hs19 hs20 hs21 hs22 hs23 hs24 hs25 hs26 hs27 hs28 hs29 hs30 hs31 hs32 hs33 hs34 hs35 hs36 hs37 hs38 hs39 hs40 hs41 hs42 hs43 hs44 hs45
        rw [show (Array.mk (x0 :: x1 :: x2 :: x3 :: x4 :: x5 :: x6 :: x7 :: x8 :: x9 :: x10 :: x11 :: x12 :: x13 :: x14 :: x15 :: x16 :: x17 :: x18 :: x19 :: x20 :: x21 :: x22 :: x23 :: x24 :: x25 :: x26 :: x27 :: x28 :: x29 :: x30 :: x31 :: x32 :: x33 :: x34 :: x35 :: x36 :: x37 :: x38 :: x39 :: x40 :: x41 :: x42 :: x43 :: x44 :: x45 :: []) : Array Value) = List.toArray (x0 :: x1 :: x2 :: x3 :: x4 :: x5 :: x6 :: x7 :: x8 :: x9 :: x10 :: x11 :: x12 :: x13 :: x14 :: x15 :: x16 :: x17 :: x18 :: x19 :: x20 :: x21 :: x22 :: x23 :: x24 :: x25 :: x26 :: x27 :: x28 :: x29 :: x30 :: x31 :: x32 :: x33 :: x34 :: x35 :: x36 :: x37 :: x38 :: x39 :: x40 :: x41 :: x42 :: x43 :: x44 :: x45 :: []) from rfl]
        change x0 = _ at e0
        subst e0
        change x1 = _ at e1
        subst e1
        change x2 = _ at e2
        subst e2
        change x4 = _ at e4
        subst e4
        change x5 = _ at e5
        subst e5
        change x6 = _ at e6
        subst e6
        change x7 = _ at e7
        subst e7
        change x8 = _ at e8
        subst e8
        change x9 = _ at e9
        subst e9
        change x10 = _ at e10
        subst e10
        change x11 = _ at e11
        subst e11
        change x12 = _ at e12
        subst e12
        change x13 = _ at e13
        subst e13
        change x14 = _ at e14
        subst e14
        change x15 = _ at e15
        subst e15
        change x16 = _ at e16
        subst e16
        change x17 = _ at e17
        subst e17
        change x18 = _ at e18
        subst e18
        change x19 = _ at e19
        subst e19
        change x20 = _ at e20
        subst e20
        change x21 = _ at e21
        subst e21
        change x22 = _ at e22
        subst e22
        change x23 = _ at e23
        subst e23
        change x24 = _ at e24
        subst e24
        change x25 = _ at e25
        subst e25
        change x26 = _ at e26
        subst e26
        change x27 = _ at e27
        subst e27
        change x28 = _ at e28
        subst e28
        change x29 = _ at e29
        subst e29
        change x30 = _ at e30
        subst e30
        change x31 = _ at e31
        subst e31
        change x44 = _ at e44
        subst e44
        change x45 = _ at e45
        subst e45
        change x3 = .slice p9 ML c9 at er
        subst er
        have hwi : IntKind.i64.wrap ((i : Int) + 1) = (i : Int) + 1 := IntWalk.i64_in _ (by omega)
        have HMF : Hid (Mod [] w w2) := HM05.out.same MR.out
        have HSF : Hid (Sl w2 1 p9 ML c9 (bs (1 :: (be 2 n ++ (cs.take (i + 1)).flatMap cellBytes)))) := by rw [← HBBE.out]; exact SR.out
        go_wp2
        go_roundw
        case rel => exact ⟨i + 1, ML, c9, p9, by omega, by go_num, rfl, HMLE.out, QR.out, HSF.out, HMF.out⟩
        case measure => simp [intOf]; omega
      · obtain rfl : i = n := by omega
        have HPF : Hid (payLeaf cs = 1 :: (be 2 i ++ (cs.take i).flatMap cellBytes)) := by rw [HP.out]; exact HLB.out
        have HLF : Hid (m = (payLeaf cs).length) := by
          unfold Hid; rw [HPF.out]; simp only [List.length_cons, List.length_append, be_len, HFL.out]; have := HMM.out; omega
        go_wp2
        go_ret
        exact .mk ⟨q, m, d, rfl, HLF.out, ⟨fun e => absurd e HQ.out, fun e => by rw [HPF.out] at e; cases e⟩, by rw [HPF.out]; exact HS0.out, HM.out⟩
end Go.Proofs.YtgimdodbajhpoaaGreatDoor
