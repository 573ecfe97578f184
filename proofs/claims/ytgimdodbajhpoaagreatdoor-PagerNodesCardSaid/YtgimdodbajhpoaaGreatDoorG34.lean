/- Nodes: how long a branch is; whether its kids may be. Nodes: whether a branch, a leaf may be. -/
import Derived.Test.YtgimdodbajhpoaaGreatDoorG33
namespace Go.Proofs.YtgimdodbajhpoaaGreatDoor
open Go.RowKit Go.Maps
set_option linter.unusedSimpArgs false
set_option linter.unusedVariables false

theorem KeysIn.get {w : World} {p : Option Addr} {n c : Nat} {ks : List Bv} (h : KeysIn w p n c ks) {b off : Nat} (hc : ∀ j u, (ks.map Bv.val)[j]? = some u → w.cell? ⟨b, off + j, none⟩ = some u) (i : Nat) (hi : i < n) :
    ∃ kp kn kc kl, ks[i]? = some ⟨kp, kn, kc, kl⟩ ∧ (ks.map Bv.l)[i]? = some kl ∧ BytesIn w kp kn kc kl ∧ w.cell? ⟨b, off + i, none⟩ = some (.slice kp kn kc) := by
  have hk : i < ks.length := by rw [h.len]; exact hi
  refine ⟨_, _, _, _, List.getElem?_eq_getElem hk, by rw [List.getElem?_map, List.getElem?_eq_getElem hk]; rfl, h.io _ (List.getElem_mem hk), hc i _ (by rw [List.getElem?_map, List.getElem?_eq_getElem hk]; rfl)⟩
set_option maxRecDepth 100000 in
set_option maxHeartbeats 2000000 in
theorem brlen_any (B : Nat) (ks : List Bv) (kids : List Int) (w : World) (h : BrAt w B ks kids) (hb : brLen (ks.map Bv.l) ≤ 1000000000000000000) :
    Calls Tryz.prog 116 #[.pointer (some ⟨B, 0, none⟩)] w (Ret (IntEq (brLen (ks.map Bv.l)) w)) := by
  obtain ⟨p, n, c, q, m, d, hat, hx, -⟩ := h
  have c0 : w.cell? ⟨B, 0, none⟩ = some (.slice p n c) := cell_of_at hat 0
  have hcm := hx.sl.capm; have hle := hx.sl.le
  unfold maxLen at hcm
  obtain ⟨b, off, hp, hcs⟩ := hx.sl.at_
  have hidx := fun W => Sl.idx (P := Tryz.prog) (cap := c) Tryz.underlying23 sizeRows (fun h => (hp h).1) W .i64
  simp only [Nat.mul_one] at hidx
  have HG := Lib.hid (fun i hi => hx.get hcs i hi)
  have HLN : Hid ((ks.map Bv.l).length = n) := by unfold Hid; rw [List.length_map]; exact hx.len
  have HLL : Hid (brLen (ks.map Bv.l) = 7 + ksum ((ks.map Bv.l).take n)) := by unfold Hid brLen; rw [List.take_of_length_le (by rw [HLN.out]; omega)]
  have HLE := Lib.hid (ksum_take_le (ks.map Bv.l))
  have hb2 : 7 + ksum (ks.map Bv.l) ≤ 1000000000000000000 := hb
  have HST : Hid (∀ i k, (ks.map Bv.l)[i]? = some k → ksum ((ks.map Bv.l).take (i + 1)) = ksum ((ks.map Bv.l).take i) + (5 + k.length)) := fun i k h => by
    obtain ⟨h1, h2⟩ := List.getElem?_eq_some_iff.1 h
    rw [ksum_take h1, h2]
  generalize ks.map Bv.l = ls at *
  clear hat hx hp hcs hb
  go_enter Tryz.func116, Tryz.ntmps116
  go_wp2
  go_loopw [3, 11] (fun nv iv wr => ∃ i : Nat, i ≤ n ∧ iv = .int .i64 i ∧ nv = .int .i64 ((7 + ksum (ls.take i) : Nat) : Int) ∧ wr = w) (fun _ iv _ => n - (intOf iv).toNat)
  case atStart => exact ⟨0, by omega, rfl, rfl, rfl⟩
  case round =>
    obtain ⟨i, hi, rfl, rfl, rfl⟩ := hrel
    by_cases hlt : i < n
    · obtain ⟨kp, kn, kc, kl, _, hcl, hk, d0⟩ := HG.out i hlt
      have hkl := hk.len
      have HS := HST.out i _ hcl
      have hbnd := HLE.out (i + 1)
      rw [HS, hkl] at hbnd
      rw [hkl] at HS
      have HS' := Lib.hid HS
      generalize hV : ksum (ls.take i) = V at *
      clear hk hkl HS hcl hV
      have hw1 : IntKind.i64.wrap (5 + (kn : Int)) = ((5 + kn : Nat) : Int) := by rw [IntWalk.i64_in _ (by omega)]; omega
      have hw2 : IntKind.i64.wrap (((7 + V : Nat) : Int) + ((5 + kn : Nat) : Int)) = ((7 + (V + (5 + kn)) : Nat) : Int) := by rw [IntWalk.i64_in _ (by omega)]; omega
      go_wp2
      go_roundw
      case rel => exact ⟨i + 1, by omega, by go_num, by rw [HS'.out]; exact congrArg (Value.int .i64) (by omega), by first | rfl | trivial⟩
      case measure => simp [intOf]; omega
    · obtain rfl : i = n := by omega
      go_wp2
      go_ret
      exact .mk ⟨by rw [HLL.out]; rfl, rfl⟩

set_option maxRecDepth 100000 in
theorem kid1_any (no : Int) (w : World) : Calls Tryz.prog 122 #[.int .i64 no] w (Ret (BoolEq (!mayPgN no) w)) := by
  go_enter Tryz.func122, Tryz.ntmps122
  go_wp2_with fail
  refine (maypgn_any no _).mono ?_
  rintro _ w1 ⟨_, rfl, rfl, rfl⟩
  generalize mayPgN no = P at *
  go_wp2
  go_ret
  exact .mk ⟨rfl, rfl⟩
def IdxR (l : List Int) (w : World) (v : Value) (w' : World) : Prop := ∃ x : Int, v = .int .i64 x ∧ (decide (0 ≤ x) = !l.all mayPgN) ∧ w' = w
set_option maxRecDepth 100000 in
set_option maxHeartbeats 1000000 in
theorem index_any (p : Option Addr) (n c : Nat) (l : List Int) (w : World) (h : Sl w 1 p n c (l.map (.int .i64))) :
    Calls Tryz.prog 127 #[.slice p n c, .func (.func 122) #[] #[]] w (Ret (IdxR l w)) := by
  have hln : l.length = n := by have := h.len; simpa using this
  have hcm := h.capm; have hle := h.le
  unfold maxLen at hcm
  obtain ⟨b, off, hp, hcs⟩ := h.at_
  have hidx := fun W => Sl.idx (P := Tryz.prog) (cap := c) Tryz.underlying24 sizeKids (fun h => (hp h).1) W .i64
  simp only [Nat.mul_one] at hidx
  have HG : Hid (∀ i, i < n → ∃ x, l[i]? = some x ∧ w.cell? ⟨b, off + i, none⟩ = some (.int .i64 x)) := fun i hi => by
    have hk : i < l.length := by omega
    exact ⟨_, List.getElem?_eq_getElem hk, hcs i _ (by rw [List.getElem?_map, List.getElem?_eq_getElem hk]; rfl)⟩
  have HLN := Lib.hid hln
  clear h hp hcs hln
  go_enter Tryz.func127, Tryz.ntmps127
  go_wp2
  go_loopw [8] (fun i wr => ∃ k : Nat, k ≤ n ∧ i = .int .i64 k ∧ (∀ j x, j < k → l[j]? = some x → mayPgN x = true) ∧ wr = w) (fun i _ => n - (intOf i).toNat)
  case atStart => exact ⟨0, by omega, rfl, fun j x h => by omega, rfl⟩
  case round =>
    obtain ⟨k, hk, rfl, hall, rfl⟩ := hrel
    have HA := Lib.hid hall
    clear hall
    by_cases hlt : k < n
    · obtain ⟨x, hx, d0⟩ := HG.out k hlt
      have HX := Lib.hid hx
      clear hx
      go_wp2_with fail
      refine (kid1_any x _).mono ?_
      rintro _ w1 ⟨_, rfl, rfl, rfl⟩
      cases hB : mayPgN x with
      | true =>
        have HB := Lib.hid hB
        clear hB
        go_wp2
        go_roundw
        case rel => exact ⟨k + 1, by omega, by go_num, fun j y hj hy => by
          rcases Nat.lt_succ_iff_lt_or_eq.1 hj with h | rfl
          · exact HA.out j y h hy
          · rw [HX.out] at hy; cases hy; exact HB.out, by first | rfl | trivial⟩
        case measure => simp [intOf]; omega
      | false =>
        have HB := Lib.hid hB
        clear hB
        go_wp2
        go_ret
        refine .mk ⟨(k : Int), rfl, ?_, rfl⟩
        have hf : l.all mayPgN = false := by
          rw [List.all_eq_false]
          exact ⟨x, List.mem_of_getElem? HX.out, by rw [HB.out]; simp⟩
        rw [hf]; simp
    · obtain rfl : k = n := by omega
      go_wp2
      go_ret
      refine .mk ⟨-1, rfl, ?_, rfl⟩
      have hf : l.all mayPgN = true := by
        rw [List.all_eq_true]
        intro y hy
        obtain ⟨j, hj, rfl⟩ := List.mem_iff_getElem.1 hy
        exact HA.out j _ (by rw [← HLN.out]; exact hj) (List.getElem?_eq_getElem hj)
      rw [hf]; simp
set_option maxRecDepth 100000 in
theorem contains_any (p : Option Addr) (n c : Nat) (l : List Int) (w : World) (h : Sl w 1 p n c (l.map (.int .i64))) :
    Calls Tryz.prog 121 #[.slice p n c, .func (.func 122) #[] #[]] w (Ret (BoolEq (!l.all mayPgN) w)) := by
  have H := Lib.hid h
  clear h
  go_enter Tryz.func121, Tryz.ntmps121
  go_wp2_with fail
  refine (index_any p n c l w H.out).mono ?_
  rintro _ w1 ⟨_, rfl, x, rfl, hx, rfl⟩
  have HX := Lib.hid hx
  clear hx
  go_wp2
  go_ret
  exact .mk ⟨by show Value.bool (decide (0 ≤ x)) = _; rw [HX.out], rfl⟩
end Go.Proofs.YtgimdodbajhpoaaGreatDoor
namespace Go.Proofs.YtgimdodbajhpoaaGreatDoor
open Go.RowKit Go.Maps
set_option linter.unusedSimpArgs false
set_option linter.unusedVariables false

theorem quiet_b {P : Program} {f : FuncId} {args : Array Value} {w : World} {b : Bool} (h : Calls P f args w (Ret (BoolEq b w))) : Calls P f args w fun e w' => e = .returned (.bool b) ∧ w' = w :=
  h.mono fun e w' ⟨v, he, hv, hw⟩ => ⟨by rw [he, hv], hw⟩
theorem quiet_i {P : Program} {f : FuncId} {args : Array Value} {w : World} {x : Int} (h : Calls P f args w (Ret (IntEq x w))) : Calls P f args w fun e w' => e = .returned (.int .i64 x) ∧ w' = w :=
  h.mono fun e w' ⟨v, he, hv, hw⟩ => ⟨by rw [he, hv], hw⟩
theorem ksum_len : ∀ ks : List (List Int), 5 * ks.length ≤ ksum ks
  | [] => by simp [ksum]
  | k :: r => by
    have := ksum_len r
    simp only [ksum, List.map_cons, List.sum_cons, List.length_cons] at this ⊢; omega
set_option maxRecDepth 100000 in
set_option maxHeartbeats 4000000 in
theorem brmay_any (B : Nat) (ks : List Bv) (kids : List Int) (w : World) (h : BrAt w B ks kids) (hb : brLen (ks.map Bv.l) ≤ 1000000000000000000) :
    Calls Tryz.prog 117 #[.pointer (some ⟨B, 0, none⟩)] w (Ret (BoolM (mayBr (ks.map Bv.l) kids) w)) := by
  have HB := Lib.hid h
  have HLEN := fun n => Lib.hid (quiet_i (brlen_any B ks kids (w.drewN n) (h.mod0 (Mod.of_drewN w n)) hb))
  obtain ⟨p, n, c, q, m, d, hat, hx, hy⟩ := h
  have c0 : w.cell? ⟨B, 0, none⟩ = some (.slice p n c) := cell_of_at hat 0
  have c1 : w.cell? ⟨B, 1, none⟩ = some (.slice q m d) := cell_of_at hat 1
  have hcm := hx.sl.capm; have hle := hx.sl.le
  unfold maxLen at hcm
  have HRISE := fun j => Lib.hid (quiet_b (rise_any p n c ks (w.drewN j) (hx.mod0 (Mod.of_drewN w j))))
  have HKID := fun j => Lib.hid (quiet_b (contains_any q m d kids (w.drewN j) (hy.mod (Mod.of_drewN w j) (by simp))))
  have hkl : ks.length = n := hx.len
  have hml : kids.length = m := by have := hy.len; simpa using this
  have HD : Hid (mayBr (ks.map Bv.l) kids = (riseL (ks.map Bv.l) && decide ((m : Int) = n + 1) && kids.all mayPgN && decide ((brLen (ks.map Bv.l) : Int) ≤ 1016))) := by
    unfold Hid mayBr
    rw [List.length_map, hkl, hml]
    have e1 : decide (m = n + 1) = decide ((m : Int) = n + 1) := decide_eq_decide.2 (by omega)
    have e2 : decide (brLen (ks.map Bv.l) ≤ 1016) = decide ((brLen (ks.map Bv.l) : Int) ≤ 1016) := decide_eq_decide.2 (by omega)
    rw [e1, e2]
  have HM : Hid (∀ j, Mod [] w (w.drewN j)) := fun j => Mod.of_drewN w j
  have hn : n ≤ 1000000000000000000 := by
    have h1 := ksum_len (ks.map Bv.l)
    rw [List.length_map, hkl] at h1
    unfold brLen at hb; omega
  have hw1 : IntKind.i64.wrap ((n : Int) + 1) = (n : Int) + 1 := IntWalk.i64_in _ (by omega)
  generalize mayBr (ks.map Bv.l) kids = V at *
  generalize brLen (ks.map Bv.l) = LL at *
  generalize riseL (ks.map Bv.l) = R at *
  generalize kids.all mayPgN = KA at *
  clear hat hx hy hkl hml hb
  cases R with
  | false =>
    go_enter Tryz.func117, Tryz.ntmps117
    go_wp2_with fail
    go_quiet ((go_at_call 120; exact Calls.quiet_of_same (HRISE _).out))
    go_wp2
    go_ret
    exact .mk ⟨by rw [HD.out]; rfl, by first | exact HM.out _ | exact Mod.refl _ _⟩
  | true =>
    by_cases hmn : (m : Int) = n + 1
    · have b1 : ((m : Int) == (n : Int) + 1) = true := by simpa using hmn
      have HD2 : Hid (V = (KA && decide ((LL : Int) ≤ 1016))) := by rw [HD.out, decide_eq_true hmn]; simp [Hid]
      clear HD hmn
      cases KA with
      | false =>
        go_enter Tryz.func117, Tryz.ntmps117
        go_wp2_with fail
        go_quiet ((first | (go_at_call 120; exact Calls.quiet_of_same (HRISE _).out) | (go_at_call 121; exact Calls.quiet_of_same (HKID _).out)))
        go_wp2
        go_ret
        exact .mk ⟨by rw [HD2.out]; rfl, by first | exact HM.out _ | exact Mod.refl _ _⟩
      | true =>
        go_enter Tryz.func117, Tryz.ntmps117
        go_wp2_with fail
        go_quiet ((first | (go_at_call 120; exact Calls.quiet_of_same (HRISE _).out) | (go_at_call 121; exact Calls.quiet_of_same (HKID _).out) | (go_at_call 116; exact Calls.quiet_of_same (HLEN _).out)))
        go_wp2
        go_ret
        exact .mk ⟨by rw [HD2.out]; rfl, by first | exact HM.out _ | exact Mod.refl _ _⟩
    · have b1 : ((m : Int) == (n : Int) + 1) = false := by simpa using hmn
      have HD2 : Hid (V = false) := by rw [HD.out, decide_eq_false hmn]; simp [Hid]
      clear HD hmn
      go_enter Tryz.func117, Tryz.ntmps117
      go_wp2_with fail
      go_quiet ((go_at_call 120; exact Calls.quiet_of_same (HRISE _).out))
      go_wp2
      go_ret
      exact .mk ⟨by rw [HD2.out]; rfl, by first | exact HM.out _ | exact Mod.refl _ _⟩

theorem infoSl : (Tryz.prog.info? 40).map (fun i => (i.zero, i.size, i.bytes)) = some (some (.slice none 0 0), 1, 24) := by kernel_rfl
theorem lsum_len : ∀ cs : List Cl, 3 * cs.length ≤ lsum cs
  | [] => by simp [lsum]
  | c :: r => by
    have := lsum_len r
    simp only [lsum, List.map_cons, List.sum_cons, List.length_cons, clLen] at this ⊢; omega
set_option maxRecDepth 100000 in
set_option maxHeartbeats 4000000 in
theorem leafmay_any (L : Nat) (xs : List Cv) (w : World) (h : LeafAt w L xs) (hb : leafLen (xs.map Cv.pl) ≤ 1000000000000) :
    Calls Tryz.prog 130 #[.pointer (some ⟨L, 0, none⟩)] w (Ret (BoolM (mayLeaf (xs.map Cv.pl)) w)) := by
  have HL := Lib.hid h
  obtain ⟨p, n, c, hat, hx⟩ := h
  have c0 : w.cell? ⟨L, 0, none⟩ = some (.slice p n c) := cell_of_at hat 0
  have hn : n ≤ 1000000000000 := by
    have h1 := lsum_len (xs.map Cv.pl)
    rw [List.length_map, hx.len] at h1
    unfold leafLen at hb; omega
  have HLB : Hid (leafLen (xs.map Cv.pl) ≤ 1000000000000000000) := by unfold Hid; omega
  have hcm := hx.sl.capm; have hle := hx.sl.le
  unfold maxLen at hcm
  obtain ⟨b, off, hp, hcs⟩ := hx.sl.at_
  have hidx := fun W => Sl.idx (P := Tryz.prog) (cap := c) Tryz.underlying79 sizeCells (fun h => (hp h).1) W .i64
  have HLT : Hid (0 < n → b < w.heap.size) := fun h => (hp h).2
  have HG := Lib.hid (fun i hi => hx.get hcs i hi)
  have HLN : Hid (xs.length = n) := hx.len
  have HKIO : Hid (∀ k ∈ xs.map Cv.k, k.In w) := fun k hk => by obtain ⟨x, hx2, rfl⟩ := List.mem_map.1 hk; exact (hx.io x hx2).1
  have HD : Hid (mayLeaf (xs.map Cv.pl) = ((xs.map Cv.pl).all mayCl && riseL ((xs.map Cv.k).map Bv.l) && decide ((leafLen (xs.map Cv.pl) : Int) ≤ 1016))) := by
    unfold Hid mayLeaf
    rw [show (xs.map Cv.pl).map Cl.key = (xs.map Cv.k).map Bv.l from by simp [Cv.pl, Function.comp_def], show decide (leafLen (xs.map Cv.pl) ≤ 1016) = decide ((leafLen (xs.map Cv.pl) : Int) ≤ 1016) from decide_eq_decide.2 (by omega)]
  obtain ⟨i0, hi0, hz0, hz1, hz2⟩ := info_parts infoSl
  clear hat hx hp hcs hb
  go_enter Tryz.func130, Tryz.ntmps130
  go_wp2
  go_loopw [3, 11] (fun kv iv wr => ∃ (i : Nat) (kp : Option Addr) (kc : Nat), i ≤ n ∧ iv = .int .i64 i ∧ kv = .slice kp i kc ∧ wr.ownsRow w.heap.size 40 1 (.slice kp i kc) i ((xs.take i).map fun x => x.k.val) ∧ (∀ (j : Nat) (x : Cl), j < i → (xs.map Cv.pl)[j]? = some x → mayCl x = true) ∧ Mod [] w wr) (fun _ iv _ => n - (intOf iv).toNat)
  case atStart => exact ⟨0, none, 0, by omega, rfl, rfl, by simpa using World.ownsRow_nil w w.heap.size 40 1, fun j x h => by omega, Mod.refl _ _⟩
  case round =>
    obtain ⟨i, kp0, kc0, hi, rfl, rfl, hrow, hall, hm⟩ := hrel
    have HROW := Lib.hid hrow
    have HALL := Lib.hid hall
    have HM := Lib.hid hm
    clear hrow hall hm
    by_cases hlt : i < n
    · obtain ⟨kp, kn, kc, kl, ip, im, ic, il, sz, hd, hxs, hcl, hk, hii, d0, d1, d2, d3⟩ := HG.out i hlt
      have hbl := HLT.out (by omega)
      rw [← HM.out.cell (a := ⟨b, _, none⟩) hbl (by simp)] at d0 d1 d2 d3
      have HIL : Hid (il.length = im) := hii.len
      have HXS := Lib.hid hxs
      have HCL := Lib.hid hcl
      have HA0 := Lib.hid (at_alloc wr (.cells #[.slice kp kn kc, .slice ip im ic, .int .i64 sz, .int .i64 hd] 82))
      have HM0 := Lib.hid (Mod.of_alloc wr (.cells #[.slice kp kn kc, .slice ip im ic, .int .i64 sz, .int .i64 hd] 82))
      clear hk hii hxs hcl
      go_wp2_with fail
      refine (cellmay_any kp kn kc kl ip im ic il sz hd _ HIL.out).mono ?_
      rintro _ w1 ⟨_, rfl, rfl, m1⟩
      have HA1 := Lib.hid (m1.at HA0.out (by simp))
      have HM1 : Hid (Mod [] wr w1) := HM0.out.same m1
      have hA1 : wr.heap.size < w1.heap.size := lt_of_at HA1.out
      clear m1 HA0 HM0 d0 d1 d2 d3
      cases hB : mayCl ⟨kl, il, sz, hd⟩ with
      | false =>
        have HF : Hid (mayLeaf (xs.map Cv.pl) = false) := by
          rw [HD.out]
          have : (xs.map Cv.pl).all mayCl = false := by
            rw [List.all_eq_false]; exact ⟨_, List.mem_of_getElem? HCL.out, by rw [hB]; simp⟩
          rw [this]; rfl
        clear hB
        go_wp2
        go_ret
        exact .mk ⟨by rw [HF.out]; rfl, HM.out.same HM1.out⟩
      | true =>
        have HALL2 : Hid (∀ (j : Nat) (x : Cl), j < i + 1 → (xs.map Cv.pl)[j]? = some x → mayCl x = true) := fun j x hj hx => by
          rcases Nat.lt_succ_iff_lt_or_eq.1 hj with h | rfl
          · exact HALL.out j x h hx
          · rw [HCL.out] at hx; cases hx; exact hB
        have e0 : w1.cell? ⟨wr.heap.size, 0, none⟩ = some (.slice kp kn kc) := cell_of_at HA1.out 0
        have HROW1 := Lib.hid (ownsRow_mod (ownsRow_mod HROW.out HM1.out (by simp)) (Mod.of_alloc w1 (.cells #[.slice kp kn kc] 40)) (by simp))
        have HSRC := Lib.hid (Sl.one_new w1 (.slice kp kn kc) 40 rfl)
        have HM2 : Hid (Mod [] w (w1.alloc (.cells #[.slice kp kn kc] 40))) := (HM.out.same HM1.out).alloc
        have hsz : w.heap.size ≤ (w1.alloc (.cells #[.slice kp kn kc] 40)).heap.size := HM2.out.size
        have hwi : IntKind.i64.wrap ((i : Int) + 1) = (i : Int) + 1 := IntWalk.i64_in _ (by omega)
        clear hB
        go_wp2_with (first
          | (at_builtin; (refine wpList_append_src _ rfl _ _ _ rfl w.heap.size 40 i0 _ 1 24 Tryz.underlying23 hi0 hz0 hz1 hz2 rfl (by omega) (.slice kp0 i kc0) i _ rfl HROW1.out _ _ _ _ rfl HSRC.out (i + 1) (by omega) (by unfold maxLen; omega) (by omega) hsz ?_); intro p' c' w3 hown3 hgrow3 hnil3 hlie3; (have HO3 := Lib.hid hown3); (have HM3 : Hid (Mod [] w w3) := HM2.out.trans (Mod.of_grown' hgrow3) (fun b hb => Or.inr (own_base HROW1.out b (by simpa using hb)))); clear hown3 hgrow3 hnil3 hlie3)
          | go_in)
        go_roundw
        case rel => exact ⟨i + 1, p', c', by omega, by go_num, rfl, by
          have h3 := HO3.out
          have e : (xs.take (i + 1)).map (fun x => x.k.val) = (xs.take i).map (fun x => x.k.val) ++ [.slice kp kn kc] := by
            obtain ⟨h1, h2⟩ := List.getElem?_eq_some_iff.1 HXS.out
            rw [List.take_succ_eq_append_getElem h1, List.map_append, h2]; rfl
          rw [e]; exact h3, HALL2.out, HM3.out⟩
        case measure => simp [intOf]; omega
    · obtain rfl : i = n := by omega
      have HALL2 : Hid ((xs.map Cv.pl).all mayCl = true) := by
        unfold Hid
        rw [List.all_eq_true]
        intro y hy
        obtain ⟨j, hj, rfl⟩ := List.mem_iff_getElem.1 hy
        exact HALL.out j _ (by rw [← HLN.out]; simpa using hj) (List.getElem?_eq_getElem hj)
      have HKEYS : Hid (KeysIn wr kp0 i kc0 (xs.map Cv.k)) := by
        have h1 := HROW.out
        rw [List.take_of_length_le (by rw [HLN.out]; omega)] at h1
        have h2 := (Sl.of_own h1 (by intro u hu; obtain ⟨x, _, rfl⟩ := List.mem_map.1 hu; rfl)).1
        exact ⟨by rw [List.map_map]; exact h2, fun k hk => (HKIO.out k hk).mod0 HM.out⟩
      rw [HALL2.out, Bool.true_and] at HD
      have HLEN := fun W (hm : Mod [] w W) => Lib.hid (leaflen_any L xs W (HL.out.mod0 hm) HLB.out)
      go_wp2_with fail
      refine (rise_any kp0 i kc0 (xs.map Cv.k) _ HKEYS.out).mono ?_
      rintro _ w1 ⟨_, rfl, rfl, rfl⟩
      generalize riseL ((xs.map Cv.k).map Bv.l) = R at *
      generalize leafLen (xs.map Cv.pl) = LL at *
      cases R with
      | false =>
        go_wp2
        go_ret
        exact .mk ⟨by rw [HD.out]; rfl, HM.out⟩
      | true =>
        go_wp2_with fail
        refine (HLEN _ HM.out).out.mono ?_
        rintro _ w2 ⟨_, rfl, rfl, m2⟩
        have HM2 : Hid (Mod [] w w2) := HM.out.same m2
        clear m2
        go_wp2
        go_ret
        exact .mk ⟨by rw [HD.out]; rfl, HM2.out⟩
end Go.Proofs.YtgimdodbajhpoaaGreatDoor
