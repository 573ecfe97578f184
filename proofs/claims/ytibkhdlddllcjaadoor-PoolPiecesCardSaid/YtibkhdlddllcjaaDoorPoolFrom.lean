/- The program's side: a piece, read from its page. -/
import Derived.Test.YtibkhdlddllcjaaDoorPoolPay
import Derived.Test.YtibkhdlddllcjaaDoorHasPrefix
import Derived.Test.YtibkhdlddllcjaaDoorNum4
import Derived.Lib.SliceRun
namespace Go.Proofs.YtibkhdlddllcjaaDoor
open Go.RowKit Go.Maps
set_option linter.unusedSimpArgs false
set_option linter.unusedVariables false

theorem BytesIn.mod {w w' : World} {S : List Nat} {p : Option Addr} {n c : Nat} {l : List Int} (h : BytesIn w p n c l) (hm : Mod S w w') (hn : ∀ a, p = some a → 0 < n → a.block ∉ S) : BytesIn w' p n c l := ⟨h.sl.mod hm hn, h.wf⟩
/-- 'b[lo:]'. -/
theorem BytesIn.from_ {P : Program} {T : TypeId} {w : World} {p : Option Addr} {n c : Nat} {l : List Int} (hT : P.underlying T = some (.slice (P.elem T))) (hs : ∀ W : World, (sizeOf (P.elem T)).run P W = .ok 1 W) (h : BytesIn w p n c l) (lo : Nat) (h1 : lo ≤ n) :
    ∃ p', (∀ W, (Instr.slice T (.slice p n c) (some (.int .i64 lo)) none none).run P W = .ok (.slice p' (n - lo) (c - lo)) W) ∧ BytesIn w p' (n - lo) (c - lo) (l.drop lo) := by
  obtain ⟨p', r, s, _⟩ := h.sl.sub_l hT hs lo .i64 h1
  refine ⟨p', r, ?_, fun x hx => h.wf x (List.mem_of_mem_drop hx)⟩
  rw [Nat.mul_one] at s
  simpa [bs, List.map_drop] using s
/-- 'b[lo:lo+k]'. -/
theorem BytesIn.sub {P : Program} {T : TypeId} {w : World} {p : Option Addr} {n c : Nat} {l : List Int} (hT : P.underlying T = some (.slice (P.elem T))) (hs : ∀ W : World, (sizeOf (P.elem T)).run P W = .ok 1 W) (h : BytesIn w p n c l) (lo hi k : Nat) (hk : hi = lo + k) (h1 : hi ≤ n) :
    ∃ p', (∀ W, (Instr.slice T (.slice p n c) (some (.int .i64 lo)) (some (.int .i64 hi)) none).run P W = .ok (.slice p' k (c - lo)) W) ∧ BytesIn w p' k (c - lo) ((l.drop lo).take k) := by
  obtain ⟨p', r, s, _⟩ := h.sl.sub hT hs lo hi .i64 .i64 (by omega) h1
  rw [show hi - lo = k from by omega] at r s
  refine ⟨p', r, ?_, fun x hx => h.wf x (List.mem_of_mem_drop (List.mem_of_mem_take hx))⟩
  rw [Nat.mul_one, Nat.mul_one] at s
  simpa [bs, List.map_drop, List.map_take] using s

def FromR (b : List Int) (w : World) (v : Value) (w' : World) : Prop :=
  ∃ p n c, v = .tuple #[.slice p n c, .int .i64 (fromP b).2.1, .int .i64 (fromP b).2.2] ∧ n = (fromP b).1.length ∧ Sl w' 2 p n c (fcells (fromP b).1) ∧ Mod [] w w'
theorem fromP_bad {b : List Int} (h : ¬ (b.length = 1016 ∧ goodP b = true)) : fromP b = ([], 0, 5) := if_neg h
theorem fromP_good {b : List Int} (h1 : b.length = 1016) (h : goodP b = true) : fromP b = (rd b (nOf b), nextOf b, 0) := if_pos ⟨h1, h⟩
theorem rd_wf {b : List Int} (h : ∀ x ∈ b, 0 ≤ x ∧ x < 256) (k : Nat) : ∀ q ∈ rd b k, 0 ≤ q.2 ∧ q.2 < 18446744073709551616 := by
  intro q hq
  obtain ⟨i, _, rfl⟩ := List.mem_map.1 hq
  have hw : ∀ x ∈ (b.drop (10 + 12 * i)).take 8, 0 ≤ x ∧ x < 256 := fun x hx => h x (List.mem_of_mem_drop (List.mem_of_mem_take hx))
  obtain ⟨h1, h2⟩ := un_range hw _ (Nat.le_refl _)
  rw [List.take_of_length_le (Nat.le_refl _)] at h1 h2
  refine ⟨h1, Int.lt_of_lt_of_le h2 ?_⟩
  have : ((b.drop (10 + 12 * i)).take 8).length ≤ 8 := by rw [List.length_take]; omega
  obtain ⟨e, he⟩ : ∃ e, 8 = ((b.drop (10 + 12 * i)).take 8).length + e := ⟨8 - ((b.drop (10 + 12 * i)).take 8).length, by omega⟩
  have h8 : (18446744073709551616 : Int) = 256 ^ 8 := by decide
  rw [h8]
  conv => rhs; rw [he, Int.pow_add]
  have h1 : (1 : Int) ≤ 256 ^ e := Int.pow_pos (by omega)
  have h9 := Int.mul_le_mul_of_nonneg_left h1 (Int.le_of_lt (show (0 : Int) < 256 ^ ((b.drop (10 + 12 * i)).take 8).length from Int.pow_pos (by omega)))
  rwa [Int.mul_one] at h9
theorem own_mod {w w' : World} {base : Nat} {e : TypeId} {size : Nat} {v : Value} {n : Nat} {xs : List Value} (h : w.ownsRow base e size v n xs) (hm : Mod [] w w') : w'.ownsRow base e size v n xs := by
  refine ⟨h.1, ?_⟩
  rcases h.2 with h0 | ⟨g, cap, cur, hv, hg, hb, h2⟩
  · exact Or.inl h0
  · exact Or.inr ⟨g, cap, cur, hv, hg, hm.at hb (by simp), h2⟩

set_option maxRecDepth 100000 in
set_option maxHeartbeats 2000000 in
theorem from_any (p : Option Addr) (n c : Nat) (l : List Int) (w : World) (h : BytesIn w p n c l) :
    Calls Tryd.prog 11 #[.slice p n c] w (Ret (FromR l w)) := by
  have hln := h.len
  have hcm := h.sl.capm; have hle := h.sl.le
  unfold maxLen at hcm
  by_cases h16 : n = 1016
  · have HWF := Lib.hid h.wf
    obtain ⟨B, off, rfl, hBlt, hcs⟩ := h.sl.addr (by omega)
    subst h16
    have d0 := hcs 0 _ (bs_get (by omega))
    have d1 := hcs 1 _ (bs_get (by omega))
    rw [Nat.add_zero] at d0
    have hi0 := fun W => Sl.idx (P := Tryd.prog) (cap := c) (p := some ⟨B, off, none⟩) (size := 1) (b := B) (off := off) Tryd.underlying23 sizeBytes (fun _ => rfl) W .i64 0 (show 0 < 1016 by omega)
    have hi1 := fun W => Sl.idx (P := Tryd.prog) (cap := c) (p := some ⟨B, off, none⟩) (size := 1) (b := B) (off := off) Tryd.underlying23 sizeBytes (fun _ => rfl) W .i64 1 (show 1 < 1016 by omega)
    simp only [Nat.zero_mul, Nat.add_zero, Nat.one_mul, show ((0 : Nat) : Int) = 0 from rfl, show ((1 : Nat) : Int) = 1 from rfl] at hi0 hi1
    have hx0 := HWF.out (l.getD 0 0) (by rw [getD_at (by omega)]; exact List.getElem_mem _)
    have hx1 := HWF.out (l.getD 1 0) (by rw [getD_at (by omega)]; exact List.getElem_mem _)
    have HN : Hid (nOf l = (l.getD 0 0 * 256 + l.getD 1 0).toNat) := rfl
    generalize l.getD 0 0 = x0 at *
    generalize l.getD 1 0 = x1 at *
    have hor : bits .or .i64 (x0 * 256) x1 = x0 * 256 + x1 := by
      have := or_add .i64 x0.toNat x1.toNat 8 (by omega) (by have e : IntKind.i64.bits = 64 := rfl; rw [e]; omega)
      rw [show ((x0.toNat * 2 ^ 8 : Nat) : Int) = x0 * 256 from by omega, show ((x1.toNat : Nat) : Int) = x1 from by omega, show ((x0.toNat * 2 ^ 8 + x1.toNat : Nat) : Int) = x0 * 256 + x1 from by omega] at this
      rw [this, IntWalk.i64_in _ (by omega)]
    obtain ⟨N, hN⟩ : ∃ N : Nat, (N : Int) = x0 * 256 + x1 := ⟨(x0 * 256 + x1).toNat, by omega⟩
    have HNN : Hid (nOf l = N) := by unfold Hid; rw [HN.out, ← hN]; omega
    rw [← hN] at hor
    have hN2 : N < 65536 := by omega
    have H := Lib.hid h
    have HLN := Lib.hid hln
    clear hN h hln hcs HN
    obtain ⟨p2, r2, b2⟩ := H.out.from_ Tryd.underlying23 sizeBytes 2 (by omega)
    simp only [show ((2 : Nat) : Int) = 2 from rfl] at r2
    have HB2 := Lib.hid b2
    clear b2
    go_enter Tryd.func11, Tryd.ntmps11
    go_wp2
    go_quiet (fail)
    go_wp2_with fail
    refine (get32_any p2 _ _ _ _ (HB2.out.mod (Mod.of_drewN w nq) (by simp)) (by omega)).mono ?_
    rintro _ w1 ⟨_, rfl, rfl, hm1⟩
    have HM1 : Hid (Mod [] w w1) := (Mod.of_drewN w nq).same hm1
    clear hm1
    have HNX : Hid (nextOf l = un4 (l.drop 2) 4) := rfl
    have hnx := un4_range (l := l.drop 2) (fun x hx => HWF.out x (List.mem_of_mem_drop hx)) 4
    generalize un4 (l.drop 2) 4 = nx at *
    have hnx2 : 0 ≤ nx ∧ nx < 4294967296 := hnx
    clear hnx
    have hwn : IntKind.i64.wrap nx = nx := IntWalk.i64_in _ (by omega)
    obtain ⟨i0, hi0, hz0, hz1, hz2⟩ := info_parts infoFreed
    go_wp2
    go_loopw [7, 8] (fun o i wr => ∃ (k d : Nat) (q : Option Addr), k ≤ N ∧ k ≤ 84 ∧ i = .int .i64 k ∧ o = .slice q k d ∧ wr.ownsRow w.heap.size 35 2 (.slice q k d) k (fcells (rd l k)) ∧ Mod [] w wr) (fun _ i _ => 84 - (intOf i).toNat)
    case atStart => exact ⟨0, 0, none, by omega, by omega, rfl, rfl, World.ownsRow_nil _ _ _ _, HM1.out⟩
    case round =>
      clear HM1
      obtain ⟨k, d, q, hk, hk84, rfl, rfl, hown, hmd⟩ := hrel
      have HO := Lib.hid hown
      have HM := Lib.hid hmd
      have hsz := hmd.size
      clear hown hmd
      by_cases hlt : k < N
      · by_cases hlt2 : k < 84
        · obtain ⟨T, hT⟩ : ∃ T : Int, T = 12 * (k : Int) := ⟨_, rfl⟩
          obtain ⟨A, hA⟩ : ∃ A, A = 6 + 12 * k := ⟨_, rfl⟩
          obtain ⟨A4, hA4⟩ : ∃ A4, A4 = 10 + 12 * k := ⟨_, rfl⟩
          obtain ⟨A12, hA12⟩ : ∃ A12, A12 = 18 + 12 * k := ⟨_, rfl⟩
          have hw1 : IntKind.i64.wrap (12 * (k : Int)) = T := by rw [IntWalk.i64_in _ (by omega)]; omega
          have hw2 : IntKind.i64.wrap (6 + T) = (A : Int) := by rw [IntWalk.i64_in _ (by omega)]; omega
          have hw3 : IntKind.i64.wrap ((A : Int) + 4) = (A4 : Int) := by rw [IntWalk.i64_in _ (by omega)]; omega
          have hw4 : IntKind.i64.wrap ((A : Int) + 12) = (A12 : Int) := by rw [IntWalk.i64_in _ (by omega)]; omega
          obtain ⟨p4, r4, b4⟩ := H.out.sub Tryd.underlying23 sizeBytes A4 A12 8 (by omega) (by omega)
          obtain ⟨p5, r5, b5⟩ := H.out.from_ Tryd.underlying23 sizeBytes A (by omega)
          have HB4 := Lib.hid (b4.mod HM.out (by simp))
          have HB5 := Lib.hid (b5.mod HM.out (by simp))
          have HR : Hid (rdAt l k = (un4 (l.drop A) 4, un ((l.drop A4).take 8))) := by rw [hA, hA4]; rfl
          have hn5 : 4 ≤ 1016 - A := by omega
          clear b4 b5 hT hA hA4 hA12
          go_wp2_with fail
          refine (unkey_any p4 _ _ _ _ HB4.out).mono ?_
          rintro _ w4 ⟨_, rfl, rfl, hm4⟩
          have HM4 := Lib.hid hm4
          rw [if_pos rfl]
          clear hm4
          have hy := rd_wf HWF.out (k + 1) (rdAt l k) (by rw [rd_succ]; simp)
          rw [HR.out] at hy
          go_wp2_with fail
          have hx := un4_range (l := l.drop A) (fun x hx => HWF.out x (List.mem_of_mem_drop hx)) 4
          have hx2 : 0 ≤ un4 (l.drop A) 4 ∧ un4 (l.drop A) 4 < 4294967296 := hx
          refine (get32_any p5 _ _ _ _ (HB5.out.mod HM4.out (by simp)) hn5).mono ?_
          rintro _ w5 ⟨_, rfl, rfl, hm5⟩
          clear hx
          generalize un4 (l.drop A) 4 = X at *
          generalize un ((l.drop A4).take 8) = Y at *
          have hwX : IntKind.i64.wrap X = X := IntWalk.i64_in _ (by omega)
          have HM5 : Hid (Mod [] wr w5) := HM4.out.same hm5
          have HS5 : Hid (Sl (w5.alloc (.cells #[.int .i64 X, .int .u64 Y] 35)) 2 (some ⟨w5.heap.size, 0, none⟩) 1 1 [.int .i64 X, .int .u64 Y]) := Sl.new w5 [.int .i64 X, .int .u64 Y] _ 2 1 rfl (by simp [maxLen]) (by intro u hu; simp at hu; rcases hu with rfl | rfl <;> rfl)
          have HO5 : Hid ((w5.alloc (.cells #[.int .i64 X, .int .u64 Y] 35)).ownsRow w.heap.size 35 2 (.slice q k d) k (fcells (rd l k))) := own_mod HO.out (HM5.out.alloc)
          have hsz5 : w.heap.size ≤ (w5.alloc (.cells #[.int .i64 X, .int .u64 Y] 35)).heap.size := Nat.le_trans hsz (HM5.out.alloc).size
          clear hm5
          go_wp2_with (first
            | (at_builtin; go_must (refine wpList_append_src _ rfl _ _ _ rfl w.heap.size 35 i0 _ 2 16 Tryd.underlying22 hi0 hz0 hz1 hz2 rfl (by omega) (.slice q k d) k (fcells (rd l k)) rfl HO5.out _ _ _ _ rfl HS5.out (k + 1) rfl (by unfold maxLen; omega) (by omega) hsz5 ?_); intro p6 c6 w6 hown6 hgrow6 hnil6 hlie6; (have HO6 := Lib.hid hown6); (have HG6 := Lib.hid hgrow6); clear hown6 hgrow6 hnil6 hlie6)
            | go_in)
          go_roundw
          case rel => exact ⟨k + 1, c6, p6, by omega, by omega, by go_num, rfl, by rw [rd_succ, fcells_append, HR.out]; exact HO6.out, (HM.out.same (HM5.out.alloc)).trans (Mod.of_grown' HG6.out) (fun b hb => Or.inr (by
            have := own_base HO.out b (by simpa using hb); omega))⟩
          case measure => simp [intOf]; omega
        · obtain rfl : k = 84 := by omega
          have HE : Hid (fromP l = ([], 0, 5)) := fromP_bad (by
            rintro ⟨_, h⟩
            unfold goodP at h
            rw [HNN.out, decide_eq_false (by omega)] at h
            simp at h)
          go_wp2_with fail
          refine (pay_any q 84 d (rd l 84) nx _ (Sl.of_own HO.out (fcells_one _)).1 (rd_wf HWF.out _)).mono ?_
          rintro _ w7 ⟨_, rfl, p7, n7, c7, rfl, e7, nil7, s7, m7⟩
          have HM7 : Hid (Mod [] w w7) := HM.out.same m7
          have hgt : ((84 : Int) < (N : Int)) = True := by simp; omega
          clear e7 nil7 s7 m7
          go_wp2
          go_ret3
          exact .mk ⟨none, 0, 0, by rw [HE.out]; rfl, by rw [HE.out]; rfl, by rw [HE.out]; exact Sl.nil _ _, HM7.out⟩
      · obtain rfl : k = N := by omega
        go_wp2_with fail
        refine (pay_any q k d (rd l k) nx _ (Sl.of_own HO.out (fcells_one _)).1 (rd_wf HWF.out _)).mono ?_
        rintro _ w7 ⟨_, rfl, p7, n7, c7, rfl, e7, nil7, s7, m7⟩
        have HM7 : Hid (Mod [] w w7) := HM.out.same m7
        have HO7 : Hid (w7.ownsRow w.heap.size 35 2 (.slice q k d) k (fcells (rd l k))) := own_mod HO.out m7
        have HP7 := Lib.hid e7
        have HS7 := Lib.hid s7
        have hle84 : decide ((84 : Int) < (k : Int)) = false := decide_eq_false (by omega)
        obtain ⟨PP, hPP⟩ : ∃ PP, PP = payO (rd l k) nx := ⟨_, rfl⟩
        have HPP := Lib.hid hPP
        have HG : Hid (goodP l = (mayPay (rd l k) nx && decide (pad 1016 PP = l))) := by
          unfold Hid goodP
          rw [HNN.out, HNX.out, decide_eq_true (by omega), Bool.true_and, hPP]
        rw [← hPP] at HP7 HS7 nil7
        clear m7 e7 s7 hPP
        have q22 : ∀ (W : World) (a : Option Addr) (n c n' c' : Nat), (binOp .eql 23 (.slice a n c) (.slice none n' c')).run Tryd.prog W = .ok (.bool a.isNone) W := fun W a n c n' c' => Lib.run_eql_slice_nil W _ _ a n c n' c' Tryd.underlying23
        cases p7 with
        | none =>
          have HE : Hid (fromP l = ([], 0, 5)) := fromP_bad (by
            rintro ⟨_, h⟩
            rw [HG.out, payO_nil.1 (by rw [← HPP.out]; exact nil7.1 rfl)] at h
            simp at h)
          clear nil7
          go_wp2
          go_ret3
          exact .mk ⟨none, 0, 0, by rw [HE.out]; rfl, by rw [HE.out]; rfl, by rw [HE.out]; exact Sl.nil _ _, HM7.out⟩
        | some a7 =>
          have hmay : Hid (mayPay (rd l k) nx = true) := by
            unfold Hid
            cases hm : mayPay (rd l k) nx
            · exfalso
              have := nil7.2 (by rw [HPP.out]; exact payO_nil.2 hm)
              cases this
            · rfl
          clear nil7
          have hPl : Hid (PP.length ≤ 1014) := by unfold Hid; rw [HPP.out]; exact payO_len _ _
          have HWP : Hid (∀ x ∈ PP, 0 ≤ x ∧ x < 256) := by rw [HPP.out]; exact payO_wf _ _
          have HIFF := Lib.hid (pad_iff (b := l) (p := PP) HLN.out (by have := hPl.out; omega))
          have hH1 := H.out.mod HM7.out (by simp)
          obtain ⟨p8, r8, b8⟩ := hH1.from_ Tryd.underlying23 sizeBytes n7 (by rw [HP7.out]; have := hPl.out; omega)
          have H1 := Lib.hid hH1
          have HB8 := Lib.hid b8
          clear hH1 b8
          obtain ⟨D, hD⟩ : ∃ D, D = decide (l.take PP.length = PP) := ⟨_, rfl⟩
          have HD := Lib.hid hD
          clear hD
          go_wp2_with fail
          refine (hasprefix_any _ _ _ _ _ _ l PP _ H1.out ⟨HS7.out, HWP.out⟩).mono ?_
          rintro _ w8 ⟨_, rfl, rfl, rfl⟩
          rw [← HD.out]
          cases D with
          | false =>
            have HE : Hid (fromP l = ([], 0, 5)) := fromP_bad (by
              rintro ⟨_, h⟩
              rw [HG.out, Bool.and_eq_true] at h
              have := (HIFF.out.2 (of_decide_eq_true h.2)).1
              have h2 := HD.out
              rw [decide_eq_true this] at h2; cases h2)
            go_wp2
            go_ret3
            exact .mk ⟨none, 0, 0, by rw [HE.out]; rfl, by rw [HE.out]; rfl, by rw [HE.out]; exact Sl.nil _ _, HM7.out⟩
          | true =>
            go_wp2_with fail
            refine (trim_any _ _ _ _ _ HB8.out.sl).mono ?_
            rintro _ w9 ⟨_, rfl, q9, k9, d9, rfl, z9, m9⟩
            rw [HP7.out] at z9
            have HM9 : Hid (Mod [] w8 w9) := m9
            have HZ9 := Lib.hid z9
            clear z9 m9
            rcases Nat.eq_zero_or_pos k9 with h9 | h9
            · have HE : Hid (fromP l = (rd l k, nx, 0)) := by
                unfold Hid
                rw [fromP_good HLN.out (by
                  rw [HG.out, hmay.out, Bool.true_and]
                  exact decide_eq_true (HIFF.out.1 ⟨of_decide_eq_true HD.out.symm, HZ9.out.1 h9⟩)), HNN.out, HNX.out]
              subst h9
              go_wp2
              go_ret3
              exact .mk ⟨q, k, d, by rw [HE.out]; rfl, by rw [HE.out]; exact (rd_len _ _).symm, by rw [HE.out]; exact ((Sl.of_own HO7.out (fcells_one _)).1).mod HM9.out (by simp), HM7.out.same HM9.out⟩
            · have HE : Hid (fromP l = ([], 0, 5)) := fromP_bad (by
                rintro ⟨_, h⟩
                rw [HG.out, Bool.and_eq_true] at h
                have := HZ9.out.2 (HIFF.out.2 (of_decide_eq_true h.2)).2
                omega)
              go_wp2
              go_ret3
              exact .mk ⟨none, 0, 0, by rw [HE.out]; rfl, by rw [HE.out]; rfl, by rw [HE.out]; exact Sl.nil _ _, HM7.out.same HM9.out⟩
  · have HE : Hid (fromP l = ([], 0, 5)) := fromP_bad (by rw [hln]; exact fun h => h16 h.1)
    have hne : ((n : Int) != 1016) = true := by simp; omega
    clear h16
    go_enter Tryd.func11, Tryd.ntmps11
    go_wp2
    go_ret3
    exact .mk ⟨none, 0, 0, by rw [HE.out]; rfl, by rw [HE.out]; rfl, by rw [HE.out]; exact Sl.nil _ _, Mod.refl _ _⟩
end Go.Proofs.YtibkhdlddllcjaaDoor
