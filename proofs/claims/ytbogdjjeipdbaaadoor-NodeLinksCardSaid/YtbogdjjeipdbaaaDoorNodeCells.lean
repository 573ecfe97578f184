/- NodeCells: what the law's function returns. -/
import Derived.Test.YtbogdjjeipdbaaaDoorNodeAwake
import Derived.Test.YtbogdjjeipdbaaaDoorNodeOf
namespace Go.Proofs.YtbogdjjeipdbaaaDoor
open Go.RowKit Go.Maps
set_option linter.unusedSimpArgs false
set_option linter.unusedVariables false

def TrueR (w : World) (v : Value) (w' : World) : Prop := v = .bool true ∧ Mod [] w w'
theorem lsum_csz : ∀ {xs : List Cv}, (∀ x ∈ xs, x.k.l.length = x.k.n ∧ x.i.l.length = x.i.n) → lsum (xs.map Cv.pl) ≤ 9 * csz xs
  | [], _ => by simp [lsum]
  | x :: r, h => by
    have ih := lsum_csz (xs := r) fun y hy => h y (by simp [hy])
    obtain ⟨h1, h2⟩ := h x (by simp)
    simp only [lsum, csz, List.map_cons, List.sum_cons, clLen, Cv.pl] at ih ⊢
    rw [h1, h2]
    split <;> omega
theorem ksum_kz : ∀ {ks : List Bv}, (∀ k ∈ ks, k.l.length = k.n) → ksum (ks.map Bv.l) ≤ 5 * kz ks
  | [], _ => by simp [ksum]
  | k :: r, h => by
    have ih := ksum_kz (ks := r) fun y hy => h y (by simp [hy])
    have h1 := h k (by simp)
    simp only [ksum, kz, List.map_cons, List.sum_cons] at ih ⊢
    omega
/-- One cell of a row. -/
theorem CellsIn.one {w : World} {p : Option Addr} {n c : Nat} {xs : List Cv} (h : CellsIn w p n c xs) {i : Nat} {x : Cv} (hx : xs[i]? = some x) {T : TypeId} (hT : Tryd.prog.underlying T = some (.slice (Tryd.prog.elem T))) (hs : ∀ W : World, (sizeOf (Tryd.prog.elem T)).run Tryd.prog W = .ok 4 W) :
    ∃ p', (∀ W, (Instr.slice T (.slice p n c) (some (.int .i64 (i : Int))) (some (.int .i64 ((i : Int) + 1))) none).run Tryd.prog W = .ok (.slice p' 1 (c - i)) W) ∧ CellsIn w p' 1 (c - i) [x] := by
  obtain ⟨h1, h2⟩ := List.getElem?_eq_some_iff.1 hx
  have hi : i < n := by rw [← h.len]; exact h1
  obtain ⟨p', r, s, _⟩ := h.sl.sub hT hs i (i + 1) .i64 .i64 (by omega) (by omega)
  have e1 : i + 1 - i = 1 := by omega
  rw [e1] at r s
  refine ⟨p', fun W => by have := r W; simpa using this, ⟨?_, fun y hy => ?_⟩⟩
  · have e : ((ccells xs).drop (i * 4)).take (1 * 4) = ccells [x] := by
      apply List.ext_getElem?
      intro j
      rw [List.getElem?_take]
      by_cases hj : j < 4
      · rw [if_pos (by omega), List.getElem?_drop, ccells_at h1 j hj, h2]
        have : ccells [x] = x.cells := by simp [ccells]
        rw [this]
      · rw [if_neg (by omega), List.getElem?_eq_none (by rw [ccells_len]; simp; omega)]
    rw [e] at s; exact s
  · simp at hy; subst hy; exact h.io _ (List.mem_of_getElem? hx)
theorem KeysIn.one {w : World} {p : Option Addr} {n c : Nat} {ks : List Bv} (h : KeysIn w p n c ks) {i : Nat} {k : Bv} (hx : ks[i]? = some k) :
    ∃ p', (∀ W, (Instr.slice 23 (.slice p n c) (some (.int .i64 (i : Int))) (some (.int .i64 ((i : Int) + 1))) none).run Tryd.prog W = .ok (.slice p' 1 (c - i)) W) ∧ KeysIn w p' 1 (c - i) [k] := by
  obtain ⟨h1, h2⟩ := List.getElem?_eq_some_iff.1 hx
  have hi : i < n := by rw [← h.len]; exact h1
  obtain ⟨p', r, s, _⟩ := h.sl.sub Tryd.underlying23 sizeRows i (i + 1) .i64 .i64 (by omega) (by omega)
  have e1 : i + 1 - i = 1 := by omega
  rw [e1] at r s
  refine ⟨p', fun W => by have := r W; simpa using this, ⟨?_, fun y hy => ?_⟩⟩
  · have e : ((ks.map Bv.val).drop (i * 1)).take (1 * 1) = [k].map Bv.val := by
      rw [Nat.mul_one, Nat.mul_one, List.drop_eq_getElem_cons (by simpa using h1)]
      simp [h2]
    rw [e] at s; exact s
  · simp at hy; subst hy; exact h.io _ (List.mem_of_getElem? hx)

set_option maxRecDepth 100000 in
set_option maxHeartbeats 16000000 in
theorem ncells_any (br : Bool) (cp : Option Addr) (cn cc : Nat) (xs : List Cv) (kp : Option Addr) (kn kc : Nat) (ks : List Bv) (qp : Option Addr) (qn qc : Nat) (kids : List Int) (w : World) (h : NdIn w br cp cn cc xs kp kn kc ks qp qn qc kids) :
    Calls Tryd.prog 3 #[.agg #[.bool br, .slice cp cn cc, .slice kp kn kc, .slice qp qn qc]] w (Ret (TrueR w)) := by
  have HA0 := Lib.hid (at_alloc w (.cells #[.bool br, .slice cp cn cc, .slice kp kn kc, .slice qp qn qc] 26))
  have HM0 := Lib.hid (Mod.of_alloc w (.cells #[.bool br, .slice cp cn cc, .slice kp kn kc, .slice qp qn qc] 26))
  have H := Lib.hid h
  have HXL := Lib.hid h.cells.len
  have HKL := Lib.hid h.keys.len
  have HLS : Hid (csz xs + kz ks + kids.length ≤ 5000 → lsum (xs.map Cv.pl) ≤ 45000 ∧ ksum (ks.map Bv.l) ≤ 25000 ∧ cn ≤ 5000 ∧ kn ≤ 5000) := fun hs => by
    have h1 := lsum_csz (xs := xs) fun x hx => ⟨(h.cells.io x hx).1.len, (h.cells.io x hx).2.len⟩
    have h2 := ksum_kz (ks := ks) fun k hk => (h.keys.io k hk).len
    have h3 := lsum_len (xs.map Cv.pl)
    have h4 := ksum_len (ks.map Bv.l)
    rw [List.length_map, HXL.out] at h3
    rw [List.length_map, HKL.out] at h4
    have h5 : ∀ ys : List Cv, ys.length ≤ csz ys := fun ys => by
      induction ys with
      | nil => simp
      | cons a r ih => simp only [csz, List.map_cons, List.sum_cons, List.length_cons] at ih ⊢; omega
    have h6 : ∀ ys : List Bv, ys.length ≤ kz ys := fun ys => by
      induction ys with
      | nil => simp
      | cons a r ih => simp only [kz, List.map_cons, List.sum_cons, List.length_cons] at ih ⊢; omega
    have h7 := h5 xs; have h8 := h6 ks
    rw [HXL.out] at h7; rw [HKL.out] at h8
    exact ⟨by omega, by omega, by omega, by omega⟩
  clear h
  go_enter Tryd.func3, Tryd.ntmps3
  go_wp2_with fail
  obtain ⟨A, hA⟩ : ∃ A, A = w.heap.size := ⟨_, rfl⟩
  rw [← hA] at HA0 ⊢
  clear hA
  refine (awake_any _).mono ?_
  rintro _ w1 ⟨_, rfl, rfl, m1⟩
  have HA1 := Lib.hid (m1.at HA0.out (by simp))
  have HM1 : Hid (Mod [] w w1) := HM0.out.same m1
  clear m1 HA0 HM0
  have c0 : w1.cell? ⟨A, 0, none⟩ = some (.bool br) := cell_of_at HA1.out 0
  have c1 : w1.cell? ⟨A, 1, none⟩ = some (.slice cp cn cc) := cell_of_at HA1.out 1
  have c2 : w1.cell? ⟨A, 2, none⟩ = some (.slice kp kn kc) := cell_of_at HA1.out 2
  have c3 : w1.cell? ⟨A, 3, none⟩ = some (.slice qp qn qc) := cell_of_at HA1.out 3
  go_wp2_with fail
  refine (small_any br cp cn cc xs kp kn kc ks qp qn qc kids _ (H.out.mod0 HM1.out)).mono ?_
  rintro _ w2 ⟨_, rfl, S, rfl, hS, m2⟩
  have HS := Lib.hid hS
  have HA2 := Lib.hid (m2.at HA1.out (by simp))
  have HM2 : Hid (Mod [] w w2) := HM1.out.same m2
  clear m2 HA1 HM1 c0 c1 c2 c3 hS
  cases S with
  | false =>
    go_wp2
    go_ret
    exact .mk ⟨rfl, HM2.out⟩
  | true =>
    obtain ⟨b1, b2, b3, b4⟩ := HLS.out (HS.out rfl)
    have c0 : w2.cell? ⟨A, 0, none⟩ = some (.bool br) := cell_of_at HA2.out 0
    have c1 : w2.cell? ⟨A, 1, none⟩ = some (.slice cp cn cc) := cell_of_at HA2.out 1
    have c2 : w2.cell? ⟨A, 2, none⟩ = some (.slice kp kn kc) := cell_of_at HA2.out 2
    have c3 : w2.cell? ⟨A, 3, none⟩ = some (.slice qp qn qc) := cell_of_at HA2.out 3
    clear HS HLS
    go_wp2_with fail
    refine (of_any br cp cn cc xs kp kn kc ks qp qn qc kids _ (H.out.mod0 HM2.out) (fun _ => by omega)).mono ?_
    rintro _ w3 ⟨_, rfl, m3, hof⟩
    have HA3 := Lib.hid (m3.at HA2.out (by simp))
    have HM3 : Hid (Mod [] w w3) := HM2.out.same m3
    clear m3 HA2 HM2 c0 c1 c2 c3
    have c0 : w3.cell? ⟨A, 0, none⟩ = some (.bool br) := cell_of_at HA3.out 0
    cases br with
    | true =>
      rw [if_pos rfl] at hof
      obtain ⟨B, rfl, hB⟩ := hof
      have HB := Lib.hid hB
      have HKS : Hid (∀ i k, ks[i]? = some k → ksum ((ks.map Bv.l).take (i + 1)) = ksum ((ks.map Bv.l).take i) + (5 + k.l.length)) := fun i k hk => by
        obtain ⟨h1, h2⟩ := List.getElem?_eq_some_iff.1 hk
        rw [ksum_take (by simpa using h1)]; simp [h2]
      have HKE := Lib.hid (ksum_take_le (ks.map Bv.l))
      clear hB
      go_wp2
      go_loopw [4, 5] (fun sv iv wr => ∃ i : Nat, i ≤ kn ∧ iv = .int .i64 i ∧ sv = .int .i64 ((7 + ksum ((ks.map Bv.l).take i) : Nat) : Int) ∧ wr.heap[A]? = some (.cells #[.bool true, .slice cp cn cc, .slice kp kn kc, .slice qp qn qc] 26 (0, 0)) ∧ Mod [] w wr ∧ Mod [] w3 wr) (fun _ iv _ => kn - (intOf iv).toNat)
      case atStart => exact ⟨0, by omega, rfl, rfl, HA3.out, HM3.out, Mod.refl _ _⟩
      case round =>
        obtain ⟨i, hi, rfl, rfl, hat, hm, hm3⟩ := hrel
        have HAT := Lib.hid hat
        have HM := Lib.hid hm
        have HMB := Lib.hid hm3
        have c2 : wr.cell? ⟨A, 2, none⟩ = some (.slice kp kn kc) := cell_of_at hat 2
        clear hat hm hm3 c0
        by_cases hlt : i < kn
        · have hk : ks[i]? = some (ks[i]'(by rw [HKL.out]; exact hlt)) := List.getElem?_eq_getElem _
          obtain ⟨k, hkk⟩ : ∃ k, k = ks[i]'(by rw [HKL.out]; exact hlt) := ⟨_, rfl⟩
          rw [← hkk] at hk
          obtain ⟨p', hsl, hone⟩ := H.out.keys.one hk
          have hst := HKS.out i k hk
          have hle := HKE.out (i + 1)
          have HONE := Lib.hid hone
          have hbr : brLen ([k].map Bv.l) = 7 + (5 + k.l.length) := by simp [brLen, ksum]
          have HBRL := Lib.hid hbr
          have hwi : IntKind.i64.wrap ((i : Int) + 1) = (i : Int) + 1 := IntWalk.i64_in _ (by omega)
          obtain ⟨V, hV⟩ : ∃ V, V = ksum ((ks.map Bv.l).take i) := ⟨_, rfl⟩
          rw [← hV] at hst ⊢
          have HST := Lib.hid hst
          have hkb : k.l.length ≤ 30000 := by omega
          have hVb : V ≤ 30000 := by omega
          have HB5 : Hid (BrAt ((wr.alloc (.cells #[.int .i64 2, .int .i64 3] 3)).alloc (.cells #[.slice p' 1 (kc - i), .slice (some ⟨wr.heap.size, 0, none⟩) 2 2] 34)) (wr.heap.size + 1) [k] [2, 3]) := by
            refine ⟨p', 1, kc - i, some ⟨wr.heap.size, 0, none⟩, 2, 2, at_alloc' _ _ (by simp), HONE.out.mod0 (HM.out.alloc.alloc), ?_⟩
            exact (Sl.new wr [.int .i64 2, .int .i64 3] 3 1 2 rfl (by simp [maxLen]) (by intro u hu; simp at hu; rcases hu with rfl | rfl <;> rfl)).mod (Mod.of_alloc _ _) (by simp)
          have HCALL := Lib.hid (brlen_any (wr.heap.size + 1) [k] [2, 3] _ HB5.out (by rw [hbr]; omega))
          rw [HBRL.out] at HCALL
          have HM5 : Hid (Mod [] wr ((wr.alloc (.cells #[.int .i64 2, .int .i64 3] 3)).alloc (.cells #[.slice p' 1 (kc - i), .slice (some ⟨wr.heap.size, 0, none⟩) 2 2] 34))) := (Mod.refl [] wr).alloc.alloc
          have hw1 : IntKind.i64.wrap (((7 + V : Nat) : Int) + ((7 + (5 + k.l.length) : Nat) : Int)) = ((14 + V + (5 + k.l.length) : Nat) : Int) := by rw [IntWalk.i64_in _ (by omega)]; omega
          have hw2 : IntKind.i64.wrap (((14 + V + (5 + k.l.length) : Nat) : Int) - 7) = ((7 + (V + (5 + k.l.length)) : Nat) : Int) := by rw [IntWalk.i64_in _ (by omega)]; omega
          have HVV := Lib.hid hV
          clear hk hkk hone hst hle hbr hV
          go_wp2_with fail
          refine HCALL.out.mono ?_
          rintro _ w6 ⟨_, rfl, rfl, rfl⟩
          generalize ((wr.alloc (.cells #[.int .i64 2, .int .i64 3] 3)).alloc (.cells #[.slice p' 1 (kc - i), .slice (some ⟨wr.heap.size, 0, none⟩) 2 2] 34)) = w5 at *
          generalize k.l.length = KL at *
          go_wp2
          go_roundw
          case rel => exact ⟨i + 1, by omega, by go_num, by rw [HST.out]; exact congrArg (Value.int .i64) (by omega), HM5.out.at HAT.out (by simp), HM.out.same HM5.out, HMB.out.same HM5.out⟩
          case measure => simp [intOf]; omega
        · obtain rfl : i = kn := by omega
          have HL := Lib.hid (brlen_any B ks kids wr (HB.out.mod0 HMB.out) (by unfold brLen; omega))
          have HE : Hid (brLen (ks.map Bv.l) = 7 + ksum ((ks.map Bv.l).take i)) := by unfold Hid brLen; rw [List.take_of_length_le (by rw [List.length_map, HKL.out]; omega)]
          rw [HE.out] at HL
          generalize (7 + ksum ((ks.map Bv.l).take i)) = LL at *
          go_wp2_with fail
          refine HL.out.mono ?_
          rintro _ w6 ⟨_, rfl, rfl, rfl⟩
          go_wp2
          go_ret
          exact .mk ⟨by simp, HM.out⟩
    | false =>
      rw [if_neg (by simp)] at hof
      obtain ⟨L, rfl, hL⟩ := hof
      have HL := Lib.hid hL
      have HKS : Hid (∀ i x, xs[i]? = some x → lsum ((xs.map Cv.pl).take (i + 1)) = lsum ((xs.map Cv.pl).take i) + clLen x.pl) := fun i x hx => by
        obtain ⟨h1, h2⟩ := List.getElem?_eq_some_iff.1 hx
        rw [lsum_take (by simpa using h1)]; simp [h2]
      have HKE := Lib.hid (lsum_take_le (xs.map Cv.pl))
      clear hL
      go_wp2
      go_loopw [6, 7] (fun sv iv wr => ∃ i : Nat, i ≤ cn ∧ iv = .int .i64 i ∧ sv = .int .i64 ((3 + lsum ((xs.map Cv.pl).take i) : Nat) : Int) ∧ wr.heap[A]? = some (.cells #[.bool false, .slice cp cn cc, .slice kp kn kc, .slice qp qn qc] 26 (0, 0)) ∧ Mod [] w wr ∧ Mod [] w3 wr) (fun _ iv _ => cn - (intOf iv).toNat)
      case atStart => exact ⟨0, by omega, rfl, rfl, HA3.out, HM3.out, Mod.refl _ _⟩
      case round =>
        obtain ⟨i, hi, rfl, rfl, hat, hm, hm3⟩ := hrel
        have HAT := Lib.hid hat
        have HM := Lib.hid hm
        have HMB := Lib.hid hm3
        have c1 : wr.cell? ⟨A, 1, none⟩ = some (.slice cp cn cc) := cell_of_at hat 1
        clear hat hm hm3 c0
        by_cases hlt : i < cn
        · have hk : xs[i]? = some (xs[i]'(by rw [HXL.out]; exact hlt)) := List.getElem?_eq_getElem _
          obtain ⟨x, hkk⟩ : ∃ x, x = xs[i]'(by rw [HXL.out]; exact hlt) := ⟨_, rfl⟩
          rw [← hkk] at hk
          obtain ⟨p', hsl, hone⟩ := H.out.cells.one hk Tryd.underlying22 sizeRCells
          have hst := HKS.out i x hk
          have hle := HKE.out (i + 1)
          have hx2 := H.out.bcs x (List.mem_of_getElem? hk)
          have hbr : leafLen ([x].map Cv.pl) = 3 + clLen x.pl := by simp [leafLen, lsum]
          have HBRL := Lib.hid hbr
          have hwi : IntKind.i64.wrap ((i : Int) + 1) = (i : Int) + 1 := IntWalk.i64_in _ (by omega)
          obtain ⟨V, hV⟩ : ∃ V, V = lsum ((xs.map Cv.pl).take i) := ⟨_, rfl⟩
          rw [← hV] at hst ⊢
          have HST := Lib.hid hst
          have hkb : clLen x.pl ≤ 50000 := by omega
          have hVb : V ≤ 50000 := by omega
          have HND : Hid (NdIn wr false p' 1 (cc - i) [x] none 0 0 [] none 0 0 []) := by
            refine ⟨hone.mod0 HM.out, ⟨by simpa using Sl.nil _ 1, by simp⟩, by simpa using Sl.nil _ 1, by decide, by decide, by decide, fun y hy => ?_, by simp⟩
            simp at hy; subst hy; exact hx2
          have HCALL := Lib.hid (of_any false p' 1 (cc - i) [x] none 0 0 [] none 0 0 [] wr HND.out (fun _ => by omega))
          have HLEN := fun L' W h => Lib.hid (leaflen_any L' [x] W h (by rw [hbr]; omega))
          simp only [HBRL.out] at HLEN
          have hw1 : IntKind.i64.wrap (((3 + V : Nat) : Int) + ((3 + clLen x.pl : Nat) : Int)) = ((6 + V + clLen x.pl : Nat) : Int) := by rw [IntWalk.i64_in _ (by omega)]; omega
          have hw2 : IntKind.i64.wrap (((6 + V + clLen x.pl : Nat) : Int) - 3) = ((3 + (V + clLen x.pl) : Nat) : Int) := by rw [IntWalk.i64_in _ (by omega)]; omega
          have HVV := Lib.hid hV
          clear hk hkk hone hst hle hbr hV hx2
          go_wp2_with fail
          refine HCALL.out.mono ?_
          rintro _ w5 ⟨_, rfl, m5, hof5⟩
          rw [if_neg (by simp)] at hof5
          obtain ⟨L5, rfl, hL5⟩ := hof5
          have HM5 := Lib.hid m5
          have HL5 := Lib.hid hL5
          clear m5 hL5 HCALL HND
          go_wp2_with fail
          refine (HLEN _ _ HL5.out).out.mono ?_
          rintro _ w6 ⟨_, rfl, rfl, m6⟩
          have HM6 : Hid (Mod [] wr w6) := HM5.out.same m6
          clear m6 HLEN HL5 HM5
          generalize clLen x.pl = KL at *
          go_wp2
          go_roundw
          case rel => exact ⟨i + 1, by omega, by go_num, by rw [HST.out]; exact congrArg (Value.int .i64) (by omega), HM6.out.at HAT.out (by simp), HM.out.same HM6.out, HMB.out.same HM6.out⟩
          case measure => simp [intOf]; omega
        · obtain rfl : i = cn := by omega
          have HLL := Lib.hid (leaflen_any L xs wr (HL.out.mod0 HMB.out) (by unfold leafLen; omega))
          have HE : Hid (leafLen (xs.map Cv.pl) = 3 + lsum ((xs.map Cv.pl).take i)) := by unfold Hid leafLen; rw [List.take_of_length_le (by rw [List.length_map, HXL.out]; omega)]
          rw [HE.out] at HLL
          generalize (3 + lsum ((xs.map Cv.pl).take i)) = LL at *
          go_wp2_with fail
          refine HLL.out.mono ?_
          rintro _ w6 ⟨_, rfl, rfl, m6⟩
          have HM6 : Hid (Mod [] w w6) := HM.out.same m6
          clear m6
          go_wp2
          go_ret
          exact .mk ⟨by simp, HM6.out⟩
end Go.Proofs.YtbogdjjeipdbaaaDoor
