/- Whether a plain node is such as is gone through. -/
import Derived.Test.YtbogdjjeipdbaaaDoorNodeOpen
namespace Go.Proofs.YtbogdjjeipdbaaaDoor
open Go.RowKit Go.Maps
set_option linter.unusedSimpArgs false
set_option linter.unusedVariables false

def csz (xs : List Cv) : Nat := (xs.map fun x => 1 + x.k.n + x.i.n).sum
def kz (ks : List Bv) : Nat := (ks.map fun k => 1 + k.n).sum
theorem csz_take {xs : List Cv} {i : Nat} {x : Cv} (h : xs[i]? = some x) : csz (xs.take (i + 1)) = csz (xs.take i) + (1 + x.k.n + x.i.n) := by
  obtain ⟨h1, h2⟩ := List.getElem?_eq_some_iff.1 h
  rw [List.take_succ_eq_append_getElem h1, h2]; simp [csz]
theorem kz_take {ks : List Bv} {i : Nat} {k : Bv} (h : ks[i]? = some k) : kz (ks.take (i + 1)) = kz (ks.take i) + (1 + k.n) := by
  obtain ⟨h1, h2⟩ := List.getElem?_eq_some_iff.1 h
  rw [List.take_succ_eq_append_getElem h1, h2]; simp [kz]
theorem sizeRCells (W : World) : (sizeOf (Tryd.prog.elem 22)).run Tryd.prog W = .ok 4 W := by kernel_rfl
def SmallR (xs : List Cv) (ks : List Bv) (kids : List Int) (w : World) (v : Value) (w' : World) : Prop := ∃ B, v = .bool B ∧ (B = true → csz xs + kz ks + kids.length ≤ 5000) ∧ Mod [] w w'
set_option maxRecDepth 100000 in
set_option maxHeartbeats 4000000 in
theorem small_any (br : Bool) (cp : Option Addr) (cn cc : Nat) (xs : List Cv) (kp : Option Addr) (kn kc : Nat) (ks : List Bv) (qp : Option Addr) (qn qc : Nat) (kids : List Int) (w : World) (h : NdIn w br cp cn cc xs kp kn kc ks qp qn qc kids) :
    Calls Tryd.prog 7 #[.agg #[.bool br, .slice cp cn cc, .slice kp kn kc, .slice qp qn qc]] w (Ret (SmallR xs ks kids w)) := by
  have hreach : reachBytes = 140737488351232 := rfl
  have hbc := h.bc; have hbk := h.bk; have hbq := h.bq
  rw [hreach] at hbc hbk hbq
  have HXL := Lib.hid h.cells.len
  have HKL := Lib.hid h.keys.len
  have HQL : Hid (kids.length = qn) := by unfold Hid; have := h.kids.len; simpa using this
  obtain ⟨b, off, hp, hcs⟩ := h.cells.sl.at_
  have hidx := fun W => Sl.idx (P := Tryd.prog) (cap := cc) Tryd.underlying22 sizeRCells (fun h => (hp h).1) W .i64
  have HLT : Hid (0 < cn → b < w.heap.size) := fun h => (hp h).2
  have HG : Hid (∀ i, i < cn → ∃ x, xs[i]? = some x ∧ x.k.n ≤ 140737488351232 ∧ x.i.n ≤ 140737488351232 ∧ w.cell? ⟨b, off + i * 4, none⟩ = some (.slice x.k.p x.k.n x.k.c) ∧ w.cell? ⟨b, off + i * 4 + 1, none⟩ = some (.slice x.i.p x.i.n x.i.c)) := fun i hi => by
    obtain ⟨kp, kn, kc, kl, ip, im, ic, il, sz, hd, hx, _, _, _, d0, d1, _, _⟩ := h.cells.get hcs i hi
    obtain ⟨e1, e2⟩ := h.bcs _ (List.mem_of_getElem? hx)
    exact ⟨_, hx, e1, e2, d0, d1⟩
  obtain ⟨b2, off2, hp2, hcs2⟩ := h.keys.sl.at_
  have hidx2 := fun W => Sl.idx (P := Tryd.prog) (cap := kc) Tryd.underlying23 sizeRows (fun h => (hp2 h).1) W .i64
  simp only [Nat.mul_one] at hidx2
  have HLT2 : Hid (0 < kn → b2 < w.heap.size) := fun h => (hp2 h).2
  have HG2 : Hid (∀ i, i < kn → ∃ k, ks[i]? = some k ∧ k.n ≤ 140737488351232 ∧ w.cell? ⟨b2, off2 + i, none⟩ = some (.slice k.p k.n k.c)) := fun i hi => by
    obtain ⟨kp, kn, kc, kl, hx, _, _, d0⟩ := h.keys.get hcs2 i hi
    exact ⟨_, hx, h.bks _ (List.mem_of_getElem? hx), d0⟩
  have HA0 := Lib.hid (at_alloc w (.cells #[.bool br, .slice cp cn cc, .slice kp kn kc, .slice qp qn qc] 26))
  have HM0 := Lib.hid (Mod.of_alloc w (.cells #[.bool br, .slice cp cn cc, .slice kp kn kc, .slice qp qn qc] 26))
  clear h hp hcs hp2 hcs2 hreach
  go_enter Tryd.func7, Tryd.ntmps7
  go_wp2
  obtain ⟨A, hA⟩ : ∃ A, A = w.heap.size := ⟨_, rfl⟩
  rw [← hA] at HA0 ⊢
  have hAle : w.heap.size ≤ A := by omega
  clear hA
  go_loopw [3, 4] (fun nv iv wr => ∃ i N : Nat, i ≤ cn ∧ iv = .int .i64 i ∧ nv = .int .i64 N ∧ N = csz (xs.take i) ∧ N ≤ 1000000000000000 ∧ wr.heap[A]? = some (.cells #[.bool br, .slice cp cn cc, .slice kp kn kc, .slice qp qn qc] 26 (0, 0)) ∧ Mod [] w wr) (fun _ iv _ => cn - (intOf iv).toNat)
  case atStart => exact ⟨0, 0, by omega, rfl, rfl, rfl, by omega, HA0.out, HM0.out⟩
  case round =>
    obtain ⟨i, N, hi, rfl, rfl, hN, hNb, hat, hm⟩ := hrel
    have c1 : wr.cell? ⟨A, 1, none⟩ = some (.slice cp cn cc) := cell_of_at hat 1
    have HN := Lib.hid hN
    have HAT := Lib.hid hat
    have HM := Lib.hid hm
    clear hN hat hm HA0 HM0
    by_cases hgo : i < cn ∧ N ≤ 5000
    · obtain ⟨hlt, hN5⟩ := hgo
      obtain ⟨x, hx, e1, e2, d0, d1⟩ := HG.out i hlt
      have hbl := HLT.out (by omega)
      rw [← HM.out.cell (a := ⟨b, _, none⟩) hbl (by simp)] at d0 d1
      have HS : Hid (N + (1 + x.k.n + x.i.n) = csz (xs.take (i + 1))) := by rw [HN.out]; exact (csz_take hx).symm
      obtain ⟨⟨xp, xn, xc, xl⟩, ⟨yp, yn, yc, yl⟩, sz, hd⟩ := x
      simp only at e1 e2 d0 d1 HS
      have hw1 : IntKind.i64.wrap ((N : Int) + 1) = ((N + 1 : Nat) : Int) := by rw [IntWalk.i64_in _ (by omega)]; omega
      have hw2 : IntKind.i64.wrap (((N + 1 : Nat) : Int) + (xn : Int)) = ((N + 1 + xn : Nat) : Int) := by rw [IntWalk.i64_in _ (by omega)]; omega
      have hw3 : IntKind.i64.wrap (((N + 1 + xn : Nat) : Int) + (yn : Int)) = ((N + (1 + xn + yn) : Nat) : Int) := by rw [IntWalk.i64_in _ (by omega)]; omega
      have hwi : IntKind.i64.wrap ((i : Int) + 1) = (i : Int) + 1 := IntWalk.i64_in _ (by omega)
      have hidxi := fun W => hidx W i hlt
      clear hx
      go_wp2_with fail
      go_quiet (fail)
      go_wp2
      go_roundw
      case rel => exact ⟨i + 1, N + (1 + xn + yn), by omega, by go_num, congrArg (Value.int .i64) (by omega), HS.out, by omega, HAT.out, HM.out.drewN⟩
      case measure => simp [intOf]; omega
    · have hstop : i = cn ∨ 5000 < N := by omega
      have hD : (decide (i < cn) = false) ∨ (decide (i < cn) = true ∧ decide ((N : Int) ≤ 5000) = false) := by
        by_cases h1 : i < cn
        · right; exact ⟨decide_eq_true h1, decide_eq_false (by omega)⟩
        · left; exact decide_eq_false h1
      clear hgo
      have c2 : wr.cell? ⟨A, 2, none⟩ = some (.slice kp kn kc) := cell_of_at HAT.out 2
      have c3 : wr.cell? ⟨A, 3, none⟩ = some (.slice qp qn qc) := cell_of_at HAT.out 3
      by_cases h1 : i < cn
      all_goals
        have h2 : 5000 < N ∨ i = cn := by omega
        go_wp2
        go_loopw [3, 5] (fun nv iv wr => ∃ j N2 : Nat, j ≤ kn ∧ iv = .int .i64 j ∧ nv = .int .i64 N2 ∧ N2 = N + kz (ks.take j) ∧ N2 ≤ 2000000000000000 ∧ wr.heap[A]? = some (.cells #[.bool br, .slice cp cn cc, .slice kp kn kc, .slice qp qn qc] 26 (0, 0)) ∧ Mod [] w wr) (fun _ iv _ => kn - (intOf iv).toNat)
        case atStart => exact ⟨0, N, by omega, rfl, rfl, rfl, by omega, HAT.out, HM.out⟩
        case round =>
          obtain ⟨j, N2, hj, rfl, rfl, hN2, hN2b, hat, hm⟩ := hrel
          have g2 : wr.cell? ⟨A, 2, none⟩ = some (.slice kp kn kc) := cell_of_at hat 2
          have g3 : wr.cell? ⟨A, 3, none⟩ = some (.slice qp qn qc) := cell_of_at hat 3
          have HN2 := Lib.hid hN2
          have HAT2 := Lib.hid hat
          have HM2 := Lib.hid hm
          clear hN2 hat hm c1 c2 c3
          by_cases hgo : j < kn ∧ N2 ≤ 5000
          · obtain ⟨hlt, hN5⟩ := hgo
            obtain ⟨k, hx, e1, d0⟩ := HG2.out j hlt
            have hbl := HLT2.out (by omega)
            rw [← HM2.out.cell (a := ⟨b2, _, none⟩) hbl (by simp)] at d0
            have HS : Hid (N2 + (1 + k.n) = N + kz (ks.take (j + 1))) := by unfold Hid; rw [HN2.out, kz_take hx]; omega
            obtain ⟨xp, xn, xc, xl⟩ := k
            simp only at e1 d0 HS
            have hw1 : IntKind.i64.wrap ((N2 : Int) + 1) = ((N2 + 1 : Nat) : Int) := by rw [IntWalk.i64_in _ (by omega)]; omega
            have hw2 : IntKind.i64.wrap (((N2 + 1 : Nat) : Int) + (xn : Int)) = ((N2 + (1 + xn) : Nat) : Int) := by rw [IntWalk.i64_in _ (by omega)]; omega
            have hwi : IntKind.i64.wrap ((j : Int) + 1) = (j : Int) + 1 := IntWalk.i64_in _ (by omega)
            have hidxi := fun W => hidx2 W j hlt
            clear hx
            go_wp2
            go_roundw
            case rel => exact ⟨j + 1, N2 + (1 + xn), by omega, by go_num, congrArg (Value.int .i64) (by omega), HS.out, by omega, HAT2.out, HM2.out⟩
            case measure => simp [intOf]; omega
          · have hstop2 : j = kn ∨ 5000 < N2 := by omega
            have hwq : IntKind.i64.wrap ((N2 : Int) + (qn : Int)) = ((N2 + qn : Nat) : Int) := by rw [IntWalk.i64_in _ (by omega)]; omega
            have HFIN : Hid (N2 + qn ≤ 5000 → csz xs + kz ks + kids.length ≤ 5000) := fun h => by
              have hNle : N ≤ N2 := by rw [HN2.out]; omega
              obtain rfl : j = kn := by omega
              obtain rfl : i = cn := by omega
              have e1 := HN.out; have e2 := HN2.out
              rw [List.take_of_length_le (by rw [HXL.out]; omega)] at e1
              rw [List.take_of_length_le (by rw [HKL.out]; omega)] at e2
              rw [HQL.out]; omega
            clear hgo
            by_cases h3 : j < kn
            all_goals
              go_wp2
              go_ret
              exact .mk ⟨_, rfl, fun h => HFIN.out (by have := of_decide_eq_true h; omega), HM2.out⟩
end Go.Proofs.YtbogdjjeipdbaaaDoor
