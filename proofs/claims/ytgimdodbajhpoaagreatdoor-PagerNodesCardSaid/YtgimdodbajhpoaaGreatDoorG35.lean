/- A plain node that came in, opened. Whether a plain node is such as is gone through. The document's nodes: how long they are. -/
import Derived.Lib.SmallJoins
import Derived.Test.YtgimdodbajhpoaaGreatDoorG16
import Derived.Test.YtgimdodbajhpoaaGreatDoorG34
import Derived.Test.YtgimdodbajhpoaaGreatDoorG17
import Derived.Test.YtgimdodbajhpoaaGreatDoorG12
namespace Go.Proofs.YtgimdodbajhpoaaGreatDoor
open Go.ChangeShapes Go.WideShapes Go.ChangeAt Go.RowKit Go.Deep Go.Joins
set_option linter.unusedSimpArgs false
set_option linter.unusedVariables false

section
variable {H : Type} {enc : TypeId × Value → H} {w : World} {base : Nat} {spare : Nat → Bool} {held : Bool}
theorem open_intsW {fuel len cap : Nat} {a : Option Addr} {x : DataW H × List MemPlace}
    (h : DataW.trod enc Tryz.prog w base spare held fuel 24 [.slice a len cap] = some x) (hr : Within Tryz.prog 24 x.1) : ∃ l : List Int, Sl w 1 a len cap (l.map (.int .i64)) ∧ len ≤ reachBytes := by
  have : Inhabited Int := ⟨0⟩
  obtain ⟨b, off, l, h1, h2, h3, h4, h5, h6⟩ := open_rowsW (mk := fun d : Int => [.int .i64 d])
    (Wf := fun d => True) Tryz.underlying24 (c := 1) (by kernel_rfl) (by decide) (by
      intro n cs x hx _
      obtain ⟨y, e, wy⟩ := open_intc Tryz.underlying3 hx
      exact ⟨y, e, trivial⟩) h hr
  have hs := sl_of_rows (fun d : Int => [.int .i64 d]) (by decide) (fun y => rfl) (by intro y u hu; simp at hu; subst hu; rfl) h1 h2 h3 h4
  refine ⟨(List.range len).map l, ?_, by rw [show Tryz.prog.bytesOf 3 = 8 from by kernel_rfl] at h6; omega⟩
  have e : ((List.range len).map l).flatMap (fun d : Int => [Value.int .i64 d]) = ((List.range len).map l).map (.int .i64) := flat1 _ _
  rw [← e]; exact hs
set_option maxRecDepth 100000 in
theorem open_cell {n : Nat} {cs : List Value} {x : DataW H × List MemPlace} (hx : DataW.trod enc Tryz.prog w base spare held n 57 cs = some x) (hr : Within Tryz.prog 57 x.1) :
    ∃ d : Cv, cs = d.cells ∧ (d.k.In w ∧ d.i.In w) ∧ d.k.n ≤ reachBytes ∧ d.i.n ≤ reachBytes := by
  obtain ⟨y0, y1, y2, y3, m, e, hl, g0, g1, g2, g3⟩ := trod_struct4 Tryz.underlying57 hx
  rw [e] at hr
  have r0 := hr.field Tryz.underlying57 (j := 0) rfl rfl
  have r1 := hr.field Tryz.underlying57 (j := 1) rfl rfl
  rw [show Tryz.prog.cellsOf 57 = 4 from by kernel_rfl] at hl
  match cs, hl with
  | [c0, c1, c2, c3], _ =>
    simp only [show Tryz.prog.cellsOf 3 = 1 from by kernel_rfl, show Tryz.prog.cellsOf 40 = 1 from by kernel_rfl] at g0 g1 g2 g3
    simp only [List.drop_zero, List.take_succ_cons, List.take_zero, List.drop_succ_cons] at g0 g1 g2 g3
    obtain ⟨k, e0, i0, b0⟩ := open_bv g0 r0
    obtain ⟨v, e1, i1, b1⟩ := open_bv g1 r1
    obtain ⟨sz, e2, _⟩ := open_intc Tryz.underlying3 g2
    obtain ⟨hd, e3, _⟩ := open_intc Tryz.underlying3 g3
    simp at e0 e1 e2 e3
    exact ⟨⟨k, v, sz, hd⟩, by simp [Cv.cells, e0, e1, e2, e3], ⟨i0, i1⟩, b0, b1⟩
theorem open_cellsW {fuel len cap : Nat} {a : Option Addr} {x : DataW H × List MemPlace}
    (h : DataW.trod enc Tryz.prog w base spare held fuel 22 [.slice a len cap] = some x) (hr : Within Tryz.prog 22 x.1) : ∃ xs, CellsIn w a len cap xs ∧ len ≤ reachBytes ∧ ∀ k ∈ xs, k.k.n ≤ reachBytes ∧ k.i.n ≤ reachBytes := by
  have : Inhabited Cv := ⟨⟨⟨none, 0, 0, []⟩, ⟨none, 0, 0, []⟩, 0, 0⟩⟩
  obtain ⟨b, off, l, h1, h2, h3, h4, h5, h6⟩ := open_rowsW (mk := Cv.cells)
    (Wf := fun d => (d.k.In w ∧ d.i.In w) ∧ d.k.n ≤ reachBytes ∧ d.i.n ≤ reachBytes) Tryz.underlying22 (c := 4) (by kernel_rfl) (by decide) (fun n cs x hx hr => open_cell hx hr) h hr
  have hs := sl_of_rows Cv.cells (by decide) (fun y => rfl) (by intro y u hu; simp [Cv.cells] at hu; rcases hu with rfl | rfl | rfl | rfl <;> rfl) h1 h2 h3 h4
  have hall : ∀ k ∈ (List.range len).map l, (k.k.In w ∧ k.i.In w) ∧ k.k.n ≤ reachBytes ∧ k.i.n ≤ reachBytes := by
    intro y hy
    simp at hy
    obtain ⟨i, hi, rfl⟩ := hy
    exact h5 i hi
  refine ⟨(List.range len).map l, ⟨hs, fun k hk => (hall k hk).1⟩, ?_, fun k hk => (hall k hk).2⟩
  rw [show Tryz.prog.bytesOf 57 = 64 from by kernel_rfl] at h6; omega
end

/-- A plain node as it comes in. -/
structure NdIn (w : World) (br : Bool) (cp : Option Addr) (cn cc : Nat) (xs : List Cv) (kp : Option Addr) (kn kc : Nat) (ks : List Bv) (qp : Option Addr) (qn qc : Nat) (kids : List Int) : Prop where
  cells : CellsIn w cp cn cc xs
  keys : KeysIn w kp kn kc ks
  kids : Sl w 1 qp qn qc (kids.map (.int .i64))
  bc : cn ≤ reachBytes
  bk : kn ≤ reachBytes
  bq : qn ≤ reachBytes
  bcs : ∀ x ∈ xs, x.k.n ≤ reachBytes ∧ x.i.n ≤ reachBytes
  bks : ∀ k ∈ ks, k.n ≤ reachBytes
theorem NdIn.mod0 {w w' : World} {br : Bool} {cp : Option Addr} {cn cc : Nat} {xs : List Cv} {kp : Option Addr} {kn kc : Nat} {ks : List Bv} {qp : Option Addr} {qn qc : Nat} {kids : List Int}
    (h : NdIn w br cp cn cc xs kp kn kc ks qp qn qc kids) (hm : Mod [] w w') : NdIn w' br cp cn cc xs kp kn kc ks qp qn qc kids :=
  ⟨h.cells.mod0 hm, h.keys.mod0 hm, h.kids.mod hm (by simp), h.bc, h.bk, h.bq, h.bcs, h.bks⟩
set_option maxRecDepth 100000 in
theorem open_node {H : Type} {enc : TypeId × Value → H} {w : World} {base : Nat} {spare : Nat → Bool} {held : Bool} {r : Reach} {b0 fuel : Nat} {v : Value} {x : DataW H × List MemPlace}
    (hv : Value.okWide Tryz.prog w r b0 26 v) (h : DataW.trod enc Tryz.prog w base spare held fuel 26 v.cells.toList = some x) (hr : Within Tryz.prog 26 x.1) :
    ∃ br cp cn cc xs kp kn kc ks qp qn qc kids, v = .agg #[.bool br, .slice cp cn cc, .slice kp kn kc, .slice qp qn qc] ∧ NdIn w br cp cn cc xs kp kn kc ks qp qn qc kids := by
  obtain ⟨v0, v1, v2, v3, y0, y1, y2, y3, n, rfl, e, _, h0, h1, h2, h3⟩ := open_agg4 (p := x.2) (d := x.1) Tryz.underlying26 (by kernel_rfl) (by kernel_rfl) hv ⟨fuel, h⟩
  rw [e] at hr
  have r1 := hr.field Tryz.underlying26 (j := 1) rfl rfl
  have r2 := hr.field Tryz.underlying26 (j := 2) rfl rfl
  have r3 := hr.field Tryz.underlying26 (j := 3) rfl rfl
  obtain ⟨br, e0, _⟩ := DataW.trod_bool Tryz.underlying4 h0
  obtain ⟨cp, cn, cc, rfl⟩ := slice_of Tryz.underlying22 h1
  obtain ⟨kp, kn, kc, rfl⟩ := slice_of Tryz.underlying23 h2
  obtain ⟨qp, qn, qc, rfl⟩ := slice_of Tryz.underlying24 h3
  obtain ⟨xs, a1, a2, a3⟩ := open_cellsW h1 r1
  obtain ⟨ks, b1, b2, b3⟩ := open_keysW h2 r2
  obtain ⟨kids, c1, c2⟩ := open_intsW h3 r3
  simp at e0
  exact ⟨br, cp, cn, cc, xs, kp, kn, kc, ks, qp, qn, qc, kids, by rw [e0], ⟨a1, b1, c1, a2, b2, c2, a3, b3⟩⟩
end Go.Proofs.YtgimdodbajhpoaaGreatDoor
namespace Go.Proofs.YtgimdodbajhpoaaGreatDoor
open Go.RowKit Go.Maps
set_option linter.unusedSimpArgs false
set_option linter.unusedVariables false

def csz (xs : List Cv) : Nat := (xs.map fun x => 1 + x.k.n + x.i.n).sum
def kz (ks : List Bv) : Nat := (ks.map fun k => 1 + k.n).sum
theorem csz_take {xs : List Cv} {i : Nat} {x : Cv} (h : xs[i]? = some x) : csz (xs.take (i + 1)) = csz (xs.take i) + (1 + x.k.n + x.i.n) := by
  obtain ⟨h1, h2⟩ := List.getElem?_eq_some_iff.1 h
  rw [List.take_succ_eq_append_getElem h1, h2]; simp [csz]
theorem kz_take {ks : List Bv} {i : Nat} {k : Bv} (h : ks[i]? = some k) : kz (ks.take (i + 1)) = kz (ks.take i) + (1 + k.n) := by
  obtain ⟨h1, h2⟩ := List.getElem?_eq_some_iff.1 h
  rw [List.take_succ_eq_append_getElem h1, h2]; simp [kz]
theorem sizeRCells (W : World) : (sizeOf (Tryz.prog.elem 22)).run Tryz.prog W = .ok 4 W := by kernel_rfl
def SmallR (xs : List Cv) (ks : List Bv) (kids : List Int) (w : World) (v : Value) (w' : World) : Prop := ∃ B, v = .bool B ∧ (B = true → csz xs + kz ks + kids.length ≤ 5000) ∧ Mod [] w w'
set_option maxRecDepth 100000 in
set_option maxHeartbeats 4000000 in
theorem small_any (br : Bool) (cp : Option Addr) (cn cc : Nat) (xs : List Cv) (kp : Option Addr) (kn kc : Nat) (ks : List Bv) (qp : Option Addr) (qn qc : Nat) (kids : List Int) (w : World) (h : NdIn w br cp cn cc xs kp kn kc ks qp qn qc kids) :
    Calls Tryz.prog 5 #[.agg #[.bool br, .slice cp cn cc, .slice kp kn kc, .slice qp qn qc]] w (Ret (SmallR xs ks kids w)) := by
  have hreach : reachBytes = 140737488351232 := rfl
  have hbc := h.bc; have hbk := h.bk; have hbq := h.bq
  rw [hreach] at hbc hbk hbq
  have HXL := Lib.hid h.cells.len
  have HKL := Lib.hid h.keys.len
  have HQL : Hid (kids.length = qn) := by unfold Hid; have := h.kids.len; simpa using this
  obtain ⟨b, off, hp, hcs⟩ := h.cells.sl.at_
  have hidx := fun W => Sl.idx (P := Tryz.prog) (cap := cc) Tryz.underlying22 sizeRCells (fun h => (hp h).1) W .i64
  have HLT : Hid (0 < cn → b < w.heap.size) := fun h => (hp h).2
  have HG : Hid (∀ i, i < cn → ∃ x, xs[i]? = some x ∧ x.k.n ≤ 140737488351232 ∧ x.i.n ≤ 140737488351232 ∧ w.cell? ⟨b, off + i * 4, none⟩ = some (.slice x.k.p x.k.n x.k.c) ∧ w.cell? ⟨b, off + i * 4 + 1, none⟩ = some (.slice x.i.p x.i.n x.i.c)) := fun i hi => by
    obtain ⟨kp, kn, kc, kl, ip, im, ic, il, sz, hd, hx, _, _, _, d0, d1, _, _⟩ := h.cells.get hcs i hi
    obtain ⟨e1, e2⟩ := h.bcs _ (List.mem_of_getElem? hx)
    exact ⟨_, hx, e1, e2, d0, d1⟩
  obtain ⟨b2, off2, hp2, hcs2⟩ := h.keys.sl.at_
  have hidx2 := fun W => Sl.idx (P := Tryz.prog) (cap := kc) Tryz.underlying23 sizeRows (fun h => (hp2 h).1) W .i64
  simp only [Nat.mul_one] at hidx2
  have HLT2 : Hid (0 < kn → b2 < w.heap.size) := fun h => (hp2 h).2
  have HG2 : Hid (∀ i, i < kn → ∃ k, ks[i]? = some k ∧ k.n ≤ 140737488351232 ∧ w.cell? ⟨b2, off2 + i, none⟩ = some (.slice k.p k.n k.c)) := fun i hi => by
    obtain ⟨kp, kn, kc, kl, hx, _, _, d0⟩ := h.keys.get hcs2 i hi
    exact ⟨_, hx, h.bks _ (List.mem_of_getElem? hx), d0⟩
  have HA0 := Lib.hid (at_alloc w (.cells #[.bool br, .slice cp cn cc, .slice kp kn kc, .slice qp qn qc] 26))
  have HM0 := Lib.hid (Mod.of_alloc w (.cells #[.bool br, .slice cp cn cc, .slice kp kn kc, .slice qp qn qc] 26))
  clear h hp hcs hp2 hcs2 hreach
  go_enter Tryz.func5, Tryz.ntmps5
  go_wp2
  obtain ⟨A, hA⟩ : ∃ A, A = w.heap.size := ⟨_, rfl⟩
  rw [← hA] at HA0 ⊢
  have hAle : w.heap.size ≤ A := by omega
  clear hA
  go_loopw [3, 4] (fun nv iv wr => ∃ i N : Nat, i ≤ cn ∧ iv = .int .i64 i ∧ nv = .int .i64 N ∧ N = csz (xs.take i) ∧ N ≤ 1000000000000000 ∧ wr.heap[A]? = some (.cells #[.bool br, .slice cp cn cc, .slice kp kn kc, .slice qp qn qc] 26 (0, 0)) ∧ Mod [] w wr) (fun _ iv _ => cn - (intOf iv).toNat)
  case atStart => exact ⟨0, 0, by omega, rfl, rfl, rfl, by omega, HA0.out, HM0.out⟩
  case round =>
    obtain ⟨i, N, hi, rfl, rfl, hN, hNb, hat, hm⟩ := hrel
    have c1 : wr.cell? ⟨A, 1, none⟩ = some (.slice cp cn cc) := cell_of_at hat 1
    have HN := Lib.hid hN
    have HAT := Lib.hid hat
    have HM := Lib.hid hm
    clear hN hat hm HA0 HM0
    by_cases hgo : i < cn ∧ N ≤ 5000
    · obtain ⟨hlt, hN5⟩ := hgo
      obtain ⟨x, hx, e1, e2, d0, d1⟩ := HG.out i hlt
      have hbl := HLT.out (by omega)
      rw [← HM.out.cell (a := ⟨b, _, none⟩) hbl (by simp)] at d0 d1
      have HS : Hid (N + (1 + x.k.n + x.i.n) = csz (xs.take (i + 1))) := by rw [HN.out]; exact (csz_take hx).symm
      obtain ⟨⟨xp, xn, xc, xl⟩, ⟨yp, yn, yc, yl⟩, sz, hd⟩ := x
      simp only at e1 e2 d0 d1 HS
      have hw1 : IntKind.i64.wrap ((N : Int) + 1) = ((N + 1 : Nat) : Int) := by rw [IntWalk.i64_in _ (by omega)]; omega
      have hw2 : IntKind.i64.wrap (((N + 1 : Nat) : Int) + (xn : Int)) = ((N + 1 + xn : Nat) : Int) := by rw [IntWalk.i64_in _ (by omega)]; omega
      have hw3 : IntKind.i64.wrap (((N + 1 + xn : Nat) : Int) + (yn : Int)) = ((N + (1 + xn + yn) : Nat) : Int) := by rw [IntWalk.i64_in _ (by omega)]; omega
      have hwi : IntKind.i64.wrap ((i : Int) + 1) = (i : Int) + 1 := IntWalk.i64_in _ (by omega)
      have hidxi := fun W => hidx W i hlt
      clear hx
      go_wp2_with fail
      go_quiet (fail)
      go_wp2
      go_roundw
      case rel => exact ⟨i + 1, N + (1 + xn + yn), by omega, by go_num, congrArg (Value.int .i64) (by omega), HS.out, by omega, HAT.out, HM.out.drewN⟩
      case measure => simp [intOf]; omega
    · have hstop : i = cn ∨ 5000 < N := by omega
      have hD : (decide (i < cn) = false) ∨ (decide (i < cn) = true ∧ decide ((N : Int) ≤ 5000) = false) := by
        by_cases h1 : i < cn
        · right; exact ⟨decide_eq_true h1, decide_eq_false (by omega)⟩
        · left; exact decide_eq_false h1
      clear hgo
      have c2 : wr.cell? ⟨A, 2, none⟩ = some (.slice kp kn kc) := cell_of_at HAT.out 2
      have c3 : wr.cell? ⟨A, 3, none⟩ = some (.slice qp qn qc) := cell_of_at HAT.out 3
      by_cases h1 : i < cn
      all_goals
        have h2 : 5000 < N ∨ i = cn := by omega
        go_wp2
        go_loopw [3, 5] (fun nv iv wr => ∃ j N2 : Nat, j ≤ kn ∧ iv = .int .i64 j ∧ nv = .int .i64 N2 ∧ N2 = N + kz (ks.take j) ∧ N2 ≤ 2000000000000000 ∧ wr.heap[A]? = some (.cells #[.bool br, .slice cp cn cc, .slice kp kn kc, .slice qp qn qc] 26 (0, 0)) ∧ Mod [] w wr) (fun _ iv _ => kn - (intOf iv).toNat)
        case atStart => exact ⟨0, N, by omega, rfl, rfl, rfl, by omega, HAT.out, HM.out⟩
        case round =>
          obtain ⟨j, N2, hj, rfl, rfl, hN2, hN2b, hat, hm⟩ := hrel
          have g2 : wr.cell? ⟨A, 2, none⟩ = some (.slice kp kn kc) := cell_of_at hat 2
          have g3 : wr.cell? ⟨A, 3, none⟩ = some (.slice qp qn qc) := cell_of_at hat 3
          have HN2 := Lib.hid hN2
          have HAT2 := Lib.hid hat
          have HM2 := Lib.hid hm
          clear hN2 hat hm c1 c2 c3
          by_cases hgo : j < kn ∧ N2 ≤ 5000
          · obtain ⟨hlt, hN5⟩ := hgo
            obtain ⟨k, hx, e1, d0⟩ := HG2.out j hlt
            have hbl := HLT2.out (by omega)
            rw [← HM2.out.cell (a := ⟨b2, _, none⟩) hbl (by simp)] at d0
            have HS : Hid (N2 + (1 + k.n) = N + kz (ks.take (j + 1))) := by unfold Hid; rw [HN2.out, kz_take hx]; omega
            obtain ⟨xp, xn, xc, xl⟩ := k
            simp only at e1 d0 HS
            have hw1 : IntKind.i64.wrap ((N2 : Int) + 1) = ((N2 + 1 : Nat) : Int) := by rw [IntWalk.i64_in _ (by omega)]; omega
            have hw2 : IntKind.i64.wrap (((N2 + 1 : Nat) : Int) + (xn : Int)) = ((N2 + (1 + xn) : Nat) : Int) := by rw [IntWalk.i64_in _ (by omega)]; omega
            have hwi : IntKind.i64.wrap ((j : Int) + 1) = (j : Int) + 1 := IntWalk.i64_in _ (by omega)
            have hidxi := fun W => hidx2 W j hlt
            clear hx
            go_wp2
            go_roundw
            case rel => exact ⟨j + 1, N2 + (1 + xn), by omega, by go_num, congrArg (Value.int .i64) (by omega), HS.out, by omega, HAT2.out, HM2.out⟩
            case measure => simp [intOf]; omega
          · have hstop2 : j = kn ∨ 5000 < N2 := by omega
            have hwq : IntKind.i64.wrap ((N2 : Int) + (qn : Int)) = ((N2 + qn : Nat) : Int) := by rw [IntWalk.i64_in _ (by omega)]; omega
            have HFIN : Hid (N2 + qn ≤ 5000 → csz xs + kz ks + kids.length ≤ 5000) := fun h => by
              have hNle : N ≤ N2 := by rw [HN2.out]; omega
              obtain rfl : j = kn := by omega
              obtain rfl : i = cn := by omega
              have e1 := HN.out; have e2 := HN2.out
              rw [List.take_of_length_le (by rw [HXL.out]; omega)] at e1
              rw [List.take_of_length_le (by rw [HKL.out]; omega)] at e2
              rw [HQL.out]; omega
            clear hgo
            by_cases h3 : j < kn
            all_goals
              go_wp2
              go_ret
              exact .mk ⟨_, rfl, fun h => HFIN.out (by have := of_decide_eq_true h; omega), HM2.out⟩
end Go.Proofs.YtgimdodbajhpoaaGreatDoor
namespace Go.Proofs.YtgimdodbajhpoaaGreatDoor
open Go.RowKit Go.Maps
set_option linter.unusedSimpArgs false
set_option linter.unusedVariables false

theorem sum_mem {α : Type} (f : α → Nat) : ∀ {l : List α} {x : α}, x ∈ l → f x ≤ (l.map f).sum
  | [], _, h => by cases h
  | a :: r, x, h => by
    rcases List.mem_cons.1 h with rfl | h
    · simp
    · have := sum_mem f h; simp; omega
theorem sum_len {α : Type} (f : α → Nat) (hf : ∀ x, 1 ≤ f x) : ∀ l : List α, l.length ≤ (l.map f).sum
  | [] => by simp
  | a :: r => by have := sum_len f hf r; have := hf a; simp; omega
theorem csz_mem {xs : List Cv} {x : Cv} (h : x ∈ xs) : 1 + x.k.n + x.i.n ≤ csz xs := sum_mem (fun x : Cv => 1 + x.k.n + x.i.n) h
theorem csz_len (xs : List Cv) : xs.length ≤ csz xs := sum_len _ (fun x => by omega) xs
theorem kz_mem {ks : List Bv} {k : Bv} (h : k ∈ ks) : 1 + k.n ≤ kz ks := sum_mem (fun k : Bv => 1 + k.n) h
theorem kz_len (ks : List Bv) : ks.length ≤ kz ks := sum_len _ (fun k => by omega) ks
set_option maxRecDepth 100000 in
theorem qpage_any (no : Int) (w : World) : Calls Tryz.prog 20 #[.int .i64 no] w (Ret (BoolEq (mayPgN no) w)) := by
  have HV : Hid (mayPgN no = (decide (2 ≤ no) && decide (no ≤ 2147483647))) := rfl
  by_cases h : 2 ≤ no
  · have hz : decide (2 ≤ no) = true := decide_eq_true h
    by_cases h2 : no ≤ 2147483647
    · have hz2 : decide (no ≤ 2147483647) = true := decide_eq_true h2
      go_enter Tryz.func20, Tryz.ntmps20
      go_wp2
      go_ret
      exact .mk ⟨by rw [HV.out]; simp [h, h2], rfl⟩
    · have hz2 : decide (no ≤ 2147483647) = false := decide_eq_false h2
      go_enter Tryz.func20, Tryz.ntmps20
      go_wp2
      go_ret
      exact .mk ⟨by rw [HV.out, hz, hz2]; simp, rfl⟩
  · have hz : decide (2 ≤ no) = false := decide_eq_false h
    go_enter Tryz.func20, Tryz.ntmps20
    go_wp2
    go_ret
    exact .mk ⟨by rw [HV.out, hz]; simp, rfl⟩
set_option maxRecDepth 100000 in
set_option maxHeartbeats 4000000 in
theorem qlen_br (cp : Option Addr) (cn cc : Nat) (xs : List Cv) (kp : Option Addr) (kn kc : Nat) (ks : List Bv) (qp : Option Addr) (qn qc : Nat) (kids : List Int) (w : World) (h : NdIn w true cp cn cc xs kp kn kc ks qp qn qc kids) (hsm : csz xs + kz ks + kids.length ≤ 5000) :
    Calls Tryz.prog 19 #[.agg #[.bool true, .slice cp cn cc, .slice kp kn kc, .slice qp qn qc]] w (Ret (IntMd (brLen (ks.map Bv.l)) w)) := by
  have hkl := h.keys.len
  have hkn : kn ≤ 5000 := by have := kz_len ks; omega
  obtain ⟨b2, off2, hp2, hcs2⟩ := h.keys.sl.at_
  have hidx2 := fun W => Sl.idx (P := Tryz.prog) (cap := kc) Tryz.underlying23 sizeRows (fun h => (hp2 h).1) W .i64
  simp only [Nat.mul_one] at hidx2
  have HLT2 : Hid (0 < kn → b2 < w.heap.size) := fun h => (hp2 h).2
  have HG2 : Hid (∀ i, i < kn → ∃ k : Bv, k.n ≤ 5000 ∧ w.cell? ⟨b2, off2 + i, none⟩ = some (.slice k.p k.n k.c) ∧ ksum ((ks.map Bv.l).take (i + 1)) = ksum ((ks.map Bv.l).take i) + (5 + k.n)) := fun i hi => by
    obtain ⟨kp, kn, kc, kl, hx, _, hl, d0⟩ := h.keys.get hcs2 i hi
    have hm := kz_mem (List.mem_of_getElem? hx)
    refine ⟨⟨kp, kn, kc, kl⟩, by simp at hm; simp; omega, d0, ?_⟩
    obtain ⟨h1, h2⟩ := List.getElem?_eq_some_iff.1 hx
    rw [ksum_take (by simpa using h1), List.getElem_map, h2, (h.keys.io _ (List.mem_of_getElem? hx)).len]
  have HEND : Hid (7 + ksum ((ks.map Bv.l).take kn) = brLen (ks.map Bv.l)) := by unfold Hid brLen; rw [List.take_of_length_le (by simp; omega)]
  have HA0 := Lib.hid (at_alloc w (.cells #[.bool true, .slice cp cn cc, .slice kp kn kc, .slice qp qn qc] 26))
  have HM0 := Lib.hid (Mod.of_alloc w (.cells #[.bool true, .slice cp cn cc, .slice kp kn kc, .slice qp qn qc] 26))
  have c0 : (w.alloc (.cells #[.bool true, .slice cp cn cc, .slice kp kn kc, .slice qp qn qc] 26)).cell? ⟨w.heap.size, 0, none⟩ = some (.bool true) := cell_of_at HA0.out 0
  clear h hp2 hcs2 hsm hkl
  go_enter Tryz.func19, Tryz.ntmps19
  go_wp2
  obtain ⟨A, hA⟩ : ∃ A, A = w.heap.size := ⟨_, rfl⟩
  rw [← hA] at HA0 ⊢
  clear hA c0
  go_loopw [3, 4] (fun nv iv wr => ∃ i N : Nat, i ≤ kn ∧ iv = .int .i64 i ∧ nv = .int .i64 N ∧ N = 7 + ksum ((ks.map Bv.l).take i) ∧ N ≤ 7 + 6000 * i ∧ wr.heap[A]? = some (.cells #[.bool true, .slice cp cn cc, .slice kp kn kc, .slice qp qn qc] 26 (0, 0)) ∧ Mod [] w wr) (fun _ iv _ => kn - (intOf iv).toNat)
  case atStart => exact ⟨0, 7, by omega, rfl, rfl, rfl, by omega, HA0.out, HM0.out⟩
  case round =>
    obtain ⟨i, N, hi, rfl, rfl, hN, hNb, hat, hm⟩ := hrel
    have c2 : wr.cell? ⟨A, 2, none⟩ = some (.slice kp kn kc) := cell_of_at hat 2
    have HN := Lib.hid hN
    have HAT := Lib.hid hat
    have HM := Lib.hid hm
    clear hN hat hm HA0 HM0
    by_cases hlt : i < kn
    · obtain ⟨⟨xp, xn, xc, xl⟩, e1, d0, hs⟩ := HG2.out i hlt
      have hbl := HLT2.out (by omega)
      rw [← HM.out.cell (a := ⟨b2, _, none⟩) hbl (by simp)] at d0
      simp only at e1 d0 hs
      have HS : Hid (N + (5 + xn) = 7 + ksum ((ks.map Bv.l).take (i + 1))) := by unfold Hid; rw [HN.out, hs]; omega
      have hw1 : IntKind.i64.wrap ((N : Int) + 5) = ((N + 5 : Nat) : Int) := by rw [IntWalk.i64_in _ (by omega)]; omega
      have hw2 : IntKind.i64.wrap (((N + 5 : Nat) : Int) + (xn : Int)) = ((N + (5 + xn) : Nat) : Int) := by rw [IntWalk.i64_in _ (by omega)]; omega
      have hwi : IntKind.i64.wrap ((i : Int) + 1) = (i : Int) + 1 := IntWalk.i64_in _ (by omega)
      have hidxi := fun W => hidx2 W i hlt
      clear hs
      go_wp2
      go_roundw
      case rel => exact ⟨i + 1, N + (5 + xn), by omega, by go_num, congrArg (Value.int .i64) (by omega), HS.out, by omega, HAT.out, HM.out⟩
      case measure => simp [intOf]; omega
    · obtain rfl : i = kn := by omega
      go_wp2
      go_ret
      exact .mk ⟨by rw [HN.out, HEND.out]; rfl, HM.out⟩
set_option maxRecDepth 100000 in
set_option maxHeartbeats 4000000 in
theorem qlen_leaf (cp : Option Addr) (cn cc : Nat) (xs : List Cv) (kp : Option Addr) (kn kc : Nat) (ks : List Bv) (qp : Option Addr) (qn qc : Nat) (kids : List Int) (w : World) (h : NdIn w false cp cn cc xs kp kn kc ks qp qn qc kids) (hsm : csz xs + kz ks + kids.length ≤ 5000) :
    Calls Tryz.prog 19 #[.agg #[.bool false, .slice cp cn cc, .slice kp kn kc, .slice qp qn qc]] w (Ret (IntMd (leafLen (xs.map Cv.pl)) w)) := by
  have hxl := h.cells.len
  have hcn : cn ≤ 5000 := by have := csz_len xs; omega
  obtain ⟨b2, off2, hp2, hcs2⟩ := h.cells.sl.at_
  have hidx2 := fun W => Sl.idx (P := Tryz.prog) (cap := cc) Tryz.underlying22 sizeRCells (fun h => (hp2 h).1) W .i64
  have HLT2 : Hid (0 < cn → b2 < w.heap.size) := fun h => (hp2 h).2
  have HG2 : Hid (∀ i, i < cn → ∃ x : Cv, x.k.n ≤ 5000 ∧ x.i.n ≤ 5000 ∧ w.cell? ⟨b2, off2 + i * 4, none⟩ = some (.slice x.k.p x.k.n x.k.c) ∧ w.cell? ⟨b2, off2 + i * 4 + 1, none⟩ = some (.slice x.i.p x.i.n x.i.c) ∧ w.cell? ⟨b2, off2 + i * 4 + 2, none⟩ = some (.int .i64 x.size) ∧
      lsum ((xs.map Cv.pl).take (i + 1)) = lsum ((xs.map Cv.pl).take i) + (3 + x.k.n + (if x.size = 0 then x.i.n else 6))) := fun i hi => by
    obtain ⟨kp, kn, kc, kl, ip, im, ic, il, sz, hd, hx, _, _, _, d0, d1, d2, _⟩ := h.cells.get hcs2 i hi
    have hm := csz_mem (List.mem_of_getElem? hx)
    refine ⟨⟨⟨kp, kn, kc, kl⟩, ⟨ip, im, ic, il⟩, sz, hd⟩, by simp at hm; simp; omega, by simp at hm; simp; omega, d0, d1, d2, ?_⟩
    obtain ⟨h1, h2⟩ := List.getElem?_eq_some_iff.1 hx
    have e1 := (h.cells.io _ (List.mem_of_getElem? hx)).1.len
    have e2 := (h.cells.io _ (List.mem_of_getElem? hx)).2.len
    simp only at e1 e2
    rw [lsum_take (by simpa using h1), List.getElem_map, h2]
    simp only [Cv.pl, clLen, e1, e2]
  have HEND : Hid (3 + lsum ((xs.map Cv.pl).take cn) = leafLen (xs.map Cv.pl)) := by unfold Hid leafLen; rw [List.take_of_length_le (by simp; omega)]
  have HA0 := Lib.hid (at_alloc w (.cells #[.bool false, .slice cp cn cc, .slice kp kn kc, .slice qp qn qc] 26))
  have HM0 := Lib.hid (Mod.of_alloc w (.cells #[.bool false, .slice cp cn cc, .slice kp kn kc, .slice qp qn qc] 26))
  have c0 : (w.alloc (.cells #[.bool false, .slice cp cn cc, .slice kp kn kc, .slice qp qn qc] 26)).cell? ⟨w.heap.size, 0, none⟩ = some (.bool false) := cell_of_at HA0.out 0
  clear h hp2 hcs2 hsm hxl
  go_enter Tryz.func19, Tryz.ntmps19
  go_wp2
  obtain ⟨A, hA⟩ : ∃ A, A = w.heap.size := ⟨_, rfl⟩
  rw [← hA] at HA0 ⊢
  clear hA c0
  go_loopw [5, 6] (fun nv iv wr => ∃ i N : Nat, i ≤ cn ∧ iv = .int .i64 i ∧ nv = .int .i64 N ∧ N = 3 + lsum ((xs.map Cv.pl).take i) ∧ N ≤ 3 + 20000 * i ∧ wr.heap[A]? = some (.cells #[.bool false, .slice cp cn cc, .slice kp kn kc, .slice qp qn qc] 26 (0, 0)) ∧ Mod [] w wr) (fun _ iv _ => cn - (intOf iv).toNat)
  case atStart => exact ⟨0, 3, by omega, rfl, rfl, rfl, by omega, HA0.out, HM0.out⟩
  case round =>
    obtain ⟨i, N, hi, rfl, rfl, hN, hNb, hat, hm⟩ := hrel
    have c1 : wr.cell? ⟨A, 1, none⟩ = some (.slice cp cn cc) := cell_of_at hat 1
    have HN := Lib.hid hN
    have HAT := Lib.hid hat
    have HM := Lib.hid hm
    clear hN hat hm HA0 HM0
    by_cases hlt : i < cn
    · obtain ⟨⟨⟨xp, xn, xc, xl⟩, ⟨yp, yn, yc, yl⟩, sz, hd⟩, e1, e2, d0, d1, d2, hs⟩ := HG2.out i hlt
      have hbl := HLT2.out (by omega)
      rw [← HM.out.cell (a := ⟨b2, _, none⟩) hbl (by simp)] at d0 d1 d2
      simp only at e1 e2 d0 d1 d2 hs
      have hw1 : IntKind.i64.wrap ((N : Int) + 3) = ((N + 3 : Nat) : Int) := by rw [IntWalk.i64_in _ (by omega)]; omega
      have hw2 : IntKind.i64.wrap (((N + 3 : Nat) : Int) + (xn : Int)) = ((N + 3 + xn : Nat) : Int) := by rw [IntWalk.i64_in _ (by omega)]; omega
      have hwi : IntKind.i64.wrap ((i : Int) + 1) = (i : Int) + 1 := IntWalk.i64_in _ (by omega)
      have hidxi := fun W => hidx2 W i hlt
      by_cases hz : sz = 0
      · subst hz
        rw [if_pos rfl] at hs
        have HS : Hid (N + (3 + xn + yn) = 3 + lsum ((xs.map Cv.pl).take (i + 1))) := by unfold Hid; rw [HN.out, hs]; omega
        have hw3 : IntKind.i64.wrap (((N + 3 + xn : Nat) : Int) + (yn : Int)) = ((N + (3 + xn + yn) : Nat) : Int) := by rw [IntWalk.i64_in _ (by omega)]; omega
        clear hs
        go_wp2
        go_roundw
        case rel => exact ⟨i + 1, N + (3 + xn + yn), by omega, by go_num, congrArg (Value.int .i64) (by omega), HS.out, by omega, HAT.out, HM.out⟩
        case measure => simp [intOf]; omega
      · rw [if_neg hz] at hs
        have hzb : (sz != 0) = true := by simpa using hz
        have HS : Hid (N + (3 + xn + 6) = 3 + lsum ((xs.map Cv.pl).take (i + 1))) := by unfold Hid; rw [HN.out, hs]; omega
        have hw3 : IntKind.i64.wrap (((N + 3 + xn : Nat) : Int) + 6) = ((N + (3 + xn + 6) : Nat) : Int) := by rw [IntWalk.i64_in _ (by omega)]; omega
        clear hs
        go_wp2
        go_roundw
        case rel => exact ⟨i + 1, N + (3 + xn + 6), by omega, by go_num, congrArg (Value.int .i64) (by omega), HS.out, by omega, HAT.out, HM.out⟩
        case measure => simp [intOf]; omega
    · obtain rfl : i = cn := by omega
      go_wp2
      go_ret
      exact .mk ⟨by rw [HN.out, HEND.out]; rfl, HM.out⟩
end Go.Proofs.YtgimdodbajhpoaaGreatDoor
