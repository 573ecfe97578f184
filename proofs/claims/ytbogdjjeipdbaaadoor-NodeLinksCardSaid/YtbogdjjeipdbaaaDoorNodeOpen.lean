/- A plain node that came in, opened. -/
import Derived.Test.YtbogdjjeipdbaaaDoorRowW
import Derived.Test.YtbogdjjeipdbaaaDoorNode4
import Derived.Test.YtbogdjjeipdbaaaDoorDoorOpen
import Derived.Lib.SmallJoins
namespace Go.Proofs.YtbogdjjeipdbaaaDoor
open Go.ChangeShapes Go.WideShapes Go.ChangeAt Go.RowKit Go.Deep Go.Joins
set_option linter.unusedSimpArgs false
set_option linter.unusedVariables false

section
variable {H : Type} {enc : TypeId × Value → H} {w : World} {base : Nat} {spare : Nat → Bool} {held : Bool}
theorem slice_of {P : Program} {fuel : Nat} {t e : TypeId} {v : Value} {x : DataW H × List MemPlace} (ht : P.underlying t = some (.slice e))
    (h : DataW.trod enc P w base spare held fuel t [v] = some x) : ∃ a n c, v = .slice a n c := by
  rcases open_slice ht h with ⟨h0, _⟩ | ⟨ad, ln, cp, m, n, D, Pl, hcs, _⟩
  · simp at h0; exact ⟨_, _, _, h0⟩
  · simp at hcs; exact ⟨_, _, _, hcs⟩
theorem open_bytesW {fuel len cap : Nat} {a : Option Addr} {x : DataW H × List MemPlace}
    (h : DataW.trod enc Tryd.prog w base spare held fuel 37 [.slice a len cap] = some x) (hr : Within Tryd.prog 37 x.1) : ∃ l, BytesIn w a len cap l ∧ len ≤ reachBytes := by
  have : Inhabited Int := ⟨0⟩
  obtain ⟨b, off, l, h1, h2, h3, h4, h5, h6⟩ := open_rowsW (mk := fun d : Int => [.int .u8 d])
    (Wf := fun d => 0 ≤ d ∧ d < 256) Tryd.underlying37 (c := 1) (by kernel_rfl) (by decide) (by
      intro n cs x hx _
      obtain ⟨y, e, wy⟩ := open_intc Tryd.underlying5 hx
      exact ⟨y, e, of_wf_u8 wy⟩) h hr
  have hs := sl_of_rows (fun d : Int => [.int .u8 d]) (by decide) (fun y => rfl) (by intro y u hu; simp at hu; subst hu; rfl) h1 h2 h3 h4
  refine ⟨(List.range len).map l, ⟨?_, ?_⟩, by rw [show Tryd.prog.bytesOf 5 = 1 from by kernel_rfl] at h6; omega⟩
  · have e : ((List.range len).map l).flatMap (fun d : Int => [Value.int .u8 d]) = bs ((List.range len).map l) := flat1 _ _
    rw [← e]; exact hs
  · intro y hy
    simp at hy
    obtain ⟨i, hi, rfl⟩ := hy
    exact h5 i hi
theorem open_bv {n : Nat} {cs : List Value} {x : DataW H × List MemPlace} (h : DataW.trod enc Tryd.prog w base spare held n 37 cs = some x) (hr : Within Tryd.prog 37 x.1) :
    ∃ k : Bv, cs = [k.val] ∧ k.In w ∧ k.n ≤ reachBytes := by
  obtain ⟨a, m, c, rfl⟩ : ∃ a m c, cs = [.slice a m c] := by
    rcases open_slice Tryd.underlying37 h with ⟨h0, _⟩ | ⟨ad, ln, cp, m, n, D, Pl, hcs, _⟩
    · exact ⟨_, _, _, h0⟩
    · exact ⟨_, _, _, hcs⟩
  obtain ⟨l, h1, h2⟩ := open_bytesW h hr
  exact ⟨⟨a, m, c, l⟩, rfl, h1, h2⟩
/-- Keys, or any other rows of bytes. -/
theorem open_keysW {fuel len cap : Nat} {a : Option Addr} {x : DataW H × List MemPlace}
    (h : DataW.trod enc Tryd.prog w base spare held fuel 23 [.slice a len cap] = some x) (hr : Within Tryd.prog 23 x.1) : ∃ ks, KeysIn w a len cap ks ∧ len ≤ reachBytes ∧ ∀ k ∈ ks, k.n ≤ reachBytes := by
  have : Inhabited Bv := ⟨⟨none, 0, 0, []⟩⟩
  obtain ⟨b, off, l, h1, h2, h3, h4, h5, h6⟩ := open_rowsW (mk := fun d : Bv => [d.val])
    (Wf := fun d => d.In w ∧ d.n ≤ reachBytes) Tryd.underlying23 (c := 1) (by kernel_rfl) (by decide) (by
      intro n cs x hx hr
      exact open_bv hx hr) h hr
  have hs := sl_of_rows (fun d : Bv => [d.val]) (by decide) (fun y => rfl) (by intro y u hu; simp at hu; subst hu; rfl) h1 h2 h3 h4
  have hall : ∀ k ∈ (List.range len).map l, k.In w ∧ k.n ≤ reachBytes := by
    intro y hy
    simp at hy
    obtain ⟨i, hi, rfl⟩ := hy
    exact h5 i hi
  refine ⟨(List.range len).map l, ⟨?_, fun k hk => (hall k hk).1⟩, ?_, fun k hk => (hall k hk).2⟩
  · have e : ((List.range len).map l).flatMap (fun d : Bv => [d.val]) = ((List.range len).map l).map Bv.val := flat1 _ _
    rw [← e]; exact hs
  · rw [show Tryd.prog.bytesOf 37 = 24 from by kernel_rfl] at h6; omega
theorem open_intsW {fuel len cap : Nat} {a : Option Addr} {x : DataW H × List MemPlace}
    (h : DataW.trod enc Tryd.prog w base spare held fuel 24 [.slice a len cap] = some x) (hr : Within Tryd.prog 24 x.1) : ∃ l : List Int, Sl w 1 a len cap (l.map (.int .i64)) ∧ len ≤ reachBytes := by
  have : Inhabited Int := ⟨0⟩
  obtain ⟨b, off, l, h1, h2, h3, h4, h5, h6⟩ := open_rowsW (mk := fun d : Int => [.int .i64 d])
    (Wf := fun d => True) Tryd.underlying24 (c := 1) (by kernel_rfl) (by decide) (by
      intro n cs x hx _
      obtain ⟨y, e, wy⟩ := open_intc Tryd.underlying3 hx
      exact ⟨y, e, trivial⟩) h hr
  have hs := sl_of_rows (fun d : Int => [.int .i64 d]) (by decide) (fun y => rfl) (by intro y u hu; simp at hu; subst hu; rfl) h1 h2 h3 h4
  refine ⟨(List.range len).map l, ?_, by rw [show Tryd.prog.bytesOf 3 = 8 from by kernel_rfl] at h6; omega⟩
  have e : ((List.range len).map l).flatMap (fun d : Int => [Value.int .i64 d]) = ((List.range len).map l).map (.int .i64) := flat1 _ _
  rw [← e]; exact hs
set_option maxRecDepth 100000 in
theorem open_cell {n : Nat} {cs : List Value} {x : DataW H × List MemPlace} (hx : DataW.trod enc Tryd.prog w base spare held n 39 cs = some x) (hr : Within Tryd.prog 39 x.1) :
    ∃ d : Cv, cs = d.cells ∧ (d.k.In w ∧ d.i.In w) ∧ d.k.n ≤ reachBytes ∧ d.i.n ≤ reachBytes := by
  obtain ⟨y0, y1, y2, y3, m, e, hl, g0, g1, g2, g3⟩ := trod_struct4 Tryd.underlying39 hx
  rw [e] at hr
  have r0 := hr.field Tryd.underlying39 (j := 0) rfl rfl
  have r1 := hr.field Tryd.underlying39 (j := 1) rfl rfl
  rw [show Tryd.prog.cellsOf 39 = 4 from by kernel_rfl] at hl
  match cs, hl with
  | [c0, c1, c2, c3], _ =>
    simp only [show Tryd.prog.cellsOf 3 = 1 from by kernel_rfl, show Tryd.prog.cellsOf 37 = 1 from by kernel_rfl] at g0 g1 g2 g3
    simp only [List.drop_zero, List.take_succ_cons, List.take_zero, List.drop_succ_cons] at g0 g1 g2 g3
    obtain ⟨k, e0, i0, b0⟩ := open_bv g0 r0
    obtain ⟨v, e1, i1, b1⟩ := open_bv g1 r1
    obtain ⟨sz, e2, _⟩ := open_intc Tryd.underlying3 g2
    obtain ⟨hd, e3, _⟩ := open_intc Tryd.underlying3 g3
    simp at e0 e1 e2 e3
    exact ⟨⟨k, v, sz, hd⟩, by simp [Cv.cells, e0, e1, e2, e3], ⟨i0, i1⟩, b0, b1⟩
theorem open_cellsW {fuel len cap : Nat} {a : Option Addr} {x : DataW H × List MemPlace}
    (h : DataW.trod enc Tryd.prog w base spare held fuel 22 [.slice a len cap] = some x) (hr : Within Tryd.prog 22 x.1) : ∃ xs, CellsIn w a len cap xs ∧ len ≤ reachBytes ∧ ∀ k ∈ xs, k.k.n ≤ reachBytes ∧ k.i.n ≤ reachBytes := by
  have : Inhabited Cv := ⟨⟨⟨none, 0, 0, []⟩, ⟨none, 0, 0, []⟩, 0, 0⟩⟩
  obtain ⟨b, off, l, h1, h2, h3, h4, h5, h6⟩ := open_rowsW (mk := Cv.cells)
    (Wf := fun d => (d.k.In w ∧ d.i.In w) ∧ d.k.n ≤ reachBytes ∧ d.i.n ≤ reachBytes) Tryd.underlying22 (c := 4) (by kernel_rfl) (by decide) (fun n cs x hx hr => open_cell hx hr) h hr
  have hs := sl_of_rows Cv.cells (by decide) (fun y => rfl) (by intro y u hu; simp [Cv.cells] at hu; rcases hu with rfl | rfl | rfl | rfl <;> rfl) h1 h2 h3 h4
  have hall : ∀ k ∈ (List.range len).map l, (k.k.In w ∧ k.i.In w) ∧ k.k.n ≤ reachBytes ∧ k.i.n ≤ reachBytes := by
    intro y hy
    simp at hy
    obtain ⟨i, hi, rfl⟩ := hy
    exact h5 i hi
  refine ⟨(List.range len).map l, ⟨hs, fun k hk => (hall k hk).1⟩, ?_, fun k hk => (hall k hk).2⟩
  rw [show Tryd.prog.bytesOf 39 = 64 from by kernel_rfl] at h6; omega
end

/-- A plain node as it comes in. -/
structure NdIn (w : World) (br : Bool) (cp : Option Addr) (cn cc : Nat) (xs : List Cv) (kp : Option Addr) (kn kc : Nat) (ks : List Bv) (qp : Option Addr) (qn qc : Nat) (kids : List Int) : Prop where
  cells : CellsIn w cp cn cc xs
  keys : KeysIn w kp kn kc ks
  kids : Sl w 1 qp qn qc (kids.map (.int .i64))
  bc : cn ≤ reachBytes
  bk : kn ≤ reachBytes
  bq : qn ≤ reachBytes
  bcs : ∀ x ∈ xs, x.k.n ≤ reachBytes ∧ x.i.n ≤ reachBytes
  bks : ∀ k ∈ ks, k.n ≤ reachBytes
theorem NdIn.mod0 {w w' : World} {br : Bool} {cp : Option Addr} {cn cc : Nat} {xs : List Cv} {kp : Option Addr} {kn kc : Nat} {ks : List Bv} {qp : Option Addr} {qn qc : Nat} {kids : List Int}
    (h : NdIn w br cp cn cc xs kp kn kc ks qp qn qc kids) (hm : Mod [] w w') : NdIn w' br cp cn cc xs kp kn kc ks qp qn qc kids :=
  ⟨h.cells.mod0 hm, h.keys.mod0 hm, h.kids.mod hm (by simp), h.bc, h.bk, h.bq, h.bcs, h.bks⟩
set_option maxRecDepth 100000 in
theorem open_node {H : Type} {enc : TypeId × Value → H} {w : World} {base : Nat} {spare : Nat → Bool} {held : Bool} {r : Reach} {b0 fuel : Nat} {v : Value} {x : DataW H × List MemPlace}
    (hv : Value.okWide Tryd.prog w r b0 26 v) (h : DataW.trod enc Tryd.prog w base spare held fuel 26 v.cells.toList = some x) (hr : Within Tryd.prog 26 x.1) :
    ∃ br cp cn cc xs kp kn kc ks qp qn qc kids, v = .agg #[.bool br, .slice cp cn cc, .slice kp kn kc, .slice qp qn qc] ∧ NdIn w br cp cn cc xs kp kn kc ks qp qn qc kids := by
  obtain ⟨v0, v1, v2, v3, y0, y1, y2, y3, n, rfl, e, _, h0, h1, h2, h3⟩ := open_agg4 (p := x.2) (d := x.1) Tryd.underlying26 (by kernel_rfl) (by kernel_rfl) hv ⟨fuel, h⟩
  rw [e] at hr
  have r1 := hr.field Tryd.underlying26 (j := 1) rfl rfl
  have r2 := hr.field Tryd.underlying26 (j := 2) rfl rfl
  have r3 := hr.field Tryd.underlying26 (j := 3) rfl rfl
  obtain ⟨br, e0, _⟩ := DataW.trod_bool Tryd.underlying4 h0
  obtain ⟨cp, cn, cc, rfl⟩ := slice_of Tryd.underlying22 h1
  obtain ⟨kp, kn, kc, rfl⟩ := slice_of Tryd.underlying23 h2
  obtain ⟨qp, qn, qc, rfl⟩ := slice_of Tryd.underlying24 h3
  obtain ⟨xs, a1, a2, a3⟩ := open_cellsW h1 r1
  obtain ⟨ks, b1, b2, b3⟩ := open_keysW h2 r2
  obtain ⟨kids, c1, c2⟩ := open_intsW h3 r3
  simp at e0
  exact ⟨br, cp, cn, cc, xs, kp, kn, kc, ks, qp, qn, qc, kids, by rw [e0], ⟨a1, b1, c1, a2, b2, c2, a3, b3⟩⟩
end Go.Proofs.YtbogdjjeipdbaaaDoor
