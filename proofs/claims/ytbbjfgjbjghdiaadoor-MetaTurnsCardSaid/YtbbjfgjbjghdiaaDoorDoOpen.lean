/- The script of the statements on metas, opened. -/
import Derived.Test.YtbbjfgjbjghdiaaDoorMetaOpen
import Derived.Test.YtbbjfgjbjghdiaaDoorCrash
import Derived.Test.YtbbjfgjbjghdiaaDoorMetaNewestLaw
namespace Go.Proofs.YtbbjfgjbjghdiaaDoor
open Go.ChangeShapes Go.WideShapes Go.ChangeAt Go.RowKit Go.Deep Go.Joins
set_option linter.unusedSimpArgs false
set_option linter.unusedVariables false

structure Dm where
  kind : Int
  m : Mt
  n : Int
  kp : Option Addr
  kn : Nat
  kc : Nat
  bp : Option Addr
  bn : Nat
  bc : Nat
def Dm.cells (d : Dm) : List Value := [.int .i64 d.kind, .int .u64 d.m.gen, .int .i64 d.m.high, .int .i64 d.m.root, .int .i64 d.m.free, .int .i64 d.n, .slice d.kp d.kn d.kc, .slice d.bp d.bn d.bc]
structure Script (w : World) (b off len : Nat) (l : Nat → Dm) : Prop where
  cell : ∀ i, i < len → ∀ j, j < 8 → w.cell? ⟨b, off + i * 8 + j, none⟩ = ((l i).cells)[j]?
  n : ∀ i, i < len → -9223372036854775808 ≤ (l i).n ∧ (l i).n ≤ 9223372036854775807
  gen : ∀ i, i < len → 0 ≤ (l i).m.gen ∧ (l i).m.gen < 2 ^ 64
  keep : ∀ i, i < len → ∃ ks : List Bool, Sl w 1 (l i).kp (l i).kn (l i).kc (ks.map .bool)
  bytes : ∀ i, i < len → ∃ bl, BytesIn w (l i).bp (l i).bn (l i).bc bl
  lt : 0 < len → b < w.heap.size

theorem open_bools {H : Type} {enc : TypeId × Value → H} {w : World} {base : Nat} {spare : Nat → Bool} {held : Bool} {fuel len cap : Nat} {a : Option Addr} {x : DataW H × List MemPlace}
    (h : DataW.trod enc Tryd.prog w base spare held fuel 45 [.slice a len cap] = some x) : ∃ l : List Bool, Sl w 1 a len cap (l.map .bool) := by
  obtain ⟨b, off, l, h1, h2, h3, h4, h5⟩ := open_rows (mk := fun d : Bool => [.bool d])
    (Wf := fun d => True) Tryd.underlying45 (c := 1) (by kernel_rfl) (by decide) (by
      intro n cs x hx
      obtain ⟨y, e, _⟩ := DataW.trod_bool Tryd.underlying4 hx
      exact ⟨y, e, trivial⟩) h
  refine ⟨(List.range len).map l, ⟨by simp, h2, h3, (by intro u hu; simp only [List.mem_map] at hu; obtain ⟨x, _, rfl⟩ := hu; rfl), b, off, h1, fun j u hj => ?_⟩⟩
  have hjl : j < len := by
    have := (List.getElem?_eq_some_iff.1 hj).1; simpa using this
  have := h4 j hjl 0 (by omega)
  simp [hjl] at this hj
  rw [this, hj]
theorem slice_of {H : Type} {enc : TypeId × Value → H} {P : Program} {w : World} {base : Nat} {spare : Nat → Bool} {held : Bool} {fuel : Nat} {t e : TypeId} {v : Value} {x : DataW H × List MemPlace} (ht : P.underlying t = some (.slice e))
    (h : DataW.trod enc P w base spare held fuel t [v] = some x) : ∃ a n c, v = .slice a n c := by
  rcases open_slice ht h with ⟨h0, _⟩ | ⟨ad, ln, cp, m, n, D, Pl, hcs, _⟩
  · simp at h0; exact ⟨_, _, _, h0⟩
  · simp at hcs; exact ⟨_, _, _, hcs⟩
theorem trod_struct5 {H : Type} {enc : TypeId × Value → H} {P : Program} {w : World} {base : Nat} {spare : Nat → Bool} {held : Bool} {t : TypeId} {f0 f1 f2 f3 f4 : Field} {fuel : Nat} {cs : List Value} {x : DataW H × List MemPlace} (ht : P.underlying t = some (.struct #[f0, f1, f2, f3, f4])) (h : DataW.trod enc P w base spare held fuel t cs = some x) :
    ∃ y0 y1 y2 y3 y4 n, cs.length = P.cellsOf t ∧ DataW.trod enc P w base spare held n f0.type ((cs.drop f0.offset).take (P.cellsOf f0.type)) = some y0 ∧
      DataW.trod enc P w base spare held n f1.type ((cs.drop f1.offset).take (P.cellsOf f1.type)) = some y1 ∧ DataW.trod enc P w base spare held n f2.type ((cs.drop f2.offset).take (P.cellsOf f2.type)) = some y2 ∧
      DataW.trod enc P w base spare held n f3.type ((cs.drop f3.offset).take (P.cellsOf f3.type)) = some y3 ∧ DataW.trod enc P w base spare held n f4.type ((cs.drop f4.offset).take (P.cellsOf f4.type)) = some y4 := by
  obtain ⟨xs, n, _, rfl, hl, hlen, hf⟩ := DataW.trod_struct ht h
  match xs, hlen with
  | [y0, y1, y2, y3, y4], _ => exact ⟨y0, y1, y2, y3, y4, n, hl, by simpa using hf 0 f0 rfl, by simpa using hf 1 f1 rfl, by simpa using hf 2 f2 rfl, by simpa using hf 3 f3 rfl, by simpa using hf 4 f4 rfl⟩
set_option maxRecDepth 100000 in
set_option maxHeartbeats 1000000 in
theorem open_do {H : Type} {enc : TypeId × Value → H} {w : World} {base : Nat} {spare : Nat → Bool} {held : Bool} {n : Nat} {cs : List Value} {x : DataW H × List MemPlace}
    (hx : DataW.trod enc Tryd.prog w base spare held n 47 cs = some x) :
    ∃ d : Dm, cs = d.cells ∧ (-9223372036854775808 ≤ d.n ∧ d.n ≤ 9223372036854775807) ∧ (0 ≤ d.m.gen ∧ d.m.gen < 2 ^ 64) ∧ (∃ ks : List Bool, Sl w 1 d.kp d.kn d.kc (ks.map .bool)) ∧ (∃ bl, BytesIn w d.bp d.bn d.bc bl) := by
  obtain ⟨y0, y1, y2, y3, y4, m, hl, g0, g1, g2, g3, g4⟩ := trod_struct5 Tryd.underlying47 hx
  rw [show Tryd.prog.cellsOf 47 = 8 from by kernel_rfl] at hl
  match cs, hl with
  | [c0, c1, c2, c3, c4, c5, c6, c7], _ =>
    simp only [show Tryd.prog.cellsOf 3 = 1 from by kernel_rfl, show Tryd.prog.cellsOf 24 = 4 from by kernel_rfl, show Tryd.prog.cellsOf 45 = 1 from by kernel_rfl, show Tryd.prog.cellsOf 25 = 1 from by kernel_rfl] at g0 g1 g2 g3 g4
    simp only [List.drop_zero, List.take_succ_cons, List.take_zero, List.drop_succ_cons] at g0 g1 g2 g3 g4
    obtain ⟨k, e0, _⟩ := open_intc Tryd.underlying3 g0
    obtain ⟨no, e2, w2⟩ := open_intc Tryd.underlying3 g2
    obtain ⟨a3, n3, c3', e3⟩ := slice_of Tryd.underlying45 g3
    obtain ⟨a4, n4, c4', e4⟩ := slice_of Tryd.underlying25 g4
    subst e3; subst e4
    obtain ⟨ks, hks⟩ := open_bools g3
    obtain ⟨bl, hbl⟩ := open_bytes g4
    obtain ⟨z0, z1, z2, z3, m', _, _, i0, i1, i2, i3⟩ := trod_struct4 Tryd.underlying24 g1
    simp only [show Tryd.prog.cellsOf 3 = 1 from by kernel_rfl, show Tryd.prog.cellsOf 22 = 1 from by kernel_rfl] at i0 i1 i2 i3
    simp only [List.drop_zero, List.take_succ_cons, List.take_zero, List.drop_succ_cons] at i0 i1 i2 i3
    obtain ⟨b0, f0, v0⟩ := open_intc Tryd.underlying22 i0
    obtain ⟨b1, f1, _⟩ := open_intc Tryd.underlying3 i1
    obtain ⟨b2, f2, _⟩ := open_intc Tryd.underlying3 i2
    obtain ⟨b3, f3, _⟩ := open_intc Tryd.underlying3 i3
    simp at e0 e2 f0 f1 f2 f3
    exact ⟨⟨k, ⟨b0, b1, b2, b3⟩, no, a3, n3, c3', a4, n4, c4'⟩, by simp [Dm.cells, e0, e2, f0, f1, f2, f3], of_wf_i64 w2, of_wf_u64 v0, ⟨ks, hks⟩, ⟨bl, hbl⟩⟩
theorem open_script {H : Type} {enc : TypeId × Value → H} {w : World} {base : Nat} {spare : Nat → Bool} {held : Bool} {fuel len cap : Nat} {a : Option Addr} {x : DataW H × List MemPlace}
    (h : DataW.trod enc Tryd.prog w base spare held fuel 42 [.slice a len cap] = some x) :
    ∃ b off, ∃ l : Nat → Dm, (0 < len → a = some ⟨b, off, none⟩) ∧ len ≤ cap ∧ cap ≤ maxLen ∧ Script w b off len l := by
  have : Inhabited Dm := ⟨⟨0, ⟨0, 0, 0, 0⟩, 0, none, 0, 0, none, 0, 0⟩⟩
  obtain ⟨b, off, l, h1, h2, h3, h4, h5⟩ := open_rows (mk := Dm.cells)
    (Wf := fun d => (-9223372036854775808 ≤ d.n ∧ d.n ≤ 9223372036854775807) ∧ (0 ≤ d.m.gen ∧ d.m.gen < 2 ^ 64) ∧ (∃ ks : List Bool, Sl w 1 d.kp d.kn d.kc (ks.map .bool)) ∧ (∃ bl, BytesIn w d.bp d.bn d.bc bl)) Tryd.underlying42 (c := 8) (by kernel_rfl) (by decide) (fun n cs x hx => open_do hx) h
  exact ⟨b, off, l, fun h => (h1 h).1, h2, h3, ⟨h4, fun i hi => (h5 i hi).1, fun i hi => (h5 i hi).2.1, fun i hi => (h5 i hi).2.2.1, fun i hi => (h5 i hi).2.2.2, fun h => (h1 h).2⟩⟩
theorem of_wf_u16 {x : Int} (h : (Lit.int .u16 x).wf = true) : 0 ≤ x ∧ x < 65536 := by simp [Lit.wf, IntKind.min, IntKind.max, IntKind.signed, IntKind.bits] at h; omega
theorem sizeDo (W : World) : (sizeOf (Tryd.prog.elem 42)).run Tryd.prog W = .ok 8 W := by kernel_rfl
end Go.Proofs.YtbbjfgjbjghdiaaDoor
