/- SnapHolds: for every version, script and newest version the law returns true; each argument reads as it did. -/
import Derived.Test.YtghpmhpbccgdcaaSnapHolds
import Derived.Test.YtghpmhpbccgdcaaRow
namespace Go.Proofs.Ytghpmhpbccgdcaa.snapHolds
open Go.ChangeShapes Go.WideShapes Go.ChangeAt Go.RowKit Go.Deep

theorem open_script {H : Type} {enc : TypeId × Value → H} {w : World} {base : Nat} {spare : Nat → Bool} {held : Bool} {fuel len cap : Nat} {a : Option Addr} {x : DataW H × List MemPlace}
    (h : DataW.trod enc Try.prog w base spare held fuel 23 [.slice a len cap] = some x) :
    ∃ b off, ∃ l : Nat → Do, (0 < len → a = some ⟨b, off, none⟩) ∧ len ≤ cap ∧ cap ≤ maxLen ∧ Script w b off len l := by
  have : Inhabited Do := ⟨⟨0, 0, 0⟩⟩
  obtain ⟨b, off, l, h1, h2, h3, h4, h5⟩ := open_rows (mk := fun d : Do => [.int .i64 d.kind, .int .i64 d.no, .int .u64 d.version])
    (Wf := fun d => (-9223372036854775808 ≤ d.no ∧ d.no ≤ 9223372036854775807) ∧ (0 ≤ d.version ∧ d.version < 2 ^ 64)) Try.underlying23 (c := 3) (by kernel_rfl) (by decide) (by
      intro n cs x hx
      obtain ⟨y0, y1, y2, m, _, hl, g0, g1, g2⟩ := trod_struct3 Try.underlying31 hx
      rw [show Try.prog.cellsOf 31 = 3 from by kernel_rfl] at hl
      match cs, hl with
      | [c0, c1, c2], _ =>
        obtain ⟨k, e0, _⟩ := open_intc Try.underlying3 g0
        obtain ⟨no, e1, w1⟩ := open_intc Try.underlying3 g1
        obtain ⟨v, e2, w2⟩ := open_intc Try.underlying22 g2
        rw [show Try.prog.cellsOf 3 = 1 from by kernel_rfl] at e0 e1
        rw [show Try.prog.cellsOf 22 = 1 from by kernel_rfl] at e2
        simp at e0 e1 e2
        exact ⟨⟨k, no, v⟩, by simp [e0, e1, e2], of_wf_i64 w1, of_wf_u64 w2⟩) h
  exact ⟨b, off, l, fun h => (h1 h).1, h2, h3, ⟨fun i hi => h4 i hi 0 (by omega), fun i hi => h4 i hi 1 (by omega), fun i hi => h4 i hi 2 (by omega), fun i hi => (h5 i hi).1, fun i hi => (h5 i hi).2, fun h => (h1 h).2⟩⟩

set_option maxRecDepth 100000 in
theorem lifted (os : Os) (started : os.Started) (H : Type) (enc : TypeId × Value → H) :
    ReturnsInHanded {} Try.checked os 3 .any (Rows.snapHoldsSpec.pre6 enc Try.prog Try.f3 Rows.snapHoldsRow.domain false) (Rows.snapHoldsSpec.post enc Try.prog Try.f3 false true false false) := by
  refine returnsInHanded_of_change_sized (C := Try.checked) row_own started (by kernel_rfl) Try.func3
    (ChangeSpec.witness6 (enc := enc) (C := Try.checked) false ⟨#[], #[.int .u64 0, .slice none 0 0, .int .u64 0], []⟩ 8 (by kernel_rfl) (by kernel_rfl) (by kernel_rfl) (by kernel_rfl)) ?_
  intro W base args ds gs before hval0 hW hcnd hsz0 _
  have hval : ∀ (j : Nat) t v, Try.f3.params[j]? = some t → args[j]? = some v → Value.okWide Try.prog W .any base t v := hval0
  have hW' := hW
  obtain ⟨p, q, hA0, hV, rfl, hfz, hnd⟩ := hW
  have hA : DataW.TrodAll enc Try.prog W 0 (fun _ => true) true Try.f3.params.toList args.toList ds p := hA0
  rw [Try.params3] at hA hval
  obtain ⟨v0, vs0, d0, ds0, p0, q0, hargs, rfl, rfl, h0, r0⟩ := trodAll_cons hA
  obtain ⟨v1, vs1, d1, ds1, p1, q1, rfl, rfl, rfl, h1, r1⟩ := trodAll_cons r0
  obtain ⟨v2, vs2, d2, ds2, p2, q2, rfl, rfl, rfl, h2, r2⟩ := trodAll_cons r1
  obtain ⟨rfl, rfl, rfl⟩ := trodAll_nil r2
  obtain rfl : args = #[v0, v1, v2] := by cases args; simp_all
  obtain ⟨rfl, rfl⟩ := trodVars_none hV
  have k0 := h0
  have k1 := h1
  have k2 := h2
  have lt0 : ∀ x ∈ p0, x.block < W.heap.size := by obtain ⟨m, hm⟩ := k0; exact DataW.trod_lt m _ _ _ hm
  have lt1 : ∀ x ∈ p1, x.block < W.heap.size := by obtain ⟨m, hm⟩ := k1; exact DataW.trod_lt m _ _ _ hm
  have lt2 : ∀ x ∈ p2, x.block < W.heap.size := by obtain ⟨m, hm⟩ := k2; exact DataW.trod_lt m _ _ _ hm
  obtain ⟨a0, rfl, rfl, rfl, w0⟩ := open_int Try.underlying22 (hval 0 22 v0 rfl rfl) h0
  obtain ⟨a1, len1, cap1, rfl⟩ := okWide_slice Try.underlying23 (hval 1 23 v1 rfl rfl)
  obtain ⟨a2, rfl, rfl, rfl, w2⟩ := open_int Try.underlying22 (hval 2 22 v2 rfl rfl) h2
  obtain ⟨fuel1, hf1⟩ := h1
  obtain ⟨b1, off1, l1, ha1, hl1, hm1, hs1⟩ := open_script (by simpa [Value.cells] using hf1)
  clear hA0 hval0 hsz0 hf1
  refine (holds_any a0 a1 len1 cap1 b1 off1 l1 a2 W (of_wf_u64 w0).1 (of_wf_u64 w0).2 (by unfold maxLen at hm1; omega) ha1 hs1).mono fun e W' ⟨v, he, hv, bel⟩ => ?_
  subst he; subst hv
  exact ⟨_, rfl, _, _, _, [], _, [], hW', trodAll_mk1 (shut_bool Try.underlying4 _),
    trodAll_cons_mk (Below.trod row_laidOut (by kernel_rfl) (of_decide_eq_true (by kernel_rfl)) k0 bel lt0) (trodAll_cons_mk (Below.trod row_laidOut (by kernel_rfl) (of_decide_eq_true (by kernel_rfl)) k1 bel lt1) (trodAll_cons_mk (Below.trod row_laidOut (by kernel_rfl) (of_decide_eq_true (by kernel_rfl)) k2 bel lt2) trodAll_mk0)),
    rfl, bel.frame _, fun h => by cases h⟩
theorem over : Rows.snapHoldsRow.holds Try.pinned (OpenSpec.ofChange Rows.snapHoldsSpec) :=
  OpenClaim.holds_of_wide 3 Try.f3 rfl rfl rfl rfl rfl rfl rfl ⟨rfl, rfl, rfl, rfl, rfl⟩ rfl rfl rfl rfl rfl (by kernel_rfl) Try.func3 (by kernel_rfl)
    (of_decide_eq_true (by kernel_rfl)) (by unfold Func.isWrapper; first | (rw [if_pos (by decide +kernel)]; kernel_rfl) | (rw [if_neg (by decide +kernel)]; exact ⟨rfl, rfl⟩))
    (fun os started H enc _ => lifted os started H enc)
theorem proved : Rows.SnapHoldsSaid := over
#print axioms proved
end Go.Proofs.Ytghpmhpbccgdcaa.snapHolds
