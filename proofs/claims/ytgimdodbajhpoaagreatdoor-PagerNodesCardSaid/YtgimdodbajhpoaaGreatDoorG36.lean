/- The program's node of a plain one. -/
import Derived.Test.YtgimdodbajhpoaaGreatDoorG35
import Derived.Test.YtgimdodbajhpoaaGreatDoorG20
namespace Go.Proofs.YtgimdodbajhpoaaGreatDoor
open Go.RowKit Go.Maps
set_option linter.unusedSimpArgs false
set_option linter.unusedVariables false

theorem infoCell : (Tryz.prog.info? 82).map (fun i => (i.zero, i.size, i.bytes)) = some (some (.agg #[.slice none 0 0, .slice none 0 0, .int .i64 0, .int .i64 0]), 4, 64) := by kernel_rfl
def OfR (br : Bool) (xs : List Cv) (ks : List Bv) (kids : List Int) (w : World) (v : Value) (w' : World) : Prop :=
  Mod [] w w' ∧ if br = true then ∃ B, v = .iface 49 (.pointer (some ⟨B, 0, none⟩)) ∧ BrAt w' B ks kids else ∃ L, v = .iface 78 (.pointer (some ⟨L, 0, none⟩)) ∧ LeafAt w' L xs
set_option maxRecDepth 100000 in
set_option maxHeartbeats 8000000 in
theorem of_any (br : Bool) (cp : Option Addr) (cn cc : Nat) (xs : List Cv) (kp : Option Addr) (kn kc : Nat) (ks : List Bv) (qp : Option Addr) (qn qc : Nat) (kids : List Int) (w : World) (h : NdIn w br cp cn cc xs kp kn kc ks qp qn qc kids) (hcn : br = false → cn ≤ 1000000) :
    Calls Tryz.prog 11 #[.agg #[.bool br, .slice cp cn cc, .slice kp kn kc, .slice qp qn qc]] w (Ret (OfR br xs ks kids w)) := by
  have HA0 := Lib.hid (at_alloc w (.cells #[.bool br, .slice cp cn cc, .slice kp kn kc, .slice qp qn qc] 26))
  have HM0 := Lib.hid (Mod.of_alloc w (.cells #[.bool br, .slice cp cn cc, .slice kp kn kc, .slice qp qn qc] 26))
  cases br with
  | true =>
    have HK := Lib.hid h.keys
    have HQ := Lib.hid h.kids
    have HA1 := Lib.hid (at_alloc' (w.alloc (.cells #[.bool true, .slice cp cn cc, .slice kp kn kc, .slice qp qn qc] 26)) (.cells #[.slice kp kn kc, .slice qp qn qc] 77) (n := w.heap.size + 1) (by simp))
    clear h hcn
    go_enter Tryz.func11, Tryz.ntmps11
    go_wp2
    go_ret
    have hm := HM0.out.alloc (o := .cells #[.slice kp kn kc, .slice qp qn qc] 77)
    exact .mk ⟨hm, by rw [if_pos rfl]; exact ⟨_, rfl, ⟨_, _, _, _, _, _, HA1.out, HK.out.mod0 hm, HQ.out.mod hm (by simp)⟩⟩⟩
  | false =>
    have hcb := hcn rfl
    have HXL := Lib.hid h.cells.len
    obtain ⟨b, off, hp, hcs⟩ := h.cells.sl.at_
    have hidx := fun W => Sl.idx (P := Tryz.prog) (cap := cc) Tryz.underlying22 sizeRCells (fun h => (hp h).1) W .i64
    have HLT : Hid (0 < cn → b < w.heap.size) := fun h => (hp h).2
    have HG := Lib.hid (fun i hi => h.cells.get hcs i hi)
    have HIO := Lib.hid h.cells.io
    have HA1 := Lib.hid (at_alloc' (w.alloc (.cells #[.bool false, .slice cp cn cc, .slice kp kn kc, .slice qp qn qc] 26)) (.cells #[.slice none 0 0] 81) (n := w.heap.size + 1) (by simp))
    have HA2 := Lib.hid (at_alloc_other HA0.out (.cells #[.slice none 0 0] 81))
    have HM1 : Hid (Mod [] w ((w.alloc (.cells #[.bool false, .slice cp cn cc, .slice kp kn kc, .slice qp qn qc] 26)).alloc (.cells #[.slice none 0 0] 81))) := HM0.out.alloc
    obtain ⟨i0, hi0, hz0, hz1, hz2⟩ := info_parts infoCell
    clear h hcn hp hcs HA0 HM0
    go_enter Tryz.func11, Tryz.ntmps11
    go_wp2
    go_loopw [4] (fun iv wr => ∃ (i : Nat) (p : Option Addr) (c : Nat), i ≤ cn ∧ iv = .int .i64 i ∧ wr.heap[w.heap.size]? = some (.cells #[.bool false, .slice cp cn cc, .slice kp kn kc, .slice qp qn qc] 26 (0, 0)) ∧
      wr.heap[w.heap.size + 1]? = some (.cells #[.slice p i c] 81 (0, 0)) ∧ wr.ownsRow w.heap.size 82 4 (.slice p i c) i (ccells (xs.take i)) ∧ Mod [] w wr) (fun iv _ => cn - (intOf iv).toNat)
    case atStart => exact ⟨0, none, 0, by omega, rfl, HA2.out, HA1.out, by simpa [ccells] using World.ownsRow_nil ((w.alloc (.cells #[.bool false, .slice cp cn cc, .slice kp kn kc, .slice qp qn qc] 26)).alloc (.cells #[.slice none 0 0] 81)) w.heap.size 82 4, HM1.out⟩
    case round =>
      obtain ⟨i, p, c, hi, rfl, hA, hL, hrow, hm⟩ := hrel
      have c1 : wr.cell? ⟨w.heap.size, 1, none⟩ = some (.slice cp cn cc) := cell_of_at hA 1
      have HA := Lib.hid hA
      have HL := Lib.hid hL
      have HROW := Lib.hid hrow
      have HM := Lib.hid hm
      clear hA hL hrow hm HA1 HA2 HM1
      by_cases hlt : i < cn
      · obtain ⟨xp, xn, xc, xl, yp, yn, yc, yl, sz, hd, hx, _, _, _, d0, d1, d2, d3⟩ := HG.out i hlt
        have hbl := HLT.out (by omega)
        rw [← HM.out.cell (a := ⟨b, _, none⟩) hbl (by simp)] at d0 d1 d2 d3
        have HX := Lib.hid hx
        have hidxi := fun W => hidx W i hlt
        have hwi : IntKind.i64.wrap ((i : Int) + 1) = (i : Int) + 1 := IntWalk.i64_in _ (by omega)
        obtain ⟨C, hC⟩ : ∃ C, C = wr.heap.size := ⟨_, rfl⟩
        have HC1 : Hid (w.heap.size + 1 < C) := by rw [hC]; exact lt_of_at HL.out
        obtain ⟨w1, hw1⟩ : ∃ w1, w1 = wr.alloc (.cells #[.slice xp xn xc, .slice yp yn yc, .int .i64 sz, .int .i64 hd] 57) := ⟨_, rfl⟩
        have HM1 : Hid (Mod [] wr w1) := by rw [hw1]; exact Mod.of_alloc wr _
        have HCC : Hid (w1.heap[C]? = some (.cells #[.slice xp xn xc, .slice yp yn yc, .int .i64 sz, .int .i64 hd] 57 (0, 0))) := by rw [hw1, hC]; exact at_alloc wr _
        have HSZ : Hid (w1.heap.size = C + 1) := by rw [hw1, hC]; simp [Hid]
        clear hx
        go_wp2_with fail
        rw [← hw1, ← hC]
        have HCE := Lib.hid hC
        clear hC
        have hLne : w.heap.size + 1 ∉ (Value.slice p i c).ownBlock.toList := fun hx => by
          have hx' : (Value.slice p i c).ownBlock = some (w.heap.size + 1) := by simpa using hx
          rcases HROW.out.2 with ⟨e, _⟩ | ⟨g, cap, cur, e, _, hg, _⟩
          · rw [e] at hx'; cases hx'
          · rw [e] at hx'; have e2 := Option.some.inj hx'; subst e2
            rw [HL.out] at hg; injection hg with hg; injection hg with _ hg _; exact absurd hg (by decide)
        have hCne : C ∉ (Value.slice p i c).ownBlock.toList := fun hx => by
          have := own_lt HROW.out C (by simpa using hx); have := HCE.out; omega
        have hAne : w.heap.size ∉ (Value.slice p i c).ownBlock.toList := fun hx => by
          have hx' : (Value.slice p i c).ownBlock = some w.heap.size := by simpa using hx
          rcases HROW.out.2 with ⟨e, _⟩ | ⟨g, cap, cur, e, _, hg, _⟩
          · rw [e] at hx'; cases hx'
          · rw [e] at hx'; have e2 := Option.some.inj hx'; subst e2
            rw [HA.out] at hg; injection hg with hg; injection hg with _ hg _; exact absurd hg (by decide)
        have HNE := Lib.hid (And.intro hLne (And.intro hCne hAne))
        have HL1 := Lib.hid (HM1.out.at HL.out (by simp))
        have s0 : w1.cell? ⟨w.heap.size + 1, 0, none⟩ = some (.slice p i c) := cell_of_at HL1.out 0
        have s1 : w1.frozen? ⟨w.heap.size + 1, 0, none⟩ = false := free_of_at HL1.out 0
        have t0 : w1.cell? ⟨C, 0, none⟩ = some (.slice xp xn xc) := cell_of_at HCC.out 0
        have t1 : w1.cell? ⟨C, 1, none⟩ = some (.slice yp yn yc) := cell_of_at HCC.out 1
        have t2 : w1.cell? ⟨C, 2, none⟩ = some (.int .i64 sz) := cell_of_at HCC.out 2
        have t3 : w1.cell? ⟨C, 3, none⟩ = some (.int .i64 hd) := cell_of_at HCC.out 3
        clear hLne hCne hAne hw1 d0 d1 d2 d3 c1
        refine AnyT.start (S := fun w' => w'.cell? ⟨w.heap.size + 1, 0, none⟩ = some (.slice p i c) ∧ w'.frozen? ⟨w.heap.size + 1, 0, none⟩ = false ∧ w'.cell? ⟨C, 0, none⟩ = some (.slice xp xn xc) ∧ w'.cell? ⟨C, 1, none⟩ = some (.slice yp yn yc) ∧ w'.cell? ⟨C, 2, none⟩ = some (.int .i64 sz) ∧ w'.cell? ⟨C, 3, none⟩ = some (.int .i64 hd)) (by kernel_rfl) ⟨s0, s1, t0, t1, t2, t3⟩ (fun hS => ?_)
        refine AnyT.take (i := 0) (k := 16) (v := ?_) rfl (by kernel_rfl) (fun _ _ _ h => h) hS (Or.inl ⟨by rfl, fun w' hw' => ?_⟩) ?_
        rotate_left
        · go_simp
          try rfl
        simp only [Act.put, List.setIfInBounds_toArray, List.set_cons_zero, List.set_cons_succ]
        refine AnyT.take (i := 1) (k := 2) (v := ?_) rfl (by kernel_rfl) (fun _ _ _ h => h) hS (Or.inl ⟨by rfl, fun w' hw' => ?_⟩) ?_
        rotate_left
        · go_simp
          try rfl
        simp only [Act.put, List.setIfInBounds_toArray, List.set_cons_zero, List.set_cons_succ]
        refine AnyT.take (i := 2) (k := 3) (v := ?_) rfl (by kernel_rfl) (fun _ _ _ h => h) hS (Or.inl ⟨by rfl, fun w' hw' => ?_⟩) ?_
        rotate_left
        · go_simp
          try rfl
        simp only [Act.put, List.setIfInBounds_toArray, List.set_cons_zero, List.set_cons_succ]
        refine AnyT.take (i := 3) (k := 4) (v := ?_) rfl (by kernel_rfl) (fun _ _ _ h => h) hS (Or.inl ⟨by rfl, fun w' hw' => ?_⟩) ?_
        rotate_left
        · go_simp
          try rfl
        simp only [Act.put, List.setIfInBounds_toArray, List.set_cons_zero, List.set_cons_succ]
        refine AnyT.take (i := 4) (k := 15) (v := ?_) rfl (by kernel_rfl) (fun _ _ _ h => h) hS (Or.inl ⟨by rfl, fun w' hw' => ?_⟩) ?_
        rotate_left
        · go_simp
          try rfl
        simp only [Act.put, List.setIfInBounds_toArray, List.set_cons_zero, List.set_cons_succ]
        refine AnyT.take (i := 5) (k := 6) (v := ?_) rfl (by kernel_rfl) (fun _ _ _ h => h) hS (Or.inl ⟨by rfl, fun w' hw' => ?_⟩) ?_
        rotate_left
        · go_simp
          try rfl
        simp only [Act.put, List.setIfInBounds_toArray, List.set_cons_zero, List.set_cons_succ]
        refine AnyT.take (i := 6) (k := 13) (v := ?_) rfl (by kernel_rfl) (fun _ _ _ h => h) hS (Or.inl ⟨by rfl, fun w' hw' => ?_⟩) ?_
        rotate_left
        · go_simp
          try rfl
        simp only [Act.put, List.setIfInBounds_toArray, List.set_cons_zero, List.set_cons_succ]
        refine AnyT.take (i := 7) (k := 8) (v := ?_) rfl (by kernel_rfl) (fun _ _ _ h => h) hS (Or.inl ⟨by rfl, fun w' hw' => ?_⟩) ?_
        rotate_left
        · go_simp
          try rfl
        simp only [Act.put, List.setIfInBounds_toArray, List.set_cons_zero, List.set_cons_succ]
        refine AnyT.take (i := 8) (k := 13) (v := ?_) rfl (by kernel_rfl) (fun _ _ _ h => h) hS (Or.inl ⟨by rfl, fun w' hw' => ?_⟩) ?_
        rotate_left
        · go_simp
          try rfl
        simp only [Act.put, List.setIfInBounds_toArray, List.set_cons_zero, List.set_cons_succ]
        refine AnyT.take (i := 9) (k := 10) (v := ?_) rfl (by kernel_rfl) (fun _ _ _ h => h) hS (Or.inl ⟨by rfl, fun w' hw' => ?_⟩) ?_
        rotate_left
        · go_simp
          try rfl
        simp only [Act.put, List.setIfInBounds_toArray, List.set_cons_zero, List.set_cons_succ]
        refine AnyT.take (i := 10) (k := 13) (v := ?_) rfl (by kernel_rfl) (fun _ _ _ h => h) hS (Or.inl ⟨by rfl, fun w' hw' => ?_⟩) ?_
        rotate_left
        · go_simp
          try rfl
        simp only [Act.put, List.setIfInBounds_toArray, List.set_cons_zero, List.set_cons_succ]
        refine AnyT.take (i := 11) (k := 12) (v := ?_) rfl (by kernel_rfl) (fun _ _ _ h => h) hS (Or.inl ⟨by rfl, fun w' hw' => ?_⟩) ?_
        rotate_left
        · go_simp
          try rfl
        simp only [Act.put, List.setIfInBounds_toArray, List.set_cons_zero, List.set_cons_succ]
        refine AnyT.take (i := 12) (k := 13) (v := ?_) rfl (by kernel_rfl) (fun _ _ _ h => h) hS (Or.inl ⟨by rfl, fun w' hw' => ?_⟩) ?_
        rotate_left
        · go_simp
          try rfl
        simp only [Act.put, List.setIfInBounds_toArray, List.set_cons_zero, List.set_cons_succ]
        refine AnyT.take (i := 13) (k := 14) (v := ?_) rfl (by kernel_rfl) (fun _ _ _ h => h) hS (Or.inl ⟨by rfl, fun w' hw' => ?_⟩) ?_
        rotate_left
        · go_simp
          try rfl
        simp only [Act.put, List.setIfInBounds_toArray, List.set_cons_zero, List.set_cons_succ]
        have HM2 : Hid (Mod [] w1 (w1.alloc (.cells #[.slice xp xn xc, .slice yp yn yc, .int .i64 sz, .int .i64 hd] 82)).drew) := ((Mod.refl [] w1).alloc).drew
        have HSRC : Hid (Sl (w1.alloc (.cells #[.slice xp xn xc, .slice yp yn yc, .int .i64 sz, .int .i64 hd] 82)).drew 4 (some ⟨w1.heap.size, 0, none⟩) 1 1 [.slice xp xn xc, .slice yp yn yc, .int .i64 sz, .int .i64 hd]) :=
          (Sl.new w1 [.slice xp xn xc, .slice yp yn yc, .int .i64 sz, .int .i64 hd] 82 4 1 rfl (by simp [maxLen]) (by intro u hu; simp at hu; rcases hu with rfl | rfl | rfl | rfl <;> rfl)).mod (Mod.of_drew _) (by simp)
        refine AnyT.run (i := 14) (by kernel_rfl) rfl rfl (fun K hK => ?_)
        go_simp
        have hL2 := HM2.out.at HL1.out (by simp)
        have hC2 := HM2.out.at HCC.out (by simp)
        refine hK _ _ (fun _ => ⟨cell_of_at hL2 0, free_of_at hL2 0, cell_of_at hC2 0, cell_of_at hC2 1, cell_of_at hC2 2, cell_of_at hC2 3⟩) ?_
        clear hK K
        have HL2 := Lib.hid hL2
        have HC2 := Lib.hid hC2
        clear hL2 hC2 s0 s1 t0 t1 t2 t3
        generalize (w1.alloc (.cells #[.slice xp xn xc, .slice yp yn yc, .int .i64 sz, .int .i64 hd] 82)).drew = W2 at *
        have HM02 : Hid (Mod [] w W2) := HM.out.same (HM1.out.same HM2.out)
        refine AnyT.one (i := 15) (by kernel_rfl) rfl (fun K hK => ?_)
        refine step_append_src _ rfl _ _ _ rfl w.heap.size 82 i0 _ 4 64 Tryz.underlying79 hi0 hz0 hz1 hz2 rfl (by omega) (.slice p i c) i _ rfl (ownsRow_mod HROW.out (HM1.out.same HM2.out) (by simp)) _ _ _ _ rfl HSRC.out (i + 1) (by omega) (by unfold maxLen; omega) (by omega) HM02.out.size ?_
        intro p3 c3 w3 hown3 hgrow3 _ hlie3
        have hm3 : Mod (Value.slice p i c).ownBlock.toList W2 w3 := Mod.of_grown' hgrow3
        have hL3 := hm3.at HL2.out HNE.out.1
        have hC3 := hm3.at HC2.out HNE.out.2.1
        have hS3 := And.intro (cell_of_at hL3 0) (And.intro (free_of_at hL3 0) (And.intro (cell_of_at hC3 0) (And.intro (cell_of_at hC3 1) (And.intro (cell_of_at hC3 2) (cell_of_at hC3 3)))))
        refine hK _ _ (fun _ => hS3) ?_
        clear hK K hS
        have hS := hS3
        have hA3 := hm3.at (HM2.out.at (HM1.out.at HA.out (by simp)) (by simp)) HNE.out.2.2
        have HA3 := Lib.hid hA3
        have HL3 := Lib.hid hL3
        have HO3 := Lib.hid hown3
        have HM3 : Hid (Mod [] w w3) := HM02.out.trans hm3 (fun b hb => Or.inr (own_base HROW.out b (by simpa using hb)))
        have HLI3 : Hid (∀ b, (Value.slice p3 (i + 1) c3).ownBlock = some b → b ≠ w.heap.size + 1 ∧ b ≠ w.heap.size) := fun b hb => by
          rcases hlie3 with h1 | h1
          · rw [h1] at hb
            exact ⟨fun e => HNE.out.1 (by rw [← e]; simpa using hb), fun e => HNE.out.2.2 (by rw [← e]; simpa using hb)⟩
          · rw [h1] at hb
            have h2 := Option.some.inj hb
            have := lt_of_at HL2.out
            exact ⟨by omega, by omega⟩
        clear hm3 hown3 hgrow3 hlie3 hL3 hC3 hA3
        refine AnyT.take (i := 16) (k := 17) (v := ?_) rfl (by kernel_rfl) (fun _ _ _ h => h) hS (Or.inl ⟨by rfl, fun w' hw' => ?_⟩) ?_
        rotate_left
        · go_simp
          try rfl
        simp only [Act.put, List.setIfInBounds_toArray, List.set_cons_zero, List.set_cons_succ]
        refine AnyT.take (i := 17) (k := 18) (v := ?_) rfl (by kernel_rfl) (fun _ _ _ h => h) hS (Or.inl ⟨by rfl, fun w' hw' => ?_⟩) ?_
        rotate_left
        · go_simp
          try rfl
        simp only [Act.put, List.setIfInBounds_toArray, List.set_cons_zero, List.set_cons_succ]
        obtain ⟨hS0, hS1, _, _, _, _⟩ := hS3
        clear hS
        refine AnyT.run (i := 18) (by kernel_rfl) rfl rfl (fun K hK => ?_)
        go_simp
        refine hK _ _ (fun h => absurd h (by rw [show more _ _ = false from by kernel_rfl]; decide)) ?_
        clear hK K
        refine AnyT.done (by kernel_rfl) ?_ _
        have HL4 : Hid ((w3.setCell ⟨w.heap.size + 1, 0, none⟩ (.slice p3 (i + 1) c3)).heap[w.heap.size + 1]? = some (.cells #[.slice p3 (i + 1) c3] 81 (0, 0))) := by
          unfold Hid; rw [at_setCell HL3.out]; rfl
        have HA4 := Lib.hid ((Mod.of_setCell w3 (w.heap.size + 1) 0 (.slice p3 (i + 1) c3)).at HA3.out (by simp))
        have HO4 := Lib.hid (ownsRow_mod HO3.out (Mod.of_setCell w3 (w.heap.size + 1) 0 (.slice p3 (i + 1) c3)) (fun b hb => by simpa using (HLI3.out b hb).1))
        have HM4 : Hid (Mod [] w (w3.setCell ⟨w.heap.size + 1, 0, none⟩ (.slice p3 (i + 1) c3))) := HM3.out.trans (Mod.of_setCell _ _ _ _) (fun b hb => Or.inr (by simp at hb; omega))
        clear hS0 hS1
        generalize (w3.setCell ⟨w.heap.size + 1, 0, none⟩ (.slice p3 (i + 1) c3)) = w4 at *
        go_wp2
        go_roundw
        case rel => exact ⟨i + 1, p3, c3, by omega, by go_num, HA4.out, HL4.out, by
          have h4 := HO4.out
          have e : ccells (xs.take (i + 1)) = ccells (xs.take i) ++ [.slice xp xn xc, .slice yp yn yc, .int .i64 sz, .int .i64 hd] := by
            obtain ⟨h1, h2⟩ := List.getElem?_eq_some_iff.1 HX.out
            rw [List.take_succ_eq_append_getElem h1, ccells_append, h2]; rfl
          rw [e]; exact h4, HM4.out⟩
        case measure => simp [intOf]; omega
      · have HF : Hid (OfR false xs ks kids w (.iface 78 (.pointer (some ⟨w.heap.size + 1, 0, none⟩))) wr) := by
          obtain rfl : i = cn := by omega
          have h1 := HROW.out
          rw [List.take_of_length_le (by rw [HXL.out]; omega)] at h1
          have h2 := (Sl.of_own h1 (ccells_one xs)).1
          refine ⟨HM.out, ?_⟩
          rw [if_neg (by simp)]
          exact ⟨_, rfl, ⟨p, i, c, HL.out, h2, fun x hx => ⟨(HIO.out x hx).1.mod0 HM.out, (HIO.out x hx).2.mod0 HM.out⟩⟩⟩
        go_wp2
        go_ret
        exact .mk HF.out
end Go.Proofs.YtgimdodbajhpoaaGreatDoor
