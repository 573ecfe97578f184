/- The newest meta. -/
import Derived.Test.YtbbjfgjbjghdiaaDoorMetaTold
namespace Go.Proofs.YtbbjfgjbjghdiaaDoor
open Go.RowKit Go.Maps
set_option linter.unusedSimpArgs false
set_option linter.unusedVariables false

def newer (b : Mt) (r : Mt × Bool) : Mt := if r.2 = true ∧ b.gen < r.1.gen then r.1 else b
def Ck.best (k : Ck) : Nat → Mt
  | 0 => mt0
  | n + 1 => newer (k.best n) (k.told n)
def Ck.newest (k : Ck) : Mt × Int := if (k.best 2).gen = 0 then (mt0, 7) else (k.best 2, 0)

set_option maxRecDepth 100000 in
set_option maxHeartbeats 2000000 in
theorem newer_any (B : Nat) (b : Mt) (r : Mt × Bool) (w : World) (hat : w.heap[B]? = some (.cells b.cells 24 (0, 0))) :
    Calls Tryd.prog 45 #[.agg r.1.cells, .bool r.2, .pointer (some ⟨B, 0, none⟩)] w (EndR0 fun w' => w'.heap[B]? = some (.cells (newer b r).cells 24 (0, 0)) ∧ Mod [B] w w') := by
  obtain ⟨⟨g, h, x, f⟩, ok⟩ := r
  obtain ⟨g0, h0, x0, f0⟩ := b
  have hBl := lt_of_at hat
  have c0 : w.cell? ⟨B, 0, none⟩ = some (.int .u64 g0) := cell_of_at hat 0
  have c1 : w.cell? ⟨B, 1, none⟩ = some (.int .i64 h0) := cell_of_at hat 1
  have c2 : w.cell? ⟨B, 2, none⟩ = some (.int .i64 x0) := cell_of_at hat 2
  have c3 : w.cell? ⟨B, 3, none⟩ = some (.int .i64 f0) := cell_of_at hat 3
  have f0' : w.frozen? ⟨B, 0, none⟩ = false := free_of_at hat 0
  have f1 : w.frozen? ⟨B, 1, none⟩ = false := free_of_at hat 1
  have f2 : w.frozen? ⟨B, 2, none⟩ = false := free_of_at hat 2
  have f3 : w.frozen? ⟨B, 3, none⟩ = false := free_of_at hat 3
  have m0 := Mod.of_alloc w (.cells #[.int .u64 g, .int .i64 h, .int .i64 x, .int .i64 f] 24)
  have HAT := Lib.hid hat
  have HM0 := Lib.hid m0
  have HA0 := Lib.hid (m0.at hat (by simp))
  have hne : B ≠ w.heap.size := by omega
  unfold Mt.cells
  simp only
  clear hat m0
  cases ok with
  | false =>
    go_enter Tryd.func45, Tryd.ntmps45
    go_wp2
    go_end0
    exact ⟨rfl, by unfold newer; rw [if_neg (by simp)]; exact HA0.out, HM0.out.mono (by simp)⟩
  | true =>
    by_cases hg : g0 < g
    · go_enter Tryd.func45, Tryd.ntmps45
      go_wp2
      go_end0
      refine ⟨rfl, ?_, ?_⟩
      · unfold newer; rw [if_pos ⟨rfl, hg⟩]
        have h1 := at_setCell (at_setCell (at_setCell (at_setCell HAT.out 0 (.int .u64 g)) 1 (.int .i64 h)) 2 (.int .i64 x)) 3 (.int .i64 f)
        exact at_alloc_other h1 _
      · exact (((((Mod.refl [B] w).setCell (Or.inl (by simp))).setCell (Or.inl (by simp))).setCell (Or.inl (by simp))).setCell (Or.inl (by simp))).alloc
    · go_enter Tryd.func45, Tryd.ntmps45
      go_wp2
      go_end0
      exact ⟨rfl, by unfold newer; rw [if_neg (by simp; omega)]; exact HA0.out, HM0.out.mono (by simp)⟩

def NewestR (r : Mt × Int) (w : World) (v : Value) (w' : World) : Prop := v = .tuple #[.agg r.1.cells, .int .i64 r.2] ∧ Mod [] w w'
set_option maxRecDepth 100000 in
set_option maxHeartbeats 4000000 in
theorem newest_any (D : Nat) (T : List Nat) (k : Ck) (w : World) (h : DiskAt w D T k) :
    Calls Tryd.prog 19 #[.pointer (some ⟨D, 0, none⟩)] w (Ret (NewestR k.newest w)) := by
  have HH := Lib.hid h
  have HM0 : Hid (Mod [] w ((w.alloc (.cells #[.int .u64 0, .int .i64 0, .int .i64 0, .int .i64 0] 24)).alloc (.cells #[.int .u64 0, .int .i64 0, .int .i64 0, .int .i64 0] 24))) := (Mod.refl [] w).alloc.alloc
  have HA0 : Hid (((w.alloc (.cells #[.int .u64 0, .int .i64 0, .int .i64 0, .int .i64 0] 24)).alloc (.cells #[.int .u64 0, .int .i64 0, .int .i64 0, .int .i64 0] 24)).heap[w.heap.size]? = some (Obj.cells #[.int .u64 0, .int .i64 0, .int .i64 0, .int .i64 0] 24 (0, 0))) := at_alloc_other (at_alloc w _) _
  have HB0 : Hid (((w.alloc (.cells #[.int .u64 0, .int .i64 0, .int .i64 0, .int .i64 0] 24)).alloc (.cells #[.int .u64 0, .int .i64 0, .int .i64 0, .int .i64 0] 24)).heap[w.heap.size + 1]? = some (Obj.cells #[.int .u64 0, .int .i64 0, .int .i64 0, .int .i64 0] 24 (0, 0))) := at_alloc' _ _ (by simp)
  clear h
  go_enter Tryd.func19, Tryd.ntmps19
  go_wp2
  go_loopw [8] (fun i wr => ∃ n : Nat, n ≤ 2 ∧ i = .int .i64 n ∧ wr.heap[w.heap.size]? = some (Obj.cells #[.int .u64 0, .int .i64 0, .int .i64 0, .int .i64 0] 24 (0, 0)) ∧ wr.heap[w.heap.size + 1]? = some (Obj.cells (k.best n).cells 24 (0, 0)) ∧ Mod [] w wr) (fun i _ => 2 - (intOf i).toNat)
  case atStart => exact ⟨0, by omega, rfl, HA0.out, HB0.out, HM0.out⟩
  case round =>
    obtain ⟨n, hn, rfl, hA, hB, hm⟩ := hrel
    have HA := Lib.hid hA
    have HB := Lib.hid hB
    have HM := Lib.hid hm
    clear hm HA0 HB0 HM0
    by_cases hlt : n < 2
    · have HBS : Hid (k.best (n + 1) = newer (k.best n) (k.told n)) := rfl
      generalize k.best n = b at *
      clear hA hB
      go_wp2_with fail
      refine (told_any D T k n _ (HH.out.mod HM.out (by simp)) (by omega)).mono ?_
      rintro _ w1 ⟨_, rfl, rfl, m1⟩
      have HA1 := Lib.hid (m1.at HA.out (by simp))
      have HB1 := Lib.hid (m1.at HB.out (by simp))
      have HM1 : Hid (Mod [] w w1) := HM.out.same m1
      clear m1
      generalize k.told n = r at *
      go_wp2_with fail
      refine (newer_any (w.heap.size + 1) b r _ HB1.out).mono ?_
      rintro _ w2 ⟨rfl, h2, m2⟩
      have HB2 := Lib.hid h2
      have HA2 := Lib.hid (m2.at HA1.out (by simp))
      have HM2 : Hid (Mod [] w w2) := HM1.out.trans m2 (fun b hb => Or.inr (by simp at hb; omega))
      clear h2 m2
      have hwr : IntKind.i64.wrap ((n : Int) + 1) = (n : Int) + 1 := IntWalk.i64_in _ (by omega)
      go_wp2
      go_roundw
      case rel => exact ⟨n + 1, by omega, by go_num, HA2.out, by rw [HBS.out]; exact HB2.out, HM2.out⟩
      case measure => simp [intOf]; omega
    · obtain rfl : n = 2 := by omega
      have HN : Hid (k.newest = if (k.best 2).gen = 0 then (mt0, 7) else (k.best 2, 0)) := rfl
      obtain ⟨b, hb⟩ : ∃ b, b = k.best 2 := ⟨_, rfl⟩
      rw [← hb] at HN hB HB
      clear hb
      obtain ⟨g, h, r, f⟩ := b
      unfold Mt.cells at hB
      simp only at hB HN
      have c0 : wr.cell? ⟨w.heap.size + 1, 0, none⟩ = some (.int .u64 g) := cell_of_at hB 0
      have c1 : wr.cell? ⟨w.heap.size + 1, 1, none⟩ = some (.int .i64 h) := cell_of_at hB 1
      have c2 : wr.cell? ⟨w.heap.size + 1, 2, none⟩ = some (.int .i64 r) := cell_of_at hB 2
      have c3 : wr.cell? ⟨w.heap.size + 1, 3, none⟩ = some (.int .i64 f) := cell_of_at hB 3
      have z0 : wr.cell? ⟨w.heap.size, 0, none⟩ = some (.int .u64 0) := cell_of_at hA 0
      have z1 : wr.cell? ⟨w.heap.size, 1, none⟩ = some (.int .i64 0) := cell_of_at hA 1
      have z2 : wr.cell? ⟨w.heap.size, 2, none⟩ = some (.int .i64 0) := cell_of_at hA 2
      have z3 : wr.cell? ⟨w.heap.size, 3, none⟩ = some (.int .i64 0) := cell_of_at hA 3
      have y0 : wr.frozen? ⟨w.heap.size, 0, none⟩ = false := free_of_at hA 0
      have y1 : wr.frozen? ⟨w.heap.size, 1, none⟩ = false := free_of_at hA 1
      have y2 : wr.frozen? ⟨w.heap.size, 2, none⟩ = false := free_of_at hA 2
      have y3 : wr.frozen? ⟨w.heap.size, 3, none⟩ = false := free_of_at hA 3
      have HMF : Hid (∀ a b c d : Value, Mod [] w ((((wr.setCell ⟨w.heap.size, 0, none⟩ a).setCell ⟨w.heap.size, 1, none⟩ b).setCell ⟨w.heap.size, 2, none⟩ c).setCell ⟨w.heap.size, 3, none⟩ d)) := fun a b c d => (((HM.out.setCell (Or.inr (Nat.le_refl _))).setCell (Or.inr (Nat.le_refl _))).setCell (Or.inr (Nat.le_refl _))).setCell (Or.inr (Nat.le_refl _))
      clear hA hB HA HB
      by_cases hz : g = 0
      · have HR : Hid (k.newest = (mt0, 7)) := by rw [HN.out]; exact if_pos hz
        subst hz
        clear HN
        go_wp2
        refine bodyPost_ret (v := .tuple #[.agg #[.int .u64 0, .int .i64 0, .int .i64 0, .int .i64 0], .int .i64 7]) ?_ rfl ?_
        · rw [results_cell_tmp rfl]; go_simp
        · exact .mk ⟨by rw [HR.out]; rfl, (by first | exact HMF.out _ _ _ _ | exact HM.out)⟩
      · have HR : Hid (k.newest = (⟨g, h, r, f⟩, 0)) := by rw [HN.out]; exact if_neg hz
        have hz' : (g == 0) = false := by simpa using hz
        clear HN hz
        go_wp2
        refine bodyPost_ret (v := .tuple #[.agg #[.int .u64 g, .int .i64 h, .int .i64 r, .int .i64 f], .int .i64 0]) ?_ rfl ?_
        · rw [results_cell_tmp rfl]; go_simp
        · exact .mk ⟨by rw [HR.out]; rfl, (by first | exact HMF.out _ _ _ _ | exact HM.out)⟩
end Go.Proofs.YtbbjfgjbjghdiaaDoor
