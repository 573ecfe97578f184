/- A meta is written to its place. -/
import Derived.Test.YtbbjfgjbjghdiaaDoorDiskRead
import Derived.Test.YtbbjfgjbjghdiaaDoorPageOpen
namespace Go.Proofs.YtbbjfgjbjghdiaaDoor
open Go.RowKit Go.Maps
set_option linter.unusedSimpArgs false
set_option linter.unusedVariables false

def Ck.mwrite (k : Ck) (m : Mt) : Int × Ck := if m.may = false then (1, k) else k.write (m.gen % 2) (fr (m.gen % 2) (payM m))
theorem DkR.from {D : Nat} {T : List Nat} {k : Ck} {r v : Value} {w w1 w' : World} (h : DkR D T k r w1 v w') (hm : Mod [] w w1) : DkR D T k r w v w' := by
  obtain ⟨h1, T', h2, h3, h4⟩ := h
  exact ⟨h1, T', h2, (hm.mono (by simp)).same h3, fun b hb => (h4 b hb).imp id fun h => Nat.le_trans hm.size h⟩

theorem place_any (g : Int) (w : World) (h0 : 0 ≤ g) (h1 : g < 2 ^ 64) : Calls Tryd.prog 42 #[.int .u64 g] w (Ret fun v w' => v = .int .i64 (g % 2) ∧ w = w') := by
  have e1 : IntKind.i64.wrap (g % 2) = g % 2 := by rw [IntKind.wrap_i64]; omega
  have e2 : g.tmod 2 = g % 2 := Int.tmod_eq_emod_of_nonneg h0
  have e3 : IntKind.u64.wrap (g % 2) = g % 2 := by rw [IntKind.wrap_u64]; omega
  go_enter Tryd.func42, Tryd.ntmps42
  go_wp2
  go_ret
  exact .mk ⟨by simp [e1, e2, e3], rfl⟩

set_option maxRecDepth 100000 in
set_option maxHeartbeats 4000000 in
theorem mwrite_any (D : Nat) (T : List Nat) (k : Ck) (m : Mt) (w : World) (h : DiskAt w D T k) (hfew : k.wait.length ≤ 1000000) :
    Calls Tryd.prog 17 #[.pointer (some ⟨D, 0, none⟩), .agg m.cells] w (Ret (DkR D T (k.mwrite m).2 (.int .i64 (k.mwrite m).1) w)) := by
  have HMAY := fun W => may_any m W
  have HPAY := fun W => Lib.hid (paym_any m W)
  have HH := Lib.hid h
  have HW0 : Hid (m.may = false → k.mwrite m = (1, k)) := fun hm => by unfold Ck.mwrite; rw [if_pos hm]
  have HW1 : Hid (m.may = true → k.mwrite m = k.write (m.gen % 2) (fr (m.gen % 2) (payM m))) := fun hm => by unfold Ck.mwrite; rw [if_neg (by rw [hm]; simp)]
  have HSP : Hid (m.may = true → _) := m.may_spec
  have HPL := Lib.hid (payM_len m)
  have HPW := Lib.hid (payM_wf m)
  obtain ⟨R, hR⟩ : ∃ R, R = k.mwrite m := ⟨_, rfl⟩
  rw [← hR] at HW0 HW1 ⊢
  obtain ⟨B, hB⟩ : ∃ B, B = m.may := ⟨_, rfl⟩
  rw [← hB] at HW0 HW1 HSP HMAY
  clear hB hR h
  generalize payM m = PP at *
  obtain ⟨g, h, r, f⟩ := m
  simp only [Mt.cells] at HMAY HPAY HSP ⊢
  have HMW : Hid (Mod [] w (w.alloc (.cells #[.int .u64 g, .int .i64 h, .int .i64 r, .int .i64 f] 24))) := Mod.of_alloc w _
  have hat := at_alloc w (.cells #[.int .u64 g, .int .i64 h, .int .i64 r, .int .i64 f] 24)
  have c0 : (w.alloc (.cells #[.int .u64 g, .int .i64 h, .int .i64 r, .int .i64 f] 24)).cell? ⟨w.heap.size, 0, none⟩ = some (.int .u64 g) := cell_of_at (at_alloc w _) 0
  have c1 : (w.alloc (.cells #[.int .u64 g, .int .i64 h, .int .i64 r, .int .i64 f] 24)).cell? ⟨w.heap.size, 1, none⟩ = some (.int .i64 h) := cell_of_at (at_alloc w _) 1
  have c2 : (w.alloc (.cells #[.int .u64 g, .int .i64 h, .int .i64 r, .int .i64 f] 24)).cell? ⟨w.heap.size, 2, none⟩ = some (.int .i64 r) := cell_of_at (at_alloc w _) 2
  have c3 : (w.alloc (.cells #[.int .u64 g, .int .i64 h, .int .i64 r, .int .i64 f] 24)).cell? ⟨w.heap.size, 3, none⟩ = some (.int .i64 f) := cell_of_at (at_alloc w _) 3
  have HAT := Lib.hid hat
  clear hat
  go_enter Tryd.func17, Tryd.ntmps17
  go_wp2_with fail
  refine (HMAY _).mono ?_
  rintro _ w1 ⟨_, rfl, rfl, m1⟩
  have HA1 : Hid _ := m1.at HAT.out (by simp)
  have M1 : Hid (Mod [] w w1) := HMW.out.same m1
  clear m1 c0 c1 c2 c3 HMAY
  cases B with
  | false =>
    have HW : Hid (R = (1, k)) := HW0.out rfl
    clear HW0 HW1
    go_wp2
    go_ret
    exact .mk (by rw [HW.out]; exact ⟨rfl, T, HH.out.mod M1.out (by simp), M1.out.mono (by simp), fun b hb => Or.inl hb⟩)
  | true =>
    have HW : Hid (R = k.write (g % 2) (fr (g % 2) PP)) := HW1.out rfl
    obtain ⟨⟨g1, g2⟩, -⟩ := HSP.out rfl
    clear HW0 HW1 HSP HMW
    have hAB : w.heap.size < w1.heap.size := lt_of_at HA1.out
    have d0 : w1.cell? ⟨w.heap.size, 0, none⟩ = some (.int .u64 g) := cell_of_at HA1.out 0
    have d1 : w1.cell? ⟨w.heap.size, 1, none⟩ = some (.int .i64 h) := cell_of_at HA1.out 1
    have d2 : w1.cell? ⟨w.heap.size, 2, none⟩ = some (.int .i64 r) := cell_of_at HA1.out 2
    have d3 : w1.cell? ⟨w.heap.size, 3, none⟩ = some (.int .i64 f) := cell_of_at HA1.out 3
    generalize w.heap.size = A at *
    go_wp2
    go_region_held3 (fun w' => w'.cell? ⟨A, 0, none⟩ = some (.int .u64 g) ∧ w'.cell? ⟨A, 1, none⟩ = some (.int .i64 h) ∧ w'.cell? ⟨A, 2, none⟩ = some (.int .i64 r) ∧ w'.cell? ⟨A, 3, none⟩ = some (.int .i64 f))
      (first
        | go_keep
        | exact ⟨cell_of_at (M2.out.at HA1.out (by simp)) 0, cell_of_at (M2.out.at HA1.out (by simp)) 1, cell_of_at (M2.out.at HA1.out (by simp)) 2, cell_of_at (M2.out.at HA1.out (by simp)) 3⟩
        | exact ⟨cell_of_at ((M2.out.same M3.out).at HA1.out (by simp)) 0, cell_of_at ((M2.out.same M3.out).at HA1.out (by simp)) 1, cell_of_at ((M2.out.same M3.out).at HA1.out (by simp)) 2, cell_of_at ((M2.out.same M3.out).at HA1.out (by simp)) 3⟩
        | fail)
      (first
        | (go_at_call 42; refine (place_any g _ (by omega) (by omega)).mono ?_; rintro _ w9 ⟨_, rfl, rfl, rfl⟩)
        | (go_at_call 9; refine ((HPAY _).out).mono ?_; rintro _ w2 ⟨_, rfl, p2, n2, c2, rfl, e2, z2, s2, m2⟩; (have S2 := Lib.hid s2); (have M2 : Hid (Mod [] w1 w2) := (Mod.of_drew w1).same m2); (have E2 := Lib.hid e2); clear s2 m2 e2 z2)
        | (go_at_call 41; refine (frame_any (g % 2) _ _ _ PP _ ⟨S2.out, HPW.out⟩ (by omega) (by omega) (by have := E2.out; have := HPL.out; omega)).mono ?_; rintro _ w3 ⟨_, rfl, b3, rfl, l3, a3, m3⟩; (have A3 := Lib.hid a3); (have M3 := Lib.hid m3); clear a3 m3)
        | fail)
    all_goals
      rename_i hHeld
      have M13 : Hid (Mod [] w w3) := M1.out.same (M2.out.same M3.out)
      have HLF := Lib.hid (fr_len (no := g % 2) (l := PP) (by have := HPL.out; omega))
      have HIN : Hid (BytesIn w3 (some ⟨b3, 0, none⟩) 1024 1024 (fr (g % 2) PP)) := by
        have hat := A3.out
        refine ⟨⟨by rw [bs_len, HLF.out], Nat.le_refl _, by simp [maxLen], bs_one _, b3, 0, fun _ => ⟨rfl, lt_of_at hat⟩, fun j u hj => ?_⟩, fr_wf HPW.out⟩
        rw [cell_of_at hat, Nat.zero_add, List.getElem?_toArray]; exact hj
      obtain ⟨e0, e1, e2, e3⟩ := hHeld
      clear d0 d1 d2 d3 hAB S2 M2 E2 l3 A3 M3 HPAY HAT HA1 e1 e2 e3
      go_wp2_with fail
      refine (place_any g _ (by omega) (by omega)).mono ?_
      rintro _ w9 ⟨_, rfl, rfl, rfl⟩
      go_wp2_with fail
      refine (dwrite_any D T k (g % 2) _ _ _ _ _ (HH.out.mod M13.out (by simp)) HIN.out (by simp) hfew).mono ?_
      rintro _ w4 ⟨_, rfl, h4⟩
      have H4 := Lib.hid (h4.from M13.out)
      obtain ⟨rfl, -⟩ := h4
      go_wp2
      go_ret
      exact .mk (by rw [HW.out]; exact H4.out)
end Go.Proofs.YtbbjfgjbjghdiaaDoor
