/- The meta that a place tells. -/
import Derived.Test.YtbbjfgjbjghdiaaDoorMetaWrite
import Derived.Laws.Tables
namespace Go.Proofs.YtbbjfgjbjghdiaaDoor
open Go.RowKit Go.Maps
set_option linter.unusedSimpArgs false
set_option linter.unusedVariables false

def mt0 : Mt := ⟨0, 0, 0, 0⟩
def Ck.told (k : Ck) (n : Int) : Mt × Bool :=
  if k.there n = false then (mt0, false) else if okPage n (k.seen n) = false then (mt0, false)
  else ((fromM ((k.seen n).take 1016)).1, (fromM ((k.seen n).take 1016)).2 == 0 && (fromM ((k.seen n).take 1016)).1.gen % 2 == n)
def ToldR (r : Mt × Bool) (w : World) (v : Value) (w' : World) : Prop := v = .tuple #[.agg r.1.cells, .bool r.2] ∧ Mod [] w w'
theorem infoMt : (Tryd.prog.info? 24).map (·.size) = some 4 := by kernel_rfl
theorem fromM_gen {b : List Int} (h : ∀ x ∈ b, 0 ≤ x ∧ x < 256) : (fromM b).2 = 0 ∨ (fromM b).2 = 5 := by
  unfold fromM; split <;> simp
theorem fromM_range (b : List Int) : 0 ≤ (fromM b).1.gen ∧ (fromM b).1.gen < 2 ^ 64 := by
  unfold fromM; split
  · rename_i h
    have h2 := h.2
    unfold goodM at h2
    rw [Bool.and_eq_true] at h2
    have := ((rdM b).may_spec h2.1).1
    simp only; omega
  · simp

def toldV (V0 V1 V2 V4 V5 V6 V7 V8 V9 : Value) (A : Nat) (i : Nat) (vs : Nat → Value) (w : World) : Prop :=
  match i with
  | 0 => vs 0 = V0
  | 1 => vs 1 = V1
  | 2 => vs 2 = V2
  | 3 => vs 3 = V2
  | 4 => vs 4 = V4
  | 5 => vs 5 = V5
  | 6 => vs 6 = V6
  | 7 => vs 7 = V7
  | 8 => vs 8 = V8
  | 9 => vs 9 = V9
  | 10 => match V0 with | .agg cs => w.heap[A]? = some (.cells cs 24 (0, 0)) | _ => True
  | 11 => vs 11 = V9
  | _ => True
theorem toldV_store {cs : Array Value} {V1 V2 V4 V5 V6 V7 V8 V9 : Value} {A i : Nat} {vs : Nat → Value} {w w' : World} (h1 : w'.heap[A]? = some (.cells cs 24 (0, 0))) (hr : toldV (.agg cs) V1 V2 V4 V5 V6 V7 V8 V9 A i vs w) : toldV (.agg cs) V1 V2 V4 V5 V6 V7 V8 V9 A i vs w' := by
  unfold toldV at hr ⊢
  split at hr
  all_goals first
    | exact hr
    | exact h1
theorem mod_setRow (w : World) (g : Nat) (cs : Array Value) : Mod [g] w (w.setRow g cs) :=
  ⟨rfl, rfl, rfl, by simp, fun k hk hn => setRow_other w g k cs (fun e => hn (by simp [e]))⟩
set_option maxRecDepth 100000 in
set_option maxHeartbeats 4000000 in
theorem told_any (D : Nat) (T : List Nat) (k : Ck) (n : Int) (w : World) (h : DiskAt w D T k) (hn : n = 0 ∨ n = 1) :
    Calls Tryd.prog 46 #[.pointer (some ⟨D, 0, none⟩), .int .i64 n] w (Ret (ToldR (k.told n) w)) := by
  have HM0 : Hid (Mod [] w (w.alloc (.cells #[.int .u64 0, .int .i64 0, .int .i64 0, .int .i64 0] 24))) := Mod.of_alloc w _
  have HAT0 : Hid ((w.alloc (.cells #[.int .u64 0, .int .i64 0, .int .i64 0, .int .i64 0] 24)).heap[w.heap.size]? = some (Obj.cells #[.int .u64 0, .int .i64 0, .int .i64 0, .int .i64 0] 24 (0, 0))) := at_alloc w _
  have HRD := Lib.hid (dread_any D T k n _ (h.mod HM0.out (by simp)))
  clear h
  go_enter Tryd.func46, Tryd.ntmps46
  go_wp2_with fail
  refine HRD.out.mono ?_
  rintro _ w1 ⟨_, rfl, m1, h1⟩
  have HM1 : Hid (Mod [] w w1) := HM0.out.same m1
  have HA1 := Lib.hid (m1.at HAT0.out (by simp))
  clear HRD m1
  cases hth : k.there n with
  | false =>
    rw [if_neg (by rw [hth]; simp)] at h1
    subst h1
    have HT : Hid (k.told n = (mt0, false)) := by unfold Hid Ck.told; rw [if_pos hth]
    have z0 : w1.cell? ⟨w.heap.size, 0, none⟩ = some (.int .u64 0) := cell_of_at HA1.out 0
    have z1 : w1.cell? ⟨w.heap.size, 1, none⟩ = some (.int .i64 0) := cell_of_at HA1.out 1
    have z2 : w1.cell? ⟨w.heap.size, 2, none⟩ = some (.int .i64 0) := cell_of_at HA1.out 2
    have z3 : w1.cell? ⟨w.heap.size, 3, none⟩ = some (.int .i64 0) := cell_of_at HA1.out 3
    have y0 : w1.frozen? ⟨w.heap.size, 0, none⟩ = false := free_of_at HA1.out 0
    have y1 : w1.frozen? ⟨w.heap.size, 1, none⟩ = false := free_of_at HA1.out 1
    have y2 : w1.frozen? ⟨w.heap.size, 2, none⟩ = false := free_of_at HA1.out 2
    have y3 : w1.frozen? ⟨w.heap.size, 3, none⟩ = false := free_of_at HA1.out 3
    clear hth
    go_wp2
    refine bodyPost_ret (v := .tuple #[.agg #[.int .u64 0, .int .i64 0, .int .i64 0, .int .i64 0], .bool false]) ?_ rfl ?_
    · rw [results_cell_tmp rfl]; go_simp
    · exact .mk ⟨by rw [HT.out]; rfl, (by first | exact res4 HM1.out | exact HM1.out)⟩
  | true =>
    rw [if_pos hth] at h1
    obtain ⟨p1, c1, rfl, b1⟩ := h1
    have HOP := Lib.hid (open_any n p1 c1 _ _ b1 (by omega) (by omega))
    have HT : Hid (k.told n = if okPage n (k.seen n) = false then (mt0, false) else ((fromM ((k.seen n).take 1016)).1, (fromM ((k.seen n).take 1016)).2 == 0 && (fromM ((k.seen n).take 1016)).1.gen % 2 == n)) := by
      unfold Hid Ck.told; rw [if_neg (by rw [hth]; simp)]
    have HLS := Lib.hid b1.len
    have HWS := Lib.hid b1.wf
    clear hth b1
    go_wp2_with fail
    refine HOP.out.mono ?_
    rintro _ w2 ⟨_, rfl, h2⟩
    unfold OpenR at h2
    cases hok : okPage n (k.seen n) with
    | false =>
      rw [hok, if_neg (by simp)] at h2
      obtain ⟨rfl, m2⟩ := h2
      have HM2 : Hid (Mod [] w w2) := HM1.out.same m2
      have HA2 := Lib.hid (m2.at HA1.out (by simp))
      rw [hok, if_pos rfl] at HT
      have z0 : w2.cell? ⟨w.heap.size, 0, none⟩ = some (.int .u64 0) := cell_of_at HA2.out 0
      have z1 : w2.cell? ⟨w.heap.size, 1, none⟩ = some (.int .i64 0) := cell_of_at HA2.out 1
      have z2 : w2.cell? ⟨w.heap.size, 2, none⟩ = some (.int .i64 0) := cell_of_at HA2.out 2
      have z3 : w2.cell? ⟨w.heap.size, 3, none⟩ = some (.int .i64 0) := cell_of_at HA2.out 3
      have y0 : w2.frozen? ⟨w.heap.size, 0, none⟩ = false := free_of_at HA2.out 0
      have y1 : w2.frozen? ⟨w.heap.size, 1, none⟩ = false := free_of_at HA2.out 1
      have y2 : w2.frozen? ⟨w.heap.size, 2, none⟩ = false := free_of_at HA2.out 2
      have y3 : w2.frozen? ⟨w.heap.size, 3, none⟩ = false := free_of_at HA2.out 3
      clear hok m2 HOP
      go_wp2
      refine bodyPost_ret (v := .tuple #[.agg #[.int .u64 0, .int .i64 0, .int .i64 0, .int .i64 0], .bool false]) ?_ rfl ?_
      · rw [results_cell_tmp rfl]; go_simp
      · exact .mk ⟨by rw [HT.out]; rfl, (by first | exact res4 HM2.out | exact HM2.out)⟩
    | true =>
      rw [hok, if_pos rfl] at h2
      obtain ⟨p2, c2, rfl, o2, m2⟩ := h2
      have hwf2 : ∀ x ∈ (k.seen n).take 1016, 0 ≤ x ∧ x < 256 := fun x hx => HWS.out x (List.mem_of_mem_take hx)
      have HB2 := Lib.hid (own_page o2 (by omega) hwf2).1
      have HM2 : Hid (Mod [] w w2) := HM1.out.same m2
      have HA2 := Lib.hid (m2.at HA1.out (by simp))
      rw [hok, if_neg (by simp)] at HT
      have hrg := fromM_range ((k.seen n).take 1016)
      have hcd := fromM_gen hwf2
      have HFR := Lib.hid (fromm_any p2 1016 c2 _ w2 HB2.out)
      unfold FromMR at HFR
      obtain ⟨M, hM⟩ : ∃ M, M = fromM ((k.seen n).take 1016) := ⟨_, rfl⟩
      rw [← hM] at HT hrg hcd HFR
      obtain ⟨⟨g, h, r, f⟩, e⟩ := M
      simp only [Mt.cells] at HFR hrg hcd HT
      clear hok m2 HOP hwf2 o2 hM HB2
      go_wp2_with fail
      refine HFR.out.mono ?_
      rintro _ w3 ⟨_, rfl, rfl, m3⟩
      have HM3 : Hid (Mod [] w w3) := HM2.out.same m3
      have HA3 := Lib.hid (m3.at HA2.out (by simp))
      clear m3 HFR
      have hw0 : w.heap.size < w3.heap.size := lt_of_at HA3.out
      have HN4 : Hid ((w3.alloc (.cells #[.int .u64 g, .int .i64 h, .int .i64 r, .int .i64 f] 24)).heap[w3.heap.size]? = some (Obj.cells #[.int .u64 g, .int .i64 h, .int .i64 r, .int .i64 f] 24 (0, 0))) := at_alloc w3 _
      rcases hcd with rfl | rfl
      ·
        go_wp2
        have HA4 : Hid _ := (Mod.of_alloc w3 (.cells #[.int .u64 g, .int .i64 h, .int .i64 r, .int .i64 f] 24)).at HA3.out (by simp)
        have HM4 : Hid (Mod [] w (w3.alloc (.cells #[.int .u64 g, .int .i64 h, .int .i64 r, .int .i64 f] 24))) := HM3.out.same (Mod.of_alloc w3 _)
        have hAN : w.heap.size ≠ w3.heap.size := by omega
        have hNl : w3.heap.size < (w3.alloc (.cells #[.int .u64 g, .int .i64 h, .int .i64 r, .int .i64 f] 24)).heap.size := lt_of_at HN4.out
        have HAA : Hid (w.heap.size ≤ w.heap.size) := Nat.le_refl _
        generalize (w3.alloc (.cells #[.int .u64 g, .int .i64 h, .int .i64 r, .int .i64 f] 24)) = w4 at *
        generalize w3.heap.size = N at *
        obtain ⟨A, hA⟩ : ∃ A, A = w.heap.size := ⟨_, rfl⟩
        rw [← hA] at HA4 hAN ⊢
        have HAA : Hid (w.heap.size ≤ A) := by rw [hA]; exact Nat.le_refl _
        clear hA HA3 HM3 hw0
        have c0 : w4.cell? ⟨N, 0, none⟩ = some (.int .u64 g) := cell_of_at HN4.out 0
        have c1' : w4.cell? ⟨N, 1, none⟩ = some (.int .i64 h) := cell_of_at HN4.out 1
        have c2' : w4.cell? ⟨N, 2, none⟩ = some (.int .i64 r) := cell_of_at HN4.out 2
        have c3 : w4.cell? ⟨N, 3, none⟩ = some (.int .i64 f) := cell_of_at HN4.out 3
        refine par_region (by kernel_rfl) (toldV (.agg #[.int .u64 g, .int .i64 h, .int .i64 r, .int .i64 f]) (.int .i64 0) (.bool true) (.pointer (some ⟨N, 0, none⟩)) (.int .u64 g) (.int .i64 (g % 2)) (.int .i64 n) (.bool (g % 2 == n)) (.bool (g % 2 == n)) A) (fun w' => Mod [A] w4 w' ∧ ∃ old, old.size = 4 ∧ w'.heap[A]? = some (.cells old 24 (0, 0))) (by kernel_rfl) ?_ ⟨⟨⟨⟨⟨⟨⟨⟨⟨⟨⟨⟨trivial, ?_⟩, ?_⟩, ?_⟩, ?_⟩, ?_⟩, ?_⟩, ?_⟩, ?_⟩, ?_⟩, ?_⟩, ?_⟩, ?_⟩ ⟨(Mod.of_drew w4).mono (by simp), _, rfl, HA4.out⟩ ?_
        · intro j vs vs' w o ho h1 h2 h3
          unfold toldV at h3 ⊢
          split at h3
          all_goals first
            | exact h3
            | (rw [← h1]; exact h3)
        · -- 0
          intro o ho listed vs a w' inv hun haft K hK
          obtain rfl := Option.some.inj ho
          have e9 := inv.old 9 (by kernel_rfl)
          have INV := Lib.hid inv
          clear inv haft hun ho
          simp at e9
          refine par_run rfl ?_
          have q0 := (INV.out.inv.1.cell (a := ⟨N, 0, none⟩) hNl (by simp; omega)).trans c0
          have q1 := (INV.out.inv.1.cell (a := ⟨N, 1, none⟩) hNl (by simp; omega)).trans c1'
          have q2 := (INV.out.inv.1.cell (a := ⟨N, 2, none⟩) hNl (by simp; omega)).trans c2'
          have q3 := (INV.out.inv.1.cell (a := ⟨N, 3, none⟩) hNl (by simp; omega)).trans c3
          go_simp
          exact hK _ _ INV.out.inv INV.out.val rfl
        · -- 1
          intro o ho listed vs a w' inv hun haft K hK
          obtain rfl := Option.some.inj ho
          have e7 := inv.old 7 (by kernel_rfl)
          have INV := Lib.hid inv
          clear inv haft hun ho
          simp at e7
          refine par_run rfl ?_
          go_simp
          exact hK _ _ INV.out.inv INV.out.val rfl
        · -- 2
          intro o ho listed vs a w' inv hun haft K hK
          obtain rfl := Option.some.inj ho
          obtain ⟨e34, r34⟩ := inv.get haft 1 34 (by kernel_rfl) (by kernel_rfl)
          have INV := Lib.hid inv
          clear inv haft hun ho
          change vs 1 = .int .i64 0 at r34
          rw [r34] at e34
          refine par_run rfl ?_
          go_simp
          exact hK _ _ INV.out.inv INV.out.val rfl
        · -- 3
          intro o ho listed vs a w' inv hun haft K hK
          obtain rfl := Option.some.inj ho
          obtain ⟨e35, r35⟩ := inv.get haft 2 35 (by kernel_rfl) (by kernel_rfl)
          have INV := Lib.hid inv
          clear inv haft hun ho
          change vs 2 = .bool true at r35
          rw [r35] at e35
          refine par_run rfl ?_
          go_simp
          exact hK _ _ INV.out.inv INV.out.val rfl
        · -- 4
          intro o ho listed vs a w' inv hun haft K hK
          obtain rfl := Option.some.inj ho
          obtain ⟨e36, r36⟩ := inv.get haft 3 36 (by kernel_rfl) (by kernel_rfl)
          have e9 := inv.old 9 (by kernel_rfl)
          have INV := Lib.hid inv
          clear inv haft hun ho
          change vs 3 = .bool true at r36
          rw [r36] at e36
          simp at e9
          refine par_guard rfl (by kernel_rfl) e36 ?_
          rw [if_pos rfl]
          go_simp
          exact hK _ _ INV.out.inv INV.out.val rfl
        · -- 5
          intro o ho listed vs a w' inv hun haft K hK
          obtain rfl := Option.some.inj ho
          obtain ⟨e37, r37⟩ := inv.get haft 4 37 (by kernel_rfl) (by kernel_rfl)
          obtain ⟨e36, r36⟩ := inv.get haft 3 36 (by kernel_rfl) (by kernel_rfl)
          have INV := Lib.hid inv
          clear inv haft hun ho
          change vs 4 = .pointer (some ⟨N, 0, none⟩) at r37
          rw [r37] at e37
          change vs 3 = .bool true at r36
          rw [r36] at e36
          refine par_guard rfl (by kernel_rfl) e36 ?_
          rw [if_pos rfl]
          have q0 := (INV.out.inv.1.cell (a := ⟨N, 0, none⟩) hNl (by simp; omega)).trans c0
          have q1 := (INV.out.inv.1.cell (a := ⟨N, 1, none⟩) hNl (by simp; omega)).trans c1'
          have q2 := (INV.out.inv.1.cell (a := ⟨N, 2, none⟩) hNl (by simp; omega)).trans c2'
          have q3 := (INV.out.inv.1.cell (a := ⟨N, 3, none⟩) hNl (by simp; omega)).trans c3
          go_simp
          exact hK _ _ INV.out.inv INV.out.val rfl
        · -- 6
          intro o ho listed vs a w' inv hun haft K hK
          obtain rfl := Option.some.inj ho
          obtain ⟨e38, r38⟩ := inv.get haft 5 38 (by kernel_rfl) (by kernel_rfl)
          obtain ⟨e36, r36⟩ := inv.get haft 3 36 (by kernel_rfl) (by kernel_rfl)
          have INV := Lib.hid inv
          clear inv haft hun ho
          change vs 5 = .int .u64 g at r38
          rw [r38] at e38
          change vs 3 = .bool true at r36
          rw [r36] at e36
          refine par_guard rfl (by kernel_rfl) e36 ?_
          rw [if_pos rfl]
          go_simp
          refine (place_any g _ (by omega) (by omega)).mono ?_
          rintro _ w9 ⟨_, rfl, rfl, rfl⟩
          exact hK _ _ INV.out.inv INV.out.val rfl
        · -- 7
          intro o ho listed vs a w' inv hun haft K hK
          obtain rfl := Option.some.inj ho
          obtain ⟨e36, r36⟩ := inv.get haft 3 36 (by kernel_rfl) (by kernel_rfl)
          have e1 := inv.old 1 (by kernel_rfl)
          have INV := Lib.hid inv
          clear inv haft hun ho
          change vs 3 = .bool true at r36
          rw [r36] at e36
          simp at e1
          refine par_guard rfl (by kernel_rfl) e36 ?_
          rw [if_pos rfl]
          go_simp
          exact hK _ _ INV.out.inv INV.out.val rfl
        · -- 8
          intro o ho listed vs a w' inv hun haft K hK
          obtain rfl := Option.some.inj ho
          obtain ⟨e39, r39⟩ := inv.get haft 6 39 (by kernel_rfl) (by kernel_rfl)
          obtain ⟨e40, r40⟩ := inv.get haft 7 40 (by kernel_rfl) (by kernel_rfl)
          obtain ⟨e36, r36⟩ := inv.get haft 3 36 (by kernel_rfl) (by kernel_rfl)
          have INV := Lib.hid inv
          clear inv haft hun ho
          change vs 6 = .int .i64 (g % 2) at r39
          rw [r39] at e39
          change vs 7 = .int .i64 n at r40
          rw [r40] at e40
          change vs 3 = .bool true at r36
          rw [r36] at e36
          refine par_guard rfl (by kernel_rfl) e36 ?_
          rw [if_pos rfl]
          go_simp
          exact hK _ _ INV.out.inv INV.out.val rfl
        · -- 9
          intro o ho listed vs a w' inv hun haft K hK
          obtain rfl := Option.some.inj ho
          obtain ⟨e36, r36⟩ := inv.get haft 3 36 (by kernel_rfl) (by kernel_rfl)
          obtain ⟨e41, r41⟩ := inv.get haft 8 41 (by kernel_rfl) (by kernel_rfl)
          have INV := Lib.hid inv
          clear inv haft hun ho
          change vs 3 = .bool true at r36
          rw [r36] at e36
          change vs 8 = .bool (g % 2 == n) at r41
          rw [r41] at e41
          refine par_run rfl ?_
          replace e36 := getD_opt e36
          replace e41 := getD_opt e41
          go_simp
          exact hK _ _ INV.out.inv INV.out.val rfl
        · -- 10
          intro o ho listed vs a w' inv hun haft K hK
          obtain rfl := Option.some.inj ho
          obtain ⟨e33, r33⟩ := inv.get haft 0 33 (by kernel_rfl) (by kernel_rfl)
          have e4 := inv.old 4 (by kernel_rfl)
          have INV := Lib.hid inv
          clear inv haft hun ho
          change vs 0 = .agg #[.int .u64 g, .int .i64 h, .int .i64 r, .int .i64 f] at r33
          rw [r33] at e33
          simp at e4
          refine par_run rfl ?_
          obtain ⟨old, hol, hoa⟩ := INV.out.inv.2
          refine wp_store_row _ _ _ rfl A #[.int .u64 g, .int .i64 h, .int .i64 r, .int .i64 f] (by show a.tmps.getD 4 undef = _; simpa using e4) (by show a.tmps.getD 33 undef = _; simpa using e33) 24 old hoa infoMt hol (by simp [Value.oneCell']) ?_
          have h5 : (w'.setRow A #[.int .u64 g, .int .i64 h, .int .i64 r, .int .i64 f]).heap[A]? = some (.cells #[.int .u64 g, .int .i64 h, .int .i64 r, .int .i64 f] 24 (0, 0)) := by simp [World.setRow, Array.getElem?_modify, hoa]
          refine hK _ _ ⟨INV.out.inv.1.same (mod_setRow _ _ _), _, rfl, h5⟩ (fun j hj hl => toldV_store h5 (INV.out.val j hj hl)) h5
        · -- 11
          intro o ho listed vs a w' inv hun haft K hK
          obtain rfl := Option.some.inj ho
          obtain ⟨e42, r42⟩ := inv.get haft 9 42 (by kernel_rfl) (by kernel_rfl)
          have INV := Lib.hid inv
          clear inv haft hun ho
          change vs 9 = .bool (g % 2 == n) at r42
          rw [r42] at e42
          refine par_run rfl ?_
          go_simp
          exact hK _ _ INV.out.inv INV.out.val rfl
        · intro vs w5 X hm hr hslot hold hsize hdef
          have h10 := hr 10 (by decide)
          change w5.heap[A]? = some (Obj.cells _ 24 (0, 0)) at h10
          have e5 := hslot 11 5 (by kernel_rfl)
          have r5 := hr 11 (by decide)
          change vs 11 = .bool (g % 2 == n) at r5
          rw [r5] at e5
          have e4 := hold 4 (by kernel_rfl)
          clear hr hslot hold r5
          obtain ⟨⟨xs⟩, df⟩ := X
          replace hdef : df = [] := hdef
          subst hdef
          replace hsize : xs.length = 43 := hsize
          obtain ⟨v0, xs0, rfl, hs0⟩ := cons_of hsize
          obtain ⟨v1, xs1, rfl, hs1⟩ := cons_of hs0
          obtain ⟨v2, xs2, rfl, hs2⟩ := cons_of hs1
          obtain ⟨v3, xs3, rfl, hs3⟩ := cons_of hs2
          obtain ⟨v4, xs4, rfl, hs4⟩ := cons_of hs3
          obtain ⟨v5, xs5, rfl, hs5⟩ := cons_of hs4
          obtain ⟨v6, xs6, rfl, hs6⟩ := cons_of hs5
          obtain ⟨v7, xs7, rfl, hs7⟩ := cons_of hs6
          obtain ⟨v8, xs8, rfl, hs8⟩ := cons_of hs7
          obtain ⟨v9, xs9, rfl, hs9⟩ := cons_of hs8
          obtain ⟨v10, xs10, rfl, hs10⟩ := cons_of hs9
          obtain ⟨v11, xs11, rfl, hs11⟩ := cons_of hs10
          obtain ⟨v12, xs12, rfl, hs12⟩ := cons_of hs11
          obtain ⟨v13, xs13, rfl, hs13⟩ := cons_of hs12
          obtain ⟨v14, xs14, rfl, hs14⟩ := cons_of hs13
          obtain ⟨v15, xs15, rfl, hs15⟩ := cons_of hs14
          obtain ⟨v16, xs16, rfl, hs16⟩ := cons_of hs15
          obtain ⟨v17, xs17, rfl, hs17⟩ := cons_of hs16
          obtain ⟨v18, xs18, rfl, hs18⟩ := cons_of hs17
          obtain ⟨v19, xs19, rfl, hs19⟩ := cons_of hs18
          obtain ⟨v20, xs20, rfl, hs20⟩ := cons_of hs19
          obtain ⟨v21, xs21, rfl, hs21⟩ := cons_of hs20
          obtain ⟨v22, xs22, rfl, hs22⟩ := cons_of hs21
          obtain ⟨v23, xs23, rfl, hs23⟩ := cons_of hs22
          obtain ⟨v24, xs24, rfl, hs24⟩ := cons_of hs23
          obtain ⟨v25, xs25, rfl, hs25⟩ := cons_of hs24
          obtain ⟨v26, xs26, rfl, hs26⟩ := cons_of hs25
          obtain ⟨v27, xs27, rfl, hs27⟩ := cons_of hs26
          obtain ⟨v28, xs28, rfl, hs28⟩ := cons_of hs27
          obtain ⟨v29, xs29, rfl, hs29⟩ := cons_of hs28
          obtain ⟨v30, xs30, rfl, hs30⟩ := cons_of hs29
          obtain ⟨v31, xs31, rfl, hs31⟩ := cons_of hs30
          obtain ⟨v32, xs32, rfl, hs32⟩ := cons_of hs31
          obtain ⟨v33, xs33, rfl, hs33⟩ := cons_of hs32
          obtain ⟨v34, xs34, rfl, hs34⟩ := cons_of hs33
          obtain ⟨v35, xs35, rfl, hs35⟩ := cons_of hs34
          obtain ⟨v36, xs36, rfl, hs36⟩ := cons_of hs35
          obtain ⟨v37, xs37, rfl, hs37⟩ := cons_of hs36
          obtain ⟨v38, xs38, rfl, hs38⟩ := cons_of hs37
          obtain ⟨v39, xs39, rfl, hs39⟩ := cons_of hs38
          obtain ⟨v40, xs40, rfl, hs40⟩ := cons_of hs39
          obtain ⟨v41, xs41, rfl, hs41⟩ := cons_of hs40
          obtain ⟨v42, xs42, rfl, hs42⟩ := cons_of hs41
          obtain rfl := List.eq_nil_of_length_eq_zero hs42
          clear hsize hs0 hs1 hs2 hs3 hs4 hs5 hs6 hs7 hs8 hs9 hs10 hs11 hs12 hs13 hs14 hs15 hs16 hs17 hs18 hs19 hs20 hs21 hs22 hs23 hs24 hs25 hs26 hs27 hs28 hs29 hs30 hs31 hs32 hs33 hs34 hs35 hs36 hs37 hs38 hs39 hs40 hs41 hs42
          change v4 = .pointer (some ⟨A, 0, none⟩) at e4
          change v5 = .bool (g % 2 == n) at e5
          subst e4 e5
          have z0 : w5.cell? ⟨A, 0, none⟩ = some (.int .u64 g) := cell_of_at h10 0
          have z1 : w5.cell? ⟨A, 1, none⟩ = some (.int .i64 h) := cell_of_at h10 1
          have z2 : w5.cell? ⟨A, 2, none⟩ = some (.int .i64 r) := cell_of_at h10 2
          have z3 : w5.cell? ⟨A, 3, none⟩ = some (.int .i64 f) := cell_of_at h10 3
          have HM5 : Hid (Mod [] w w5) := HM4.out.trans hm.1 (fun b hb => Or.inr (by simp at hb; subst hb; exact HAA.out))
          clear hm h10
          go_wp2
          refine bodyPost_ret (v := .tuple #[.agg #[.int .u64 g, .int .i64 h, .int .i64 r, .int .i64 f], .bool (g % 2 == n)]) ?_ rfl ?_
          · rw [results_cell_tmp rfl]; go_simp
          · exact .mk ⟨by rw [HT.out]; simp [Mt.cells], HM5.out⟩
      ·
        go_wp2
        have HA4 : Hid _ := (Mod.of_alloc w3 (.cells #[.int .u64 g, .int .i64 h, .int .i64 r, .int .i64 f] 24)).at HA3.out (by simp)
        have HM4 : Hid (Mod [] w (w3.alloc (.cells #[.int .u64 g, .int .i64 h, .int .i64 r, .int .i64 f] 24))) := HM3.out.same (Mod.of_alloc w3 _)
        have hAN : w.heap.size ≠ w3.heap.size := by omega
        have hNl : w3.heap.size < (w3.alloc (.cells #[.int .u64 g, .int .i64 h, .int .i64 r, .int .i64 f] 24)).heap.size := lt_of_at HN4.out
        have HAA : Hid (w.heap.size ≤ w.heap.size) := Nat.le_refl _
        generalize (w3.alloc (.cells #[.int .u64 g, .int .i64 h, .int .i64 r, .int .i64 f] 24)) = w4 at *
        generalize w3.heap.size = N at *
        obtain ⟨A, hA⟩ : ∃ A, A = w.heap.size := ⟨_, rfl⟩
        rw [← hA] at HA4 hAN ⊢
        have HAA : Hid (w.heap.size ≤ A) := by rw [hA]; exact Nat.le_refl _
        clear hA HA3 HM3 hw0
        have c0 : w4.cell? ⟨N, 0, none⟩ = some (.int .u64 g) := cell_of_at HN4.out 0
        have c1' : w4.cell? ⟨N, 1, none⟩ = some (.int .i64 h) := cell_of_at HN4.out 1
        have c2' : w4.cell? ⟨N, 2, none⟩ = some (.int .i64 r) := cell_of_at HN4.out 2
        have c3 : w4.cell? ⟨N, 3, none⟩ = some (.int .i64 f) := cell_of_at HN4.out 3
        refine par_region (by kernel_rfl) (toldV (.agg #[.int .u64 g, .int .i64 h, .int .i64 r, .int .i64 f]) (.int .i64 5) (.bool false) (undef) (undef) (undef) (undef) (undef) (.bool false) A) (fun w' => Mod [A] w4 w' ∧ ∃ old, old.size = 4 ∧ w'.heap[A]? = some (.cells old 24 (0, 0))) (by kernel_rfl) ?_ ⟨⟨⟨⟨⟨⟨⟨⟨⟨⟨⟨⟨trivial, ?_⟩, ?_⟩, ?_⟩, ?_⟩, ?_⟩, ?_⟩, ?_⟩, ?_⟩, ?_⟩, ?_⟩, ?_⟩, ?_⟩ ⟨(Mod.of_drew w4).mono (by simp), _, rfl, HA4.out⟩ ?_
        · intro j vs vs' w o ho h1 h2 h3
          unfold toldV at h3 ⊢
          split at h3
          all_goals first
            | exact h3
            | (rw [← h1]; exact h3)
        · -- 0
          intro o ho listed vs a w' inv hun haft K hK
          obtain rfl := Option.some.inj ho
          have e9 := inv.old 9 (by kernel_rfl)
          have INV := Lib.hid inv
          clear inv haft hun ho
          simp at e9
          refine par_run rfl ?_
          have q0 := (INV.out.inv.1.cell (a := ⟨N, 0, none⟩) hNl (by simp; omega)).trans c0
          have q1 := (INV.out.inv.1.cell (a := ⟨N, 1, none⟩) hNl (by simp; omega)).trans c1'
          have q2 := (INV.out.inv.1.cell (a := ⟨N, 2, none⟩) hNl (by simp; omega)).trans c2'
          have q3 := (INV.out.inv.1.cell (a := ⟨N, 3, none⟩) hNl (by simp; omega)).trans c3
          go_simp
          exact hK _ _ INV.out.inv INV.out.val rfl
        · -- 1
          intro o ho listed vs a w' inv hun haft K hK
          obtain rfl := Option.some.inj ho
          have e7 := inv.old 7 (by kernel_rfl)
          have INV := Lib.hid inv
          clear inv haft hun ho
          simp at e7
          refine par_run rfl ?_
          go_simp
          exact hK _ _ INV.out.inv INV.out.val rfl
        · -- 2
          intro o ho listed vs a w' inv hun haft K hK
          obtain rfl := Option.some.inj ho
          obtain ⟨e34, r34⟩ := inv.get haft 1 34 (by kernel_rfl) (by kernel_rfl)
          have INV := Lib.hid inv
          clear inv haft hun ho
          change vs 1 = .int .i64 5 at r34
          rw [r34] at e34
          refine par_run rfl ?_
          go_simp
          exact hK _ _ INV.out.inv INV.out.val rfl
        · -- 3
          intro o ho listed vs a w' inv hun haft K hK
          obtain rfl := Option.some.inj ho
          obtain ⟨e35, r35⟩ := inv.get haft 2 35 (by kernel_rfl) (by kernel_rfl)
          have INV := Lib.hid inv
          clear inv haft hun ho
          change vs 2 = .bool false at r35
          rw [r35] at e35
          refine par_run rfl ?_
          go_simp
          exact hK _ _ INV.out.inv INV.out.val rfl
        · -- 4
          intro o ho listed vs a w' inv hun haft K hK
          obtain rfl := Option.some.inj ho
          obtain ⟨e36, r36⟩ := inv.get haft 3 36 (by kernel_rfl) (by kernel_rfl)
          have e9 := inv.old 9 (by kernel_rfl)
          have INV := Lib.hid inv
          clear inv haft hun ho
          change vs 3 = .bool false at r36
          rw [r36] at e36
          simp at e9
          refine par_guard rfl (by kernel_rfl) e36 ?_
          rw [if_neg (by decide)]
          exact hK _ _ INV.out.inv INV.out.val rfl
        · -- 5
          intro o ho listed vs a w' inv hun haft K hK
          obtain rfl := Option.some.inj ho
          obtain ⟨e37, r37⟩ := inv.get haft 4 37 (by kernel_rfl) (by kernel_rfl)
          obtain ⟨e36, r36⟩ := inv.get haft 3 36 (by kernel_rfl) (by kernel_rfl)
          have INV := Lib.hid inv
          clear inv haft hun ho
          change vs 4 = undef at r37
          rw [r37] at e37
          change vs 3 = .bool false at r36
          rw [r36] at e36
          refine par_guard rfl (by kernel_rfl) e36 ?_
          rw [if_neg (by decide)]
          exact hK _ _ INV.out.inv INV.out.val rfl
        · -- 6
          intro o ho listed vs a w' inv hun haft K hK
          obtain rfl := Option.some.inj ho
          obtain ⟨e38, r38⟩ := inv.get haft 5 38 (by kernel_rfl) (by kernel_rfl)
          obtain ⟨e36, r36⟩ := inv.get haft 3 36 (by kernel_rfl) (by kernel_rfl)
          have INV := Lib.hid inv
          clear inv haft hun ho
          change vs 5 = undef at r38
          rw [r38] at e38
          change vs 3 = .bool false at r36
          rw [r36] at e36
          refine par_guard rfl (by kernel_rfl) e36 ?_
          rw [if_neg (by decide)]
          exact hK _ _ INV.out.inv INV.out.val rfl
        · -- 7
          intro o ho listed vs a w' inv hun haft K hK
          obtain rfl := Option.some.inj ho
          obtain ⟨e36, r36⟩ := inv.get haft 3 36 (by kernel_rfl) (by kernel_rfl)
          have e1 := inv.old 1 (by kernel_rfl)
          have INV := Lib.hid inv
          clear inv haft hun ho
          change vs 3 = .bool false at r36
          rw [r36] at e36
          simp at e1
          refine par_guard rfl (by kernel_rfl) e36 ?_
          rw [if_neg (by decide)]
          exact hK _ _ INV.out.inv INV.out.val rfl
        · -- 8
          intro o ho listed vs a w' inv hun haft K hK
          obtain rfl := Option.some.inj ho
          obtain ⟨e39, r39⟩ := inv.get haft 6 39 (by kernel_rfl) (by kernel_rfl)
          obtain ⟨e40, r40⟩ := inv.get haft 7 40 (by kernel_rfl) (by kernel_rfl)
          obtain ⟨e36, r36⟩ := inv.get haft 3 36 (by kernel_rfl) (by kernel_rfl)
          have INV := Lib.hid inv
          clear inv haft hun ho
          change vs 6 = undef at r39
          rw [r39] at e39
          change vs 7 = undef at r40
          rw [r40] at e40
          change vs 3 = .bool false at r36
          rw [r36] at e36
          refine par_guard rfl (by kernel_rfl) e36 ?_
          rw [if_neg (by decide)]
          exact hK _ _ INV.out.inv INV.out.val rfl
        · -- 9
          intro o ho listed vs a w' inv hun haft K hK
          obtain rfl := Option.some.inj ho
          obtain ⟨e36, r36⟩ := inv.get haft 3 36 (by kernel_rfl) (by kernel_rfl)
          have INV := Lib.hid inv
          clear inv haft hun ho
          change vs 3 = .bool false at r36
          rw [r36] at e36
          refine par_run rfl ?_
          replace e36 := getD_opt e36
          go_simp
          exact hK _ _ INV.out.inv INV.out.val rfl
        · -- 10
          intro o ho listed vs a w' inv hun haft K hK
          obtain rfl := Option.some.inj ho
          obtain ⟨e33, r33⟩ := inv.get haft 0 33 (by kernel_rfl) (by kernel_rfl)
          have e4 := inv.old 4 (by kernel_rfl)
          have INV := Lib.hid inv
          clear inv haft hun ho
          change vs 0 = .agg #[.int .u64 g, .int .i64 h, .int .i64 r, .int .i64 f] at r33
          rw [r33] at e33
          simp at e4
          refine par_run rfl ?_
          obtain ⟨old, hol, hoa⟩ := INV.out.inv.2
          refine wp_store_row _ _ _ rfl A #[.int .u64 g, .int .i64 h, .int .i64 r, .int .i64 f] (by show a.tmps.getD 4 undef = _; simpa using e4) (by show a.tmps.getD 33 undef = _; simpa using e33) 24 old hoa infoMt hol (by simp [Value.oneCell']) ?_
          have h5 : (w'.setRow A #[.int .u64 g, .int .i64 h, .int .i64 r, .int .i64 f]).heap[A]? = some (.cells #[.int .u64 g, .int .i64 h, .int .i64 r, .int .i64 f] 24 (0, 0)) := by simp [World.setRow, Array.getElem?_modify, hoa]
          refine hK _ _ ⟨INV.out.inv.1.same (mod_setRow _ _ _), _, rfl, h5⟩ (fun j hj hl => toldV_store h5 (INV.out.val j hj hl)) h5
        · -- 11
          intro o ho listed vs a w' inv hun haft K hK
          obtain rfl := Option.some.inj ho
          obtain ⟨e42, r42⟩ := inv.get haft 9 42 (by kernel_rfl) (by kernel_rfl)
          have INV := Lib.hid inv
          clear inv haft hun ho
          change vs 9 = .bool false at r42
          rw [r42] at e42
          refine par_run rfl ?_
          go_simp
          exact hK _ _ INV.out.inv INV.out.val rfl
        · intro vs w5 X hm hr hslot hold hsize hdef
          have h10 := hr 10 (by decide)
          change w5.heap[A]? = some (Obj.cells _ 24 (0, 0)) at h10
          have e5 := hslot 11 5 (by kernel_rfl)
          have r5 := hr 11 (by decide)
          change vs 11 = .bool false at r5
          rw [r5] at e5
          have e4 := hold 4 (by kernel_rfl)
          clear hr hslot hold r5
          obtain ⟨⟨xs⟩, df⟩ := X
          replace hdef : df = [] := hdef
          subst hdef
          replace hsize : xs.length = 43 := hsize
          obtain ⟨v0, xs0, rfl, hs0⟩ := cons_of hsize
          obtain ⟨v1, xs1, rfl, hs1⟩ := cons_of hs0
          obtain ⟨v2, xs2, rfl, hs2⟩ := cons_of hs1
          obtain ⟨v3, xs3, rfl, hs3⟩ := cons_of hs2
          obtain ⟨v4, xs4, rfl, hs4⟩ := cons_of hs3
          obtain ⟨v5, xs5, rfl, hs5⟩ := cons_of hs4
          obtain ⟨v6, xs6, rfl, hs6⟩ := cons_of hs5
          obtain ⟨v7, xs7, rfl, hs7⟩ := cons_of hs6
          obtain ⟨v8, xs8, rfl, hs8⟩ := cons_of hs7
          obtain ⟨v9, xs9, rfl, hs9⟩ := cons_of hs8
          obtain ⟨v10, xs10, rfl, hs10⟩ := cons_of hs9
          obtain ⟨v11, xs11, rfl, hs11⟩ := cons_of hs10
          obtain ⟨v12, xs12, rfl, hs12⟩ := cons_of hs11
          obtain ⟨v13, xs13, rfl, hs13⟩ := cons_of hs12
          obtain ⟨v14, xs14, rfl, hs14⟩ := cons_of hs13
          obtain ⟨v15, xs15, rfl, hs15⟩ := cons_of hs14
          obtain ⟨v16, xs16, rfl, hs16⟩ := cons_of hs15
          obtain ⟨v17, xs17, rfl, hs17⟩ := cons_of hs16
          obtain ⟨v18, xs18, rfl, hs18⟩ := cons_of hs17
          obtain ⟨v19, xs19, rfl, hs19⟩ := cons_of hs18
          obtain ⟨v20, xs20, rfl, hs20⟩ := cons_of hs19
          obtain ⟨v21, xs21, rfl, hs21⟩ := cons_of hs20
          obtain ⟨v22, xs22, rfl, hs22⟩ := cons_of hs21
          obtain ⟨v23, xs23, rfl, hs23⟩ := cons_of hs22
          obtain ⟨v24, xs24, rfl, hs24⟩ := cons_of hs23
          obtain ⟨v25, xs25, rfl, hs25⟩ := cons_of hs24
          obtain ⟨v26, xs26, rfl, hs26⟩ := cons_of hs25
          obtain ⟨v27, xs27, rfl, hs27⟩ := cons_of hs26
          obtain ⟨v28, xs28, rfl, hs28⟩ := cons_of hs27
          obtain ⟨v29, xs29, rfl, hs29⟩ := cons_of hs28
          obtain ⟨v30, xs30, rfl, hs30⟩ := cons_of hs29
          obtain ⟨v31, xs31, rfl, hs31⟩ := cons_of hs30
          obtain ⟨v32, xs32, rfl, hs32⟩ := cons_of hs31
          obtain ⟨v33, xs33, rfl, hs33⟩ := cons_of hs32
          obtain ⟨v34, xs34, rfl, hs34⟩ := cons_of hs33
          obtain ⟨v35, xs35, rfl, hs35⟩ := cons_of hs34
          obtain ⟨v36, xs36, rfl, hs36⟩ := cons_of hs35
          obtain ⟨v37, xs37, rfl, hs37⟩ := cons_of hs36
          obtain ⟨v38, xs38, rfl, hs38⟩ := cons_of hs37
          obtain ⟨v39, xs39, rfl, hs39⟩ := cons_of hs38
          obtain ⟨v40, xs40, rfl, hs40⟩ := cons_of hs39
          obtain ⟨v41, xs41, rfl, hs41⟩ := cons_of hs40
          obtain ⟨v42, xs42, rfl, hs42⟩ := cons_of hs41
          obtain rfl := List.eq_nil_of_length_eq_zero hs42
          clear hsize hs0 hs1 hs2 hs3 hs4 hs5 hs6 hs7 hs8 hs9 hs10 hs11 hs12 hs13 hs14 hs15 hs16 hs17 hs18 hs19 hs20 hs21 hs22 hs23 hs24 hs25 hs26 hs27 hs28 hs29 hs30 hs31 hs32 hs33 hs34 hs35 hs36 hs37 hs38 hs39 hs40 hs41 hs42
          change v4 = .pointer (some ⟨A, 0, none⟩) at e4
          change v5 = .bool false at e5
          subst e4 e5
          have z0 : w5.cell? ⟨A, 0, none⟩ = some (.int .u64 g) := cell_of_at h10 0
          have z1 : w5.cell? ⟨A, 1, none⟩ = some (.int .i64 h) := cell_of_at h10 1
          have z2 : w5.cell? ⟨A, 2, none⟩ = some (.int .i64 r) := cell_of_at h10 2
          have z3 : w5.cell? ⟨A, 3, none⟩ = some (.int .i64 f) := cell_of_at h10 3
          have HM5 : Hid (Mod [] w w5) := HM4.out.trans hm.1 (fun b hb => Or.inr (by simp at hb; subst hb; exact HAA.out))
          clear hm h10
          go_wp2
          refine bodyPost_ret (v := .tuple #[.agg #[.int .u64 g, .int .i64 h, .int .i64 r, .int .i64 f], .bool false]) ?_ rfl ?_
          · rw [results_cell_tmp rfl]; go_simp
          · exact .mk ⟨by rw [HT.out]; simp [Mt.cells], HM5.out⟩
end Go.Proofs.YtbbjfgjbjghdiaaDoor
