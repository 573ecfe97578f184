/- MetaNewest: what the law's function returns. -/
import Derived.Test.YtbbjfgjbjghdiaaDoorMetaTells
import Derived.Test.YtbbjfgjbjghdiaaDoorDiskSync
namespace Go.Proofs.YtbbjfgjbjghdiaaDoor
open Go.RowKit Go.Maps
set_option linter.unusedSimpArgs false
set_option linter.unusedVariables false

theorem Ck.On.sync {k : Ck} (h : k.On) : k.sync = (0, k.settle.rest) := by
  have ht : k.tick = (k, false) := by unfold Ck.tick; rw [if_pos h.left]
  unfold Ck.sync
  rw [if_neg (by rw [h.down]; simp), ht]; rfl
theorem Ck.On.settled {k : Ck} (h : k.On) : k.settle.rest.On := ⟨by simp [Ck.settle, Ck.rest, h.two], h.left, h.down⟩
theorem Ck.On.seen_settled {k : Ck} (h : k.On) {x : Int} (hx : x = 0 ∨ x = 1) : k.settle.rest.seen x = k.seen x := by
  have h2 := h.two
  conv => lhs; unfold Ck.seen
  simp only [Ck.settle, Ck.rest, h2]
  rcases hx with rfl | rfl <;> rfl
def wantM (a b : Mt) : Mt := if a.gen % 2 ≠ b.gen % 2 ∧ b.gen < a.gen then a else b
theorem newest_two {a b : Mt} (ha : a.may = true) (hb : b.may = true) {k : Ck} (hk : k = ((ck0 2).push (a.gen % 2) (fr (a.gen % 2) (payM a))).push (b.gen % 2) (fr (b.gen % 2) (payM b))) : k.settle.rest.newest = (wantM a b, 0) := by
  have hon : k.On := by rw [hk]; exact (ck0_on.push _ _).push _ _
  have ga := (a.may_spec ha).1.1
  have gb := (b.may_spec hb).1.1
  have hs : ∀ x : Int, (x = 0 ∨ x = 1) → k.settle.rest.seen x = if b.gen % 2 = x then fr (b.gen % 2) (payM b) else if a.gen % 2 = x then fr (a.gen % 2) (payM a) else List.replicate 1024 0 := fun x hx => by
    rw [hon.seen_settled hx, hk, Ck.seen_push, Ck.seen_push, ck0_seen x hx]
  have ht : ∀ x : Int, (x = 0 ∨ x = 1) → k.settle.rest.there x = true := fun x hx => hon.settled.there hx
  have told_b : ∀ x : Int, (x = 0 ∨ x = 1) → b.gen % 2 = x → k.settle.rest.told x = (b, true) := fun x hx e => told_fr (ht x hx) (by rw [hs x hx, if_pos e, e]) hb e
  have told_a : ∀ x : Int, (x = 0 ∨ x = 1) → b.gen % 2 ≠ x → a.gen % 2 = x → k.settle.rest.told x = (a, true) := fun x hx e e2 => told_fr (ht x hx) (by rw [hs x hx, if_neg e, if_pos e2, e2]) ha e2
  have told_0 : ∀ x : Int, (x = 0 ∨ x = 1) → b.gen % 2 ≠ x → a.gen % 2 ≠ x → (k.settle.rest.told x).2 = false := fun x hx e e2 => told_zeros (by rw [hs x hx, if_neg e, if_neg e2])
  have hbest : k.settle.rest.best 2 = newer (newer mt0 (k.settle.rest.told 0)) (k.settle.rest.told 1) := rfl
  have hn0 : ∀ m : Mt, 1 ≤ m.gen → newer mt0 (m, true) = m := fun m hm => by unfold newer; rw [if_pos ⟨rfl, by simp [mt0]; omega⟩]
  have hw : k.settle.rest.best 2 = wantM a b := by
    rw [hbest]
    unfold wantM
    have pa0 : a.gen % 2 = 0 ∨ a.gen % 2 = 1 := by omega
    have pb0 : b.gen % 2 = 0 ∨ b.gen % 2 = 1 := by omega
    rcases pa0 with pa | pa <;> rcases pb0 with pb | pb
    · rw [told_b 0 (Or.inl rfl) pb, newer_false (told_0 1 (Or.inr rfl) (by omega) (by omega)), hn0 b gb, if_neg (by omega)]
    · rw [told_a 0 (Or.inl rfl) (by omega) pa, told_b 1 (Or.inr rfl) pb, hn0 a ga]
      unfold newer
      by_cases h : a.gen < b.gen
      · rw [if_pos ⟨rfl, h⟩, if_neg (by omega)]
      · rw [if_neg (by simp; omega), if_pos (by omega)]
    · rw [told_b 0 (Or.inl rfl) pb, told_a 1 (Or.inr rfl) (by omega) pa, hn0 b gb]
      unfold newer
      by_cases h : b.gen < a.gen
      · rw [if_pos ⟨rfl, h⟩, if_pos (by omega)]
      · rw [if_neg (by simp; omega), if_neg (by omega)]
    · rw [newer_false (told_0 0 (Or.inl rfl) (by omega) (by omega)), told_b 1 (Or.inr rfl) pb, hn0 b gb, if_neg (by omega)]
  have hg : (wantM a b).gen ≠ 0 := by unfold wantM; split <;> omega
  unfold Ck.newest
  rw [hw, if_neg hg]

set_option maxRecDepth 100000 in
set_option maxHeartbeats 8000000 in
theorem mnewest_any (a b : Mt) (w : World) (hga : 0 ≤ a.gen ∧ a.gen < 2 ^ 64) (hgb : 0 ≤ b.gen ∧ b.gen < 2 ^ 64) : Calls Tryd.prog 5 #[.agg a.cells, .agg b.cells] w (Ret (TrueR w)) := by
  have HMA := fun W => Lib.hid (qmay_any a W)
  have HMB := fun W => Lib.hid (qmay_any b W)
  obtain ⟨k1, hk1⟩ : ∃ k, k = (ck0 2).push (a.gen % 2) (fr (a.gen % 2) (payM a)) := ⟨_, rfl⟩
  obtain ⟨k2, hk2⟩ : ∃ k, k = k1.push (b.gen % 2) (fr (b.gen % 2) (payM b)) := ⟨_, rfl⟩
  have on1 : k1.On := by rw [hk1]; exact ck0_on.push _ _
  have on2 : k2.On := by rw [hk2]; exact on1.push _ _
  have HNW : Hid (a.may = true → b.may = true → k2.settle.rest.newest = (wantM a b, 0)) := fun h1 h2 => newest_two h1 h2 (by rw [hk2, hk1])
  have HW1 : Hid (a.may = true → (ck0 2).mwrite a = (0, k1)) := fun h => by rw [ck0_on.mwrite h, ← hk1]
  have HW2 : Hid (b.may = true → k1.mwrite b = (0, k2)) := fun h => by rw [on1.mwrite h, ← hk2]
  have HSY : Hid (k2.sync = (0, k2.settle.rest)) := on2.sync
  have HL1 : Hid (k1.wait.length ≤ 1000000) := by rw [hk1]; unfold Hid; simp [Ck.push, ck0]
  have HMW1 := fun D T W h => Lib.hid (mwrite_any D T (ck0 2) a W h (by simp [ck0]))
  have HMW2 := fun D T W h => Lib.hid (mwrite_any D T k1 b W h HL1.out)
  have HWANT : Hid (wantM a b = if a.gen % 2 ≠ b.gen % 2 ∧ b.gen < a.gen then a else b) := rfl
  generalize wantM a b = V at *
  generalize a.may = BA at *
  generalize b.may = BB at *
  clear hk1 hk2 on1 on2
  obtain ⟨g, h, r, f⟩ := a
  obtain ⟨g', h', r', f'⟩ := b
  simp only [Mt.cells] at HMA HMB HMW1 HMW2 ⊢
  have hat0 := at_alloc w (.cells #[.int .u64 g, .int .i64 h, .int .i64 r, .int .i64 f] 24)
  have HA0 := Lib.hid (at_alloc_other hat0 (.cells #[.int .u64 g', .int .i64 h', .int .i64 r', .int .i64 f'] 24))
  have HB0 : Hid (((w.alloc (.cells #[.int .u64 g, .int .i64 h, .int .i64 r, .int .i64 f] 24)).alloc (.cells #[.int .u64 g', .int .i64 h', .int .i64 r', .int .i64 f'] 24)).heap[w.heap.size + 1]? = some (.cells #[.int .u64 g', .int .i64 h', .int .i64 r', .int .i64 f'] 24 (0, 0))) := at_alloc' _ _ (by simp)
  have M0 : Hid (Mod [] w ((w.alloc (.cells #[.int .u64 g, .int .i64 h, .int .i64 r, .int .i64 f] 24)).alloc (.cells #[.int .u64 g', .int .i64 h', .int .i64 r', .int .i64 f'] 24))) := (Mod.refl [] w).alloc.alloc
  clear hat0
  go_enter Tryd.func5, Tryd.ntmps5
  go_wp2_with fail
  refine (awake_any _).mono ?_
  rintro _ w1 ⟨_, rfl, rfl, m1⟩
  have HA1 := Lib.hid (m1.at HA0.out (by simp))
  have HB1 := Lib.hid (m1.at HB0.out (by simp))
  have M1 : Hid (Mod [] w w1) := M0.out.same m1
  clear m1 HA0 HB0 M0
  have c0 : w1.cell? ⟨w.heap.size, 0, none⟩ = some (.int .u64 g) := cell_of_at HA1.out 0
  have c1 : w1.cell? ⟨w.heap.size, 1, none⟩ = some (.int .i64 h) := cell_of_at HA1.out 1
  have c2 : w1.cell? ⟨w.heap.size, 2, none⟩ = some (.int .i64 r) := cell_of_at HA1.out 2
  have c3 : w1.cell? ⟨w.heap.size, 3, none⟩ = some (.int .i64 f) := cell_of_at HA1.out 3
  go_wp2_with fail
  refine (HMA _).out.mono ?_
  rintro _ w2 ⟨_, rfl, rfl, m2⟩
  have HA2 := Lib.hid (m2.at HA1.out (by simp))
  have HB2 := Lib.hid (m2.at HB1.out (by simp))
  have M2 : Hid (Mod [] w w2) := M1.out.same m2
  clear m2 HA1 HB1 M1 c0 c1 c2 c3 HMA
  cases BA with
  | false =>
    go_wp2
    go_ret
    exact .mk ⟨rfl, M2.out⟩
  | true =>
    have HW1' := Lib.hid (HW1.out rfl)
    replace HNW := Lib.hid (HNW.out rfl)
    clear HW1
    have d0 : w2.cell? ⟨w.heap.size + 1, 0, none⟩ = some (.int .u64 g') := cell_of_at HB2.out 0
    have d1 : w2.cell? ⟨w.heap.size + 1, 1, none⟩ = some (.int .i64 h') := cell_of_at HB2.out 1
    have d2 : w2.cell? ⟨w.heap.size + 1, 2, none⟩ = some (.int .i64 r') := cell_of_at HB2.out 2
    have d3 : w2.cell? ⟨w.heap.size + 1, 3, none⟩ = some (.int .i64 f') := cell_of_at HB2.out 3
    go_wp2_with fail
    refine (HMB _).out.mono ?_
    rintro _ w3 ⟨_, rfl, rfl, m3⟩
    have HA3 := Lib.hid (m3.at HA2.out (by simp))
    have HB3 := Lib.hid (m3.at HB2.out (by simp))
    have M3 : Hid (Mod [] w w3) := M2.out.same m3
    clear m3 HA2 HB2 M2 d0 d1 d2 d3 HMB
    cases BB with
    | false =>
      go_wp2
      go_ret
      exact .mk ⟨rfl, M3.out⟩
    | true =>
      have HW2' := Lib.hid (HW2.out rfl)
      have HNW' := Lib.hid (HNW.out rfl)
      clear HW2 HNW
      go_wp2_with fail
      refine (dnew_any 2 2 _ (by decide)).mono ?_
      rintro _ w4 ⟨_, rfl, D, T4, rfl, h4, m4, t4⟩
      have HA4 := Lib.hid (m4.at HA3.out (by simp))
      have HB4 := Lib.hid (m4.at HB3.out (by simp))
      have H4 := Lib.hid h4
      have M4 : Hid (Mod [] w3 w4) := m4
      have T4' := Lib.hid t4
      clear h4 m4 t4
      have a0 : w4.cell? ⟨w.heap.size, 0, none⟩ = some (.int .u64 g) := cell_of_at HA4.out 0
      have a1 : w4.cell? ⟨w.heap.size, 1, none⟩ = some (.int .i64 h) := cell_of_at HA4.out 1
      have a2 : w4.cell? ⟨w.heap.size, 2, none⟩ = some (.int .i64 r) := cell_of_at HA4.out 2
      have a3 : w4.cell? ⟨w.heap.size, 3, none⟩ = some (.int .i64 f) := cell_of_at HA4.out 3
      go_wp2_with fail
      refine (HMW1 D T4 _ H4.out).out.mono ?_
      rintro _ w5 ⟨_, rfl, h5⟩
      rw [HW1'.out] at h5
      obtain ⟨rfl, T5, h5, t5, m5⟩ := h5.step M4.out T4'.out
      have H5 := Lib.hid h5
      have M5 := Lib.hid m5
      have T5' := Lib.hid t5
      clear h5 m5 t5 a0 a1 a2 a3 HMW1 HW1' H4 T4'
      have HB5 := Lib.hid (M5.out.at HB3.out (by simp))
      have b0 : w5.cell? ⟨w.heap.size + 1, 0, none⟩ = some (.int .u64 g') := cell_of_at HB5.out 0
      have b1 : w5.cell? ⟨w.heap.size + 1, 1, none⟩ = some (.int .i64 h') := cell_of_at HB5.out 1
      have b2 : w5.cell? ⟨w.heap.size + 1, 2, none⟩ = some (.int .i64 r') := cell_of_at HB5.out 2
      have b3 : w5.cell? ⟨w.heap.size + 1, 3, none⟩ = some (.int .i64 f') := cell_of_at HB5.out 3
      go_wp2_with fail
      refine (HMW2 D T5 _ H5.out).out.mono ?_
      rintro _ w6 ⟨_, rfl, h6⟩
      rw [HW2'.out] at h6
      obtain ⟨rfl, T6, h6, t6, m6⟩ := h6.step M5.out T5'.out
      have H6 := Lib.hid h6
      have M6 := Lib.hid m6
      have T6' := Lib.hid t6
      clear h6 m6 t6 b0 b1 b2 b3 HMW2 HW2' H5 T5' HB5 HA4 HB4 M4 M5
      go_wp2_with fail
      refine (dsync_any D T6 k2 _ H6.out).mono ?_
      rintro _ w7 ⟨_, rfl, h7⟩
      rw [HSY.out] at h7
      obtain ⟨rfl, T7, h7, t7, m7⟩ := h7.step M6.out T6'.out
      have HNN := Lib.hid (fun W (hm : Mod [] w7 W) => newest_any D T7 k2.settle.rest W (h7.mod hm (by simp)))
      rw [HNW'.out] at HNN
      have M7 : Hid (Mod [] w w7) := M3.out.same m7
      have HA7 := Lib.hid (m7.at HA3.out (by simp))
      have HB7 := Lib.hid (m7.at HB3.out (by simp))
      have l7 : w.heap.size + 1 < w7.heap.size := lt_of_at HB7.out
      clear h7 t7 m7 H6 M6 T6' HSY HA3 HB3 M3 HNW'
      have b0 : w7.cell? ⟨w.heap.size + 1, 0, none⟩ = some (.int .u64 g') := cell_of_at HB7.out 0
      have b1 : w7.cell? ⟨w.heap.size + 1, 1, none⟩ = some (.int .i64 h') := cell_of_at HB7.out 1
      have b2 : w7.cell? ⟨w.heap.size + 1, 2, none⟩ = some (.int .i64 r') := cell_of_at HB7.out 2
      have b3 : w7.cell? ⟨w.heap.size + 1, 3, none⟩ = some (.int .i64 f') := cell_of_at HB7.out 3
      have e1 : g.tmod 2 = g % 2 := Int.tmod_eq_emod_of_nonneg hga.1
      have e2 : g'.tmod 2 = g' % 2 := Int.tmod_eq_emod_of_nonneg hgb.1
      have e3 : IntKind.u64.wrap (g % 2) = g % 2 := by rw [IntKind.wrap_u64]; omega
      have e4 : IntKind.u64.wrap (g' % 2) = g' % 2 := by rw [IntKind.wrap_u64]; omega
      have M78 := Lib.hid (Mod.of_alloc w7 (.cells #[.int .u64 g', .int .i64 h', .int .i64 r', .int .i64 f'] 24))
      have HAT8 := Lib.hid (at_alloc w7 (.cells #[.int .u64 g', .int .i64 h', .int .i64 r', .int .i64 f'] 24))
      have HA8 := Lib.hid (M78.out.at HA7.out (by simp))
      have HB8 := Lib.hid (M78.out.at HB7.out (by simp))
      have l7' : w.heap.size < w7.heap.size := by omega
      have k0 : (w7.alloc (.cells #[.int .u64 g', .int .i64 h', .int .i64 r', .int .i64 f'] 24)).cell? ⟨w.heap.size, 0, none⟩ = some (.int .u64 g) := cell_of_at HA8.out 0
      have k1 : (w7.alloc (.cells #[.int .u64 g', .int .i64 h', .int .i64 r', .int .i64 f'] 24)).cell? ⟨w.heap.size, 1, none⟩ = some (.int .i64 h) := cell_of_at HA8.out 1
      have k2 : (w7.alloc (.cells #[.int .u64 g', .int .i64 h', .int .i64 r', .int .i64 f'] 24)).cell? ⟨w.heap.size, 2, none⟩ = some (.int .i64 r) := cell_of_at HA8.out 2
      have k3 : (w7.alloc (.cells #[.int .u64 g', .int .i64 h', .int .i64 r', .int .i64 f'] 24)).cell? ⟨w.heap.size, 3, none⟩ = some (.int .i64 f) := cell_of_at HA8.out 3
      have j0 : (w7.alloc (.cells #[.int .u64 g', .int .i64 h', .int .i64 r', .int .i64 f'] 24)).cell? ⟨w.heap.size + 1, 0, none⟩ = some (.int .u64 g') := cell_of_at HB8.out 0
      by_cases hpar : g % 2 = g' % 2
      · have q1 : (g % 2 != g' % 2) = false := by simp [hpar]
        have HV : Hid (V = ⟨g', h', r', f'⟩) := by rw [HWANT.out, if_neg (by simp [hpar])]; exact rfl
        clear hpar
        go_wp2_with fail
        refine (HNN.out _ (Mod.of_alloc w7 (.cells #[.int .u64 g', .int .i64 h', .int .i64 r', .int .i64 f'] 24))).mono ?_
        rintro _ w9 ⟨_, rfl, rfl, m9⟩
        rw [HV.out]
        simp only [Mt.cells]
        have HAT9 := Lib.hid (m9.at (at_alloc w7 (.cells #[.int .u64 g', .int .i64 h', .int .i64 r', .int .i64 f'] 24)) (by simp))
        have n0 : w9.cell? ⟨w7.heap.size, 0, none⟩ = some (.int .u64 g') := cell_of_at HAT9.out 0
        have n1 : w9.cell? ⟨w7.heap.size, 1, none⟩ = some (.int .i64 h') := cell_of_at HAT9.out 1
        have n2 : w9.cell? ⟨w7.heap.size, 2, none⟩ = some (.int .i64 r') := cell_of_at HAT9.out 2
        have n3 : w9.cell? ⟨w7.heap.size, 3, none⟩ = some (.int .i64 f') := cell_of_at HAT9.out 3
        have l9 : w7.heap.size < w9.heap.size := lt_of_at HAT9.out
        have M9 : Hid (Mod [] w w9) := M7.out.same ((Mod.of_alloc w7 (.cells #[.int .u64 g', .int .i64 h', .int .i64 r', .int .i64 f'] 24)).same m9)
        clear m9 k0 k1 k2 k3 j0 b0 b1 b2 b3 HNN
        go_wp2
        go_ret
        exact .mk ⟨rfl, by first | exact M9.out.alloc | exact M9.out⟩
      · have q1 : (g % 2 != g' % 2) = true := by simp [hpar]
        by_cases hgt : g' < g
        · have HV : Hid (V = ⟨g, h, r, f⟩) := by rw [HWANT.out, if_pos ⟨hpar, hgt⟩]; exact rfl
          clear hpar
          go_wp2_with fail
          refine (HNN.out _ (Mod.of_alloc w7 (.cells #[.int .u64 g, .int .i64 h, .int .i64 r, .int .i64 f] 24))).mono ?_
          rintro _ w9 ⟨_, rfl, rfl, m9⟩
          rw [HV.out]
          simp only [Mt.cells]
          have HAT9 := Lib.hid (m9.at (at_alloc w7 (.cells #[.int .u64 g, .int .i64 h, .int .i64 r, .int .i64 f] 24)) (by simp))
          have n0 : w9.cell? ⟨w7.heap.size, 0, none⟩ = some (.int .u64 g) := cell_of_at HAT9.out 0
          have n1 : w9.cell? ⟨w7.heap.size, 1, none⟩ = some (.int .i64 h) := cell_of_at HAT9.out 1
          have n2 : w9.cell? ⟨w7.heap.size, 2, none⟩ = some (.int .i64 r) := cell_of_at HAT9.out 2
          have n3 : w9.cell? ⟨w7.heap.size, 3, none⟩ = some (.int .i64 f) := cell_of_at HAT9.out 3
          have l9 : w7.heap.size < w9.heap.size := lt_of_at HAT9.out
          have M9 : Hid (Mod [] w w9) := M7.out.same ((Mod.of_alloc w7 (.cells #[.int .u64 g, .int .i64 h, .int .i64 r, .int .i64 f] 24)).same m9)
          clear m9 k0 k1 k2 k3 j0 b0 b1 b2 b3 HNN
          go_wp2
          go_ret
          exact .mk ⟨rfl, by first | exact M9.out.alloc | exact M9.out⟩
        · have HV : Hid (V = ⟨g', h', r', f'⟩) := by rw [HWANT.out, if_neg (fun h => hgt h.2)]; exact rfl
          clear hpar
          go_wp2_with fail
          refine (HNN.out _ (Mod.of_alloc w7 (.cells #[.int .u64 g', .int .i64 h', .int .i64 r', .int .i64 f'] 24))).mono ?_
          rintro _ w9 ⟨_, rfl, rfl, m9⟩
          rw [HV.out]
          simp only [Mt.cells]
          have HAT9 := Lib.hid (m9.at (at_alloc w7 (.cells #[.int .u64 g', .int .i64 h', .int .i64 r', .int .i64 f'] 24)) (by simp))
          have n0 : w9.cell? ⟨w7.heap.size, 0, none⟩ = some (.int .u64 g') := cell_of_at HAT9.out 0
          have n1 : w9.cell? ⟨w7.heap.size, 1, none⟩ = some (.int .i64 h') := cell_of_at HAT9.out 1
          have n2 : w9.cell? ⟨w7.heap.size, 2, none⟩ = some (.int .i64 r') := cell_of_at HAT9.out 2
          have n3 : w9.cell? ⟨w7.heap.size, 3, none⟩ = some (.int .i64 f') := cell_of_at HAT9.out 3
          have l9 : w7.heap.size < w9.heap.size := lt_of_at HAT9.out
          have M9 : Hid (Mod [] w w9) := M7.out.same ((Mod.of_alloc w7 (.cells #[.int .u64 g', .int .i64 h', .int .i64 r', .int .i64 f'] 24)).same m9)
          clear m9 k0 k1 k2 k3 j0 b0 b1 b2 b3 HNN
          go_wp2
          go_ret
          exact .mk ⟨rfl, by first | exact M9.out.alloc | exact M9.out⟩
end Go.Proofs.YtbbjfgjbjghdiaaDoor
