/- The program's side: a piece's page. -/
import Derived.Test.YtibkhdlddllcjaaDoorTrim
import Derived.Test.YtibkhdlddllcjaaDoorPay
import Derived.Test.YtibkhdlddllcjaaDoorFreed
import Derived.Test.YtibkhdlddllcjaaDoorPayPure
namespace Go.Proofs.YtibkhdlddllcjaaDoor
open Go.RowKit Go.Maps
set_option linter.unusedSimpArgs false
set_option linter.unusedVariables false

set_option maxRecDepth 100000 in
set_option maxHeartbeats 1000000 in
theorem pay1_any (a g : Int) (w : World) : Calls Tryd.prog 18 #[.agg #[.int .i64 a, .int .u64 g]] w (Ret (BoolM (!mayPg a) w)) := by
  have hM : Mod [] w (w.alloc (.cells #[.int .i64 a, .int .u64 g] 35)) := Mod.of_alloc w _
  have hB : (w.alloc (.cells #[.int .i64 a, .int .u64 g] 35)).cell? ⟨w.heap.size, 0, none⟩ = some (.int .i64 a) := cell_of_at (at_alloc w _) 0
  have HM := Lib.hid hM
  clear hM
  obtain ⟨B, hBB⟩ : ∃ B, B = mayPg a := ⟨_, rfl⟩
  have HBB := Lib.hid hBB
  rw [← hBB]
  clear hBB
  go_enter Tryd.func18, Tryd.ntmps18
  go_wp2_with fail
  refine (maypage_any a _).mono ?_
  rintro _ w1 ⟨_, rfl, rfl, rfl⟩
  rw [show decide (0 ≤ a ∧ a ≤ 2147483647) = B from HBB.out.symm]
  go_wp2
  go_ret
  exact .mk ⟨rfl, HM.out⟩
def IdxR (l : List (Int × Int)) (w : World) (v : Value) (w' : World) : Prop := ∃ x : Int, v = .int .i64 x ∧ (decide (0 ≤ x) = !mayL l) ∧ Mod [] w w'
set_option maxRecDepth 100000 in
set_option maxHeartbeats 1000000 in
theorem index_any (p : Option Addr) (n c : Nat) (l : List (Int × Int)) (w : World) (h : Sl w 2 p n c (fcells l)) :
    Calls Tryd.prog 31 #[.slice p n c, .func (.func 18) #[] #[]] w (Ret (IdxR l w)) := by
  have hln : l.length = n := by have := h.len; rw [fcells_len] at this; omega
  have hcm := h.capm; have hle := h.le
  unfold maxLen at hcm
  obtain ⟨b, off, hp, hcs⟩ := h.at_
  have hidx := fun W => Sl.idx (P := Tryd.prog) (cap := c) Tryd.underlying22 sizeFreed (fun h => (hp h).1) W .i64
  have HLT : Hid (0 < n → b < w.heap.size) := fun h => (hp h).2
  have HCS := Lib.hid hcs
  have HLN := Lib.hid hln
  clear h hp hcs hln
  go_enter Tryd.func31, Tryd.ntmps31
  go_wp2
  go_loopw [8] (fun i wr => ∃ k : Nat, k ≤ n ∧ i = .int .i64 k ∧ (∀ j, j < k → mayPg (l.getD j (0, 0)).1 = true) ∧ Mod [] w wr) (fun i _ => n - (intOf i).toNat)
  case atStart => exact ⟨0, by omega, rfl, by omega, Mod.refl _ _⟩
  case round =>
    obtain ⟨k, hk, rfl, hall, hm⟩ := hrel
    have HA := Lib.hid hall
    have HM := Lib.hid hm
    clear hall hm
    by_cases hlt : k < n
    · have hkl : k < l.length := by rw [HLN.out]; exact hlt
      obtain ⟨g1, g2⟩ := fcells_get l k hkl
      have d0 := HCS.out _ _ g1
      have d1 := HCS.out _ _ g2
      rw [← HM.out.cell (a := ⟨b, _, none⟩) (HLT.out (by omega)) (by simp)] at d0 d1
      rw [← Nat.add_assoc] at d1
      obtain ⟨x, hx⟩ : ∃ x, x = (l.getD k (0, 0)).1 := ⟨_, rfl⟩
      obtain ⟨y, hy⟩ : ∃ y, y = (l.getD k (0, 0)).2 := ⟨_, rfl⟩
      rw [← hx] at d0
      rw [← hy] at d1
      have HX := Lib.hid hx
      clear hx hy g1 g2 hkl
      go_wp2_with fail
      refine (pay1_any x y _).mono ?_
      rintro _ w1 ⟨_, rfl, rfl, hm1⟩
      have HM1 := Lib.hid hm1
      clear hm1
      obtain ⟨B, hB⟩ : ∃ B, B = mayPg x := ⟨_, rfl⟩
      rw [← hB]
      cases B with
      | true =>
        have HB := Lib.hid hB
        clear hB
        go_wp2
        go_roundw
        case rel => exact ⟨k + 1, by omega, by go_num, fun j hj => by
          rcases Nat.lt_succ_iff_lt_or_eq.1 hj with h | rfl
          · exact HA.out j h
          · rw [← HX.out]; exact HB.out.symm, HM.out.same HM1.out⟩
        case measure => simp [intOf]; omega
      | false =>
        have HB := Lib.hid hB
        clear hB
        go_wp2
        go_ret
        refine .mk ⟨(k : Int), rfl, ?_, HM.out.same HM1.out⟩
        have hf : mayL l = false := by
          have hkl : k < l.length := by rw [HLN.out]; exact hlt
          unfold mayL
          rw [List.all_eq_false]
          exact ⟨l[k], List.getElem_mem _, by have := HB.out; rw [HX.out, getD_at hkl] at this; rw [← this]; simp⟩
        rw [hf]; simp
    · obtain rfl : k = n := by omega
      go_wp2
      go_ret
      refine .mk ⟨-1, rfl, ?_, HM.out⟩
      have hf : mayL l = true := by
        unfold mayL
        rw [List.all_eq_true]
        intro q hq
        obtain ⟨j, hj, rfl⟩ := List.mem_iff_getElem.1 hq
        have := HA.out j (by rw [← HLN.out]; exact hj)
        rwa [getD_at hj] at this
      rw [hf]; simp
set_option maxRecDepth 100000 in
theorem contains_any (p : Option Addr) (n c : Nat) (l : List (Int × Int)) (w : World) (h : Sl w 2 p n c (fcells l)) :
    Calls Tryd.prog 17 #[.slice p n c, .func (.func 18) #[] #[]] w (Ret (BoolM (!mayL l) w)) := by
  have H := Lib.hid h
  clear h
  go_enter Tryd.func17, Tryd.ntmps17
  go_wp2_with fail
  refine (index_any p n c l w H.out).mono ?_
  rintro _ w1 ⟨_, rfl, x, rfl, hx, hm⟩
  have HM := Lib.hid hm
  have HX := Lib.hid hx
  clear hm hx
  go_wp2
  go_ret
  exact .mk ⟨by show Value.bool (decide (0 ≤ x)) = _; rw [HX.out], HM.out⟩

theorem own_row (w : World) (cs : List Value) (T : TypeId) (base : Nat) (hb : base ≤ w.heap.size) (hm : cs.length ≤ maxLen) : (w.alloc (.cells cs.toArray T)).ownsRow base T 1 (.slice (some ⟨w.heap.size, 0, none⟩) cs.length cs.length) cs.length cs :=
  ⟨by simp, Or.inr ⟨w.heap.size, cs.length, cs.toArray, rfl, hb, at_alloc w _, Nat.le_refl _, hm, by simp, by simp⟩⟩
theorem flat3 (q p5 p6 : Option Addr) (m d n5 c5 n6 c6 : Nat) (A X Y : List Int) : flat [(q, m, d, A), (p5, n5, c5, X), (p6, n6, c6, Y)] = A ++ (X ++ Y) := by simp [flat]
theorem PartsAt.three (w : World) {q p5 p6 : Option Addr} {m d n5 c5 n6 c6 : Nat} {A X Y : List Int} (T : TypeId) (h1 : Sl w 1 q m d (bs A)) (h2 : Sl w 1 p5 n5 c5 (bs X)) (h3 : Sl w 1 p6 n6 c6 (bs Y)) :
    PartsAt (w.alloc (.cells #[.slice q m d, .slice p5 n5 c5, .slice p6 n6 c6] T)) (some ⟨w.heap.size, 0, none⟩) 3 3 [(q, m, d, A), (p5, n5, c5, X), (p6, n6, c6, Y)] :=
  PartsAt.new w [(q, m, d, A), (p5, n5, c5, X), (p6, n6, c6, Y)] T (by simp [maxLen]) (by
    intro z hz
    simp only [List.mem_cons, List.not_mem_nil, or_false] at hz
    rcases hz with rfl | rfl | rfl
    · exact h1
    · exact h2
    · exact h3)
/-- Bytes of a piece that is being written. -/
theorem payl_snoc (l : List (Int × Int)) (next : Int) (k : Nat) (hk : k < l.length) :
    (be 2 l.length ++ be 4 next ++ body (l.take k)) ++ (be 4 (l.getD k (0, 0)).1 ++ be 8 (l.getD k (0, 0)).2) = be 2 l.length ++ be 4 next ++ body (l.take (k + 1)) := by
  rw [body_take_succ hk, cell12, List.append_assoc (be 2 _ ++ be 4 _)]
def PayR (l : List Int) (w : World) (v : Value) (w' : World) : Prop := ∃ p n c, v = .slice p n c ∧ n = l.length ∧ (p = none ↔ l = []) ∧ Sl w' 1 p n c (bs l) ∧ Mod [] w w'
set_option maxRecDepth 100000 in
set_option maxHeartbeats 2000000 in
theorem pay_any (p : Option Addr) (n c : Nat) (l : List (Int × Int)) (next : Int) (w : World) (h : Sl w 2 p n c (fcells l)) (hg : ∀ q ∈ l, 0 ≤ q.2 ∧ q.2 < 18446744073709551616) :
    Calls Tryd.prog 6 #[.slice p n c, .int .i64 next] w (Ret (PayR (payO l next) w)) := by
  have hln : l.length = n := by have := h.len; rw [fcells_len] at this; omega
  have hcm := h.capm; have hle := h.le
  unfold maxLen at hcm
  have H := Lib.hid h
  have HG := Lib.hid hg
  have HLN := Lib.hid hln
  clear h hg hln
  by_cases h84 : n ≤ 84
  · have hgt : ((84 : Int) < (n : Int)) = False := by simp; omega
    obtain ⟨B, hB⟩ : ∃ B, B = mayPg next := ⟨_, rfl⟩
    have HB := Lib.hid hB
    go_enter Tryd.func6, Tryd.ntmps6
    go_wp2_with fail
    refine (maypage_any next _).mono ?_
    rintro _ w ⟨_, rfl, rfl, rfl⟩
    rw [show decide (0 ≤ next ∧ next ≤ 2147483647) = B from HB.out.symm]
    clear hB
    cases B with
    | false =>
      have HP : Hid (payO l next = []) := payO_nil.2 (by unfold mayPay; rw [← HB.out]; simp)
      go_wp2
      go_ret
      exact .mk ⟨none, 0, 0, rfl, by rw [HP.out]; rfl, by rw [HP.out]; simp, by rw [HP.out]; exact Sl.nil _ _, Mod.refl _ _⟩
    | true =>
      go_wp2_with fail
      refine (contains_any p n c l _ H.out).mono ?_
      rintro _ w1 ⟨_, rfl, rfl, hm1⟩
      have HM1 := Lib.hid hm1
      clear hm1
      obtain ⟨C, hC⟩ : ∃ C, C = mayL l := ⟨_, rfl⟩
      rw [← hC]
      have HC := Lib.hid hC
      clear hC
      cases C with
      | false =>
        have HP : Hid (payO l next = []) := payO_nil.2 (by unfold mayPay; rw [← HC.out]; simp)
        go_wp2
        go_ret
        exact .mk ⟨none, 0, 0, rfl, by rw [HP.out]; rfl, by rw [HP.out]; simp, by rw [HP.out]; exact Sl.nil _ _, HM1.out⟩
      | true =>
        have HP : Hid (payO l next = payl l next) := by
          unfold Hid payO
          rw [if_pos (by unfold mayPay; rw [← HC.out, ← HB.out, decide_eq_true (by have := HLN.out; omega)]; rfl)]
        have hn := HB.out
        have hnx : 0 ≤ next ∧ next ≤ 2147483647 := by simpa [mayPg] using hn.symm
        clear hn
        have hwr : IntKind.u32.wrap next = next := by rw [IntKind.wrap_u32]; omega
        go_wp2_with fail
        refine (put32_any next _ (by omega) (by omega)).mono ?_
        rintro _ w2 ⟨_, rfl, p2, n2, c2, rfl, e2, s2, m2⟩
        obtain rfl : n2 = 4 := by rw [e2, be_len]
        obtain ⟨i0, hi0, hz0, hz1, hz2⟩ := info_parts infoU8
        have hb2 : be 2 (n : Int) = [(n : Int) / 256, (n : Int)] := by simp [be]; omega
        have ht : Tl (w1.alloc (.cells #[.int .u8 ((n : Int) / 256), .int .u8 (n : Int)] 5)) w1.heap.size 1 (some ⟨w1.heap.size, 0, none⟩) 2 2 (bs (be 2 (n : Int))) := by
          rw [hb2]; exact Tl.of_own (own_row w1 [.int .u8 ((n : Int) / 256), .int .u8 (n : Int)] _ _ (Nat.le_refl _) (by simp [maxLen])) (bs_one [(n : Int) / 256, (n : Int)])
        have HT := Lib.hid (ht.mod m2 (by simp))
        have HS2 := Lib.hid s2
        have HM2 : Hid (Mod [] w w2) := (HM1.out.same (Mod.of_alloc w1 _)).same m2
        have hsz2 : w1.heap.size ≤ w2.heap.size := Nat.le_trans (by simp) m2.size
        clear ht s2 m2 hb2 e2
        go_wp2_with (first
          | (at_builtin; go_must (refine wpList_append_tl _ rfl _ _ _ rfl w1.heap.size 5 i0 _ 1 1 Tryd.underlying23 hi0 hz0 hz1 hz2 rfl (by omega) _ 2 2 _ rfl HT.out _ _ _ _ rfl HS2.out 6 rfl (by unfold maxLen; omega) (by omega) hsz2 ?_); intro p3 c3 w3 ht3 hm3 hnil3 hor3; (have HT3 := Lib.hid ht3); (have HM3 := Lib.hid hm3); (have hp3 : p3 ≠ none := fun e => by have := hnil3.1 e; simp at this); clear ht3 hm3 hnil3 hor3)
          | go_in)
        have HM4 : Hid (Mod [] w w3) := HM2.out.trans HM3.out (fun b hb => Or.inr (by simp at hb; rw [hb]; exact HM1.out.size))
        have HS3 := Lib.hid HT3.out.sl
        rw [← bs_append] at HS3
        clear HM3 HT3 HT HS2 hsz2
        go_loopw [5, 34] (fun o i wr => ∃ (k m d : Nat) (q : Option Addr), k ≤ n ∧ i = .int .i64 k ∧ o = .slice q m d ∧ m = 6 + 12 * k ∧ q ≠ none ∧ Sl wr 1 q m d (bs (be 2 (n : Int) ++ be 4 next ++ body (l.take k))) ∧ Mod [] w wr) (fun _ i _ => n - (intOf i).toNat)
        case atStart => exact ⟨0, 6, c3, p3, by omega, rfl, rfl, by omega, hp3, by simpa [body] using HS3.out, HM4.out⟩
        case round =>
          clear HS3 HM4 hp3
          obtain ⟨k, m, d, q, hk, rfl, rfl, hm, hq, hs, hmd⟩ := hrel
          have HS := Lib.hid hs
          have HM := Lib.hid hmd
          have HMM := Lib.hid hm
          have hq' := Lib.hid hq
          clear hs hmd hm hq
          by_cases hlt : k < n
          · have hkl : k < l.length := by rw [HLN.out]; exact hlt
            obtain ⟨g1, g2⟩ := fcells_get l k hkl
            obtain ⟨b, off, rfl, hblt, hcs⟩ := H.out.addr (by omega)
            have hidx := fun W => Sl.idx (P := Tryd.prog) (cap := c) (p := some ⟨b, off, none⟩) Tryd.underlying22 sizeFreed (fun _ => rfl) W .i64 k hlt
            have d0 := hcs _ _ g1
            have d1 := hcs _ _ g2
            rw [← HM.out.cell (a := ⟨b, _, none⟩) hblt (by simp)] at d0 d1
            rw [← Nat.add_assoc] at d1
            have HSN := Lib.hid (payl_snoc l next k hkl)
            have hx0 : 0 ≤ (l.getD k (0, 0)).1 ∧ (l.getD k (0, 0)).1 ≤ 2147483647 := by
              have h1 := HC.out.symm
              unfold mayL at h1
              rw [List.all_eq_true] at h1
              have := h1 _ (List.getElem_mem hkl)
              rw [getD_at hkl]; simpa [mayPg] using this
            have hy0 : 0 ≤ (l.getD k (0, 0)).2 ∧ (l.getD k (0, 0)).2 < 18446744073709551616 := by
              rw [getD_at hkl]; exact HG.out _ (List.getElem_mem hkl)
            rw [HLN.out] at HSN
            generalize (l.getD k (0, 0)).1 = x at *
            generalize (l.getD k (0, 0)).2 = y at *
            have hwx : IntKind.u32.wrap x = x := by rw [IntKind.wrap_u32]; omega
            clear hcs g1 g2 hkl
            have hc0 : (wr.alloc (.cells #[.int .i64 x, .int .u64 y] 35)).cell? ⟨wr.heap.size, 0, none⟩ = some (.int .i64 x) := cell_of_at (at_alloc wr _) 0
            have hc1 : (wr.alloc (.cells #[.int .i64 x, .int .u64 y] 35)).cell? ⟨wr.heap.size, 1, none⟩ = some (.int .u64 y) := cell_of_at (at_alloc wr _) 1
            have hM0 : Mod [] wr (wr.alloc (.cells #[.int .i64 x, .int .u64 y] 35)) := Mod.of_alloc wr _
            have hB : wr.heap.size < (wr.alloc (.cells #[.int .i64 x, .int .u64 y] 35)).heap.size := lt_of_at (at_alloc wr _)
            have HM0 := Lib.hid hM0
            clear hM0
            go_wp2
            clear hidx d0 d1
            generalize (wr.alloc (.cells #[.int .i64 x, .int .u64 y] 35)) = W at *
            generalize wr.heap.size = B at *
            have HQ : Hid (Sl W.drew 1 q m d (bs (be 2 (n : Int) ++ be 4 next ++ body (l.take k)))) := HS.out.mod HM0.out.drew (by simp)
            have HMW : Hid (Mod [] w W.drew) := HM.out.same HM0.out.drew
            have hml : m ≤ 2000 := by have := HMM.out; omega
            clear HS HM HM0
            go_region_held3 (fun w' => w'.cell? ⟨B, 0, none⟩ = some (.int .i64 x) ∧ w'.cell? ⟨B, 1, none⟩ = some (.int .u64 y))
              (first
                | go_keep
                | (exact ⟨(M5.out.cell (a := ⟨B, 0, none⟩) hB (by simp)).trans hc0, (M5.out.cell (a := ⟨B, 1, none⟩) hB (by simp)).trans hc1⟩)
                | (exact ⟨(M6.out.cell (a := ⟨B, 0, none⟩) hB (by simp)).trans hc0, (M6.out.cell (a := ⟨B, 1, none⟩) hB (by simp)).trans hc1⟩)
                | (exact ⟨(M8.out.cell (a := ⟨B, 0, none⟩) hB (by simp)).trans hc0, (M8.out.cell (a := ⟨B, 1, none⟩) hB (by simp)).trans hc1⟩)
                | (exact ⟨((M5.out.same M6.out).cell (a := ⟨B, 0, none⟩) hB (by simp)).trans hc0, ((M5.out.same M6.out).cell (a := ⟨B, 1, none⟩) hB (by simp)).trans hc1⟩)
                | (exact ⟨((M6.out.same M5.out).cell (a := ⟨B, 0, none⟩) hB (by simp)).trans hc0, ((M6.out.same M5.out).cell (a := ⟨B, 1, none⟩) hB (by simp)).trans hc1⟩))
              (first
                | (go_at_call 19; refine (put32_any x _ (by omega) (by omega)).mono ?_; rintro _ w5 ⟨_, rfl, p5, n5, c5, rfl, e5, s5, m5⟩; (obtain rfl : n5 = 4 := by rw [e5, be_len]); (have M5 := Lib.hid m5); (have S5 := Lib.hid s5); clear m5 s5 e5)
                | (go_at_call 21; refine (key_any y _ (by omega) (by omega)).mono ?_; rintro _ w6 ⟨_, rfl, p6, n6, c6, rfl, e6, s6, m6⟩; (obtain rfl : n6 = 8 := by rw [e6, be_len]); (have M6 := Lib.hid m6); (have S6 := Lib.hid (Sl.of_own s6 (bs_one _)).1); clear m6 s6 e6)
                | (go_at_call 20; refine (concat_any _ _ _ _ _ (PartsAt.three w6 _ (HQ.out.mod (M5.out.same M6.out) (by simp)) (S5.out.mod M6.out (by simp)) S6.out) (by simp [flat, be_len, body_len, List.length_take]; omega)).mono ?_; rintro _ w7 ⟨_, rfl, p7, n7, c7, rfl, e7, s7, m7⟩; (have M8 : Hid (Mod [] W.drew w7) := ((M5.out.same M6.out).alloc).same m7); (have M7 : Hid (Mod [] w w7) := HMW.out.same M8.out); (have S7 := Lib.hid (Sl.of_own s7 (bs_one _)).1); (have E7 := Lib.hid e7); clear m7 s7 e7)
                | (go_at_call 20; refine (concat_any _ _ _ _ _ (PartsAt.three w5 _ (HQ.out.mod (M6.out.same M5.out) (by simp)) S5.out (S6.out.mod M5.out (by simp))) (by simp [flat, be_len, body_len, List.length_take]; omega)).mono ?_; rintro _ w7 ⟨_, rfl, p7, n7, c7, rfl, e7, s7, m7⟩; (have M8 : Hid (Mod [] W.drew w7) := ((M6.out.same M5.out).alloc).same m7); (have M7 : Hid (Mod [] w w7) := HMW.out.same M8.out); (have S7 := Lib.hid (Sl.of_own s7 (bs_one _)).1); (have E7 := Lib.hid e7); clear m7 s7 e7))
            all_goals
              clear M5 M6 M8 S5 S6 HQ HMW hc0 hc1
              rw [flat3, HSN.out] at S7 E7
              go_wp2
              go_roundw
              case rel => exact ⟨k + 1, n7, c7, p7, by omega, by go_num, rfl, by rw [E7.out]; simp [be_len, body_len, List.length_take]; have := HLN.out; omega, (by
                intro e
                obtain ⟨_, _, h, _⟩ := S7.out.addr (by rw [E7.out]; simp [be_len]; omega)
                rw [e] at h; cases h), S7.out, M7.out⟩
              case measure => simp [intOf]; omega
          · obtain rfl : k = n := by omega
            have HT : Hid (be 2 (k : Int) ++ be 4 next ++ body (l.take k) = payO l next) := by
              rw [HP.out]; unfold Hid payl; rw [HLN.out, List.take_of_length_le (by rw [HLN.out]; omega)]
            have HL : Hid (m = (payO l next).length) := by unfold Hid; rw [HP.out, payl_len, HLN.out]; exact HMM.out
            rw [HT.out] at HS
            go_wp2
            go_ret
            exact .mk ⟨q, m, d, rfl, HL.out, ⟨fun e => absurd e hq'.out, fun e => by have := HL.out; rw [e] at this; have := HMM.out; simp at *; omega⟩, HS.out, HM.out⟩
  · have HP : Hid (payO l next = []) := payO_nil.2 (by unfold mayPay; rw [decide_eq_false (by rw [HLN.out]; exact h84)]; rfl)
    have hgt : ((84 : Int) < (n : Int)) = True := by simp; omega
    go_enter Tryd.func6, Tryd.ntmps6
    go_wp2
    go_ret
    exact .mk ⟨none, 0, 0, rfl, by rw [HP.out]; rfl, by rw [HP.out]; simp, by rw [HP.out]; exact Sl.nil _ _, Mod.refl _ _⟩
end Go.Proofs.YtibkhdlddllcjaaDoor
