/- Roots: the document's Same, Find, Without. Slices of the document's Key, appended to. Roots: the document's Without. Own laws for a statement that leaves its order open: what only reads is taken first, as long as a condition S on the world holds; S need not hold any more behind the last operation. -/
import Derived.StillTail
import Derived.Test.YtpdkkokgpdabhaaDoorG04
import Derived.Test.YtpdkkokgpdabhaaDoorG02
import Derived.Test.YtpdkkokgpdabhaaDoorG01
namespace Go.Proofs.YtpdkkokgpdabhaaDoor
open Go.RowKit Go.Maps
set_option linter.unusedSimpArgs false
set_option linter.unusedVariables false

theorem run_neR (a b : Rt) (ha : WfL a.l) (hb : WfL b.l) (W : World) : (binOp .neq 34 a.val b.val).run Tryd.prog W = .ok (.bool (!decide (a = b))) W := by
  obtain ⟨l, p, c⟩ := a
  obtain ⟨l', p', c'⟩ := b
  unfold Rt.val
  have e := str_beq (l := l) (m := l') ha hb
  go_simp
  by_cases h1 : l = l' <;> by_cases h2 : p = p' <;> by_cases h3 : c = c' <;> simp_all
theorem run_eqR (a b : Rt) (ha : WfL a.l) (hb : WfL b.l) (W : World) : (binOp .eql 34 a.val b.val).run Tryd.prog W = .ok (.bool (decide (a = b))) W := by
  obtain ⟨l, p, c⟩ := a
  obtain ⟨l', p', c'⟩ := b
  unfold Rt.val
  have e := str_beq (l := l) (m := l') ha hb
  go_simp
  by_cases h1 : l = l' <;> by_cases h2 : p = p' <;> by_cases h3 : c = c' <;> simp_all
theorem rts_ext {a b : List Rt} (hl : a.length = b.length) (h : ∀ j, j < a.length → a.getD j default = b.getD j default) : a = b := by
  apply List.ext_getElem hl
  intro i h1 h2
  have := h i h1
  simpa [List.getD_eq_getElem?_getD, h1, h2] using this

set_option maxRecDepth 100000 in
set_option maxHeartbeats 4000000 in
theorem qrsame_any (p q : Option Addr) (n m c d : Nat) (rs ks : List Rt) (w : World) (h1 : RtsIn w p n c rs) (h2 : RtsIn w q m d ks) :
    Calls Tryd.prog 15 #[.slice p n c, .slice q m d] w (Ret (BoolM (decide (rs = ks)) w)) := by
  have E1 := Lib.hid h1.len
  have E2 := Lib.hid h2.len
  have hc1 := h1.sl.capm; have hd1 := h1.sl.le
  have hc2 := h2.sl.capm; have hd2 := h2.sl.le
  unfold maxLen at hc1 hc2
  obtain ⟨b1, o1, ha1, hx1⟩ := h1.sl.at_
  obtain ⟨b2, o2, ha2, hx2⟩ := h2.sl.at_
  have hi1 := fun W => Sl.idx (P := Tryd.prog) (cap := c) Tryd.underlying22 sizeRoots (fun h => (ha1 h).1) W .i64
  have hi2 := fun W => Sl.idx (P := Tryd.prog) (cap := d) Tryd.underlying22 sizeRoots (fun h => (ha2 h).1) W .i64
  have G1 := Lib.hid (fun i hi => h1.get hx1 i hi)
  have G2 := Lib.hid (fun i hi => h2.get hx2 i hi)
  have L1 : Hid (0 < n → b1 < w.heap.size) := fun h => (ha1 h).2
  have L2 : Hid (0 < m → b2 < w.heap.size) := fun h => (ha2 h).2
  clear h1 h2 ha1 ha2 hx1 hx2
  by_cases hl : n = m
  · subst hl
    have hne : ((n : Int) != (n : Int)) = false := by simp
    go_enter Tryd.func15, Tryd.ntmps15
    go_wp2
    go_loopw [5] (fun i wr => ∃ k : Nat, k ≤ n ∧ i = .int .i64 k ∧ Mod [] w wr ∧ ∀ j, j < k → rs.getD j default = ks.getD j default) (fun i _ => n - (intOf i).toNat)
    case atStart => exact ⟨0, by omega, rfl, Mod.refl _ _, by omega⟩
    case round =>
      obtain ⟨k, hk, rfl, hmd, hall⟩ := hrel
      have HA := Lib.hid hall
      have HM := Lib.hid hmd
      clear hall hmd
      by_cases hlt : k < n
      · obtain ⟨l, pg, ct, hr, hwf, d0, d1, d2⟩ := G1.out k hlt
        obtain ⟨l', pg', ct', hr', hwf', d0', d1', d2'⟩ := G2.out k hlt
        rw [← HM.out.cell (a := ⟨b1, _, none⟩) (L1.out (by omega)) (by simp)] at d0 d1 d2
        rw [← HM.out.cell (a := ⟨b2, _, none⟩) (L2.out (by omega)) (by simp)] at d0' d1' d2'
        have hcmp := fun W => run_neR ⟨l, pg, ct⟩ ⟨l', pg', ct'⟩ hwf.1 hwf'.1 W
        unfold Rt.val at hcmp
        simp only at hcmp
        have j1 := fun W => hi1 W k hlt
        have j2 := fun W => hi2 W k hlt
        have hwi : IntKind.i64.wrap ((k : Int) + 1) = (k : Int) + 1 := IntWalk.i64_in _ (by omega)
        have HXY : Hid ((⟨l, pg, ct⟩ : Rt) = ⟨l', pg', ct'⟩ ↔ rs.getD k default = ks.getD k default) := by unfold Hid; rw [hr, hr']
        clear hr hr' hwf hwf'
        generalize hD : decide ((⟨l, pg, ct⟩ : Rt) = ⟨l', pg', ct'⟩) = D at *
        have HD := Lib.hid hD
        clear hD
        cases D with
        | true =>
          have HE : Hid (rs.getD k default = ks.getD k default) := HXY.out.1 (of_decide_eq_true HD.out)
          go_wp2
          go_quiet (fail)
          go_wp2
          go_roundw
          case rel => exact ⟨k + 1, by omega, by go_num, HM.out.same (Mod.of_drewN wr _), fun j hj => by
            rcases Nat.lt_succ_iff_lt_or_eq.1 hj with h | rfl
            · exact HA.out j h
            · exact HE.out⟩
          case measure => simp [intOf]; omega
        | false =>
          have HE : Hid (decide (rs = ks) = false) := decide_eq_false fun e => by
            have := HXY.out.2 (by rw [e])
            exact (of_decide_eq_false HD.out) this
          go_wp2
          go_quiet (fail)
          go_wp2
          go_ret
          exact .mk ⟨by rw [HE.out] <;> rfl, HM.out.same (Mod.of_drewN wr _)⟩
      · obtain rfl : k = n := by omega
        have HE : Hid (decide (rs = ks) = true) := decide_eq_true (rts_ext (by rw [E1.out, E2.out]) (fun j hj => HA.out j (by rw [E1.out] at hj; exact hj)))
        go_wp2
        go_ret
        exact .mk ⟨by rw [HE.out] <;> rfl, HM.out⟩
  · have hne : ((n : Int) != (m : Int)) = true := by simp; omega
    have HE : Hid (decide (rs = ks) = false) := decide_eq_false fun e => hl (by rw [← E1.out, ← E2.out, e])
    clear hl
    go_enter Tryd.func15, Tryd.ntmps15
    go_wp2
    go_ret
    exact .mk ⟨by rw [HE.out] <;> rfl, Mod.refl _ _⟩

/-! ### Find -/
def findR (rs : List Rt) (l : List Int) : Rt × Bool := match rs.find? (fun r => decide (r.l = l)) with | some r => (r, true) | none => (default, false)
theorem findR_none {rs : List Rt} {l : List Int} (h : ∀ j, j < rs.length → (rs.getD j default).l ≠ l) : findR rs l = (default, false) := by
  unfold findR
  rw [List.find?_eq_none.2 (fun x hx => ?_)]
  obtain ⟨i, hi, rfl⟩ := List.mem_iff_getElem.1 hx
  have := h i hi
  simpa [List.getD_eq_getElem?_getD, hi] using this
theorem findR_at {rs : List Rt} {l : List Int} {i : Nat} (hi : i < rs.length) (h : ∀ j, j < i → (rs.getD j default).l ≠ l) (he : (rs.getD i default).l = l) : findR rs l = (rs.getD i default, true) := by
  unfold findR
  have e : rs.getD i default = rs[i] := by simp [List.getD_eq_getElem?_getD, hi]
  rw [e] at he
  rw [List.find?_eq_some_iff_getElem.2 (show _ from ⟨by simpa using he, i, hi, rfl, fun j hj => ?_⟩), e]
  have := h j hj
  simpa [List.getD_eq_getElem?_getD, show j < rs.length by omega] using this
def FindRes (x : Rt × Bool) (w : World) (v : Value) (w' : World) : Prop := v = .tuple #[x.1.val, .bool x.2] ∧ Mod [] w w'
set_option maxRecDepth 100000 in
set_option maxHeartbeats 4000000 in
theorem qfind_any (p : Option Addr) (n c : Nat) (rs : List Rt) (l : List Int) (w : World) (h : RtsIn w p n c rs) (hw : WfL l) :
    Calls Tryd.prog 19 #[.slice p n c, .string (strOfNums l)] w (Ret (FindRes (findR rs l) w)) := by
  have E1 := Lib.hid h.len
  have hc1 := h.sl.capm; have hd1 := h.sl.le
  unfold maxLen at hc1
  obtain ⟨b1, o1, ha1, hx1⟩ := h.sl.at_
  have hi1 := fun W => Sl.idx (P := Tryd.prog) (cap := c) Tryd.underlying22 sizeRoots (fun h => (ha1 h).1) W .i64
  have G1 := Lib.hid (fun i hi => h.get hx1 i hi)
  have L1 : Hid (0 < n → b1 < w.heap.size) := fun h => (ha1 h).2
  have HNONE : Hid ((∀ j, j < n → (rs.getD j default).l ≠ l) → findR rs l = (default, false)) := fun hh => findR_none (fun j hj => hh j (by rw [h.len] at hj; exact hj))
  have HSOME : Hid (∀ i, i < n → (∀ j, j < i → (rs.getD j default).l ≠ l) → (rs.getD i default).l = l → findR rs l = (rs.getD i default, true)) := fun i hi h1 h2 => findR_at (by rw [h.len]; exact hi) h1 h2
  have HW := Lib.hid hw
  have HAT0 := Lib.hid (at_alloc w (.cells #[.string ⟨#[]⟩, .int .i64 0, .int .i64 0] 34))
  have HM0 : Hid (Mod [] w (w.alloc (.cells #[.string ⟨#[]⟩, .int .i64 0, .int .i64 0] 34))) := Mod.of_alloc w _
  clear h ha1 hx1 hw
  go_enter Tryd.func19, Tryd.ntmps19
  go_wp2
  generalize hW1 : (w.alloc (.cells #[.string ⟨#[]⟩, .int .i64 0, .int .i64 0] 34)) = w1 at *
  obtain ⟨A, hA⟩ : ∃ A, A = w.heap.size := ⟨_, rfl⟩
  rw [← hA] at HAT0 ⊢
  have HLA : Hid (w.heap.size ≤ A) := by unfold Hid; omega
  clear hW1 hA
  go_loopw [6] (fun i wr => ∃ k : Nat, k ≤ n ∧ i = .int .i64 k ∧ wr = w1 ∧ ∀ j, j < k → (rs.getD j default).l ≠ l) (fun i _ => n - (intOf i).toNat)
  case atStart => exact ⟨0, by omega, rfl, rfl, by omega⟩
  case round =>
    obtain ⟨k, hk, rfl, rfl, hall⟩ := hrel
    have HA := Lib.hid hall
    clear hall
    by_cases hlt : k < n
    · obtain ⟨l2, pg, ct, hr, hwf, d0, d1, d2⟩ := G1.out k hlt
      rw [← HM0.out.cell (a := ⟨b1, _, none⟩) (L1.out (by omega)) (by simp)] at d0 d1 d2
      have hcmp := str_beq hwf.1 HW.out
      have j1 := fun W => hi1 W k hlt
      have hwi : IntKind.i64.wrap ((k : Int) + 1) = (k : Int) + 1 := IntWalk.i64_in _ (by omega)
      have HR := Lib.hid hr
      clear hr hwf
      by_cases he : l2 = l
      · have HE : Hid (findR rs l = (⟨l2, pg, ct⟩, true)) := by
          have := HSOME.out k hlt HA.out (by rw [HR.out]; exact he)
          rw [HR.out] at this; exact this
        rw [decide_eq_true he] at hcmp
        have HEE := Lib.hid he
        clear he
        have c0 : wr.cell? ⟨A, 0, none⟩ = some (.string ⟨#[]⟩) := cell_of_at HAT0.out 0
        have c1 : wr.cell? ⟨A, 1, none⟩ = some (.int .i64 0) := cell_of_at HAT0.out 1
        have c2 : wr.cell? ⟨A, 2, none⟩ = some (.int .i64 0) := cell_of_at HAT0.out 2
        have f0 : wr.frozen? ⟨A, 0, none⟩ = false := free_of_at HAT0.out 0
        have f1 : wr.frozen? ⟨A, 1, none⟩ = false := free_of_at HAT0.out 1
        have f2 : wr.frozen? ⟨A, 2, none⟩ = false := free_of_at HAT0.out 2
        go_wp2
        have h1 := at_setCell (at_setCell (at_setCell HAT0.out 0 (.string (strOfNums l2))) 1 (.int .i64 pg)) 2 (.int .i64 ct)
        have hmd : Mod [A] wr _ := ((Mod.of_setCell wr A 0 (.string (strOfNums l2))).same (Mod.of_setCell _ A 1 (.int .i64 pg))).same (Mod.of_setCell _ A 2 (.int .i64 ct))
        have HMM := Lib.hid (HM0.out.trans hmd (fun x hx => Or.inr (by simp at hx; rw [hx]; exact HLA.out)))
        have g0 := cell_of_at h1 0
        have g1 := cell_of_at h1 1
        have g2 := cell_of_at h1 2
        clear h1 hmd
        refine bodyPost_ret (v := .tuple #[.agg #[.string (strOfNums l2), .int .i64 pg, .int .i64 ct], .bool true]) ?_ rfl ?_
        · rw [results_cell_tmp rfl]; go_simp
        · exact .mk ⟨by rw [HE.out]; rfl, HMM.out⟩
      · have HNX : Hid (∀ j, j < k + 1 → (rs.getD j default).l ≠ l) := fun j hj => by
          rcases Nat.lt_succ_iff_lt_or_eq.1 hj with h | rfl
          · exact HA.out j h
          · rw [HR.out]; exact he
        rw [decide_eq_false he] at hcmp
        clear he
        go_wp2
        go_roundw
        case rel => exact ⟨k + 1, by omega, by go_num, by first | rfl | trivial, HNX.out⟩
        case measure => simp [intOf]; omega
    · obtain rfl : k = n := by omega
      have HE : Hid (findR rs l = (default, false)) := HNONE.out HA.out
      have c0 : wr.cell? ⟨A, 0, none⟩ = some (.string ⟨#[]⟩) := cell_of_at HAT0.out 0
      have c1 : wr.cell? ⟨A, 1, none⟩ = some (.int .i64 0) := cell_of_at HAT0.out 1
      have c2 : wr.cell? ⟨A, 2, none⟩ = some (.int .i64 0) := cell_of_at HAT0.out 2
      have f0 : wr.frozen? ⟨A, 0, none⟩ = false := free_of_at HAT0.out 0
      have f1 : wr.frozen? ⟨A, 1, none⟩ = false := free_of_at HAT0.out 1
      have f2 : wr.frozen? ⟨A, 2, none⟩ = false := free_of_at HAT0.out 2
      go_wp2
      have h1 := at_setCell (at_setCell (at_setCell HAT0.out 0 (.string ⟨#[]⟩)) 1 (.int .i64 0)) 2 (.int .i64 0)
      have hmd : Mod [A] wr _ := ((Mod.of_setCell wr A 0 (.string ⟨#[]⟩)).same (Mod.of_setCell _ A 1 (.int .i64 0))).same (Mod.of_setCell _ A 2 (.int .i64 0))
      have HMM := Lib.hid (HM0.out.trans hmd (fun x hx => Or.inr (by simp at hx; rw [hx]; exact HLA.out)))
      have g0 := cell_of_at h1 0
      have g1 := cell_of_at h1 1
      have g2 := cell_of_at h1 2
      clear h1 hmd
      refine bodyPost_ret (v := .tuple #[.agg #[.string ⟨#[]⟩, .int .i64 0, .int .i64 0], .bool false]) ?_ rfl ?_
      · rw [results_cell_tmp rfl]; go_simp
      · exact .mk ⟨by rw [HE.out]; rfl, HMM.out⟩
end Go.Proofs.YtpdkkokgpdabhaaDoor
namespace Go.Proofs.YtpdkkokgpdabhaaDoor
open Go.RowKit Go.Maps
set_option linter.unusedSimpArgs false
set_option linter.unusedVariables false

theorem Tl.of_key {w w' : World} {p : Option Addr} {n c : Nat} {l : List Int} (h : w'.ownsRow w.heap.size 5 1 (.slice p n c) n (bs l)) : Tl w' w.heap.size 1 p n c (bs l) := Tl.of_own h (bs_one _)
/-- What a call has just made lies in no block that was there. -/
theorem Tl.apart {w w' : World} {b1 s1 s2 n1 c1 n2 c2 : Nat} {q p : Option Addr} {x1 x2 : List Value} (h : Tl w b1 s1 q n1 c1 x1) (h2 : Tl w' w.heap.size s2 p n2 c2 x2) : ∀ a, p = some a → a.block ∉ (q.map (·.block)).toList := by
  intro a ha hm
  have h1 := (h2.own a ha).2.1
  cases q with
  | none => simp at hm
  | some e => simp at hm; have := (h.own e rfl).2.2; omega
theorem Tl.turned {w w' w2 : World} {base s n c : Nat} {q : Option Addr} {x : List Value} (h : Tl w base s q n c x) {w0 : World} (hb : w0.heap.size = base) (hm : Mod (q.map (·.block)).toList w w') (h0 : Mod [] w0 w) : Mod [] w0 w' :=
  h0.trans hm fun b hb2 => Or.inr (by
    cases q with
    | none => simp at hb2
    | some e => simp at hb2; have := (h.own e rfl).2.1; omega)
set_option maxRecDepth 100000 in
theorem Tl.sub_key {w : World} {base : Nat} {p : Option Addr} {c : Nat} {l : List Int} (h : Tl w base 1 p 8 c (bs l)) (lo k : Nat) (hk : lo + k = 8) (hpos : 0 < k) (d : Int) (hd : d = lo) :
    ∃ p', (∀ W, (Instr.slice 23 (.slice p 8 c) (some (.int .i64 d)) none none).run Tryd.prog W = .ok (.slice p' k (c - lo)) W) ∧ Tl w base 1 p' k (c - lo) (bs (l.drop lo)) ∧ p'.map (·.block) = p.map (·.block) := by
  have hle := h.sl.le
  obtain ⟨p', r, t, e⟩ := h.sub_l Tryd.underlying23 sizeBytes lo .i64 (by omega) (by omega)
  subst hd
  rw [show 8 - lo = k from by omega] at r t
  refine ⟨p', r, ?_, e⟩
  rw [Nat.mul_one] at t
  simpa [bs, List.map_drop] using t

def PayT (l : List Int) (w : World) (v : Value) (w' : World) : Prop := ∃ p n c, v = .slice p n c ∧ n = l.length ∧ (p = none ↔ l = []) ∧ Tl w' w.heap.size 1 p n c (bs l) ∧ Mod [] w w'
end Go.Proofs.YtpdkkokgpdabhaaDoor
namespace Go.Proofs.YtpdkkokgpdabhaaDoor
open Go.RowKit Go.Maps
set_option linter.unusedSimpArgs false
set_option linter.unusedVariables false

theorem infoRoot : (Tryd.prog.info? 34).map (fun i => (i.zero, i.size, i.bytes)) = some (some (.agg #[.string ⟨#[]⟩, .int .i64 0, .int .i64 0]), 3, 32) := by kernel_rfl
def withoutR (rs : List Rt) (l : List Int) : List Rt := rs.filter (fun r => !decide (r.l = l))
theorem withoutR_take {rs : List Rt} {l : List Int} {i : Nat} (hi : i < rs.length) : withoutR (rs.take (i + 1)) l = withoutR (rs.take i) l ++ (if (rs.getD i default).l = l then [] else [rs.getD i default]) := by
  have e : rs.getD i default = rs[i] := by simp [List.getD_eq_getElem?_getD, hi]
  rw [List.take_succ_eq_append_getElem hi, e]
  unfold withoutR
  rw [List.filter_append]
  by_cases h : (rs[i]).l = l <;> simp [h]
theorem withoutR_len (rs : List Rt) (l : List Int) : (withoutR rs l).length ≤ rs.length := List.length_filter_le _ _
theorem withoutR_wf {rs : List Rt} {l : List Int} (h : ∀ r ∈ rs, r.wf) : ∀ r ∈ withoutR rs l, r.wf := fun r hr => h r (List.mem_filter.1 hr).1
theorem sl_root (W : World) (l : List Int) (pg ct : Int) (T : TypeId) : Sl (W.alloc (.cells #[.string (strOfNums l), .int .i64 pg, .int .i64 ct] T)) 3 (some ⟨W.heap.size, 0, none⟩) 1 1 (rcells [⟨l, pg, ct⟩]) := by
  have h := Sl.new W (rcells [⟨l, pg, ct⟩]) T 3 1 (by simp [rcells, Rt.cells]) (by simp [maxLen]) (rcells_one _)
  exact h
/-- A list of roots of the call's own. -/
def RtsR (rs : List Rt) (w : World) (v : Value) (w' : World) : Prop := ∃ p n c, v = .slice p n c ∧ RtsIn w' p n c rs ∧ Mod [] w w'
set_option maxRecDepth 100000 in
set_option maxHeartbeats 4000000 in
theorem qwithout_any (p : Option Addr) (n c : Nat) (rs : List Rt) (l : List Int) (w : World) (h : RtsIn w p n c rs) (hw : WfL l) (hn : n ≤ 1000) :
    Calls Tryd.prog 21 #[.slice p n c, .string (strOfNums l)] w (Ret (RtsR (withoutR rs l) w)) := by
  have E1 := Lib.hid h.len
  obtain ⟨b1, o1, ha1, hx1⟩ := h.sl.at_
  have hi1 := fun W => Sl.idx (P := Tryd.prog) (cap := c) Tryd.underlying22 sizeRoots (fun h => (ha1 h).1) W .i64
  have G1 := Lib.hid (fun i hi => h.get hx1 i hi)
  have L1 : Hid (0 < n → b1 < w.heap.size) := fun h => (ha1 h).2
  have HT : Hid (∀ i, i < n → withoutR (rs.take (i + 1)) l = withoutR (rs.take i) l ++ (if (rs.getD i default).l = l then [] else [rs.getD i default])) := fun i hi => withoutR_take (by rw [h.len]; exact hi)
  have HWFS : Hid (∀ r ∈ withoutR rs l, r.wf) := withoutR_wf h.wf
  have HTN : Hid (withoutR (rs.take n) l = withoutR rs l) := by unfold Hid; rw [← h.len, List.take_length]
  have HW := Lib.hid hw
  obtain ⟨i0, hi0, hz0, hz1, hz2⟩ := info_parts infoRoot
  clear h ha1 hx1 hw
  go_enter Tryd.func21, Tryd.ntmps21
  go_wp2
  go_loopw [5, 6] (fun o iv wr => ∃ (i m d : Nat) (u : Option Addr), i ≤ n ∧ m ≤ i ∧ iv = .int .i64 i ∧ o = .slice u m d ∧ Tl wr w.heap.size 3 u m d (rcells (withoutR (rs.take i) l)) ∧ Mod [] w wr) (fun _ iv _ => n - (intOf iv).toNat)
  case atStart => exact ⟨0, 0, 0, none, by omega, by omega, rfl, rfl, by simpa [rcells, withoutR] using Tl.none' w _ 3, Mod.refl _ _⟩
  case round =>
    obtain ⟨k, m, d, u, hk, hmk, rfl, rfl, ht, hmd⟩ := hrel
    have HM := Lib.hid hmd
    have OT := Lib.hid ht
    clear hmd ht
    by_cases hlt : k < n
    · obtain ⟨l2, pg, ct, hr, hwf, d0, d1, d2⟩ := G1.out k hlt
      rw [← HM.out.cell (a := ⟨b1, _, none⟩) (L1.out (by omega)) (by simp)] at d0 d1 d2
      have hcmp := str_beq hwf.1 HW.out
      have j1 := fun W => hi1 W k hlt
      have hwi : IntKind.i64.wrap ((k : Int) + 1) = (k : Int) + 1 := IntWalk.i64_in _ (by omega)
      have HTK := Lib.hid (HT.out k hlt)
      rw [hr] at HTK
      simp only at HTK
      clear hr hwf
      by_cases he : l2 = l
      · rw [if_pos he, List.append_nil] at HTK
        rw [decide_eq_true he] at hcmp
        clear he
        go_wp2
        go_roundw
        case rel => exact ⟨k + 1, m, d, u, by omega, by omega, by go_num, rfl, by rw [HTK.out]; exact OT.out, HM.out⟩
        case measure => simp [intOf]; omega
      · rw [if_neg he] at HTK
        rw [decide_eq_false he] at hcmp
        have S2 := Lib.hid (sl_root wr l2 pg ct 34)
        have OT2 := Lib.hid (OT.out.mod (Mod.of_alloc wr (.cells #[.string (strOfNums l2), .int .i64 pg, .int .i64 ct] 34)) (by simp))
        have HM2 := Lib.hid (HM.out.alloc (o := .cells #[.string (strOfNums l2), .int .i64 pg, .int .i64 ct] 34))
        have L2 := HM2.out.size
        clear he
        go_wp2_with (first
          | (at_builtin; go_must (refine wpList_append_tl _ rfl _ _ _ rfl w.heap.size 34 i0 _ 3 32 Tryd.underlying22 hi0 hz0 hz1 hz2 rfl (by omega) _ _ _ _ rfl OT2.out _ _ _ _ rfl S2.out (m + 1) rfl (by unfold maxLen; omega) (by omega) L2 ?_); intro p9 c9 w9 ht9 hm9 hnil9 hor9; (have OT9 := Lib.hid ht9); (have MC9 := Lib.hid (OT2.out.turned (w2 := w) (w0 := w) rfl hm9 HM2.out)); clear ht9 hm9 hnil9 hor9)
          | go_in)
        go_roundw
        case rel => exact ⟨k + 1, m + 1, c9, p9, by omega, by omega, by go_num, rfl, by rw [HTK.out, rcells_append]; exact OT9.out, MC9.out⟩
        case measure => simp [intOf]; omega
    · obtain rfl : k = n := by omega
      rw [HTN.out] at OT
      go_wp2
      go_ret
      exact .mk ⟨u, m, d, rfl, ⟨OT.out.sl, HWFS.out⟩, HM.out⟩
end Go.Proofs.YtpdkkokgpdabhaaDoor
namespace Go.Proofs.YtpdkkokgpdabhaaDoor
open Go.RowKit
set_option linter.unusedSimpArgs false
set_option linter.unusedVariables false
section
variable {P : Program} {ops : Array Oper} {Q : Exit → Act → World → Prop} {md : Region.Mode} {S : World → Prop}

/-- Is there an operation that has not come up yet? -/
def more (ops : Array Oper) (listed : Array Bool) : Bool := (List.range ops.size).any fun k => !listed.getD k true
/-- Does an operation that has not come up yet wait for number i? -/
def sunk (md : Region.Mode) (ops : Array Oper) (listed : Array Bool) (i : Nat) : Bool :=
  (List.range ops.size).any fun k => k != i && !listed.getD k true && Region.waitsFor md ops k i
theorem more_of {k : Nat} {listed : Array Bool} (hk : k < ops.size) (h : listed.getD k true = false) : more ops listed = true := by
  unfold more; rw [List.any_eq_true]; exact ⟨k, List.mem_range.2 hk, by rw [h]; rfl⟩

/-- Whatever order is picked from here on; S holds behind each operation, but the last. -/
def AnyT (P : Program) (md : Region.Mode) (ops : Array Oper) (Q : Exit → Act → World → Prop) (S : World → Prop) : Nat → Array Bool → Act → World → Prop
  | 0, listed, a, w => Region.ready md ops listed = [] ∧ Q .normal a w
  | n + 1, listed, a, w => (Region.ready md ops listed = [] → Q .normal a w) ∧
    ∀ i ∈ Region.ready md ops listed, wpOp P ops Q i (fun a' w' => (more ops (listed.setIfInBounds i true) = true → S w') ∧ AnyT P md ops Q S n (listed.setIfInBounds i true) a' w') a w

theorem AnyT.any : ∀ (n : Nat) (listed : Array Bool) (a : Act) (w : World), AnyT P md ops Q S n listed a w → wpAny P md ops Q n listed a w
  | 0, _, _, _, h => h
  | n + 1, _, _, _, h => ⟨h.1, fun i hi => wpOp_mono (fun a' w' h' => AnyT.any n _ a' w' h'.2) (h.2 i hi)⟩

theorem AnyT.start {id : Nat} {a : Act} {w : World} (hm : P.follows .mixedOrders = true) (hS : S w.drew) (h : S w.drew → AnyT P .any ops Q S ops.size (Array.replicate ops.size false) a w.drew) :
    (Code.region id ops true).wp P Q a w := wp_region_any hm (AnyT.any _ _ _ _ (h hS))

theorem AnyT.first {i k : Nat} {oi : Oper} {v : Value} (hi : ops[i]? = some oi) (hsel : ∀ (j : Nat) (o : Oper) cs b, ops[j]? = some o → o.op ≠ .select cs b)
    (hQ : ∀ c a w, Q (.panic c) (a.put oi.dst v) w → Q (.panic c) a w) (hki : k ≠ i) (hk : Region.waitsFor md ops k i = true) : ∀ (n : Nat) (listed : Array Bool) (a : Act) (w : World),
    (∀ j oj, ops[j]? = some oj → j ≠ i → listed.getD j true = false → (∀ e ∈ oj.after, Region.binds md e = true → e.on ≠ i) → oi.apart ops oj = true) →
    listed.getD k true = false →
    i ∈ Region.ready md ops listed → YieldsIf P ops S oi v a → S w → AnyT P md ops Q S n (listed.setIfInBounds i true) (a.put oi.dst v) w → AnyT P md ops Q S (n + 1) listed a w := by
  obtain ⟨ok, hok, ek, hek, hbk, honk⟩ := Region.waitsFor_spec hk
  have hklt := (Array.getElem?_eq_some_iff.1 hok).1
  intro n
  induction n with
  | zero =>
    intro listed a w _ _ hr hy hS H
    refine ⟨fun h => (by rw [h] at hr; cases hr), fun j hj => ?_⟩
    by_cases hji : j = i
    · subst hji; exact hy.wpOp hi hS ⟨fun _ => hS, H⟩
    · exact absurd H.1 (List.ne_nil_of_mem (ready_mono hj hji))
  | succ n ih =>
    intro listed a w hfree hku hr hy hS H
    refine ⟨fun h => (by rw [h] at hr; cases hr), fun j hj => ?_⟩
    by_cases hji : j = i
    · subst hji; exact hy.wpOp hi hS ⟨fun _ => hS, H⟩
    · have h1 := H.2 j (ready_mono hj hji)
      obtain ⟨hjun, oj, hoj, hall⟩ := mem_ready.1 hj
      have hnot : ∀ e ∈ oj.after, Region.binds md e = true → e.on ≠ i := fun e he hb heq => by
        have g1 := hall e he hb
        have g0 := (mem_ready.1 hr).1
        rw [heq] at g1
        rcases Nat.lt_or_ge i listed.size with h' | h'
        · simp [h'] at g0 g1; rw [g0] at g1; cases g1
        · simp [Array.getElem?_eq_none h'] at g1
      have hkj : j ≠ k := by
        rintro rfl
        obtain rfl : oj = ok := Option.some.inj (hoj.symm.trans hok)
        exact hnot ek hek hbk honk
      have h2 := wpOp_putIf hoj (hfree j oj hoj hji hjun hnot) (fun cs b => hsel i oi cs b hi) (fun cs b => hsel j oj cs b hoj) hQ hy h1
      have hri : i ∈ Region.ready md ops (listed.setIfInBounds j true) := ready_mono hr (Ne.symm hji)
      have hcomm : (listed.setIfInBounds j true).setIfInBounds i true = (listed.setIfInBounds i true).setIfInBounds j true := (Array.setIfInBounds_comm _ _ hji)
      refine wpOp_mono (fun a' w' h3 => ?_) h2
      obtain ⟨hya, hSw, hA⟩ := h3
      have hSw' : S w' := hSw (more_of hklt (by rw [getD_set_ne true hkj, getD_set_ne true (Ne.symm hki)]; exact hku))
      exact ⟨fun _ => hSw', ih (listed.setIfInBounds j true) a' w' (fun k ok hk hki hun hno => hfree k ok hk hki (by
          by_cases hjk : j = k
          · subst hjk; exact hjun
          · rwa [getD_set_ne true hjk] at hun) hno) (by rw [getD_set_ne true hkj]; exact hku) hri hya hSw' (by rw [hcomm]; exact hA)⟩

/-- TAKE NUMBER i FIRST: it only reads, and number k, which has not come up yet, waits for it. -/
theorem AnyT.take {i k n : Nat} {oi : Oper} {v : Value} {listed : Array Bool} {a : Act} {w : World} (hi : ops[i]? = some oi)
    (hs : (Region.noSelect ops && Region.free md ops listed i && (Region.ready md ops listed).contains i && (k != i) && Region.waitsFor md ops k i && !listed.getD k true) = true)
    (hQ : ∀ c a w, Q (.panic c) (a.put oi.dst v) w → Q (.panic c) a w) (hS : S w) (hy : YieldsIf P ops S oi v a)
    (h : AnyT P md ops Q S n (listed.setIfInBounds i true) (a.put oi.dst v) w) : AnyT P md ops Q S (n + 1) listed a w := by
  simp only [Bool.and_eq_true, bne_iff_ne, Bool.not_eq_true'] at hs
  obtain ⟨⟨⟨⟨⟨h1, h2⟩, h3⟩, h4⟩, h5⟩, h6⟩ := hs
  exact AnyT.first hi (Region.noSelect_spec h1) hQ h4 h5 n listed a w (Region.free_spec hi h2) h6 (by simpa using h3) hy hS h

/-- NUMBER i IS THE ONE THAT COMES UP. -/
theorem AnyT.one {i n : Nat} {oi : Oper} {listed : Array Bool} {a : Act} {w : World} (hr : Region.ready md ops listed = [i]) (hi : ops[i]? = some oi)
    (h : ∀ K : Act → World → Prop, (∀ a' w', (more ops (listed.setIfInBounds i true) = true → S w') → AnyT P md ops Q S n (listed.setIfInBounds i true) a' w' → K a' w') →
      if Region.wanted oi (yielded ops a.tmps) = true then oi.wp P a w K Q else K (a.put oi.dst undef) w) : AnyT P md ops Q S (n + 1) listed a w := by
  refine ⟨fun h0 => (by rw [hr] at h0; cases h0), fun j hj => ?_⟩
  rw [hr] at hj
  obtain rfl : j = i := by simpa using hj
  have := h (fun a' w' => (more ops (listed.setIfInBounds j true) = true → S w') ∧ AnyT P md ops Q S n (listed.setIfInBounds j true) a' w') (fun a' w' hs ha => ⟨hs, ha⟩)
  unfold wpOp
  simp only [hi]
  split
  · rename_i hw; rw [if_pos hw] at this; exact Or.inl this
  · rename_i hw; rw [if_neg hw] at this; exact this

/-- .. without a guard: the operation itself. -/
theorem AnyT.run {i n : Nat} {oi : Oper} {listed : Array Bool} {a : Act} {w : World} (hr : Region.ready md ops listed = [i]) (hi : ops[i]? = some oi) (hg : oi.guard = none)
    (h : ∀ K : Act → World → Prop, (∀ a' w', (more ops (listed.setIfInBounds i true) = true → S w') → AnyT P md ops Q S n (listed.setIfInBounds i true) a' w' → K a' w') → oi.wp P a w K Q) : AnyT P md ops Q S (n + 1) listed a w :=
  AnyT.one hr hi fun K hK => by rw [if_pos (by simp [Region.wanted, hg])]; exact h K hK

/-- TWO MAY COME UP. -/
theorem AnyT.two {i j n : Nat} {oi oj : Oper} {listed : Array Bool} {a : Act} {w : World} (hr : Region.ready md ops listed = [i, j]) (hi : ops[i]? = some oi) (hj : ops[j]? = some oj)
    (h1 : ∀ K : Act → World → Prop, (∀ a' w', (more ops (listed.setIfInBounds i true) = true → S w') → AnyT P md ops Q S n (listed.setIfInBounds i true) a' w' → K a' w') → if Region.wanted oi (yielded ops a.tmps) = true then oi.wp P a w K Q else K (a.put oi.dst undef) w)
    (h2 : ∀ K : Act → World → Prop, (∀ a' w', (more ops (listed.setIfInBounds j true) = true → S w') → AnyT P md ops Q S n (listed.setIfInBounds j true) a' w' → K a' w') → if Region.wanted oj (yielded ops a.tmps) = true then oj.wp P a w K Q else K (a.put oj.dst undef) w) :
    AnyT P md ops Q S (n + 1) listed a w := by
  refine ⟨fun h0 => (by rw [hr] at h0; cases h0), fun x hx => ?_⟩
  rw [hr] at hx
  rcases List.mem_cons.1 hx with rfl | hx
  · have := h1 (fun a' w' => (more ops (listed.setIfInBounds x true) = true → S w') ∧ AnyT P md ops Q S n (listed.setIfInBounds x true) a' w') (fun a' w' hs ha => ⟨hs, ha⟩)
    unfold wpOp
    simp only [hi]
    split
    · rename_i hw; rw [if_pos hw] at this; exact Or.inl this
    · rename_i hw; rw [if_neg hw] at this; exact this
  · obtain rfl : x = j := by simpa using hx
    have := h2 (fun a' w' => (more ops (listed.setIfInBounds x true) = true → S w') ∧ AnyT P md ops Q S n (listed.setIfInBounds x true) a' w') (fun a' w' hs ha => ⟨hs, ha⟩)
    unfold wpOp
    simp only [hj]
    split
    · rename_i hw; rw [if_pos hw] at this; exact Or.inl this
    · rename_i hw; rw [if_neg hw] at this; exact this
/-- A step without a guard. -/
theorem run_step {oi : Oper} {a : Act} {w : World} {K : Act → World → Prop} {E : Prop} (hg : oi.guard = none) (h : oi.wp P a w K Q) : if Region.wanted oi (yielded ops a.tmps) = true then oi.wp P a w K Q else E := by
  rw [if_pos (by simp [Region.wanted, hg])]; exact h

/-- ALL HAVE COME UP. -/
theorem AnyT.done {listed : Array Bool} {a : Act} {w : World} (hr : Region.ready md ops listed = []) (h : Q .normal a w) : ∀ n, AnyT P md ops Q S n listed a w
  | 0 => ⟨hr, h⟩
  | n + 1 => ⟨fun _ => h, by rw [hr]; simp⟩
end
end Go.Proofs.YtpdkkokgpdabhaaDoor
