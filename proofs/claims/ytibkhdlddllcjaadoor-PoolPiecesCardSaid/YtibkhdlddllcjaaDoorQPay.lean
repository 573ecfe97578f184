/- The document's side: a piece's page. -/
import Derived.Test.YtibkhdlddllcjaaDoorPoolPay
namespace Go.Proofs.YtibkhdlddllcjaaDoor
open Go.RowKit Go.Maps
set_option linter.unusedSimpArgs false
set_option linter.unusedVariables false

theorem be_drop6 (v : Int) : (be 8 v).drop 6 = be 2 v := by
  rw [be_succ 7, be_succ 6, be_succ 5, be_succ 4, be_succ 3, be_succ 2]; rfl
theorem Tl.of_key {w w' : World} {p : Option Addr} {n c : Nat} {l : List Int} (h : w'.ownsRow w.heap.size 5 1 (.slice p n c) n (bs l)) : Tl w' w.heap.size 1 p n c (bs l) := Tl.of_own h (bs_one _)
/-- What a call has just made lies in no block that was there. -/
theorem Tl.apart {w w' : World} {b1 s1 s2 n1 c1 n2 c2 : Nat} {q p : Option Addr} {x1 x2 : List Value} (h : Tl w b1 s1 q n1 c1 x1) (h2 : Tl w' w.heap.size s2 p n2 c2 x2) : ∀ a, p = some a → a.block ∉ (q.map (·.block)).toList := by
  intro a ha hm
  have h1 := (h2.own a ha).2.1
  cases q with
  | none => simp at hm
  | some e => simp at hm; have := (h.own e rfl).2.2; omega
theorem Tl.turned {w w' w2 : World} {base s n c : Nat} {q : Option Addr} {x : List Value} (h : Tl w base s q n c x) {w0 : World} (hb : w0.heap.size = base) (hm : Mod (q.map (·.block)).toList w w') (h0 : Mod [] w0 w) : Mod [] w0 w' :=
  h0.trans hm fun b hb2 => Or.inr (by
    cases q with
    | none => simp at hb2
    | some e => simp at hb2; have := (h.own e rfl).2.1; omega)
theorem Tl.sub_key {w : World} {base : Nat} {p : Option Addr} {c : Nat} {l : List Int} (h : Tl w base 1 p 8 c (bs l)) (lo k : Nat) (hk : lo + k = 8) (hpos : 0 < k) (d : Int) (hd : d = lo) :
    ∃ p', (∀ W, (Instr.slice 23 (.slice p 8 c) (some (.int .i64 d)) none none).run Tryd.prog W = .ok (.slice p' k (c - lo)) W) ∧ Tl w base 1 p' k (c - lo) (bs (l.drop lo)) ∧ p'.map (·.block) = p.map (·.block) := by
  have hle := h.sl.le
  obtain ⟨p', r, t, e⟩ := h.sub_l Tryd.underlying23 sizeBytes lo .i64 (by omega) (by omega)
  subst hd
  rw [show 8 - lo = k from by omega] at r t
  refine ⟨p', r, ?_, e⟩
  rw [Nat.mul_one] at t
  simpa [bs, List.map_drop] using t

def PayT (l : List Int) (w : World) (v : Value) (w' : World) : Prop := ∃ p n c, v = .slice p n c ∧ n = l.length ∧ (p = none ↔ l = []) ∧ Tl w' w.heap.size 1 p n c (bs l) ∧ Mod [] w w'
set_option maxRecDepth 100000 in
set_option maxHeartbeats 4000000 in
theorem qpay_any (p : Option Addr) (n c : Nat) (l : List (Int × Int)) (next : Int) (w : World) (h : Sl w 2 p n c (fcells l)) (hg : ∀ q ∈ l, 0 ≤ q.2 ∧ q.2 < 18446744073709551616) :
    Calls Tryd.prog 8 #[.slice p n c, .int .i64 next] w (Ret (PayT (payO l next) w)) := by
  have hln : l.length = n := by have := h.len; rw [fcells_len] at this; omega
  have hcm := h.capm; have hle := h.le
  unfold maxLen at hcm
  have H := Lib.hid h
  have HG := Lib.hid hg
  have HLN := Lib.hid hln
  clear h hg hln
  by_cases h84 : n ≤ 84
  · have hgt : ((84 : Int) < (n : Int)) = False := by simp; omega
    by_cases hnx : 0 ≤ next ∧ next ≤ 2147483647
    · have hn0 : (next < 0) = False := by simp; omega
      have hn1 : (2147483647 < next) = False := by simp; omega
      have hwr : IntKind.u64.wrap next = next := by rw [IntKind.wrap_u64]; omega
      have hwn : IntKind.u64.wrap (n : Int) = (n : Int) := by rw [IntKind.wrap_u64]; omega
      have HNX : Hid (mayPg next = true) := by unfold Hid mayPg; simp; omega
      obtain ⟨i0, hi0, hz0, hz1, hz2⟩ := info_parts infoU8
      go_enter Tryd.func8, Tryd.ntmps8
      go_wp2_with fail
      refine (qkey_any (n : Int) _ (by omega) (by omega)).mono ?_
      rintro _ w1 ⟨_, rfl, p1, n1, c1, rfl, e1, s1, m1⟩
      obtain rfl : n1 = 8 := by rw [e1, be_len]
      obtain ⟨p2, r2, t2, _⟩ := (Tl.of_key s1).sub_key 6 2 rfl (by omega) 6 rfl
      rw [be_drop6] at t2
      have T2 := Lib.hid t2
      have M1 := Lib.hid m1
      have hc6 : 8 ≤ c1 := (Tl.of_key s1).sl.le
      clear e1 s1 m1 t2
      go_wp2_with fail
      refine (qkey_any next _ (by omega) (by omega)).mono ?_
      rintro _ w3 ⟨_, rfl, p3, n3, c3, rfl, e3, s3, m3⟩
      obtain rfl : n3 = 8 := by rw [e3, be_len]
      obtain ⟨p4, r4, t4, _⟩ := (Tl.of_key s3).sub_key 4 4 rfl (by omega) 4 rfl
      rw [be_drop] at t4
      have T4 := Lib.hid t4
      have M3 : Hid (Mod [] w w3) := M1.out.same m3
      have T3 := Lib.hid (T2.out.mod m3 (by simp))
      have hsz3 : w.heap.size ≤ w3.heap.size := M3.out.size
      clear e3 s3 m3 t4 T2
      go_wp2_with (first
        | (at_builtin; go_must (refine wpList_append_tl _ rfl _ _ _ rfl w.heap.size 5 i0 _ 1 1 Tryd.underlying23 hi0 hz0 hz1 hz2 rfl (by omega) _ _ _ _ rfl T3.out _ _ _ _ rfl T4.out.sl 6 rfl (by unfold maxLen; omega) (by omega) hsz3 ?_); intro p5 c5 w5 ht5 hm5 hnil5 hor5; (have T5 := Lib.hid ht5); (have HM5 := Lib.hid hm5); (have hp5 : Hid (p5 ≠ none) := fun e => by have := (hnil5.1 e).2; cases this); clear ht5 hm5 hnil5 hor5)
        | go_in)
      have M5 : Hid (Mod [] w w5) := T3.out.turned (w2 := w) rfl HM5.out M3.out
      rw [← bs_append] at T5
      clear HM5 T3 T4 M3 M1 hsz3
      go_wp2
      go_loopw [5, 6] (fun o i wr => ∃ (k m d : Nat) (q : Option Addr), k ≤ n ∧ i = .int .i64 k ∧ o = .slice q m d ∧ m = 6 + 12 * k ∧ q ≠ none ∧ (∀ j, j < k → mayPg (l.getD j (0, 0)).1 = true) ∧ Tl wr w.heap.size 1 q m d (bs (be 2 (n : Int) ++ be 4 next ++ body (l.take k))) ∧ Mod [] w wr) (fun _ i _ => n - (intOf i).toNat)
      case atStart => exact ⟨0, 6, c5, p5, by omega, rfl, rfl, by omega, hp5.out, by omega, by simpa [body] using T5.out, M5.out⟩
      case round =>
        clear T5 M5 hp5 r2 r4
        obtain ⟨k, m, d, q, hk, rfl, rfl, hm, hq, hall, ht, hmd⟩ := hrel
        have OT := Lib.hid ht
        have MC := Lib.hid hmd
        have HMM := Lib.hid hm
        have hq' := Lib.hid hq
        have HA := Lib.hid hall
        have hml : m ≤ 2000 := by omega
        clear ht hmd hm hq hall
        by_cases hlt : k < n
        · have hkl : k < l.length := by rw [HLN.out]; exact hlt
          obtain ⟨g1, g2⟩ := fcells_get l k hkl
          obtain ⟨b, off, rfl, hblt, hcs⟩ := H.out.addr (by omega)
          have hidx := fun W => Sl.idx (P := Tryd.prog) (cap := c) (p := some ⟨b, off, none⟩) Tryd.underlying22 sizeFreed (fun _ => rfl) W .i64 k hlt
          have w0 := hcs _ _ g1
          have w1 := hcs _ _ g2
          rw [← Nat.add_assoc] at w1
          have d0 := w0
          have d1 := w1
          rw [← MC.out.cell (a := ⟨b, _, none⟩) hblt (by simp)] at d0 d1
          have HSN := Lib.hid (payl_snoc l next k hkl)
          have hy0 : 0 ≤ (l.getD k (0, 0)).2 ∧ (l.getD k (0, 0)).2 < 18446744073709551616 := by
            rw [getD_at hkl]; exact HG.out _ (List.getElem_mem hkl)
          have HMEM : Hid (∃ z ∈ l, z.1 = (l.getD k (0, 0)).1) := ⟨l[k], List.getElem_mem hkl, by rw [getD_at hkl]⟩
          rw [HLN.out] at HSN
          obtain ⟨x, hx⟩ : ∃ x, x = (l.getD k (0, 0)).1 := ⟨_, rfl⟩
          obtain ⟨y, hy⟩ : ∃ y, y = (l.getD k (0, 0)).2 := ⟨_, rfl⟩
          rw [← hx] at w0 d0
          rw [← hy] at w1 d1
          rw [← hx, ← hy] at HSN
          rw [← hy] at hy0
          have HX := Lib.hid hx
          clear hcs g1 g2 hx hy
          by_cases hxm : 0 ≤ x ∧ x ≤ 2147483647
          · have hx0 : decide (x < 0) = false := decide_eq_false (by omega)
            have hx1 : decide (2147483647 < x) = false := decide_eq_false (by omega)
            have hwx : IntKind.u64.wrap x = x := by rw [IntKind.wrap_u64]; omega
            clear hkl
            have W0 := Lib.hid w0
            have W1 := Lib.hid w1
            clear w0 w1
            go_wp2
            replace MC : Hid (Mod [] w wr.drew) := MC.out.drew
            replace OT : Hid (Tl wr.drew w.heap.size 1 q m d (bs (be 2 (n : Int) ++ be 4 next ++ body (l.take k)))) := OT.out.mod (Mod.of_drew wr) (by simp)
            go_region_held3 (fun w' => w'.cell? ⟨b, off + k * 2, none⟩ = some (.int .i64 x) ∧ w'.cell? ⟨b, off + k * 2 + 1, none⟩ = some (.int .u64 y))
              (first
                | go_keep
                | (exact ⟨(MC.out.cell (a := ⟨b, off + k * 2, none⟩) hblt (by simp)).trans W0.out, (MC.out.cell (a := ⟨b, off + k * 2 + 1, none⟩) hblt (by simp)).trans W1.out⟩)
                | fail)
              (first
                | (go_at_call 22; (with_reducible refine (qkey_any x _ (by omega) (by omega)).mono ?_); rintro _ w5 ⟨_, rfl, p5, n5, c5, rfl, e5, s5, m5⟩; (obtain rfl : n5 = 8 := by rw [e5, be_len]); (obtain ⟨p6, r6, t6, _⟩ := (Tl.of_key s5).sub_key 4 4 rfl (by omega) 4 rfl); (have T5 := Lib.hid t6.sl); (replace MC := Lib.hid (MC.out.same m5)); (replace OT := Lib.hid (OT.out.mod m5 (by simp))); (try replace T7 := Lib.hid (T7.out.mod m5 (by simp))); clear e5 s5 m5 t6)
                | (go_at_call 22; (with_reducible refine (qkey_any y _ (by omega) (by omega)).mono ?_); rintro _ w7 ⟨_, rfl, p7, n7, c7, rfl, e7, s7, m7⟩; (obtain rfl : n7 = 8 := by rw [e7, be_len]); (have N7 := Lib.hid (OT.out.apart (Tl.of_key s7))); (have T7 := Lib.hid (Tl.of_key s7)); (replace MC := Lib.hid (MC.out.same m7)); (replace OT := Lib.hid (OT.out.mod m7 (by simp))); (try replace T5 := Lib.hid (T5.out.mod m7 (by simp))); clear e7 s7 m7)
                | (refine step_append_tl _ (by rfl) _ _ _ (by rfl) w.heap.size 5 i0 _ 1 1 Tryd.underlying23 hi0 hz0 hz1 hz2 rfl (by omega) _ _ _ _ (by rfl) OT.out _ _ _ _ (by rfl) T5.out (m + 4) rfl (by unfold maxLen; omega) (by omega) MC.out.size ?_; intro p8 c8 w8 ht8 hm8 hnil8 hor8; (have hp8 : Hid (p8 ≠ none) := fun e => by have := (hnil8.1 e).2; cases this); (replace MC := Lib.hid (OT.out.turned (w2 := w) rfl hm8 MC.out)); (try replace T7 := Lib.hid (T7.out.mod hm8 N7.out)); (replace OT := Lib.hid ht8); clear ht8 hm8 hnil8 hor8)
                | (refine step_append_tl _ (by rfl) _ _ _ (by rfl) w.heap.size 5 i0 _ 1 1 Tryd.underlying23 hi0 hz0 hz1 hz2 rfl (by omega) _ _ _ _ (by rfl) OT.out _ _ _ _ (by rfl) T7.out.sl (m + 4 + 8) rfl (by unfold maxLen; omega) (by omega) MC.out.size ?_; intro p9 c9 w9 ht9 hm9 hnil9 hor9; (have hp9 : Hid (p9 ≠ none) := fun e => by have := (hnil9.1 e).2; cases this); (replace MC := Lib.hid (OT.out.turned (w2 := w) rfl hm9 MC.out)); (replace OT := Lib.hid ht9); clear ht9 hm9 hnil9 hor9)
                | fail)
            all_goals
              rw [← bs_append, ← bs_append, List.append_assoc, be_drop, HSN.out] at OT
              go_wp2
              go_roundw
              case rel => exact ⟨k + 1, m + 4 + 8, c9, p9, by omega, by go_num, rfl, by have := HMM.out; omega, hp9.out, (fun j hj => by
                rcases Nat.lt_succ_iff_lt_or_eq.1 hj with h | rfl
                · exact HA.out j h
                · rw [← HX.out]; unfold mayPg; exact decide_eq_true hxm), OT.out, MC.out⟩
              case measure => simp [intOf]; omega
          · have HP : Hid (payO l next = []) := payO_nil.2 (by
              have : mayL l = false := by
                unfold mayL; rw [List.all_eq_false]
                obtain ⟨z, hz, e⟩ := HMEM.out
                exact ⟨z, hz, by rw [e, ← HX.out]; unfold mayPg; simp; omega⟩
              unfold mayPay; rw [this]; simp)
            clear hkl w0 w1
            by_cases hx0 : x < 0
            · have hb : decide (x < 0) = true := decide_eq_true hx0
              go_wp2
              go_ret
              exact .mk ⟨none, 0, 0, rfl, by rw [HP.out]; rfl, by rw [HP.out]; simp, by rw [HP.out]; exact Tl.none' _ _ _, MC.out⟩
            · have hb : decide (x < 0) = false := decide_eq_false hx0
              have hb1 : decide (2147483647 < x) = true := decide_eq_true (by omega)
              go_wp2
              go_ret
              exact .mk ⟨none, 0, 0, rfl, by rw [HP.out]; rfl, by rw [HP.out]; simp, by rw [HP.out]; exact Tl.none' _ _ _, MC.out⟩
        · obtain rfl : k = n := by omega
          have HP : Hid (payO l next = payl l next) := by
            unfold Hid payO
            rw [if_pos]
            have hL : mayL l = true := by
              unfold mayL; rw [List.all_eq_true]
              intro z hz
              obtain ⟨j, hj, rfl⟩ := List.mem_iff_getElem.1 hz
              have := HA.out j (by rw [← HLN.out]; exact hj)
              rwa [getD_at hj] at this
            unfold mayPay; rw [hL, HNX.out, decide_eq_true (by rw [HLN.out]; exact h84)]; rfl
          have HT : Hid (be 2 (k : Int) ++ be 4 next ++ body (l.take k) = payO l next) := by
            rw [HP.out]; unfold Hid payl; rw [HLN.out, List.take_of_length_le (by rw [HLN.out]; omega)]
          have HL : Hid (m = (payO l next).length) := by unfold Hid; rw [HP.out, payl_len, HLN.out]; exact HMM.out
          rw [HT.out] at OT
          go_wp2
          go_ret
          exact .mk ⟨q, m, d, rfl, HL.out, ⟨fun e => absurd e hq'.out, fun e => by have := HL.out; rw [e] at this; have := HMM.out; simp at *; omega⟩, OT.out, MC.out⟩
    · have HP : Hid (payO l next = []) := payO_nil.2 (by unfold mayPay mayPg; rw [decide_eq_false hnx]; simp)
      by_cases hn0 : next < 0
      · go_enter Tryd.func8, Tryd.ntmps8
        go_wp2
        go_ret
        exact .mk ⟨none, 0, 0, rfl, by rw [HP.out]; rfl, by rw [HP.out]; simp, by rw [HP.out]; exact Tl.none' _ _ _, Mod.refl _ _⟩
      · have hn1 : 2147483647 < next := by omega
        go_enter Tryd.func8, Tryd.ntmps8
        go_wp2
        go_ret
        exact .mk ⟨none, 0, 0, rfl, by rw [HP.out]; rfl, by rw [HP.out]; simp, by rw [HP.out]; exact Tl.none' _ _ _, Mod.refl _ _⟩
  · have HP : Hid (payO l next = []) := payO_nil.2 (by unfold mayPay; rw [decide_eq_false (by rw [HLN.out]; exact h84)]; rfl)
    have hgt : ((84 : Int) < (n : Int)) = True := by simp; omega
    go_enter Tryd.func8, Tryd.ntmps8
    go_wp2
    go_ret
    exact .mk ⟨none, 0, 0, rfl, by rw [HP.out]; rfl, by rw [HP.out]; simp, by rw [HP.out]; exact Tl.none' _ _ _, Mod.refl _ _⟩
end Go.Proofs.YtibkhdlddllcjaaDoor
