/- What a branch's page says. -/
import Derived.Test.YtgimdodbajhpoaaGreatDoorG39
namespace Go.Proofs.YtgimdodbajhpoaaGreatDoor
open Go.RowKit Go.Maps
set_option linter.unusedSimpArgs false
set_option linter.unusedVariables false

/-- An append onto a full slice of bytes: a new row. -/
theorem oper_append_full {w : World} {o : Oper} {a : Act} {K : Act → World → Prop} {Q : Exit → Act → World → Prop} (s x : Operand)
    (ho : o.op = .call { callee := .builtin .append, args := #[s, x], argTypes := #[40, 40] }) {p q : Option Addr} {n m d : Nat} {l k : List Int}
    (hs : a.eval s = .slice p n n) (hsl : Sl w 1 p n n (bs l)) (hx : a.eval x = .slice q m d) (hq : Sl w 1 q m d (bs k)) (hp : p ≠ none) (hm : 0 < m) (hN : n + m ≤ 1000000)
    (h : ∀ c' w', Sl w' 1 (some ⟨w.heap.size, 0, none⟩) (n + m) c' (bs (l ++ k)) → Mod [] w w' → K (a.put o.dst (.slice (some ⟨w.heap.size, 0, none⟩) (n + m) c')) w') : o.wp Tryz.prog a w K Q := by
  obtain ⟨i0, hi0, hz0, hz1, hz2⟩ := info_parts infoU8
  obtain ⟨b, off, rfl, _, hc⟩ := hq.addr hm
  obtain ⟨pa, rfl⟩ := Option.ne_none_iff_exists'.1 hp
  have hll : l.length = n := by have := hsl.len; rw [bs_len] at this; omega
  have hkl : k.length = m := by have := hq.len; rw [bs_len] at this; omega
  have hr := run_append_grow (P := Tryz.prog) (w := w) 40 o.type 5 i0 (.int .u8 0) Tryz.underlying40 hi0 hz0 pa n n (bs l) (by rw [bs_len, hz1]; omega) (fun j v hj => by
      have hj2 := (List.getElem?_eq_some_iff.1 hj).1
      rw [bs_len] at hj2
      obtain ⟨b', o', hp', _, hc'⟩ := hsl.addr (by omega)
      cases hp'
      rw [add_plain]; exact hc' j v hj) ⟨b, off, none⟩ m d (bs k) (by rw [bs_len, hz1]; omega) (fun j v hj => by rw [add_plain]; exact hc j v hj) (by omega) (by omega) (by rw [hz2]; exact growslice_fits (by omega) (by omega))
  have hge := grownCap_ge w (n + m) n 5
  have hcm : grownCap w (n + m) n 5 ≤ maxLen := grownCap_le_maxLen w (n + m) n 5 (by unfold maxLen; omega)
  have hcz : (Value.int IntKind.u8 0).cells = #[Value.int IntKind.u8 0] := rfl
  unfold Oper.wp execOp
  simp only [ho, resolve, invoke, builtin, Sem.run_bind, Sem.run_pure, Result.andThen_ok, List.map_toArray, List.map_cons, List.map_nil, hs, hx, hr]
  refine h _ _ ⟨by rw [bs_len, List.length_append]; omega, hge, hcm, bs_one _, w.heap.size, 0, fun _ => ⟨rfl, by simp⟩, fun j u hj => ?_⟩ ((Mod.of_drew w).alloc)
  have h9 : (w.drew.alloc (.cells ((bs l).toArray ++ (bs k).toArray ++ Builtin.zeroCells (Value.int IntKind.u8 0).cells (grownCap w (n + m) n 5 - (n + m))) 5)).heap[w.heap.size]? = some (.cells ((bs l).toArray ++ (bs k).toArray ++ Builtin.zeroCells (Value.int IntKind.u8 0).cells (grownCap w (n + m) n 5 - (n + m))) 5 (0, 0)) := at_alloc w.drew _
  rw [cell_of_at h9, Nat.zero_add]
  rw [bs_append] at hj
  have hj2 := (List.getElem?_eq_some_iff.1 hj).1
  rw [Array.getElem?_append_left (by simpa using hj2)]
  simpa using hj

def brPart (ks : List (List Int)) (kids : List Int) (j : Nat) : List Int := ((ks.getD j []).length : Int) :: (ks.getD j [] ++ be 4 (kids.getD (j + 1) 0))
def brBody (ks : List (List Int)) (kids : List Int) (i : Nat) : List Int := (List.range i).flatMap (brPart ks kids)
theorem brBody_succ (ks : List (List Int)) (kids : List Int) (i : Nat) : brBody ks kids (i + 1) = brBody ks kids i ++ brPart ks kids i := by unfold brBody; rw [List.range_succ, List.flatMap_append]; simp
def brHead (ks : List (List Int)) (kids : List Int) : List Int := 2 :: (be 2 ks.length ++ be 4 (kids.getD 0 0))
def brBytes (ks : List (List Int)) (kids : List Int) : List Int := brHead ks kids ++ brBody ks kids ks.length
def payBr (ks : List (List Int)) (kids : List Int) : List Int := if mayBr ks kids = true then brBytes ks kids else []
theorem brPart_len (ks : List (List Int)) (kids : List Int) (j : Nat) : (brPart ks kids j).length = 5 + (ks.getD j []).length := by simp [brPart, be_len]; omega
theorem brBody_len (ks : List (List Int)) (kids : List Int) : ∀ i, i ≤ ks.length → (brBody ks kids i).length = ksum (ks.take i)
  | 0, _ => by simp [brBody, ksum]
  | i + 1, h => by
    rw [brBody_succ, List.length_append, brBody_len ks kids i (by omega), brPart_len, ksum_take (by omega), getD_at (by omega)]
theorem brBytes_len (ks : List (List Int)) (kids : List Int) : (brBytes ks kids).length = brLen ks := by
  unfold brBytes brHead brLen
  rw [List.length_append, brBody_len _ _ _ (Nat.le_refl _), List.take_length]
  simp [be_len]
theorem payBr_len (ks : List (List Int)) (kids : List Int) : (payBr ks kids).length ≤ 1016 := by
  unfold payBr; split
  · rename_i h
    rw [brBytes_len]
    simp only [mayBr, Bool.and_eq_true, decide_eq_true_eq] at h; exact h.2
  · simp
theorem mayBr_spec {ks : List (List Int)} {kids : List Int} (h : mayBr ks kids = true) : riseL ks = true ∧ kids.length = ks.length + 1 ∧ (∀ x ∈ kids, 2 ≤ x ∧ x ≤ 2147483647) ∧ brLen ks ≤ 1016 := by
  simp only [mayBr, Bool.and_eq_true, decide_eq_true_eq, List.all_eq_true, mayPgN] at h
  exact ⟨h.1.1.1, h.1.1.2, h.1.2, h.2⟩
def bpayR (B KB KO : Nat) (p : Option Addr) (n c : Nat) (q : Option Addr) (d : Nat) (k0 : Int) (HB : List Int) (oi : Nat) (v : Value) (w : World) : Prop :=
  match oi with
  | 0 => v = .pointer (some ⟨B, 0, none⟩)
  | 1 => v = .pointer (some ⟨B, 0, none⟩)
  | 2 => v = .pointer (some ⟨B, 0, none⟩)
  | 3 => v = .slice p n c
  | 4 => v = .int .i64 n
  | 5 => v = .int .i64 ((n : Int) / 256)
  | 6 => v = .int .u8 ((n : Int) / 256)
  | 7 => v = .pointer (some ⟨B, 0, none⟩)
  | 8 => v = .pointer (some ⟨B, 0, none⟩)
  | 9 => v = .pointer (some ⟨B, 0, none⟩)
  | 10 => v = .slice p n c
  | 11 => v = .int .i64 n
  | 12 => v = .int .u8 ((n : Int) % 256)
  | 13 => ∃ p, v = .slice p 3 3 ∧ Sl w 1 p 3 3 (bs [2, (n : Int) / 256, (n : Int) % 256]) ∧ p ≠ none
  | 14 => v = .pointer (some ⟨B, 0, none⟩)
  | 15 => v = .pointer (some ⟨B, 0, none⟩)
  | 16 => v = .pointer (some ⟨B, 1, none⟩)
  | 17 => v = .slice q (n + 1) d
  | 18 => v = .pointer (some ⟨KB, KO, none⟩)
  | 19 => v = .int .i64 k0
  | 20 => v = .int .u32 k0
  | 21 => ∃ p c, v = .slice p 4 c ∧ Sl w 1 p 4 c (bs (be 4 k0)) ∧ p ≠ none
  | 22 => ∃ p c, v = .slice p 7 c ∧ Sl w 1 p 7 c (bs HB) ∧ p ≠ none
  | 23 => ∃ p c, v = .slice p 7 c ∧ Sl w 1 p 7 c (bs HB) ∧ p ≠ none
  | _ => True
theorem bpayR_keep {B KB KO : Nat} {p : Option Addr} {n c : Nat} {q : Option Addr} {d : Nat} {k0 : Int} {HB : List Int} {oi : Nat} {v : Value} {w w' : World} (hm : Mod [] w w') (hr : bpayR B KB KO p n c q d k0 HB oi v w) : bpayR B KB KO p n c q d k0 HB oi v w' := by
  have hk := Keep.of_mod hm
  unfold bpayR at hr ⊢
  split at hr
  · exact hr
  · exact hr
  · exact hr
  · exact hr
  · exact hr
  · exact hr
  · exact hr
  · exact hr
  · exact hr
  · exact hr
  · exact hr
  · exact hr
  · exact hr
  · obtain ⟨p, h1, h2, h3⟩ := hr; exact ⟨p, h1, h2.keep hk, h3⟩
  · exact hr
  · exact hr
  · exact hr
  · exact hr
  · exact hr
  · exact hr
  · exact hr
  · obtain ⟨p, c, h1, h2, h3⟩ := hr; exact ⟨p, c, h1, h2.keep hk, h3⟩
  · obtain ⟨p, c, h1, h2, h3⟩ := hr; exact ⟨p, c, h1, h2.keep hk, h3⟩
  · obtain ⟨p, c, h1, h2, h3⟩ := hr; exact ⟨p, c, h1, h2.keep hk, h3⟩
  · trivial
set_option maxRecDepth 100000 in
set_option maxHeartbeats 8000000 in
theorem brpay_any (B : Nat) (ks : List Bv) (kids : List Int) (w : World) (h : BrAt w B ks kids) (hb : brLen (ks.map Bv.l) ≤ 1000000000000) :
    Calls Tryz.prog 118 #[.pointer (some ⟨B, 0, none⟩)] w (Ret (NPayR (payBr (ks.map Bv.l) kids) w)) := by
  have HMAY := Lib.hid (brmay_any B ks kids w h (by omega))
  obtain ⟨p, n, c, q, m, d, hat, hx, hy⟩ := h
  have hxl := hx.len
  have hyl : kids.length = m := by have := hy.len; simpa using this
  have HP0 : Hid (mayBr (ks.map Bv.l) kids = false → payBr (ks.map Bv.l) kids = []) := fun h => by unfold payBr; rw [h]; rfl
  have HP1 : Hid (mayBr (ks.map Bv.l) kids = true → payBr (ks.map Bv.l) kids = brBytes (ks.map Bv.l) kids) := fun h => by unfold payBr; rw [if_pos h]
  have HSP : Hid (mayBr (ks.map Bv.l) kids = true → n ≤ 250 ∧ m = n + 1 ∧ brLen (ks.map Bv.l) ≤ 1016 ∧ (∀ (i : Nat) k, (ks.map Bv.l)[i]? = some k → k.length ≤ 100) ∧ ∀ (i : Nat) x, kids[i]? = some x → 2 ≤ x ∧ x ≤ 2147483647) := fun h => by
    obtain ⟨h1, h2, h3, h4⟩ := mayBr_spec h
    have h5 := ksum_len (ks.map Bv.l)
    rw [List.length_map, hxl] at h5 h2
    refine ⟨by unfold brLen at h4; omega, by omega, h4, fun i k hk => (riseL_key h1 (List.mem_of_getElem? hk)).2, fun i x hx => h3 x (List.mem_of_getElem? hx)⟩
  obtain ⟨b, off, hp, hcs⟩ := hx.sl.at_
  have hcm := hx.sl.capm; have hle := hx.sl.le
  unfold maxLen at hcm
  have hidx := fun W => Sl.idx (P := Tryz.prog) (cap := c) Tryz.underlying23 sizeRows (fun h => (hp h).1) W .i64
  simp only [Nat.mul_one] at hidx
  have HLT : Hid (0 < n → b < w.heap.size) := fun h => (hp h).2
  have HG := Lib.hid (fun i hi => hx.get hcs i hi)
  obtain ⟨KB, KO, hkp, hkc⟩ := hy.at_
  have hcm2 := hy.capm; have hle2 := hy.le
  unfold maxLen at hcm2
  have hidk := fun W => Sl.idx (P := Tryz.prog) (cap := d) Tryz.underlying24 sizeKids (fun h => (hkp h).1) W .i64
  simp only [Nat.mul_one] at hidk
  have HLT2 : Hid (0 < m → KB < w.heap.size) := fun h => (hkp h).2
  have HGK : Hid (∀ i, i < m → ∃ x, kids[i]? = some x ∧ kids.getD i 0 = x ∧ w.cell? ⟨KB, KO + i, none⟩ = some (.int .i64 x)) := fun i hi => by
    have hk : i < kids.length := by omega
    exact ⟨_, List.getElem?_eq_getElem hk, getD_at hk, hkc i _ (by rw [List.getElem?_map, List.getElem?_eq_getElem hk]; rfl)⟩
  have HLN : Hid ((ks.map Bv.l).length = n) := by unfold Hid; rw [List.length_map]; exact hxl
  have HLB : Hid (brBytes (ks.map Bv.l) kids = 2 :: (be 2 n ++ be 4 (kids.getD 0 0)) ++ brBody (ks.map Bv.l) kids n) := by unfold Hid brBytes brHead; rw [HLN.out]
  have HBL : Hid (∀ i, i ≤ n → (brBody (ks.map Bv.l) kids i).length = ksum ((ks.map Bv.l).take i)) := fun i hi => brBody_len _ _ i (by rw [HLN.out]; exact hi)
  have HLE := Lib.hid (ksum_take_le (ks.map Bv.l))
  have HST : Hid (∀ i k, (ks.map Bv.l)[i]? = some k → ksum ((ks.map Bv.l).take (i + 1)) = ksum ((ks.map Bv.l).take i) + (5 + k.length) ∧ brBody (ks.map Bv.l) kids (i + 1) = brBody (ks.map Bv.l) kids i ++ ((k.length : Int) :: (k ++ be 4 (kids.getD (i + 1) 0)))) := fun i k h => by
    obtain ⟨h1, h2⟩ := List.getElem?_eq_some_iff.1 h
    refine ⟨by rw [ksum_take h1, h2], ?_⟩
    rw [brBody_succ]; unfold brPart; rw [getD_at h1, h2]
  have HAT := Lib.hid hat
  generalize ks.map Bv.l = ls at *
  clear hat hx hy hp hcs hxl hyl hkp hkc hb
  go_enter Tryz.func118, Tryz.ntmps118
  go_wp2_with fail
  refine HMAY.out.mono ?_
  rintro _ w1 ⟨_, rfl, rfl, m1⟩
  have HM1 := Lib.hid m1
  have HAT1 := Lib.hid (m1.at HAT.out (by simp))
  clear m1 HMAY HAT
  cases hB : mayBr ls kids with
  | false =>
    have HP := Lib.hid (HP0.out hB)
    clear hB
    go_wp2
    go_ret
    exact .mk ⟨none, 0, 0, rfl, by rw [HP.out]; rfl, by rw [HP.out]; simp, by rw [HP.out]; exact Sl.nil _ _, HM1.out⟩
  | true =>
    have HP := Lib.hid (HP1.out hB)
    obtain ⟨hn4, hmn, hlb, hkl, hkd⟩ := HSP.out hB
    subst hmn
    have HKL := Lib.hid hkl
    have HKD := Lib.hid hkd
    have hlb2 : 7 + ksum ls ≤ 1016 := hlb
    have HB2 := Lib.hid (be2_of (n := n) (by omega) (by omega))
    have hb0 : w1.cell? ⟨B, 0, none⟩ = some (.slice p n c) := cell_of_at HAT1.out 0
    have hb1 : w1.cell? ⟨B, 1, none⟩ = some (.slice q (n + 1) d) := cell_of_at HAT1.out 1
    have hBl : B < w1.heap.size := lt_of_at HAT1.out
    have hw8 : IntKind.u8.wrap ((n : Int) / 256) = (n : Int) / 256 := by rw [IntKind.wrap_u8]; omega
    have hw9 : IntKind.u8.wrap (n : Int) = (n : Int) % 256 := IntKind.wrap_u8 _
    obtain ⟨k0, hk00, hkg0, hk0⟩ := HGK.out 0 (by omega)
    obtain ⟨hk1, hk2⟩ := HKD.out 0 k0 hk00
    have hKBl' : KB < w.heap.size := HLT2.out (by omega)
    have hKBl : KB < w1.heap.size := Nat.lt_of_lt_of_le hKBl' HM1.out.size
    rw [← HM1.out.cell (a := ⟨KB, _, none⟩) hKBl' (by simp), Nat.add_zero] at hk0
    have hik0 := fun W => hidk W 0 (by omega)
    simp only [Nat.add_zero, show ((0 : Nat) : Int) = 0 from rfl] at hik0
    have hwk : IntKind.u32.wrap k0 = k0 := by rw [IntKind.wrap_u32]; omega
    obtain ⟨HB, hHB⟩ : ∃ HB, HB = 2 :: (be 2 n ++ be 4 (kids.getD 0 0)) := ⟨_, rfl⟩
    have HHB : Hid ([2, (n : Int) / 256, (n : Int) % 256] ++ be 4 k0 = HB) := by unfold Hid; rw [hHB, HB2.out, hkg0]; rfl
    have HHBE := Lib.hid hHB
    clear hB HP0 HP1 HSP hkl hkd hlb hk00 hkg0 hHB
    go_wp2
    refine par_region (by kernel_rfl) (fun oi vs w => bpayR B KB KO p n c q d k0 HB oi (vs oi) w) (fun w' => Mod [] w1 w') (by kernel_rfl) (fun j vs vs' w o _ h1 _ h2 => by rw [← h1]; exact h2) ⟨⟨⟨⟨⟨⟨⟨⟨⟨⟨⟨⟨⟨⟨⟨⟨⟨⟨⟨⟨⟨⟨⟨⟨trivial, ?_⟩, ?_⟩, ?_⟩, ?_⟩, ?_⟩, ?_⟩, ?_⟩, ?_⟩, ?_⟩, ?_⟩, ?_⟩, ?_⟩, ?_⟩, ?_⟩, ?_⟩, ?_⟩, ?_⟩, ?_⟩, ?_⟩, ?_⟩, ?_⟩, ?_⟩, ?_⟩, ?_⟩ (Mod.of_drew w1) ?_
    · intro o ho listed vs a w' inv hun haft K hK
      obtain rfl := Option.some.inj ho
      refine par_run rfl ?_
      have e0 := inv.old 0 (by kernel_rfl)
      have INV := Lib.hid inv
      clear inv haft hun ho
      simp at e0
      go_simp
      exact hK _ _ INV.out.inv INV.out.val rfl
    · intro o ho listed vs a w' inv hun haft K hK
      obtain rfl := Option.some.inj ho
      refine par_run rfl ?_
      obtain ⟨e0, r0⟩ := inv.get haft 0 9 (by kernel_rfl) (by kernel_rfl)
      have INV := Lib.hid inv
      clear inv haft hun ho
      change vs 0 = .pointer (some ⟨B, 0, none⟩) at r0
      rw [r0] at e0
      have g0 := getD_opt e0
      go_simp
      exact hK _ _ INV.out.inv INV.out.val rfl
    · intro o ho listed vs a w' inv hun haft K hK
      obtain rfl := Option.some.inj ho
      refine par_run rfl ?_
      obtain ⟨e0, r0⟩ := inv.get haft 1 10 (by kernel_rfl) (by kernel_rfl)
      have INV := Lib.hid inv
      clear inv haft hun ho
      change vs 1 = .pointer (some ⟨B, 0, none⟩) at r0
      rw [r0] at e0
      have g0 := getD_opt e0
      go_simp
      exact hK _ _ INV.out.inv INV.out.val rfl
    · intro o ho listed vs a w' inv hun haft K hK
      obtain rfl := Option.some.inj ho
      refine par_run rfl ?_
      obtain ⟨e0, r0⟩ := inv.get haft 2 11 (by kernel_rfl) (by kernel_rfl)
      have INV := Lib.hid inv
      clear inv haft hun ho
      change vs 2 = .pointer (some ⟨B, 0, none⟩) at r0
      rw [r0] at e0
      have g0 := getD_opt e0
      have c0 := (INV.out.inv.cell (a := ⟨B, 0, none⟩) hBl (by simp)).trans hb0
      go_simp
      exact hK _ _ INV.out.inv INV.out.val rfl
    · intro o ho listed vs a w' inv hun haft K hK
      obtain rfl := Option.some.inj ho
      refine par_run rfl ?_
      obtain ⟨e0, r0⟩ := inv.get haft 3 12 (by kernel_rfl) (by kernel_rfl)
      have INV := Lib.hid inv
      clear inv haft hun ho
      change vs 3 = .slice p n c at r0
      rw [r0] at e0
      have g0 := getD_opt e0
      go_simp
      exact hK _ _ INV.out.inv INV.out.val rfl
    · intro o ho listed vs a w' inv hun haft K hK
      obtain rfl := Option.some.inj ho
      refine par_run rfl ?_
      obtain ⟨e0, r0⟩ := inv.get haft 4 13 (by kernel_rfl) (by kernel_rfl)
      have INV := Lib.hid inv
      clear inv haft hun ho
      change vs 4 = .int .i64 n at r0
      rw [r0] at e0
      have g0 := getD_opt e0
      go_simp
      exact hK _ _ INV.out.inv INV.out.val rfl
    · intro o ho listed vs a w' inv hun haft K hK
      obtain rfl := Option.some.inj ho
      refine par_run rfl ?_
      obtain ⟨e0, r0⟩ := inv.get haft 5 14 (by kernel_rfl) (by kernel_rfl)
      have INV := Lib.hid inv
      clear inv haft hun ho
      change vs 5 = .int .i64 ((n : Int) / 256) at r0
      rw [r0] at e0
      have g0 := getD_opt e0
      go_simp
      exact hK _ _ INV.out.inv INV.out.val rfl
    · intro o ho listed vs a w' inv hun haft K hK
      obtain rfl := Option.some.inj ho
      refine par_run rfl ?_
      have e0 := inv.old 0 (by kernel_rfl)
      have INV := Lib.hid inv
      clear inv haft hun ho
      simp at e0
      go_simp
      exact hK _ _ INV.out.inv INV.out.val rfl
    · intro o ho listed vs a w' inv hun haft K hK
      obtain rfl := Option.some.inj ho
      refine par_run rfl ?_
      obtain ⟨e0, r0⟩ := inv.get haft 7 16 (by kernel_rfl) (by kernel_rfl)
      have INV := Lib.hid inv
      clear inv haft hun ho
      change vs 7 = .pointer (some ⟨B, 0, none⟩) at r0
      rw [r0] at e0
      have g0 := getD_opt e0
      go_simp
      exact hK _ _ INV.out.inv INV.out.val rfl
    · intro o ho listed vs a w' inv hun haft K hK
      obtain rfl := Option.some.inj ho
      refine par_run rfl ?_
      obtain ⟨e0, r0⟩ := inv.get haft 8 17 (by kernel_rfl) (by kernel_rfl)
      have INV := Lib.hid inv
      clear inv haft hun ho
      change vs 8 = .pointer (some ⟨B, 0, none⟩) at r0
      rw [r0] at e0
      have g0 := getD_opt e0
      go_simp
      exact hK _ _ INV.out.inv INV.out.val rfl
    · intro o ho listed vs a w' inv hun haft K hK
      obtain rfl := Option.some.inj ho
      refine par_run rfl ?_
      obtain ⟨e0, r0⟩ := inv.get haft 9 18 (by kernel_rfl) (by kernel_rfl)
      have INV := Lib.hid inv
      clear inv haft hun ho
      change vs 9 = .pointer (some ⟨B, 0, none⟩) at r0
      rw [r0] at e0
      have g0 := getD_opt e0
      have c0 := (INV.out.inv.cell (a := ⟨B, 0, none⟩) hBl (by simp)).trans hb0
      go_simp
      exact hK _ _ INV.out.inv INV.out.val rfl
    · intro o ho listed vs a w' inv hun haft K hK
      obtain rfl := Option.some.inj ho
      refine par_run rfl ?_
      obtain ⟨e0, r0⟩ := inv.get haft 10 19 (by kernel_rfl) (by kernel_rfl)
      have INV := Lib.hid inv
      clear inv haft hun ho
      change vs 10 = .slice p n c at r0
      rw [r0] at e0
      have g0 := getD_opt e0
      go_simp
      exact hK _ _ INV.out.inv INV.out.val rfl
    · intro o ho listed vs a w' inv hun haft K hK
      obtain rfl := Option.some.inj ho
      refine par_run rfl ?_
      obtain ⟨e0, r0⟩ := inv.get haft 11 20 (by kernel_rfl) (by kernel_rfl)
      have INV := Lib.hid inv
      clear inv haft hun ho
      change vs 11 = .int .i64 n at r0
      rw [r0] at e0
      have g0 := getD_opt e0
      go_simp
      exact hK _ _ INV.out.inv INV.out.val rfl
    · intro o ho listed vs a w' inv hun haft K hK
      obtain rfl := Option.some.inj ho
      refine par_run rfl ?_
      obtain ⟨e0, r0⟩ := inv.get haft 6 15 (by kernel_rfl) (by kernel_rfl)
      obtain ⟨e1, r1⟩ := inv.get haft 12 21 (by kernel_rfl) (by kernel_rfl)
      have INV := Lib.hid inv
      clear inv haft hun ho
      change vs 6 = .int .u8 ((n : Int) / 256) at r0
      rw [r0] at e0
      have g0 := getD_opt e0
      change vs 12 = .int .u8 ((n : Int) % 256) at r1
      rw [r1] at e1
      have g1 := getD_opt e1
      go_simp
      exact hK _ _ INV.out.inv.alloc (fun j hj hl => bpayR_keep (Mod.of_alloc _ _) (INV.out.val j hj hl)) ⟨_, rfl, lit_bytes _ [2, (n : Int) / 256, (n : Int) % 256] _ (by simp), by simp⟩
    · intro o ho listed vs a w' inv hun haft K hK
      obtain rfl := Option.some.inj ho
      refine par_run rfl ?_
      have e0 := inv.old 0 (by kernel_rfl)
      have INV := Lib.hid inv
      clear inv haft hun ho
      simp at e0
      go_simp
      exact hK _ _ INV.out.inv INV.out.val rfl
    · intro o ho listed vs a w' inv hun haft K hK
      obtain rfl := Option.some.inj ho
      refine par_run rfl ?_
      obtain ⟨e0, r0⟩ := inv.get haft 14 23 (by kernel_rfl) (by kernel_rfl)
      have INV := Lib.hid inv
      clear inv haft hun ho
      change vs 14 = .pointer (some ⟨B, 0, none⟩) at r0
      rw [r0] at e0
      have g0 := getD_opt e0
      go_simp
      exact hK _ _ INV.out.inv INV.out.val rfl
    · intro o ho listed vs a w' inv hun haft K hK
      obtain rfl := Option.some.inj ho
      refine par_run rfl ?_
      obtain ⟨e0, r0⟩ := inv.get haft 15 24 (by kernel_rfl) (by kernel_rfl)
      have INV := Lib.hid inv
      clear inv haft hun ho
      change vs 15 = .pointer (some ⟨B, 0, none⟩) at r0
      rw [r0] at e0
      have g0 := getD_opt e0
      go_simp
      exact hK _ _ INV.out.inv INV.out.val rfl
    · intro o ho listed vs a w' inv hun haft K hK
      obtain rfl := Option.some.inj ho
      refine par_run rfl ?_
      obtain ⟨e0, r0⟩ := inv.get haft 16 25 (by kernel_rfl) (by kernel_rfl)
      have INV := Lib.hid inv
      clear inv haft hun ho
      change vs 16 = .pointer (some ⟨B, 1, none⟩) at r0
      rw [r0] at e0
      have g0 := getD_opt e0
      have c1 := (INV.out.inv.cell (a := ⟨B, 1, none⟩) hBl (by simp)).trans hb1
      go_simp
      exact hK _ _ INV.out.inv INV.out.val rfl
    · intro o ho listed vs a w' inv hun haft K hK
      obtain rfl := Option.some.inj ho
      refine par_run rfl ?_
      obtain ⟨e0, r0⟩ := inv.get haft 17 26 (by kernel_rfl) (by kernel_rfl)
      have INV := Lib.hid inv
      clear inv haft hun ho
      change vs 17 = .slice q (n + 1) d at r0
      rw [r0] at e0
      have g0 := getD_opt e0
      go_simp
      exact hK _ _ INV.out.inv INV.out.val rfl
    · intro o ho listed vs a w' inv hun haft K hK
      obtain rfl := Option.some.inj ho
      refine par_run rfl ?_
      obtain ⟨e0, r0⟩ := inv.get haft 18 27 (by kernel_rfl) (by kernel_rfl)
      have INV := Lib.hid inv
      clear inv haft hun ho
      change vs 18 = .pointer (some ⟨KB, KO, none⟩) at r0
      rw [r0] at e0
      have g0 := getD_opt e0
      have cKO := (INV.out.inv.cell (a := ⟨KB, KO, none⟩) hKBl (by simp)).trans hk0
      go_simp
      exact hK _ _ INV.out.inv INV.out.val rfl
    · intro o ho listed vs a w' inv hun haft K hK
      obtain rfl := Option.some.inj ho
      refine par_run rfl ?_
      obtain ⟨e0, r0⟩ := inv.get haft 19 28 (by kernel_rfl) (by kernel_rfl)
      have INV := Lib.hid inv
      clear inv haft hun ho
      change vs 19 = .int .i64 k0 at r0
      rw [r0] at e0
      have g0 := getD_opt e0
      go_simp
      exact hK _ _ INV.out.inv INV.out.val rfl
    · intro o ho listed vs a w' inv hun haft K hK
      obtain rfl := Option.some.inj ho
      refine par_run rfl ?_
      obtain ⟨e0, r0⟩ := inv.get haft 20 29 (by kernel_rfl) (by kernel_rfl)
      have INV := Lib.hid inv
      clear inv haft hun ho
      change vs 20 = .int .u32 k0 at r0
      rw [r0] at e0
      have g0 := getD_opt e0
      go_simp
      refine (put32_any k0 _ (by omega) (by omega)).mono ?_
      rintro _ w3 ⟨_, rfl, p3, n3, c3, rfl, e3, s3, m3⟩
      obtain rfl : n3 = 4 := by rw [e3]; exact be_len _ _
      have t3 := s3
      exact hK _ _ (INV.out.inv.same m3) (fun j hj hl => bpayR_keep m3 (INV.out.val j hj hl)) ⟨_, _, rfl, t3, fun e => by obtain ⟨_, _, h, _⟩ := t3.addr (by omega); rw [e] at h; cases h⟩
    · intro o ho listed vs a w' inv hun haft K hK
      obtain rfl := Option.some.inj ho
      refine par_run rfl ?_
      obtain ⟨e0, r0⟩ := inv.get haft 13 22 (by kernel_rfl) (by kernel_rfl)
      obtain ⟨e1, r1⟩ := inv.get haft 21 30 (by kernel_rfl) (by kernel_rfl)
      have INV := Lib.hid inv
      clear inv haft hun ho
      obtain ⟨p0, h0, s0, q0⟩ := r0
      rw [h0] at e0
      have g0 := getD_opt e0
      obtain ⟨p1, c1, h1, s1, q1⟩ := r1
      rw [h1] at e1
      have g1 := getD_opt e1
      refine oper_append_full _ _ rfl e0 s0 e1 s1 q0 (by omega) (by omega) ?_
      intro c' w3 t3 m3
      exact hK _ _ (INV.out.inv.same m3) (fun j hj hl => bpayR_keep m3 (INV.out.val j hj hl)) ⟨_, _, rfl, by rw [← HHB.out]; exact t3, by simp⟩
    · intro o ho listed vs a w' inv hun haft K hK
      obtain rfl := Option.some.inj ho
      refine par_run rfl ?_
      obtain ⟨e0, r0⟩ := inv.get haft 22 31 (by kernel_rfl) (by kernel_rfl)
      have INV := Lib.hid inv
      clear inv haft hun ho
      obtain ⟨p0, c0, h0, s0, q0⟩ := r0
      rw [h0] at e0
      have g0 := getD_opt e0
      go_simp
      exact hK _ _ INV.out.inv INV.out.val ⟨_, _, rfl, s0, q0⟩
    intro vs w2 X hm hr hslot hold hsize hdef
    have er := hslot 23 3 (by kernel_rfl)
    obtain ⟨p9, c9, h9, s9, q9⟩ := hr 23 (by decide)
    rw [h9] at er
    have SR := Lib.hid s9
    have QR := Lib.hid q9
    clear h9 s9 q9
    have e0 := hold 0 (by kernel_rfl)
    have e1 := hold 1 (by kernel_rfl)
    have e2 := hold 2 (by kernel_rfl)
    have e4 := hold 4 (by kernel_rfl)
    have e5 := hold 5 (by kernel_rfl)
    have e6 := hold 6 (by kernel_rfl)
    have e7 := hold 7 (by kernel_rfl)
    have e8 := hold 8 (by kernel_rfl)
    have e32 := hold 32 (by kernel_rfl)
    have e33 := hold 33 (by kernel_rfl)
    have e34 := hold 34 (by kernel_rfl)
    have e35 := hold 35 (by kernel_rfl)
    have e36 := hold 36 (by kernel_rfl)
    have e37 := hold 37 (by kernel_rfl)
    have e38 := hold 38 (by kernel_rfl)
    have e39 := hold 39 (by kernel_rfl)
    have e40 := hold 40 (by kernel_rfl)
    have e41 := hold 41 (by kernel_rfl)
    have e42 := hold 42 (by kernel_rfl)
    have e43 := hold 43 (by kernel_rfl)
    have e44 := hold 44 (by kernel_rfl)
    have e45 := hold 45 (by kernel_rfl)
    have e46 := hold 46 (by kernel_rfl)
    have e47 := hold 47 (by kernel_rfl)
    have e48 := hold 48 (by kernel_rfl)
    have e49 := hold 49 (by kernel_rfl)
    have e50 := hold 50 (by kernel_rfl)
    have e51 := hold 51 (by kernel_rfl)
    have e52 := hold 52 (by kernel_rfl)
    have e53 := hold 53 (by kernel_rfl)
    have e54 := hold 54 (by kernel_rfl)
    have e55 := hold 55 (by kernel_rfl)
    have e56 := hold 56 (by kernel_rfl)
    have e57 := hold 57 (by kernel_rfl)
    have e58 := hold 58 (by kernel_rfl)
    have e59 := hold 59 (by kernel_rfl)
    have e60 := hold 60 (by kernel_rfl)
    have e61 := hold 61 (by kernel_rfl)
    simp only [Array.getD_eq_getD_getElem?, List.getElem?_toArray, List.getElem?_cons_zero, List.getElem?_cons_succ, Option.getD_some] at e0 e1 e2 e4 e5 e6 e7 e8 e32 e33 e34 e35 e36 e37 e38 e39 e40 e41 e42 e43 e44 e45 e46 e47 e48 e49 e50 e51 e52 e53 e54 e55 e56 e57 e58 e59 e60 e61
    have MR := Lib.hid hm
    clear hr hslot hold hm
    obtain ⟨⟨xs⟩, df⟩ := X
    replace hdef : df = [] := hdef
    subst hdef
    replace hsize : xs.length = 62 := hsize
    obtain ⟨x0, xs0, rfl, hs0⟩ := cons_of hsize
    obtain ⟨x1, xs1, rfl, hs1⟩ := cons_of hs0
    obtain ⟨x2, xs2, rfl, hs2⟩ := cons_of hs1
    obtain ⟨x3, xs3, rfl, hs3⟩ := cons_of hs2
    obtain ⟨x4, xs4, rfl, hs4⟩ := cons_of hs3
    obtain ⟨x5, xs5, rfl, hs5⟩ := cons_of hs4
    obtain ⟨x6, xs6, rfl, hs6⟩ := cons_of hs5
    obtain ⟨x7, xs7, rfl, hs7⟩ := cons_of hs6
    obtain ⟨x8, xs8, rfl, hs8⟩ := cons_of hs7
    obtain ⟨x9, xs9, rfl, hs9⟩ := cons_of hs8
    obtain ⟨x10, xs10, rfl, hs10⟩ := cons_of hs9
    obtain ⟨x11, xs11, rfl, hs11⟩ := cons_of hs10
    obtain ⟨x12, xs12, rfl, hs12⟩ := cons_of hs11
    obtain ⟨x13, xs13, rfl, hs13⟩ := cons_of hs12
    obtain ⟨x14, xs14, rfl, hs14⟩ := cons_of hs13
    obtain ⟨x15, xs15, rfl, hs15⟩ := cons_of hs14
    obtain ⟨x16, xs16, rfl, hs16⟩ := cons_of hs15
    obtain ⟨x17, xs17, rfl, hs17⟩ := cons_of hs16
    obtain ⟨x18, xs18, rfl, hs18⟩ := cons_of hs17
    obtain ⟨x19, xs19, rfl, hs19⟩ := cons_of hs18
    obtain ⟨x20, xs20, rfl, hs20⟩ := cons_of hs19
    obtain ⟨x21, xs21, rfl, hs21⟩ := cons_of hs20
    obtain ⟨x22, xs22, rfl, hs22⟩ := cons_of hs21
    obtain ⟨x23, xs23, rfl, hs23⟩ := cons_of hs22
    obtain ⟨x24, xs24, rfl, hs24⟩ := cons_of hs23
    obtain ⟨x25, xs25, rfl, hs25⟩ := cons_of hs24
    obtain ⟨x26, xs26, rfl, hs26⟩ := cons_of hs25
    obtain ⟨x27, xs27, rfl, hs27⟩ := cons_of hs26
    obtain ⟨x28, xs28, rfl, hs28⟩ := cons_of hs27
    obtain ⟨x29, xs29, rfl, hs29⟩ := cons_of hs28
    obtain ⟨x30, xs30, rfl, hs30⟩ := cons_of hs29
    obtain ⟨x31, xs31, rfl, hs31⟩ := cons_of hs30
    obtain ⟨x32, xs32, rfl, hs32⟩ := cons_of hs31
    obtain ⟨x33, xs33, rfl, hs33⟩ := cons_of hs32
    obtain ⟨x34, xs34, rfl, hs34⟩ := cons_of hs33
    obtain ⟨x35, xs35, rfl, hs35⟩ := cons_of hs34
    obtain ⟨x36, xs36, rfl, hs36⟩ := cons_of hs35
    obtain ⟨x37, xs37, rfl, hs37⟩ := cons_of hs36
    obtain ⟨x38, xs38, rfl, hs38⟩ := cons_of hs37
    obtain ⟨x39, xs39, rfl, hs39⟩ := cons_of hs38
    obtain ⟨x40, xs40, rfl, hs40⟩ := cons_of hs39
    obtain ⟨x41, xs41, rfl, hs41⟩ := cons_of hs40
    obtain ⟨x42, xs42, rfl, hs42⟩ := cons_of hs41
    obtain ⟨x43, xs43, rfl, hs43⟩ := cons_of hs42
    obtain ⟨x44, xs44, rfl, hs44⟩ := cons_of hs43
    obtain ⟨x45, xs45, rfl, hs45⟩ := cons_of hs44
    obtain ⟨x46, xs46, rfl, hs46⟩ := cons_of hs45
    obtain ⟨x47, xs47, rfl, hs47⟩ := cons_of hs46
    obtain ⟨x48, xs48, rfl, hs48⟩ := cons_of hs47
    obtain ⟨x49, xs49, rfl, hs49⟩ := cons_of hs48
    obtain ⟨x50, xs50, rfl, hs50⟩ := cons_of hs49
    obtain ⟨x51, xs51, rfl, hs51⟩ := cons_of hs50
    obtain ⟨x52, xs52, rfl, hs52⟩ := cons_of hs51
    obtain ⟨x53, xs53, rfl, hs53⟩ := cons_of hs52
    obtain ⟨x54, xs54, rfl, hs54⟩ := cons_of hs53
    obtain ⟨x55, xs55, rfl, hs55⟩ := cons_of hs54
    obtain ⟨x56, xs56, rfl, hs56⟩ := cons_of hs55
    obtain ⟨x57, xs57, rfl, hs57⟩ := cons_of hs56
    obtain ⟨x58, xs58, rfl, hs58⟩ := cons_of hs57
    obtain ⟨x59, xs59, rfl, hs59⟩ := cons_of hs58
    obtain ⟨x60, xs60, rfl, hs60⟩ := cons_of hs59
    obtain ⟨x61, xs61, rfl, hs61⟩ := cons_of hs60
    obtain rfl := List.eq_nil_of_length_eq_zero hs61
    clear hsize hs0 hs1 hs2 hs3 hs4 hs5 hs6 hs7 hs8 hs9 hs10 hs11 hs12 hs13 hs14 hs15 hs16 hs17 hs18 hs19 hs20 hs21 hs22 hs23 hs24 hs25 hs26 hs27 hs28 hs29 hs30 hs31 hs32 hs33 hs34 hs35 hs36 hs37 hs38 hs39 hs40 hs41 hs42 hs43 hs44 hs45 hs46 hs47 hs48 hs49 hs50 hs51 hs52 hs53 hs54 hs55 hs56 hs57 hs58 hs59 hs60 hs61
    rw [show (Array.mk (x0 :: x1 :: x2 :: x3 :: x4 :: x5 :: x6 :: x7 :: x8 :: x9 :: x10 :: x11 :: x12 :: x13 :: x14 :: x15 :: x16 :: x17 :: x18 :: x19 :: x20 :: x21 :: x22 :: x23 :: x24 :: x25 :: x26 :: x27 :: x28 :: x29 :: x30 :: x31 :: x32 :: x33 :: x34 :: x35 :: x36 :: x37 :: x38 :: x39 :: x40 :: x41 :: x42 :: x43 :: x44 :: x45 :: x46 :: x47 :: x48 :: x49 :: x50 :: x51 :: x52 :: x53 :: x54 :: x55 :: x56 :: x57 :: x58 :: x59 :: x60 :: x61 :: []) : Array Value) = List.toArray (x0 :: x1 :: x2 :: x3 :: x4 :: x5 :: x6 :: x7 :: x8 :: x9 :: x10 :: x11 :: x12 :: x13 :: x14 :: x15 :: x16 :: x17 :: x18 :: x19 :: x20 :: x21 :: x22 :: x23 :: x24 :: x25 :: x26 :: x27 :: x28 :: x29 :: x30 :: x31 :: x32 :: x33 :: x34 :: x35 :: x36 :: x37 :: x38 :: x39 :: x40 :: x41 :: x42 :: x43 :: x44 :: x45 :: x46 :: x47 :: x48 :: x49 :: x50 :: x51 :: x52 :: x53 :: x54 :: x55 :: x56 :: x57 :: x58 :: x59 :: x60 :: x61 :: []) from rfl]
    change x0 = _ at e0
    subst e0
    change x1 = _ at e1
    subst e1
    change x2 = _ at e2
    subst e2
    change x4 = _ at e4
    subst e4
    change x5 = _ at e5
    subst e5
    change x6 = _ at e6
    subst e6
    change x7 = _ at e7
    subst e7
    change x8 = _ at e8
    subst e8
    change x32 = _ at e32
    subst e32
    change x33 = _ at e33
    subst e33
    change x34 = _ at e34
    subst e34
    change x35 = _ at e35
    subst e35
    change x36 = _ at e36
    subst e36
    change x37 = _ at e37
    subst e37
    change x38 = _ at e38
    subst e38
    change x39 = _ at e39
    subst e39
    change x40 = _ at e40
    subst e40
    change x41 = _ at e41
    subst e41
    change x42 = _ at e42
    subst e42
    change x43 = _ at e43
    subst e43
    change x44 = _ at e44
    subst e44
    change x45 = _ at e45
    subst e45
    change x46 = _ at e46
    subst e46
    change x47 = _ at e47
    subst e47
    change x48 = _ at e48
    subst e48
    change x49 = _ at e49
    subst e49
    change x50 = _ at e50
    subst e50
    change x51 = _ at e51
    subst e51
    change x52 = _ at e52
    subst e52
    change x53 = _ at e53
    subst e53
    change x54 = _ at e54
    subst e54
    change x55 = _ at e55
    subst e55
    change x56 = _ at e56
    subst e56
    change x57 = _ at e57
    subst e57
    change x58 = _ at e58
    subst e58
    change x59 = _ at e59
    subst e59
    change x60 = _ at e60
    subst e60
    change x61 = _ at e61
    subst e61
    change x3 = .slice p9 7 c9 at er
    subst er
    have HM2 : Hid (Mod [] w w2) := HM1.out.same MR.out
    have HAT2 := Lib.hid (MR.out.at HAT1.out (by simp))
    have HS2 : Hid (Sl w2 1 p9 7 c9 (bs (2 :: (be 2 n ++ be 4 (kids.getD 0 0)) ++ brBody ls kids 0))) := by
      unfold Hid; rw [← HHBE.out]; simpa [brBody] using SR.out
    have d0 : w2.cell? ⟨B, 0, none⟩ = some (.slice p n c) := cell_of_at HAT2.out 0
    clear hb0 hb1 hk0 SR MR
    go_wp2
    obtain ⟨qq, hqq⟩ : ∃ qq, qq = q := ⟨_, rfl⟩
    obtain ⟨dd, hdd⟩ : ∃ dd, dd = d := ⟨_, rfl⟩
    rw [← hqq, ← hdd] at HAT2
    have HQQ := Lib.hid hqq
    have HDD := Lib.hid hdd
    clear hqq hdd
    go_loopw [3, 37] (fun o iv wr => ∃ (i m d : Nat) (q : Option Addr), i ≤ n ∧ iv = .int .i64 i ∧ o = .slice q m d ∧ m = 7 + ksum (ls.take i) ∧ q ≠ none ∧ Sl wr 1 q m d (bs (2 :: (be 2 n ++ be 4 (kids.getD 0 0)) ++ brBody ls kids i)) ∧ Mod [] w wr ∧ wr.heap[B]? = some (.cells #[.slice p n c, .slice qq (n + 1) dd] 77 (0, 0))) (fun _ iv _ => n - (intOf iv).toNat)
    case atStart => exact ⟨0, 7, c9, p9, by omega, rfl, rfl, rfl, QR.out, HS2.out, HM2.out, HAT2.out⟩
    case round =>
      obtain ⟨i, m5, d5, q5, hi, rfl, rfl, hm, hq, hs, hmd, hatr⟩ := hrel
      have HMM := Lib.hid hm
      have HQ := Lib.hid hq
      have HS0 := Lib.hid hs
      have HM := Lib.hid hmd
      have HATR := Lib.hid hatr
      clear hm hq hs hmd hatr HS2 HM2 d0 HAT2
      by_cases hlt : i < n
      · obtain ⟨kp, kn, kc, kl, _, hcl, hk, d0⟩ := HG.out i hlt
        have hbl := HLT.out (by omega)
        rw [← HM.out.cell (a := ⟨b, _, none⟩) hbl (by simp)] at d0
        have hk100 := HKL.out i _ hcl
        have hkl := hk.len
        have hk1 : kn ≤ 100 := by omega
        obtain ⟨st1, st2⟩ := HST.out i _ hcl
        have hle1 := HLE.out (i + 1)
        obtain ⟨y, hy, hyg, d1⟩ := HGK.out (i + 1) (by omega)
        obtain ⟨hy1, hy2⟩ := HKD.out (i + 1) y hy
        rw [← HM.out.cell (a := ⟨KB, _, none⟩) hKBl' (by simp)] at d1
        have hidxi := fun W => hidx W i hlt
        have hidki := fun W => hidk W (i + 1) (by omega)
        simp only [Int.natCast_add, Int.natCast_one] at hidki
        have hwy : IntKind.u32.wrap y = y := by rw [IntKind.wrap_u32]; omega
        have hw10 : IntKind.u8.wrap (kn : Int) = (kn : Int) := by rw [IntKind.wrap_u8]; omega
        have hwi : IntKind.i64.wrap ((i : Int) + 1) = (i : Int) + 1 := IntWalk.i64_in _ (by omega)
        have e1 : wr.cell? ⟨B, 1, none⟩ = some (.slice q (n + 1) d) := by rw [← HQQ.out, ← HDD.out]; exact cell_of_at HATR.out 1
        have hBl2 : B < wr.heap.size := lt_of_at HATR.out
        have hKBl2 : KB < wr.heap.size := Nat.lt_of_lt_of_le hKBl' HM.out.size
        have HK := Lib.hid hk
        have HLIT : Hid (Sl (wr.alloc (.cells #[.int .u8 (kn : Int)] 5)) 1 (some ⟨wr.heap.size, 0, none⟩) 1 1 (bs [(kn : Int)])) := lit_bytes wr [(kn : Int)] 5 (by simp)
        have HMA : Hid (Mod [] wr (wr.alloc (.cells #[.int .u8 (kn : Int)] 5))) := Mod.of_alloc wr _
        obtain ⟨BB, hBB⟩ : ∃ BB, BB = 2 :: (be 2 n ++ be 4 (kids.getD 0 0)) ++ brBody ls kids (i + 1) := ⟨_, rfl⟩
        obtain ⟨ML, hML⟩ : ∃ ML, ML = 7 + ksum (ls.take (i + 1)) := ⟨_, rfl⟩
        have HBB : Hid ((2 :: (be 2 n ++ be 4 (kids.getD 0 0)) ++ brBody ls kids i) ++ ([(kn : Int)] ++ (kl ++ be 4 y)) = BB) := by
          unfold Hid; rw [hBB, st2, hyg, hkl]; simp
        have HBL2 : Hid (ML = BB.length) := by
          unfold Hid; rw [hML, hBB]; simp only [List.length_cons, List.length_append, be_len, HBL.out (i + 1) (by omega)]
        have HBBE := Lib.hid hBB
        have HMLE := Lib.hid hML
        have hML1 : ML ≤ 1016 := by omega
        have hML0 : 0 < ML := by omega
        clear hk hcl hk100 hkl st1 st2 hle1 hy hyg hBB hML
        go_wp2_with fail
        refine (put32_any y _ (by omega) (by omega)).mono ?_
        rintro _ w5 ⟨_, rfl, p5, n5, c5, rfl, e5, s5, m5⟩
        obtain rfl : n5 = 4 := by rw [e5, be_len]
        have HM5 : Hid (Mod [] wr w5) := HMA.out.same m5
        have HS5 := Lib.hid s5
        have HL5 := Lib.hid (HLIT.out.mod m5 (by simp))
        have HCC := Lib.hid (concat_any _ _ _ _ _ (PartsAt.four' w5 40 (HS0.out.mod HM5.out (by simp)) HL5.out (HK.out.sl.mod (HM.out.same HM5.out) (by simp)) HS5.out) (by rw [flat4', HBB.out, ← HBL2.out]; omega))
        rw [flat4', HBB.out] at HCC
        clear e5 s5 m5 d0 d1 e1
        go_wp2_with fail
        refine HCC.out.mono ?_
        rintro _ w7 ⟨_, rfl, p7, n7, c7, rfl, e7, s7, m7⟩
        obtain rfl : n7 = ML := by rw [e7, HBL2.out]
        have HM7 : Hid (Mod [] wr w7) := HM5.out.alloc.same m7
        have HS7 := Lib.hid (Sl.of_own s7 (bs_one _)).1
        have hq7 : p7 ≠ none := fun e => by obtain ⟨_, _, h, _⟩ := HS7.out.addr (by omega); rw [e] at h; cases h
        have HQ7 := Lib.hid hq7
        clear e7 s7 m7 hq7 HCC
        rw [HBBE.out] at HS7
        go_wp2
        go_roundw
        case rel => exact ⟨i + 1, n7, c7, p7, by omega, by go_num, rfl, HMLE.out, HQ7.out, HS7.out, HM.out.same HM7.out, HM7.out.at HATR.out (by simp)⟩
        case measure => simp [intOf]; omega
      · obtain rfl : i = n := by omega
        have HPF : Hid (payBr ls kids = 2 :: (be 2 i ++ be 4 (kids.getD 0 0)) ++ brBody ls kids i) := by rw [HP.out]; exact HLB.out
        have HLF : Hid (m5 = (payBr ls kids).length) := by
          unfold Hid; rw [HPF.out]; simp only [List.length_cons, List.length_append, be_len, HBL.out i (by omega)]; have := HMM.out; omega
        go_wp2
        go_ret
        exact .mk ⟨q5, m5, d5, rfl, HLF.out, ⟨fun e => absurd e HQ.out, fun e => by rw [HPF.out] at e; cases e⟩, by rw [HPF.out]; exact HS0.out, HM.out⟩
end Go.Proofs.YtgimdodbajhpoaaGreatDoor
