/- Roots: the program's Pay. -/
import Derived.Test.YtpdkkokgpdabhaaDoorG10
namespace Go.Proofs.YtpdkkokgpdabhaaDoor
open Go.RowKit Go.Maps
set_option linter.unusedSimpArgs false
set_option linter.unusedVariables false

def RPayR (l : List Int) (w : World) (v : Value) (w' : World) : Prop := ∃ p n c, v = .slice p n c ∧ n = l.length ∧ (p = none ↔ l = []) ∧ Tl w' w.heap.size 1 p n c (bs l) ∧ Mod [] w w'
theorem flat3 (q p5 p6 : Option Addr) (m d n5 c5 n6 c6 : Nat) (A X Y : List Int) : flat [(q, m, d, A), (p5, n5, c5, X), (p6, n6, c6, Y)] = A ++ (X ++ Y) := by simp [flat]
theorem PartsAt.three (w : World) {q p5 p6 : Option Addr} {m d n5 c5 n6 c6 : Nat} {A X Y : List Int} (T : TypeId) (h1 : Sl w 1 q m d (bs A)) (h2 : Sl w 1 p5 n5 c5 (bs X)) (h3 : Sl w 1 p6 n6 c6 (bs Y)) :
    PartsAt (w.alloc (.cells #[.slice q m d, .slice p5 n5 c5, .slice p6 n6 c6] T)) (some ⟨w.heap.size, 0, none⟩) 3 3 [(q, m, d, A), (p5, n5, c5, X), (p6, n6, c6, Y)] :=
  PartsAt.new w [(q, m, d, A), (p5, n5, c5, X), (p6, n6, c6, Y)] T (by simp [maxLen]) (by
    intro z hz
    simp only [List.mem_cons, List.not_mem_nil, or_false] at hz
    rcases hz with rfl | rfl | rfl
    · exact h1
    · exact h2
    · exact h3)

def rpE (A : Nat) (pg ct : Int) (p9 : Option Addr) (M c9 N BB0 : Nat) (BB : List Int) (oi : Nat) (v : Value) (w : World) : Prop :=
  match oi with
  | 0 => v = .slice p9 M c9
  | 1 => v = .pointer (some ⟨A, 1, none⟩)
  | 2 => v = .int .i64 pg
  | 3 => v = .int .u32 pg
  | 4 => ∃ p c, v = .slice p 4 c ∧ Sl w 1 p 4 c (bs (be 4 pg)) ∧ p ≠ none
  | 5 => v = .pointer (some ⟨A, 2, none⟩)
  | 6 => v = .int .i64 ct
  | 7 => v = .int .u32 ct
  | 8 => ∃ p c, v = .slice p 4 c ∧ Sl w 1 p 4 c (bs (be 4 ct)) ∧ p ≠ none
  | 9 => ∃ p l, v = .slice p 3 3 ∧ PartsAt w p 3 3 l ∧ flat l = BB
  | 10 => ∃ p c, v = .slice p N c ∧ Tl w BB0 1 p N c (bs BB) ∧ p ≠ none
  | 11 => ∃ p c, v = .slice p N c ∧ Tl w BB0 1 p N c (bs BB) ∧ p ≠ none
  | _ => True
theorem rpE_keep {A : Nat} {pg ct : Int} {p9 : Option Addr} {M c9 N BB0 : Nat} {BB : List Int} {oi : Nat} {v : Value} {w w' : World} (hm : Mod [] w w') (hr : rpE A pg ct p9 M c9 N BB0 BB oi v w) : rpE A pg ct p9 M c9 N BB0 BB oi v w' := by
  have hk := Keep.of_mod hm
  unfold rpE at hr ⊢
  split at hr
  · exact hr
  · exact hr
  · exact hr
  · exact hr
  · obtain ⟨p, c, h1, h2, h3⟩ := hr; exact ⟨p, c, h1, h2.keep hk, h3⟩
  · exact hr
  · exact hr
  · exact hr
  · obtain ⟨p, c, h1, h2, h3⟩ := hr; exact ⟨p, c, h1, h2.keep hk, h3⟩
  · obtain ⟨p, l, h1, h2, h3⟩ := hr; exact ⟨p, l, h1, ⟨h2.sl.keep hk, fun x hx => (h2.each x hx).keep hk⟩, h3⟩
  · obtain ⟨p, c, h1, h2, h3⟩ := hr; exact ⟨p, c, h1, h2.mod hm (by simp), h3⟩
  · obtain ⟨p, c, h1, h2, h3⟩ := hr; exact ⟨p, c, h1, h2.mod hm (by simp), h3⟩
  · trivial
set_option maxRecDepth 100000 in
set_option maxHeartbeats 8000000 in
theorem rpay_any (p : Option Addr) (n c : Nat) (rs : List Rt) (w : World) (h : RtsIn w p n c rs) : Calls Tryd.prog 8 #[.slice p n c] w (Ret (RPayR (payRs rs) w)) := by
  have HMAY := Lib.hid (rsmay_any p n c rs w h)
  by_cases hm : mayR rs = true
  · have HPV : Hid (payRs rs = rootsBytes rs) := if_pos hm
    have HME := Lib.hid hm
    have hln := h.len
    have h12 : n ≤ 12 := by rw [← hln]; exact mayR_len hm
    obtain ⟨b, off, hp, hcs⟩ := h.sl.at_
    have hidx := fun W => Sl.idx (P := Tryd.prog) (cap := c) Tryd.underlying22 sizeRoots (fun h => (hp h).1) W .i64
    have HLT : Hid (0 < n → b < w.heap.size) := fun h => (hp h).2
    have HG := Lib.hid (fun i hi => h.get hcs i hi)
    have HOK : Hid (∀ i, i < n → (rs.getD i default).ok = true) := fun i hi => mayR_ok hm (by omega)
    have HFT : Hid (∀ i, i < n → (rs.take (i + 1)).flatMap rootBytes = (rs.take i).flatMap rootBytes ++ rootBytes (rs.getD i default)) := fun i hi => flat_take (by omega)
    have HFL : Hid (∀ i, ((rs.take i).flatMap rootBytes).length ≤ 396) := fun i => by
      have h1 := flat_len (k := 0) (rs := rs.take i) (fun j hj => by
        rw [List.length_take] at hj
        have := (ok_spec (mayR_ok hm (i := j) (by omega))).1.2
        rw [List.getD_eq_getElem?_getD] at this ⊢
        rw [List.getElem?_take, if_pos (by omega)]; exact this)
      rw [List.length_take] at h1
      have := mayR_len hm
      omega
    have HALL : Hid (rs.take n = rs) := List.take_of_length_le (by omega)
    have HLEN := Lib.hid hln
    rw [hm] at HMAY
    unfold BoolM at HMAY
    have hw5 : IntKind.u8.wrap (n : Int) = (n : Int) := by rw [IntKind.wrap_u8]; omega
    clear h hm hp hcs hln
    go_enter Tryd.func8, Tryd.ntmps8
    go_wp2_with fail
    refine HMAY.out.mono ?_
    rintro _ w1 ⟨_, rfl, rfl, m1⟩
    have M1 := Lib.hid m1
    clear m1 HMAY
    have hcv := Lib.run_convert_bytes_const (P := Tryd.prog) w1 23 5 #[.int .u8 67, .int .u8 82, .int .u8 79, .int .u8 79] 4 4 Tryd.underlying23 uU8
    have OT := tl_mark w1 5 [67, 82, 79, 79] (4, 5) (by simp) (by simp)
    obtain ⟨pa, ca, wa, hra, hoa, hma, hna, -⟩ := app_bytes ((w1.alloc (.cells #[.int .u8 67, .int .u8 82, .int .u8 79, .int .u8 79] 5 (4, 5))).alloc (.cells #[.int .u8 n] 5)) w1.heap.size (some ⟨w1.heap.size, 0, none⟩) 4 4 [67, 82, 79, 79]
      (OT.mod (Mod.of_alloc _ _) (by simp)) (some ⟨(w1.alloc (.cells #[.int .u8 67, .int .u8 82, .int .u8 79, .int .u8 79] 5 (4, 5))).heap.size, 0, none⟩) 1 1 [(n : Int)] (Sl.one_new _ _ _ rfl) (by omega) (by simp; omega)
    have HOA : Hid (Tl wa w.heap.size 1 pa 5 ca (bs ([67, 82, 79, 79, (n : Int)] ++ (rs.take 0).flatMap rootBytes))) := by
      have := hoa.base_le M1.out.size
      simpa [Hid] using this
    have HNA : Hid (pa ≠ none) := fun e => by have := (hna.1 e).1; cases this
    have HMA : Hid (Mod [] w wa) := M1.out.trans ((((Mod.refl [] w1).alloc).alloc).trans hma (by simp)) (by simp)
    have hal : (w1.alloc (.cells #[.int .u8 67, .int .u8 82, .int .u8 79, .int .u8 79] 5 (4, 5))).heap.size = w1.heap.size + 1 := Array.size_push _
    rw [hal] at hra
    clear hoa hma hna OT hal
    go_wp2_with (first
      | (at_builtin; go_must (refine wpList_append_run rfl _ _ _ _ rfl _ _ _ _ rfl rfl hra ?_))
      | go_in)
    go_loopw [3, 18] (fun ov iv wr => ∃ (i m d : Nat) (o : Option Addr), i ≤ n ∧ iv = .int .i64 i ∧ ov = .slice o m d ∧ m = 5 + ((rs.take i).flatMap rootBytes).length ∧ o ≠ none ∧ Tl wr w.heap.size 1 o m d (bs ([67, 82, 79, 79, (n : Int)] ++ (rs.take i).flatMap rootBytes)) ∧ Mod [] w wr) (fun _ iv _ => n - (intOf iv).toNat)
    case atStart => exact ⟨0, 5, ca, pa, Nat.zero_le _, rfl, rfl, by simp, HNA.out, HOA.out, HMA.out⟩
    case round =>
      clear HOA HMA HNA hra hcv
      obtain ⟨i, m, d, o, hi, rfl, rfl, hm, hon, ht, hmd⟩ := hrel
      have HM := Lib.hid hmd
      have OT := Lib.hid ht
      have HON := Lib.hid hon
      have HML := Lib.hid hm
      have hm396 : m ≤ 401 := by have := HFL.out i; omega
      clear hmd ht hon hm
      by_cases hlt : i < n
      · obtain ⟨l, pg, ct, hr, hwf, d0, d1, d2⟩ := HG.out i hlt
        have hbl := HLT.out (by omega)
        rw [← HM.out.cell (a := ⟨b, _, none⟩) hbl (by simp)] at d0 d1 d2
        have HWF := Lib.hid hwf
        have HFT1 := Lib.hid (HFT.out i hlt)
        have hspec := HOK.out i hlt
        rw [hr] at hspec HFT1
        obtain ⟨⟨l1, l2⟩, ⟨g1, g2⟩, ⟨t1, t2⟩⟩ := ok_spec hspec
        simp only at l1 l2 g1 g2 t1 t2
        have hwi : IntKind.i64.wrap ((i : Int) + 1) = (i : Int) + 1 := IntWalk.i64_in _ (by omega)
        clear hr hwf hspec
        go_wp2_with fail
        have hat0 := at_alloc wr (.cells #[.string (strOfNums l), .int .i64 pg, .int .i64 ct] 34)
        have HM1 : Hid (Mod [] wr (wr.alloc (.cells #[.string (strOfNums l), .int .i64 pg, .int .i64 ct] 34))) := Mod.of_alloc wr _
        generalize hW1 : (wr.alloc (.cells #[.string (strOfNums l), .int .i64 pg, .int .i64 ct] 34)) = w2 at *
        obtain ⟨A, hA⟩ : ∃ A, A = wr.heap.size := ⟨_, rfl⟩
        rw [← hA] at hat0 ⊢
        have K0 : Hid (w2.cell? ⟨A, 0, none⟩ = some (.string (strOfNums l))) := cell_of_at hat0 0
        have K1 : Hid (w2.cell? ⟨A, 1, none⟩ = some (.int .i64 pg)) := cell_of_at hat0 1
        have K2 : Hid (w2.cell? ⟨A, 2, none⟩ = some (.int .i64 ct)) := cell_of_at hat0 2
        have hA2 : A < w2.heap.size := lt_of_at hat0
        have HOB : Hid (∀ a, o = some a → a.block ≠ A) := fun a ha e => by have := (OT.out.own a ha).2.2; omega
        replace OT := Lib.hid (OT.out.mod HM1.out (by simp))
        have HMW := Lib.hid (HM.out.same HM1.out)
        have hsz : (strOfNums l).size = l.length := strOfNums_size l
        have hw8 : IntKind.u8.wrap (l.length : Int) = (l.length : Int) := by rw [IntKind.wrap_u8]; omega
        clear hat0 hW1 hA d0 d1 d2 HM1 HM
        refine AnyT.start (S := fun w' => w'.cell? ⟨A, 0, none⟩ = some (.string (strOfNums l))) (by kernel_rfl) K0.out (fun hS => ?_)
        refine AnyT.take (i := 0) (k := 6) (v := ?_) rfl (by kernel_rfl) (fun _ _ _ h => h) hS (Or.inl ⟨by rfl, fun w' hw' => ?_⟩) ?_
        rotate_left
        · go_simp
          try rfl
        simp only [Act.put, List.setIfInBounds_toArray, List.set_cons_zero, List.set_cons_succ]
        refine AnyT.take (i := 1) (k := 2) (v := ?_) rfl (by kernel_rfl) (fun _ _ _ h => h) hS (Or.inl ⟨by rfl, fun w' hw' => ?_⟩) ?_
        rotate_left
        · go_simp
          try rfl
        simp only [Act.put, List.setIfInBounds_toArray, List.set_cons_zero, List.set_cons_succ]
        refine AnyT.take (i := 2) (k := 3) (v := ?_) rfl (by kernel_rfl) (fun _ _ _ h => h) hS (Or.inl ⟨by rfl, fun w' hw' => ?_⟩) ?_
        rotate_left
        · go_simp
          try rfl
        simp only [Act.put, List.setIfInBounds_toArray, List.set_cons_zero, List.set_cons_succ]
        refine AnyT.take (i := 3) (k := 4) (v := ?_) rfl (by kernel_rfl) (fun _ _ _ h => h) hS (Or.inl ⟨by rfl, fun w' hw' => ?_⟩) ?_
        rotate_left
        · go_simp
          try rfl
        simp only [Act.put, List.setIfInBounds_toArray, List.set_cons_zero, List.set_cons_succ]
        refine AnyT.take (i := 4) (k := 5) (v := ?_) rfl (by kernel_rfl) (fun _ _ _ h => h) hS (Or.inl ⟨by rfl, fun w' hw' => ?_⟩) ?_
        rotate_left
        · go_simp
          try rfl
        simp only [Act.put, List.setIfInBounds_toArray, List.set_cons_zero, List.set_cons_succ]
        refine AnyT.take (i := 7) (k := 8) (v := ?_) rfl (by kernel_rfl) (fun _ _ _ h => h) hS (Or.inl ⟨by rfl, fun w' hw' => ?_⟩) ?_
        rotate_left
        · go_simp
          try rfl
        simp only [Act.put, List.setIfInBounds_toArray, List.set_cons_zero, List.set_cons_succ]
        refine AnyT.take (i := 8) (k := 9) (v := ?_) rfl (by kernel_rfl) (fun _ _ _ h => h) hS (Or.inl ⟨by rfl, fun w' hw' => ?_⟩) ?_
        rotate_left
        · go_simp
          try rfl
        simp only [Act.put, List.setIfInBounds_toArray, List.set_cons_zero, List.set_cons_succ]
        clear hS
        refine AnyT.run (i := 5) (by kernel_rfl) rfl rfl (fun K hK => ?_)
        go_simp
        have MC : Hid (Mod [] w2 (w2.drew.alloc (.cells #[.int .u8 l.length] 5))) := (Mod.of_drew w2).alloc
        refine hK _ _ (fun _ => (MC.out.cell (a := ⟨A, 0, none⟩) hA2 (by simp)).trans K0.out) ?_
        clear hK K
        obtain ⟨p6, c6, w6, hr6, ht6, hm6, hn6, hb6⟩ := app_bytes (w2.drew.alloc (.cells #[.int .u8 l.length] 5)) w.heap.size o m d _ (OT.out.mod MC.out (by simp)) (some ⟨w2.heap.size, 0, none⟩) 1 1 [(l.length : Int)] (Sl.one_new w2.drew _ _ rfl) (by omega) (HMW.out.same MC.out).size
        have HT6 := Lib.hid ht6
        have M6 : Hid (Mod (o.map (·.block)).toList w2 w6) := (MC.out.mono (by simp)).same hm6
        have K6 : Hid (w6.cell? ⟨A, 0, none⟩ = some (.string (strOfNums l))) := (M6.out.cell (a := ⟨A, 0, none⟩) hA2 (by
          cases o with
          | none => simp
          | some a => have := HOB.out a rfl; simp; omega)).trans K0.out
        have N6 : Hid (p6 ≠ none) := fun e => by have := (hn6.1 e).2; cases this
        have B6 : Hid (∀ a, p6 = some a → a.block ≠ A) := fun a ha e => by
          rcases hb6 with h | h
          · rw [ha] at h
            cases o with
            | none => simp at h
            | some a' => simp at h; exact HOB.out a' rfl (by omega)
          · rw [ha] at h; simp at h; omega
        have MT6 : Hid (Mod [] w w6) := (OT.out.mod MC.out (by simp)).turned (w2 := w) rfl hm6 (HMW.out.same MC.out)
        clear ht6 hm6 hn6 hb6
        refine AnyT.one (i := 6) (by kernel_rfl) rfl (fun K hK => ?_)
        refine step_append_run rfl _ _ _ _ rfl _ _ _ _ rfl rfl hr6 ?_
        refine hK _ _ (fun _ => K6.out) ?_
        clear hK K hr6
        obtain ⟨p9, c9, w9, hr9, ht9, hm9, hn9⟩ := app_text w6 w.heap.size p6 (m + 1) c6 _ HT6.out l HWF.out.1 (by omega) MT6.out.size
        have HT9 := Lib.hid ht9
        have K9 : ∀ (x : Nat), Hid (w9.cell? ⟨A, x, none⟩ = w2.cell? ⟨A, x, none⟩) := fun x => (hm9.cell (a := ⟨A, x, none⟩) (Nat.lt_of_lt_of_le hA2 M6.out.size) (by
          cases p6 with
          | none => simp
          | some a => have := B6.out a rfl; simp; omega)).trans (M6.out.cell (a := ⟨A, x, none⟩) hA2 (by
          cases o with
          | none => simp
          | some a => have := HOB.out a rfl; simp; omega))
        have N9 : Hid (p9 ≠ none) := fun e => N6.out (hn9.1 e).1
        have MT9 : Hid (Mod [] w w9) := HT6.out.turned (w2 := w) rfl hm9 MT6.out
        have hA9 : A < w9.heap.size := by have := M6.out.size; have := hm9.size; omega
        clear ht9 hm9 hn9
        refine AnyT.one (i := 9) (by kernel_rfl) rfl (fun K hK => ?_)
        refine step_append_run rfl _ _ _ _ rfl _ _ _ _ rfl rfl hr9 ?_
        refine hK _ _ (fun _ => (K9 0).out.trans K0.out) ?_
        clear hK K hr9
        refine AnyT.run (i := 10) (by kernel_rfl) rfl rfl (fun K hK => ?_)
        go_simp
        refine hK _ _ (fun h => absurd h (by rw [show more _ _ = false from by kernel_rfl]; decide)) ?_
        clear hK K
        refine AnyT.done (by kernel_rfl) ?_ _
        clear OT K6 HT6 M6 MT6 B6 N6 HOB HMW
        have k1 := (K9 1).out.trans K1.out
        have k2 := (K9 2).out.trans K2.out
        have hAl := hA9
        obtain ⟨BB0, hB0⟩ : ∃ BB0, BB0 = w.heap.size := ⟨_, rfl⟩
        have HB0 : Hid (BB0 ≤ w9.heap.size) := by unfold Hid; rw [hB0]; exact MT9.out.size
        have HB0E := Lib.hid hB0
        have HSO : Hid (Sl w9 1 p9 (m + 1 + l.length) c9 (bs ([67, 82, 79, 79, (n : Int)] ++ (rs.take i).flatMap rootBytes ++ [(l.length : Int)] ++ l))) := HT9.out.sl
        obtain ⟨N, hN⟩ : ∃ N, N = 5 + ((rs.take (i + 1)).flatMap rootBytes).length := ⟨_, rfl⟩
        obtain ⟨BB, hBB⟩ : ∃ BB, BB = [67, 82, 79, 79, (n : Int)] ++ (rs.take (i + 1)).flatMap rootBytes := ⟨_, rfl⟩
        have HBL : Hid (BB.length = N) := by unfold Hid; rw [hBB, hN]; simp; omega
        have HBB : Hid ([67, 82, 79, 79, (n : Int)] ++ (rs.take i).flatMap rootBytes ++ [(l.length : Int)] ++ l ++ (be 4 pg ++ be 4 ct) = BB) := by
          unfold Hid; rw [hBB, HFT1.out]; simp [rootBytes]
        have HNN := Lib.hid hN
        have HBBE := Lib.hid hBB
        have hNle : N ≤ 401 := by have := HFL.out (i + 1); omega
        have hN0 : 0 < N := by omega
        have hw10 : IntKind.u32.wrap pg = pg := by rw [IntKind.wrap_u32]; omega
        have hw11 : IntKind.u32.wrap ct = ct := by rw [IntKind.wrap_u32]; omega
        obtain ⟨M, hM⟩ : ∃ M, M = m + 1 + l.length := ⟨_, rfl⟩
        rw [← hM] at HSO ⊢
        clear hB0 hN hBB hA2 hM HT9 N9 K0 K1 K2 K9
        go_wp2_with fail
        refine par_region (by kernel_rfl) (fun oi vs w => rpE A pg ct p9 M c9 N BB0 BB oi (vs oi) w) (fun w' => Mod [] w9 w') (by kernel_rfl) (fun j vs vs' w o _ h1 _ h2 => by rw [← h1]; exact h2) ⟨⟨⟨⟨⟨⟨⟨⟨⟨⟨⟨⟨trivial, ?_⟩, ?_⟩, ?_⟩, ?_⟩, ?_⟩, ?_⟩, ?_⟩, ?_⟩, ?_⟩, ?_⟩, ?_⟩, ?_⟩ (Mod.of_drew w9) ?_
        · intro o ho listed vs a w' inv hun haft K hK
          obtain rfl := Option.some.inj ho
          refine par_run rfl ?_
          have e0 := inv.oldU hun 3 11 [10, 9, 0] (by kernel_rfl) (by kernel_rfl)
          have INV := Lib.hid inv
          clear inv haft hun ho
          simp at e0
          go_simp
          exact hK _ _ INV.out.inv INV.out.val rfl
        · intro o ho listed vs a w' inv hun haft K hK
          obtain rfl := Option.some.inj ho
          refine par_run rfl ?_
          have e0 := inv.old 5 (by kernel_rfl)
          have INV := Lib.hid inv
          clear inv haft hun ho
          simp at e0
          go_simp
          exact hK _ _ INV.out.inv INV.out.val rfl
        · intro o ho listed vs a w' inv hun haft K hK
          obtain rfl := Option.some.inj ho
          refine par_run rfl ?_
          obtain ⟨e0, r0⟩ := inv.get haft 1 33 (by kernel_rfl) (by kernel_rfl)
          have INV := Lib.hid inv
          clear inv haft hun ho
          change vs 1 = .pointer (some ⟨A, 1, none⟩) at r0
          rw [r0] at e0
          have g0 := getD_opt e0
          have c1 := (INV.out.inv.cell (a := ⟨A, 1, none⟩) hAl (by simp)).trans k1
          go_simp
          exact hK _ _ INV.out.inv INV.out.val rfl
        · intro o ho listed vs a w' inv hun haft K hK
          obtain rfl := Option.some.inj ho
          refine par_run rfl ?_
          obtain ⟨e0, r0⟩ := inv.get haft 2 34 (by kernel_rfl) (by kernel_rfl)
          have INV := Lib.hid inv
          clear inv haft hun ho
          change vs 2 = .int .i64 pg at r0
          rw [r0] at e0
          have g0 := getD_opt e0
          go_simp
          exact hK _ _ INV.out.inv INV.out.val rfl
        · intro o ho listed vs a w' inv hun haft K hK
          obtain rfl := Option.some.inj ho
          refine par_run rfl ?_
          obtain ⟨e0, r0⟩ := inv.get haft 3 35 (by kernel_rfl) (by kernel_rfl)
          have INV := Lib.hid inv
          clear inv haft hun ho
          change vs 3 = .int .u32 pg at r0
          rw [r0] at e0
          have g0 := getD_opt e0
          go_simp
          refine (put32_any pg _ (by omega) (by omega)).mono ?_
          rintro _ w3 ⟨_, rfl, p3, n3, c3, rfl, e3, s3, m3⟩
          obtain rfl : n3 = 4 := by rw [e3]; exact be_len _ _
          have t3 := s3
          exact hK _ _ (INV.out.inv.same m3) (fun j hj hl => rpE_keep m3 (INV.out.val j hj hl)) ⟨_, _, rfl, t3, fun e => by obtain ⟨_, _, h, _⟩ := t3.addr (by omega); rw [e] at h; cases h⟩
        · intro o ho listed vs a w' inv hun haft K hK
          obtain rfl := Option.some.inj ho
          refine par_run rfl ?_
          have e0 := inv.old 5 (by kernel_rfl)
          have INV := Lib.hid inv
          clear inv haft hun ho
          simp at e0
          go_simp
          exact hK _ _ INV.out.inv INV.out.val rfl
        · intro o ho listed vs a w' inv hun haft K hK
          obtain rfl := Option.some.inj ho
          refine par_run rfl ?_
          obtain ⟨e0, r0⟩ := inv.get haft 5 37 (by kernel_rfl) (by kernel_rfl)
          have INV := Lib.hid inv
          clear inv haft hun ho
          change vs 5 = .pointer (some ⟨A, 2, none⟩) at r0
          rw [r0] at e0
          have g0 := getD_opt e0
          have c2 := (INV.out.inv.cell (a := ⟨A, 2, none⟩) hAl (by simp)).trans k2
          go_simp
          exact hK _ _ INV.out.inv INV.out.val rfl
        · intro o ho listed vs a w' inv hun haft K hK
          obtain rfl := Option.some.inj ho
          refine par_run rfl ?_
          obtain ⟨e0, r0⟩ := inv.get haft 6 38 (by kernel_rfl) (by kernel_rfl)
          have INV := Lib.hid inv
          clear inv haft hun ho
          change vs 6 = .int .i64 ct at r0
          rw [r0] at e0
          have g0 := getD_opt e0
          go_simp
          exact hK _ _ INV.out.inv INV.out.val rfl
        · intro o ho listed vs a w' inv hun haft K hK
          obtain rfl := Option.some.inj ho
          refine par_run rfl ?_
          obtain ⟨e0, r0⟩ := inv.get haft 7 39 (by kernel_rfl) (by kernel_rfl)
          have INV := Lib.hid inv
          clear inv haft hun ho
          change vs 7 = .int .u32 ct at r0
          rw [r0] at e0
          have g0 := getD_opt e0
          go_simp
          refine (put32_any ct _ (by omega) (by omega)).mono ?_
          rintro _ w3 ⟨_, rfl, p3, n3, c3, rfl, e3, s3, m3⟩
          obtain rfl : n3 = 4 := by rw [e3]; exact be_len _ _
          have t3 := s3
          exact hK _ _ (INV.out.inv.same m3) (fun j hj hl => rpE_keep m3 (INV.out.val j hj hl)) ⟨_, _, rfl, t3, fun e => by obtain ⟨_, _, h, _⟩ := t3.addr (by omega); rw [e] at h; cases h⟩
        · intro o ho listed vs a w' inv hun haft K hK
          obtain rfl := Option.some.inj ho
          refine par_run rfl ?_
          obtain ⟨e0, r0⟩ := inv.get haft 0 32 (by kernel_rfl) (by kernel_rfl)
          obtain ⟨e1, r1⟩ := inv.get haft 4 36 (by kernel_rfl) (by kernel_rfl)
          obtain ⟨e2, r2⟩ := inv.get haft 8 40 (by kernel_rfl) (by kernel_rfl)
          have INV := Lib.hid inv
          clear inv haft hun ho
          change vs 0 = .slice p9 M c9 at r0
          rw [r0] at e0
          have g0 := getD_opt e0
          obtain ⟨p1, c1, h1, s1, q1⟩ := r1
          rw [h1] at e1
          have g1 := getD_opt e1
          obtain ⟨p2, c2, h2, s2, q2⟩ := r2
          rw [h2] at e2
          have g2 := getD_opt e2
          have SO := HSO.out.mod INV.out.inv (by simp)
          have PA : Hid (∀ T, _) := fun T => PartsAt.three w' T SO s1 s2
          clear s1 h1 s2 h2
          go_simp
          exact hK _ _ INV.out.inv.alloc (fun j hj hl => rpE_keep (Mod.of_alloc _ _) (INV.out.val j hj hl)) ⟨_, _, rfl, PA.out _, by rw [flat3]; exact HBB.out⟩
        · intro o ho listed vs a w' inv hun haft K hK
          obtain rfl := Option.some.inj ho
          refine par_run rfl ?_
          obtain ⟨e0, r0⟩ := inv.get haft 9 41 (by kernel_rfl) (by kernel_rfl)
          have INV := Lib.hid inv
          clear inv haft hun ho
          obtain ⟨p0, l0, h0, pa, hfl⟩ := r0
          rw [h0] at e0
          have g0 := getD_opt e0
          go_simp
          refine (concat_any p0 3 3 l0 _ pa (by rw [hfl, HBL.out]; omega)).mono ?_
          rintro _ w3 ⟨_, rfl, p3, n3, c3, rfl, e3, s3, m3⟩
          rw [hfl] at e3 s3
          obtain rfl : n3 = N := by rw [e3]; exact HBL.out
          have T3 := (Tl.of_key s3).base_le (Nat.le_trans HB0.out INV.out.inv.size)
          exact hK _ _ (INV.out.inv.same m3) (fun j hj hl => rpE_keep m3 (INV.out.val j hj hl)) ⟨_, _, rfl, T3, fun e => by have := (T3.nil e).1; omega⟩
        · intro o ho listed vs a w' inv hun haft K hK
          obtain rfl := Option.some.inj ho
          refine par_run rfl ?_
          obtain ⟨e0, r0⟩ := inv.get haft 10 42 (by kernel_rfl) (by kernel_rfl)
          have INV := Lib.hid inv
          clear inv haft hun ho
          have g0 := getD_opt e0
          obtain ⟨p0, c0, h0, t0, n0⟩ := r0
          rw [h0] at g0
          go_simp
          exact hK _ _ INV.out.inv INV.out.val ⟨_, _, rfl, t0, n0⟩
        intro vs w2 X hm hr hslot hold hsize hdef
        have er := hslot 11 3 (by kernel_rfl)
        obtain ⟨p8, c8, h9, T9, Q9⟩ := hr 11 (by decide)
        rw [h9] at er
        clear h9
        have e0 := hold 0 (by kernel_rfl)
        have e1 := hold 1 (by kernel_rfl)
        have e2 := hold 2 (by kernel_rfl)
        have e4 := hold 4 (by kernel_rfl)
        have e5 := hold 5 (by kernel_rfl)
        have e6 := hold 6 (by kernel_rfl)
        have e7 := hold 7 (by kernel_rfl)
        have e8 := hold 8 (by kernel_rfl)
        have e9 := hold 9 (by kernel_rfl)
        have e10 := hold 10 (by kernel_rfl)
        have e11 := hold 11 (by kernel_rfl)
        have e12 := hold 12 (by kernel_rfl)
        have e13 := hold 13 (by kernel_rfl)
        have e14 := hold 14 (by kernel_rfl)
        have e15 := hold 15 (by kernel_rfl)
        have e16 := hold 16 (by kernel_rfl)
        have e17 := hold 17 (by kernel_rfl)
        have e18 := hold 18 (by kernel_rfl)
        have e19 := hold 19 (by kernel_rfl)
        have e20 := hold 20 (by kernel_rfl)
        have e21 := hold 21 (by kernel_rfl)
        have e22 := hold 22 (by kernel_rfl)
        have e23 := hold 23 (by kernel_rfl)
        have e24 := hold 24 (by kernel_rfl)
        have e25 := hold 25 (by kernel_rfl)
        have e26 := hold 26 (by kernel_rfl)
        have e27 := hold 27 (by kernel_rfl)
        have e28 := hold 28 (by kernel_rfl)
        have e29 := hold 29 (by kernel_rfl)
        have e30 := hold 30 (by kernel_rfl)
        have e31 := hold 31 (by kernel_rfl)
        have e43 := hold 43 (by kernel_rfl)
        have e44 := hold 44 (by kernel_rfl)
        simp only [Array.getD_eq_getD_getElem?, List.getElem?_toArray, List.getElem?_cons_zero, List.getElem?_cons_succ, Option.getD_some] at e0 e1 e2 e4 e5 e6 e7 e8 e9 e10 e11 e12 e13 e14 e15 e16 e17 e18 e19 e20 e21 e22 e23 e24 e25 e26 e27 e28 e29 e30 e31 e43 e44
        have MR := Lib.hid hm
        clear hr hslot hold hm
        obtain ⟨⟨xs⟩, df⟩ := X
        replace hdef : df = [] := hdef
        subst hdef
        replace hsize : xs.length = 45 := hsize
        obtain ⟨x0, xs0, rfl, hs0⟩ := cons_of hsize
        obtain ⟨x1, xs1, rfl, hs1⟩ := cons_of hs0
        obtain ⟨x2, xs2, rfl, hs2⟩ := cons_of hs1
        obtain ⟨x3, xs3, rfl, hs3⟩ := cons_of hs2
        obtain ⟨x4, xs4, rfl, hs4⟩ := cons_of hs3
        obtain ⟨x5, xs5, rfl, hs5⟩ := cons_of hs4
        obtain ⟨x6, xs6, rfl, hs6⟩ := cons_of hs5
        obtain ⟨x7, xs7, rfl, hs7⟩ := cons_of hs6
        obtain ⟨x8, xs8, rfl, hs8⟩ := cons_of hs7
        obtain ⟨x9, xs9, rfl, hs9⟩ := cons_of hs8
        obtain ⟨x10, xs10, rfl, hs10⟩ := cons_of hs9
        obtain ⟨x11, xs11, rfl, hs11⟩ := cons_of hs10
        obtain ⟨x12, xs12, rfl, hs12⟩ := cons_of hs11
        obtain ⟨x13, xs13, rfl, hs13⟩ := cons_of hs12
        obtain ⟨x14, xs14, rfl, hs14⟩ := cons_of hs13
        obtain ⟨x15, xs15, rfl, hs15⟩ := cons_of hs14
        obtain ⟨x16, xs16, rfl, hs16⟩ := cons_of hs15
        obtain ⟨x17, xs17, rfl, hs17⟩ := cons_of hs16
        obtain ⟨x18, xs18, rfl, hs18⟩ := cons_of hs17
        obtain ⟨x19, xs19, rfl, hs19⟩ := cons_of hs18
        obtain ⟨x20, xs20, rfl, hs20⟩ := cons_of hs19
        obtain ⟨x21, xs21, rfl, hs21⟩ := cons_of hs20
        obtain ⟨x22, xs22, rfl, hs22⟩ := cons_of hs21
        obtain ⟨x23, xs23, rfl, hs23⟩ := cons_of hs22
        obtain ⟨x24, xs24, rfl, hs24⟩ := cons_of hs23
        obtain ⟨x25, xs25, rfl, hs25⟩ := cons_of hs24
        obtain ⟨x26, xs26, rfl, hs26⟩ := cons_of hs25
        obtain ⟨x27, xs27, rfl, hs27⟩ := cons_of hs26
        obtain ⟨x28, xs28, rfl, hs28⟩ := cons_of hs27
        obtain ⟨x29, xs29, rfl, hs29⟩ := cons_of hs28
        obtain ⟨x30, xs30, rfl, hs30⟩ := cons_of hs29
        obtain ⟨x31, xs31, rfl, hs31⟩ := cons_of hs30
        obtain ⟨x32, xs32, rfl, hs32⟩ := cons_of hs31
        obtain ⟨x33, xs33, rfl, hs33⟩ := cons_of hs32
        obtain ⟨x34, xs34, rfl, hs34⟩ := cons_of hs33
        obtain ⟨x35, xs35, rfl, hs35⟩ := cons_of hs34
        obtain ⟨x36, xs36, rfl, hs36⟩ := cons_of hs35
        obtain ⟨x37, xs37, rfl, hs37⟩ := cons_of hs36
        obtain ⟨x38, xs38, rfl, hs38⟩ := cons_of hs37
        obtain ⟨x39, xs39, rfl, hs39⟩ := cons_of hs38
        obtain ⟨x40, xs40, rfl, hs40⟩ := cons_of hs39
        obtain ⟨x41, xs41, rfl, hs41⟩ := cons_of hs40
        obtain ⟨x42, xs42, rfl, hs42⟩ := cons_of hs41
        obtain ⟨x43, xs43, rfl, hs43⟩ := cons_of hs42
        obtain ⟨x44, xs44, rfl, hs44⟩ := cons_of hs43
        obtain rfl := List.eq_nil_of_length_eq_zero hs44
        clear hsize hs0 hs1 hs2 hs3 hs4 hs5 hs6 hs7 hs8 hs9 hs10 hs11 hs12 hs13 hs14 hs15 hs16 hs17 hs18 hs19 hs20 hs21 hs22 hs23 hs24 hs25 hs26 hs27 hs28 hs29 hs30 hs31 hs32 hs33 hs34 hs35 hs36 hs37 hs38 hs39 hs40 hs41 hs42 hs43 hs44
        rw [show (Array.mk (x0 :: x1 :: x2 :: x3 :: x4 :: x5 :: x6 :: x7 :: x8 :: x9 :: x10 :: x11 :: x12 :: x13 :: x14 :: x15 :: x16 :: x17 :: x18 :: x19 :: x20 :: x21 :: x22 :: x23 :: x24 :: x25 :: x26 :: x27 :: x28 :: x29 :: x30 :: x31 :: x32 :: x33 :: x34 :: x35 :: x36 :: x37 :: x38 :: x39 :: x40 :: x41 :: x42 :: x43 :: x44 :: []) : Array Value) = List.toArray (x0 :: x1 :: x2 :: x3 :: x4 :: x5 :: x6 :: x7 :: x8 :: x9 :: x10 :: x11 :: x12 :: x13 :: x14 :: x15 :: x16 :: x17 :: x18 :: x19 :: x20 :: x21 :: x22 :: x23 :: x24 :: x25 :: x26 :: x27 :: x28 :: x29 :: x30 :: x31 :: x32 :: x33 :: x34 :: x35 :: x36 :: x37 :: x38 :: x39 :: x40 :: x41 :: x42 :: x43 :: x44 :: []) from rfl]
        change x0 = _ at e0
        subst e0
        change x1 = _ at e1
        subst e1
        change x2 = _ at e2
        subst e2
        change x4 = _ at e4
        subst e4
        change x5 = _ at e5
        subst e5
        change x6 = _ at e6
        subst e6
        change x7 = _ at e7
        subst e7
        change x8 = _ at e8
        subst e8
        change x9 = _ at e9
        subst e9
        change x10 = _ at e10
        subst e10
        change x11 = _ at e11
        subst e11
        change x12 = _ at e12
        subst e12
        change x13 = _ at e13
        subst e13
        change x14 = _ at e14
        subst e14
        change x15 = _ at e15
        subst e15
        change x16 = _ at e16
        subst e16
        change x17 = _ at e17
        subst e17
        change x18 = _ at e18
        subst e18
        change x19 = _ at e19
        subst e19
        change x20 = _ at e20
        subst e20
        change x21 = _ at e21
        subst e21
        change x22 = _ at e22
        subst e22
        change x23 = _ at e23
        subst e23
        change x24 = _ at e24
        subst e24
        change x25 = _ at e25
        subst e25
        change x26 = _ at e26
        subst e26
        change x27 = _ at e27
        subst e27
        change x28 = _ at e28
        subst e28
        change x29 = _ at e29
        subst e29
        change x30 = _ at e30
        subst e30
        change x31 = _ at e31
        subst e31
        change x43 = _ at e43
        subst e43
        change x44 = _ at e44
        subst e44
        change x3 = .slice p8 N c8 at er
        subst er
        have HT9 := Lib.hid T9
        have HQ9 := Lib.hid Q9
        have HMN := Lib.hid (MT9.out.same MR.out)
        clear T9 Q9 MR
        go_wp2
        go_roundw
        case rel => exact ⟨i + 1, N, c8, p8, by omega, by go_num, rfl, HNN.out, HQ9.out, by
          have := HT9.out
          rw [HB0E.out, HBBE.out] at this
          exact this, HMN.out⟩
        case measure => simp [intOf]; omega
      · obtain rfl : i = n := by omega
        go_wp2
        go_ret
        rw [HALL.out] at HML OT
        have hb : [67, 82, 79, 79, (i : Int)] ++ rs.flatMap rootBytes = rootsBytes rs := by unfold rootsBytes; rw [HLEN.out]
        refine .mk ⟨o, m, d, rfl, ?_, ⟨fun e => absurd e HON.out, fun e => ?_⟩, ?_, HM.out⟩
        · rw [HPV.out, ← hb, HML.out]; simp; omega
        · rw [HPV.out] at e; simp [rootsBytes] at e
        · rw [HPV.out, ← hb]; exact OT.out
  · have HPV : Hid (payRs rs = []) := if_neg hm
    have hm' : mayR rs = false := by simpa using hm
    rw [hm'] at HMAY
    clear hm hm' h
    go_enter Tryd.func8, Tryd.ntmps8
    go_wp2_with fail
    refine HMAY.out.mono ?_
    rintro _ w1 ⟨_, rfl, rfl, m1⟩
    have M1 := Lib.hid m1
    clear m1
    go_wp2
    go_ret
    exact .mk ⟨none, 0, 0, rfl, by rw [HPV.out] <;> rfl, by rw [HPV.out]; simp, by rw [HPV.out]; exact Tl.none' _ _ _, M1.out⟩
end Go.Proofs.YtpdkkokgpdabhaaDoor
