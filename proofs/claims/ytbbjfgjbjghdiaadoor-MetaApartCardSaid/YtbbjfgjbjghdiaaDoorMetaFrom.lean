/- The program's meta: read from its page. -/
import Derived.Test.YtbbjfgjbjghdiaaDoorMetaPay
namespace Go.Proofs.YtbbjfgjbjghdiaaDoor
open Go.RowKit Go.Maps
set_option linter.unusedSimpArgs false
set_option linter.unusedVariables false

theorem BytesIn.mod {w w' : World} {S : List Nat} {p : Option Addr} {n c : Nat} {l : List Int} (h : BytesIn w p n c l) (hm : Mod S w w') (hn : ∀ a, p = some a → 0 < n → a.block ∉ S) : BytesIn w' p n c l := ⟨h.sl.mod hm hn, h.wf⟩
/-- 'b[lo:]'. -/
theorem BytesIn.from_ {P : Program} {T : TypeId} {w : World} {p : Option Addr} {n c : Nat} {l : List Int} (hT : P.underlying T = some (.slice (P.elem T))) (hs : ∀ W : World, (sizeOf (P.elem T)).run P W = .ok 1 W) (h : BytesIn w p n c l) (lo : Nat) (h1 : lo ≤ n) :
    ∃ p', (∀ W, (Instr.slice T (.slice p n c) (some (.int .i64 lo)) none none).run P W = .ok (.slice p' (n - lo) (c - lo)) W) ∧ BytesIn w p' (n - lo) (c - lo) (l.drop lo) := by
  obtain ⟨p', r, s, _⟩ := h.sl.sub_l hT hs lo .i64 h1
  refine ⟨p', r, ?_, fun x hx => h.wf x (List.mem_of_mem_drop hx)⟩
  rw [Nat.mul_one] at s
  simpa [bs, List.map_drop] using s
/-- 'b[lo:lo+k]'. -/
theorem BytesIn.sub {P : Program} {T : TypeId} {w : World} {p : Option Addr} {n c : Nat} {l : List Int} (hT : P.underlying T = some (.slice (P.elem T))) (hs : ∀ W : World, (sizeOf (P.elem T)).run P W = .ok 1 W) (h : BytesIn w p n c l) (lo hi k : Nat) (hk : hi = lo + k) (h1 : hi ≤ n) :
    ∃ p', (∀ W, (Instr.slice T (.slice p n c) (some (.int .i64 lo)) (some (.int .i64 hi)) none).run P W = .ok (.slice p' k (c - lo)) W) ∧ BytesIn w p' k (c - lo) ((l.drop lo).take k) := by
  obtain ⟨p', r, s, _⟩ := h.sl.sub hT hs lo hi .i64 .i64 (by omega) h1
  rw [show hi - lo = k from by omega] at r s
  refine ⟨p', r, ?_, fun x hx => h.wf x (List.mem_of_mem_drop (List.mem_of_mem_take hx))⟩
  rw [Nat.mul_one, Nat.mul_one] at s
  simpa [bs, List.map_drop, List.map_take] using s

def fromVal (V : Value) (p12 p16 p20 : Option Addr) (c : Nat) (G X12 X16 X20 : Int) (A : Nat) (i : Nat) (vs : Nat → Value) (w : World) : Prop :=
  match i with
  | 0 => vs 0 = .int .u64 G
  | 1 => vs 1 = V
  | 2 => vs 2 = .slice p12 (1016 - 12) (c - 12)
  | 3 => vs 3 = .int .u32 X12
  | 4 => vs 4 = .int .i64 X12
  | 5 => vs 5 = V
  | 6 => vs 6 = .slice p16 (1016 - 16) (c - 16)
  | 7 => vs 7 = .int .u32 X16
  | 8 => vs 8 = .int .i64 X16
  | 9 => vs 9 = V
  | 10 => vs 10 = .slice p20 (1016 - 20) (c - 20)
  | 11 => vs 11 = .int .u32 X20
  | 12 => vs 12 = .int .i64 X20
  | 13 => vs 13 = .agg #[.int .u64 G, .int .i64 X12, .int .i64 X16, .int .i64 X20]
  | 14 => ∃ b, vs 14 = .pointer (some ⟨b, 0, none⟩) ∧ A ≤ b ∧ (w.heap[b]? = some (Obj.cells #[.int .u64 0, .int .i64 0, .int .i64 0, .int .i64 0] 24 (0, 0)) ∨ w.heap[b]? = some (Obj.cells #[.int .u64 G, .int .i64 X12, .int .i64 X16, .int .i64 X20] 24 (0, 0)))
  | 15 => ∃ b, vs 14 = .pointer (some ⟨b, 0, none⟩) ∧ A ≤ b ∧ w.heap[b]? = some (Obj.cells #[.int .u64 G, .int .i64 X12, .int .i64 X16, .int .i64 X20] 24 (0, 0))
  | _ => True
theorem fromR_mod {V : Value} {p12 p16 p20 : Option Addr} {c : Nat} {G X12 X16 X20 : Int} {A i : Nat} {vs : Nat → Value} {w w' : World} (hm : Mod [] w w') (hr : fromVal V p12 p16 p20 c G X12 X16 X20 A i vs w) : fromVal V p12 p16 p20 c G X12 X16 X20 A i vs w' := by
  unfold fromVal at hr ⊢
  split at hr
  all_goals try exact hr
  · obtain ⟨b, h1, h2, h3⟩ := hr
    exact ⟨b, h1, h2, h3.imp (fun h => hm.at h (by simp)) (fun h => hm.at h (by simp))⟩
  · obtain ⟨b, h1, h2, h3⟩ := hr
    exact ⟨b, h1, h2, hm.at h3 (by simp)⟩
theorem fromR_store {V : Value} {p12 p16 p20 : Option Addr} {c : Nat} {G X12 X16 X20 : Int} {A i b : Nat} {vs : Nat → Value} {w w' : World} (h6 : vs 14 = .pointer (some ⟨b, 0, none⟩)) (h1 : w'.heap[b]? = some (Obj.cells #[.int .u64 G, .int .i64 X12, .int .i64 X16, .int .i64 X20] 24 (0, 0)))
    (hr : fromVal V p12 p16 p20 c G X12 X16 X20 A i vs w) : fromVal V p12 p16 p20 c G X12 X16 X20 A i vs w' := by
  unfold fromVal at hr ⊢
  split at hr
  all_goals try exact hr
  · obtain ⟨b', e1, e2, _⟩ := hr
    obtain rfl : b = b' := by rw [h6] at e1; injection e1 with e1; injection e1 with e1; injection e1
    exact ⟨b, h6, e2, Or.inr h1⟩
  · obtain ⟨b', e1, e2, _⟩ := hr
    obtain rfl : b = b' := by rw [h6] at e1; injection e1 with e1; injection e1 with e1; injection e1
    exact ⟨b, h6, e2, h1⟩
theorem res4 {w W : World} (h : Mod [] w W) {u0 u1 u2 u3 : Value} : Mod [] w ((((W.setCell ⟨w.heap.size, 0, none⟩ u0).setCell ⟨w.heap.size, 1, none⟩ u1).setCell ⟨w.heap.size, 2, none⟩ u2).setCell ⟨w.heap.size, 3, none⟩ u3) :=
  (((h.setCell (Or.inr (Nat.le_refl _))).setCell (Or.inr (Nat.le_refl _))).setCell (Or.inr (Nat.le_refl _))).setCell (Or.inr (Nat.le_refl _))
def fromF (G X12 X16 X20 : Int) (i : Nat) (vs : Nat → Value) (w : World) : Prop :=
  match i with
  | 0 => vs 0 = .agg #[.int .u64 G, .int .i64 X12, .int .i64 X16, .int .i64 X20]
  | 1 => vs 1 = .bool false
  | 2 => vs 2 = .bool true
  | 3 => vs 3 = .bool true
  | 10 => vs 10 = .bool true
  | _ => True
theorem fromF_mod {G X12 X16 X20 : Int} {i : Nat} {vs : Nat → Value} {w w' : World} (hm : Mod [] w w') (hr : fromF G X12 X16 X20 i vs w) : fromF G X12 X16 X20 i vs w' := hr
def fromT (V V24 : Value) (BY : List Int) (D : Bool) (G X12 X16 X20 : Int) (i : Nat) (vs : Nat → Value) (w : World) : Prop :=
  match i with
  | 0 => vs 0 = .agg #[.int .u64 G, .int .i64 X12, .int .i64 X16, .int .i64 X20]
  | 1 => vs 1 = .bool true
  | 2 => vs 2 = .bool false
  | 3 => vs 3 = .bool false
  | 4 => vs 4 = .agg #[.int .u64 G, .int .i64 X12, .int .i64 X16, .int .i64 X20]
  | 5 => ∃ p c, vs 5 = .slice p 24 c ∧ Sl w 1 p 24 c (bs BY)
  | 6 => vs 6 = V
  | 7 => vs 7 = V24
  | 8 => vs 8 = .bool D
  | 9 => vs 9 = .bool (!D)
  | 10 => vs 10 = .bool (!D)
  | _ => True
theorem fromT_mod {V V24 : Value} {BY : List Int} {D : Bool} {G X12 X16 X20 : Int} {i : Nat} {vs : Nat → Value} {w w' : World} (hm : Mod [] w w') (hr : fromT V V24 BY D G X12 X16 X20 i vs w) : fromT V V24 BY D G X12 X16 X20 i vs w' := by
  unfold fromT at hr ⊢
  split at hr
  all_goals try exact hr
  obtain ⟨p, c, h1, h2⟩ := hr
  exact ⟨p, c, h1, h2.mod hm (by simp)⟩
def FromMR (l : List Int) (w : World) (v : Value) (w' : World) : Prop := v = .tuple #[.agg (fromM l).1.cells, .int .i64 (fromM l).2] ∧ Mod [] w w'
set_option maxRecDepth 100000 in
set_option maxHeartbeats 4000000 in
theorem fromm_any (p : Option Addr) (n c : Nat) (l : List Int) (w : World) (h : BytesIn w p n c l) :
    Calls Tryd.prog 14 #[.slice p n c] w (Ret (FromMR l w)) := by
  have hln := h.len
  have hcm := h.sl.capm; have hle := h.sl.le
  unfold maxLen at hcm
  have HM0 : Hid (Mod [] w (w.alloc (.cells #[.int .u64 0, .int .i64 0, .int .i64 0, .int .i64 0] 24))) := Mod.of_alloc w _
  have HAT0 : Hid ((w.alloc (.cells #[.int .u64 0, .int .i64 0, .int .i64 0, .int .i64 0] 24)).heap[w.heap.size]? = some (Obj.cells #[.int .u64 0, .int .i64 0, .int .i64 0, .int .i64 0] 24 (0, 0))) := at_alloc w _
  have H := Lib.hid h
  have HLN := Lib.hid hln
  clear h hln
  by_cases h16 : n = 1016
  · subst h16
    have HWF := Lib.hid H.out.wf
    obtain ⟨B, off, rfl, hBlt, hcs⟩ := H.out.sl.addr (by omega)
    clear hcs
    obtain ⟨p24, r24, b24⟩ := H.out.from_ Tryd.underlying25 sizeBytes 24 (by omega)
    obtain ⟨p4, r4, b4⟩ := H.out.sub Tryd.underlying25 sizeBytes 4 12 8 rfl (by omega)
    obtain ⟨p12, r12, b12⟩ := H.out.from_ Tryd.underlying25 sizeBytes 12 (by omega)
    obtain ⟨p16, r16, b16⟩ := H.out.from_ Tryd.underlying25 sizeBytes 16 (by omega)
    obtain ⟨p20, r20, b20⟩ := H.out.from_ Tryd.underlying25 sizeBytes 20 (by omega)
    simp only [show ((24 : Nat) : Int) = 24 from rfl, show ((4 : Nat) : Int) = 4 from rfl, show ((12 : Nat) : Int) = 12 from rfl, show ((16 : Nat) : Int) = 16 from rfl, show ((20 : Nat) : Int) = 20 from rfl] at r24 r4 r12 r16 r20
    have HB24 := Lib.hid (b24.mod HM0.out (by simp))
    have HB4 := Lib.hid b4
    have HB12' := Lib.hid b12
    have HB16' := Lib.hid b16
    have HB20' := Lib.hid b20
    clear b24 b4 b12 b16 b20
    go_enter Tryd.func14, Tryd.ntmps14
    go_wp2_with fail
    refine (trim_any _ _ _ _ _ HB24.out.sl).mono ?_
    rintro _ w1 ⟨_, rfl, q1, k1, d1, rfl, z1, m1⟩
    have HM1 : Hid (Mod [] w w1) := HM0.out.same m1
    have HAT1 := Lib.hid (m1.at HAT0.out (by simp))
    have HZ1 := Lib.hid z1
    clear z1 m1
    have HIFF := Lib.hid (pad_iff (n := 1016) (b := l) (p := (rdM l).bytes) HLN.out (by rw [Mt.bytes_len]; omega))
    rcases Nat.eq_zero_or_pos k1 with hk | hk
    · have HZ := Lib.hid (HZ1.out.1 hk)
      subst hk
      go_wp2_with fail
      refine (unkey_any p4 _ _ _ _ (HB4.out.mod HM1.out (by simp))).mono ?_
      rintro _ w2 ⟨_, rfl, rfl, m2⟩
      rw [if_pos rfl]
      have HM2 : Hid (Mod [] w w2) := HM1.out.same m2
      have HAT2 := Lib.hid (m2.at HAT1.out (by simp))
      have HRD : Hid (rdM l = ⟨un ((l.drop 4).take 8), un4 (l.drop 12) 4, un4 (l.drop 16) 4, un4 (l.drop 20) 4⟩) := rfl
      have HB12 := Lib.hid (HB12'.out.mod (HM2.out.drew) (by simp))
      have HB16 := Lib.hid (HB16'.out.mod (HM2.out.drew) (by simp))
      have HB20 := Lib.hid (HB20'.out.mod (HM2.out.drew) (by simp))
      have x12 := un4_range (l := l.drop 12) (fun x hx => HWF.out x (List.mem_of_mem_drop hx)) 4
      have x16 := un4_range (l := l.drop 16) (fun x hx => HWF.out x (List.mem_of_mem_drop hx)) 4
      have x20 := un4_range (l := l.drop 20) (fun x hx => HWF.out x (List.mem_of_mem_drop hx)) 4
      have xg := unkey_range (a := 4) HWF.out
      generalize un ((l.drop 4).take 8) = G at *
      clear m2
      go_wp2
      generalize hX12 : un4 (l.drop 12) 4 = X12 at *
      generalize hX16 : un4 (l.drop 16) 4 = X16 at *
      generalize hX20 : un4 (l.drop 20) 4 = X20 at *
      have HX12 := Lib.hid hX12
      have HX16 := Lib.hid hX16
      have HX20 := Lib.hid hX20
      have y12 : 0 ≤ X12 ∧ X12 < 4294967296 := x12
      have y16 : 0 ≤ X16 ∧ X16 < 4294967296 := x16
      have y20 : 0 ≤ X20 ∧ X20 < 4294967296 := x20
      have w12 : IntKind.i64.wrap X12 = X12 := IntWalk.i64_in _ (by omega)
      have w16 : IntKind.i64.wrap X16 = X16 := IntWalk.i64_in _ (by omega)
      have w20 : IntKind.i64.wrap X20 = X20 := IntWalk.i64_in _ (by omega)
      clear hX12 hX16 hX20 x12 x16 x20 HB12' HB16' HB20' HM0 HM1 HAT0 HAT1
      refine par_region (by kernel_rfl) (fromVal (.slice (some ⟨B, off, none⟩) 1016 c) p12 p16 p20 c G X12 X16 X20 w2.heap.size) (fun w' => Mod [] w2.drew w') (by kernel_rfl) ?_ ⟨⟨⟨⟨⟨⟨⟨⟨⟨⟨⟨⟨⟨⟨⟨⟨trivial, ?_⟩, ?_⟩, ?_⟩, ?_⟩, ?_⟩, ?_⟩, ?_⟩, ?_⟩, ?_⟩, ?_⟩, ?_⟩, ?_⟩, ?_⟩, ?_⟩, ?_⟩, ?_⟩ (Mod.refl [] _) ?_
      · intro j vs vs' w o ho h1 h2 h3
        unfold fromVal at h3 ⊢
        split at h3
        all_goals first
          | exact trivial
          | (rw [← h1]; exact h3)
          | (obtain rfl := Option.some.inj ho
             have e := h2 { on := 14, ground := Ground.data } (by simp) rfl
             simp only at e
             rw [← e]; exact h3)
      · -- 0
        intro o ho listed vs a w' inv hun haft K hK
        obtain rfl := Option.some.inj ho
        refine par_run rfl ?_
        have e4 := inv.old 4 (by kernel_rfl)
        have INV := Lib.hid inv
        clear inv haft hun ho
        simp at e4
        go_simp
        exact hK _ _ INV.out.inv INV.out.val rfl
      · -- 1
        intro o ho listed vs a w' inv hun haft K hK
        obtain rfl := Option.some.inj ho
        refine par_run rfl ?_
        have e0 := inv.old 0 (by kernel_rfl)
        have INV := Lib.hid inv
        clear inv haft hun ho
        simp at e0
        go_simp
        exact hK _ _ INV.out.inv INV.out.val rfl
      · -- 2
        intro o ho listed vs a w' inv hun haft K hK
        obtain rfl := Option.some.inj ho
        refine par_run rfl ?_
        obtain ⟨e25, r25⟩ := inv.get haft 1 25 (by kernel_rfl) (by kernel_rfl)
        have INV := Lib.hid inv
        clear inv haft hun ho
        change vs 1 = .slice (some ⟨B, off, none⟩) 1016 c at r25
        rw [r25] at e25
        go_simp
        exact hK _ _ INV.out.inv INV.out.val rfl
      · -- 3
        intro o ho listed vs a w' inv hun haft K hK
        obtain rfl := Option.some.inj ho
        refine par_run rfl ?_
        obtain ⟨e26, r26⟩ := inv.get haft 2 26 (by kernel_rfl) (by kernel_rfl)
        have INV := Lib.hid inv
        clear inv haft hun ho
        change vs 2 = .slice p12 (1016 - 12) (c - 12) at r26
        rw [r26] at e26
        go_simp
        refine (get32_any p12 _ _ _ _ (HB12.out.mod INV.out.inv (by simp)) (by omega)).mono ?_
        rintro _ w3 ⟨_, rfl, rfl, m3⟩
        exact hK _ _ (INV.out.inv.same m3) (fun j hj hl => fromR_mod m3 (INV.out.val j hj hl)) (congrArg (Value.int .u32) HX12.out)
      · -- 4
        intro o ho listed vs a w' inv hun haft K hK
        obtain rfl := Option.some.inj ho
        refine par_run rfl ?_
        obtain ⟨e27, r27⟩ := inv.get haft 3 27 (by kernel_rfl) (by kernel_rfl)
        have INV := Lib.hid inv
        clear inv haft hun ho
        change vs 3 = .int .u32 X12 at r27
        rw [r27] at e27
        go_simp
        exact hK _ _ INV.out.inv INV.out.val rfl
      · -- 5
        intro o ho listed vs a w' inv hun haft K hK
        obtain rfl := Option.some.inj ho
        refine par_run rfl ?_
        have e0 := inv.old 0 (by kernel_rfl)
        have INV := Lib.hid inv
        clear inv haft hun ho
        simp at e0
        go_simp
        exact hK _ _ INV.out.inv INV.out.val rfl
      · -- 6
        intro o ho listed vs a w' inv hun haft K hK
        obtain rfl := Option.some.inj ho
        refine par_run rfl ?_
        obtain ⟨e29, r29⟩ := inv.get haft 5 29 (by kernel_rfl) (by kernel_rfl)
        have INV := Lib.hid inv
        clear inv haft hun ho
        change vs 5 = .slice (some ⟨B, off, none⟩) 1016 c at r29
        rw [r29] at e29
        go_simp
        exact hK _ _ INV.out.inv INV.out.val rfl
      · -- 7
        intro o ho listed vs a w' inv hun haft K hK
        obtain rfl := Option.some.inj ho
        refine par_run rfl ?_
        obtain ⟨e30, r30⟩ := inv.get haft 6 30 (by kernel_rfl) (by kernel_rfl)
        have INV := Lib.hid inv
        clear inv haft hun ho
        change vs 6 = .slice p16 (1016 - 16) (c - 16) at r30
        rw [r30] at e30
        go_simp
        refine (get32_any p16 _ _ _ _ (HB16.out.mod INV.out.inv (by simp)) (by omega)).mono ?_
        rintro _ w3 ⟨_, rfl, rfl, m3⟩
        exact hK _ _ (INV.out.inv.same m3) (fun j hj hl => fromR_mod m3 (INV.out.val j hj hl)) (congrArg (Value.int .u32) HX16.out)
      · -- 8
        intro o ho listed vs a w' inv hun haft K hK
        obtain rfl := Option.some.inj ho
        refine par_run rfl ?_
        obtain ⟨e31, r31⟩ := inv.get haft 7 31 (by kernel_rfl) (by kernel_rfl)
        have INV := Lib.hid inv
        clear inv haft hun ho
        change vs 7 = .int .u32 X16 at r31
        rw [r31] at e31
        go_simp
        exact hK _ _ INV.out.inv INV.out.val rfl
      · -- 9
        intro o ho listed vs a w' inv hun haft K hK
        obtain rfl := Option.some.inj ho
        refine par_run rfl ?_
        have e0 := inv.old 0 (by kernel_rfl)
        have INV := Lib.hid inv
        clear inv haft hun ho
        simp at e0
        go_simp
        exact hK _ _ INV.out.inv INV.out.val rfl
      · -- 10
        intro o ho listed vs a w' inv hun haft K hK
        obtain rfl := Option.some.inj ho
        refine par_run rfl ?_
        obtain ⟨e33, r33⟩ := inv.get haft 9 33 (by kernel_rfl) (by kernel_rfl)
        have INV := Lib.hid inv
        clear inv haft hun ho
        change vs 9 = .slice (some ⟨B, off, none⟩) 1016 c at r33
        rw [r33] at e33
        go_simp
        exact hK _ _ INV.out.inv INV.out.val rfl
      · -- 11
        intro o ho listed vs a w' inv hun haft K hK
        obtain rfl := Option.some.inj ho
        refine par_run rfl ?_
        obtain ⟨e34, r34⟩ := inv.get haft 10 34 (by kernel_rfl) (by kernel_rfl)
        have INV := Lib.hid inv
        clear inv haft hun ho
        change vs 10 = .slice p20 (1016 - 20) (c - 20) at r34
        rw [r34] at e34
        go_simp
        refine (get32_any p20 _ _ _ _ (HB20.out.mod INV.out.inv (by simp)) (by omega)).mono ?_
        rintro _ w3 ⟨_, rfl, rfl, m3⟩
        exact hK _ _ (INV.out.inv.same m3) (fun j hj hl => fromR_mod m3 (INV.out.val j hj hl)) (congrArg (Value.int .u32) HX20.out)
      · -- 12
        intro o ho listed vs a w' inv hun haft K hK
        obtain rfl := Option.some.inj ho
        refine par_run rfl ?_
        obtain ⟨e35, r35⟩ := inv.get haft 11 35 (by kernel_rfl) (by kernel_rfl)
        have INV := Lib.hid inv
        clear inv haft hun ho
        change vs 11 = .int .u32 X20 at r35
        rw [r35] at e35
        go_simp
        exact hK _ _ INV.out.inv INV.out.val rfl
      · -- 13
        intro o ho listed vs a w' inv hun haft K hK
        obtain rfl := Option.some.inj ho
        refine par_run rfl ?_
        obtain ⟨e24, r24⟩ := inv.get haft 0 24 (by kernel_rfl) (by kernel_rfl)
        obtain ⟨e28, r28⟩ := inv.get haft 4 28 (by kernel_rfl) (by kernel_rfl)
        obtain ⟨e32, r32⟩ := inv.get haft 8 32 (by kernel_rfl) (by kernel_rfl)
        obtain ⟨e36, r36⟩ := inv.get haft 12 36 (by kernel_rfl) (by kernel_rfl)
        have INV := Lib.hid inv
        clear inv haft hun ho
        change vs 0 = .int .u64 G at r24
        change vs 4 = .int .i64 X12 at r28
        change vs 8 = .int .i64 X16 at r32
        change vs 12 = .int .i64 X20 at r36
        rw [r24] at e24
        rw [r28] at e28
        rw [r32] at e32
        rw [r36] at e36
        replace e24 := getD_opt e24
        replace e28 := getD_opt e28
        replace e32 := getD_opt e32
        replace e36 := getD_opt e36
        go_simp
        exact hK _ _ INV.out.inv INV.out.val rfl
      · -- 14
        intro o ho listed vs a w' inv hun haft K hK
        obtain rfl := Option.some.inj ho
        refine par_run rfl ?_
        have INV := Lib.hid inv
        clear inv haft hun ho
        go_simp
        exact hK _ _ INV.out.inv.alloc (fun j hj hl => fromR_mod (Mod.of_alloc _ _) (INV.out.val j hj hl)) ⟨w'.heap.size, rfl, INV.out.inv.size, Or.inl (at_alloc w' _)⟩
      · -- 15
        intro o ho listed vs a w' inv hun haft K hK
        obtain rfl := Option.some.inj ho
        refine par_run rfl ?_
        obtain ⟨e6, r6⟩ := inv.get haft 14 6 (by kernel_rfl) (by kernel_rfl)
        obtain ⟨e37, r37⟩ := inv.get haft 13 37 (by kernel_rfl) (by kernel_rfl)
        have INV := Lib.hid inv
        clear inv haft hun ho
        obtain ⟨b, h6, hb, hat⟩ := r6
        change vs 13 = .agg #[.int .u64 G, .int .i64 X12, .int .i64 X16, .int .i64 X20] at r37
        rw [r37] at e37
        have E6 := Lib.hid e6
        rw [h6] at e6
        have H6 := Lib.hid h6
        have HB0 := Lib.hid hb
        clear r37 h6 hb
        obtain ⟨z0, z1, z2, z3, hat⟩ : ∃ z0 z1 z2 z3, w'.heap[b]? = some (Obj.cells #[z0, z1, z2, z3] 24 (0, 0)) := by
          rcases hat with h | h <;> exact ⟨_, _, _, _, h⟩
        have c0 : w'.cell? ⟨b, 0, none⟩ = some z0 := cell_of_at hat 0
        have c1 : w'.cell? ⟨b, 1, none⟩ = some z1 := cell_of_at hat 1
        have c2 : w'.cell? ⟨b, 2, none⟩ = some z2 := cell_of_at hat 2
        have c3 : w'.cell? ⟨b, 3, none⟩ = some z3 := cell_of_at hat 3
        have f0 : w'.frozen? ⟨b, 0, none⟩ = false := free_of_at hat 0
        have f1 : w'.frozen? ⟨b, 1, none⟩ = false := free_of_at hat 1
        have f2 : w'.frozen? ⟨b, 2, none⟩ = false := free_of_at hat 2
        have f3 : w'.frozen? ⟨b, 3, none⟩ = false := free_of_at hat 3
        have HAT := Lib.hid hat
        clear hat
        go_simp
        have h1 := at_setCell (at_setCell (at_setCell (at_setCell HAT.out 0 (.int .u64 G)) 1 (.int .i64 X12)) 2 (.int .i64 X16)) 3 (.int .i64 X20)
        have hmd : Mod [b] w' _ := (((Mod.of_setCell w' b 0 (.int .u64 G)).same (Mod.of_setCell _ b 1 (.int .i64 X12))).same (Mod.of_setCell _ b 2 (.int .i64 X16))).same (Mod.of_setCell _ b 3 (.int .i64 X20))
        exact hK undef _ (INV.out.inv.trans hmd (fun x hx => Or.inr (by simp at hx; rw [hx]; exact HB0.out))) (fun j hj hl => fromR_store H6.out h1 (INV.out.val j hj hl)) ⟨b, H6.out, HB0.out, h1⟩
      · intro vs w5 X hm hr hslot hold hsize hdef
        obtain ⟨b, hb6, hbA, hat5⟩ := hr 15 (by decide)
        have e6 := hslot 14 6 (by kernel_rfl)
        rw [hb6] at e6
        have e0 := hold 0 (by kernel_rfl)
        have e2 := hold 2 (by kernel_rfl)
        have e38 := hold 38 (by kernel_rfl)
        have e39 := hold 39 (by kernel_rfl)
        have e40 := hold 40 (by kernel_rfl)
        have e41 := hold 41 (by kernel_rfl)
        have e42 := hold 42 (by kernel_rfl)
        have e43 := hold 43 (by kernel_rfl)
        have e44 := hold 44 (by kernel_rfl)
        have e45 := hold 45 (by kernel_rfl)
        have e46 := hold 46 (by kernel_rfl)
        have e47 := hold 47 (by kernel_rfl)
        have e48 := hold 48 (by kernel_rfl)
        have e49 := hold 49 (by kernel_rfl)
        have e50 := hold 50 (by kernel_rfl)
        clear hr hslot hold hb6
        obtain ⟨⟨xs⟩, df⟩ := X
        replace hdef : df = [] := hdef
        subst hdef
        replace hsize : xs.length = 51 := hsize
        obtain ⟨x0, xs0, rfl, hs0⟩ := cons_of hsize
        obtain ⟨x1, xs1, rfl, hs1⟩ := cons_of hs0
        obtain ⟨x2, xs2, rfl, hs2⟩ := cons_of hs1
        obtain ⟨x3, xs3, rfl, hs3⟩ := cons_of hs2
        obtain ⟨x4, xs4, rfl, hs4⟩ := cons_of hs3
        obtain ⟨x5, xs5, rfl, hs5⟩ := cons_of hs4
        obtain ⟨x6, xs6, rfl, hs6⟩ := cons_of hs5
        obtain ⟨x7, xs7, rfl, hs7⟩ := cons_of hs6
        obtain ⟨x8, xs8, rfl, hs8⟩ := cons_of hs7
        obtain ⟨x9, xs9, rfl, hs9⟩ := cons_of hs8
        obtain ⟨x10, xs10, rfl, hs10⟩ := cons_of hs9
        obtain ⟨x11, xs11, rfl, hs11⟩ := cons_of hs10
        obtain ⟨x12, xs12, rfl, hs12⟩ := cons_of hs11
        obtain ⟨x13, xs13, rfl, hs13⟩ := cons_of hs12
        obtain ⟨x14, xs14, rfl, hs14⟩ := cons_of hs13
        obtain ⟨x15, xs15, rfl, hs15⟩ := cons_of hs14
        obtain ⟨x16, xs16, rfl, hs16⟩ := cons_of hs15
        obtain ⟨x17, xs17, rfl, hs17⟩ := cons_of hs16
        obtain ⟨x18, xs18, rfl, hs18⟩ := cons_of hs17
        obtain ⟨x19, xs19, rfl, hs19⟩ := cons_of hs18
        obtain ⟨x20, xs20, rfl, hs20⟩ := cons_of hs19
        obtain ⟨x21, xs21, rfl, hs21⟩ := cons_of hs20
        obtain ⟨x22, xs22, rfl, hs22⟩ := cons_of hs21
        obtain ⟨x23, xs23, rfl, hs23⟩ := cons_of hs22
        obtain ⟨x24, xs24, rfl, hs24⟩ := cons_of hs23
        obtain ⟨x25, xs25, rfl, hs25⟩ := cons_of hs24
        obtain ⟨x26, xs26, rfl, hs26⟩ := cons_of hs25
        obtain ⟨x27, xs27, rfl, hs27⟩ := cons_of hs26
        obtain ⟨x28, xs28, rfl, hs28⟩ := cons_of hs27
        obtain ⟨x29, xs29, rfl, hs29⟩ := cons_of hs28
        obtain ⟨x30, xs30, rfl, hs30⟩ := cons_of hs29
        obtain ⟨x31, xs31, rfl, hs31⟩ := cons_of hs30
        obtain ⟨x32, xs32, rfl, hs32⟩ := cons_of hs31
        obtain ⟨x33, xs33, rfl, hs33⟩ := cons_of hs32
        obtain ⟨x34, xs34, rfl, hs34⟩ := cons_of hs33
        obtain ⟨x35, xs35, rfl, hs35⟩ := cons_of hs34
        obtain ⟨x36, xs36, rfl, hs36⟩ := cons_of hs35
        obtain ⟨x37, xs37, rfl, hs37⟩ := cons_of hs36
        obtain ⟨x38, xs38, rfl, hs38⟩ := cons_of hs37
        obtain ⟨x39, xs39, rfl, hs39⟩ := cons_of hs38
        obtain ⟨x40, xs40, rfl, hs40⟩ := cons_of hs39
        obtain ⟨x41, xs41, rfl, hs41⟩ := cons_of hs40
        obtain ⟨x42, xs42, rfl, hs42⟩ := cons_of hs41
        obtain ⟨x43, xs43, rfl, hs43⟩ := cons_of hs42
        obtain ⟨x44, xs44, rfl, hs44⟩ := cons_of hs43
        obtain ⟨x45, xs45, rfl, hs45⟩ := cons_of hs44
        obtain ⟨x46, xs46, rfl, hs46⟩ := cons_of hs45
        obtain ⟨x47, xs47, rfl, hs47⟩ := cons_of hs46
        obtain ⟨x48, xs48, rfl, hs48⟩ := cons_of hs47
        obtain ⟨x49, xs49, rfl, hs49⟩ := cons_of hs48
        obtain ⟨x50, xs50, rfl, hs50⟩ := cons_of hs49
        obtain rfl := List.eq_nil_of_length_eq_zero hs50
        clear hsize hs0 hs1 hs2 hs3 hs4 hs5 hs6 hs7 hs8 hs9 hs10 hs11 hs12 hs13 hs14 hs15 hs16 hs17 hs18 hs19 hs20 hs21 hs22 hs23 hs24 hs25 hs26 hs27 hs28 hs29 hs30 hs31 hs32 hs33 hs34 hs35 hs36 hs37 hs38 hs39 hs40 hs41 hs42 hs43 hs44 hs45 hs46 hs47 hs48 hs49 hs50
        change x6 = _ at e6
        change x0 = .slice (some ⟨B, off, none⟩) 1016 c at e0
        change x2 = .pointer (some ⟨w.heap.size, 0, none⟩) at e2
        change x38 = undef at e38
        change x39 = undef at e39
        change x40 = undef at e40
        change x41 = undef at e41
        change x42 = undef at e42
        change x43 = undef at e43
        change x44 = undef at e44
        change x45 = undef at e45
        change x46 = undef at e46
        change x47 = undef at e47
        change x48 = undef at e48
        change x49 = undef at e49
        change x50 = undef at e50
        subst e6 e0 e2 e38 e39 e40 e41 e42 e43 e44 e45 e46 e47 e48 e49 e50
        have M5 : Hid (Mod [] w w5) := HM2.out.drew.same hm
        have HAT5 : Hid (w5.heap[w.heap.size]? = some (Obj.cells #[.int .u64 0, .int .i64 0, .int .i64 0, .int .i64 0] 24 (0, 0))) := hm.at (w := w2.drew) HAT2.out (by simp)
        have hbne : b ≠ w.heap.size := by
          have h1 := lt_of_at HAT2.out
          have h2 : w2.heap.size ≤ b := hbA
          omega
        have hb5 := lt_of_at hat5
        have k0 : w5.cell? ⟨b, 0, none⟩ = some (.int .u64 G) := cell_of_at hat5 0
        have k1 : w5.cell? ⟨b, 1, none⟩ = some (.int .i64 X12) := cell_of_at hat5 1
        have k2 : w5.cell? ⟨b, 2, none⟩ = some (.int .i64 X16) := cell_of_at hat5 2
        have k3 : w5.cell? ⟨b, 3, none⟩ = some (.int .i64 X20) := cell_of_at hat5 3
        have HBN := Lib.hid hbne
        have MC : Hid (Mod [] w5 w5.drew) := Mod.of_drew w5
        have HR2 : Hid (rdM l = ⟨G, X12, X16, X20⟩) := HRD.out
        obtain ⟨r24h, b24h⟩ := H.out.sl.sub_h Tryd.underlying25 sizeBytes 24 .i64 (by omega)
        simp only [show ((24 : Nat) : Int) = 24 from rfl] at r24h
        have HB24h : Hid (BytesIn w (some ⟨B, off, none⟩) 24 c (l.take 24)) := ⟨by simpa [bs, List.map_take] using b24h, fun x hx => HWF.out x (List.mem_of_mem_take hx)⟩
        clear hm hat5 hbne hbA b24h HAT2 HM2 HB12 HB16 HB20
        generalize hmt : Mt.mk G X12 X16 X20 = M at *
        have hmc : M.cells = #[.int .u64 G, .int .i64 X12, .int .i64 X16, .int .i64 X20] := by rw [← hmt]; rfl
        have HMC := Lib.hid hmc
        have HMAY : ∀ W, Calls Tryd.prog 10 #[.agg #[.int .u64 G, .int .i64 X12, .int .i64 X16, .int .i64 X20]] W (Ret (BoolMd M.may W)) := fun W => by rw [← HMC.out]; exact may_any M W
        have HPAY : ∀ W, Calls Tryd.prog 9 #[.agg #[.int .u64 G, .int .i64 X12, .int .i64 X16, .int .i64 X20]] W (Ret (PayR (payM M) W)) := fun W => by rw [← HMC.out]; exact paym_any M W
        clear hmc hmt
        obtain ⟨MB, hMB⟩ : ∃ MB, MB = M.may := ⟨_, rfl⟩
        rw [← hMB] at HMAY
        have HMB := Lib.hid hMB
        clear hMB
        cases MB with
        | false =>
          have HBAD : Hid (fromM l = (⟨0, 0, 0, 0⟩, 5)) := fromM_bad (by
            rintro ⟨_, h⟩
            unfold goodM at h
            rw [HR2.out, ← HMB.out] at h; simp at h)
          go_wp2
          clear MC
          refine par_region (by kernel_rfl) (fromF G X12 X16 X20) (fun w' => Mod [] w5 w') (by kernel_rfl) ?_ ⟨⟨⟨⟨⟨⟨⟨⟨⟨⟨⟨trivial, ?_⟩, ?_⟩, ?_⟩, ?_⟩, ?_⟩, ?_⟩, ?_⟩, ?_⟩, ?_⟩, ?_⟩, ?_⟩ (Mod.of_drew w5) ?_
          · intro j vs vs' w o ho h1 h2 h3
            unfold fromF at h3 ⊢
            split at h3
            all_goals first
              | exact trivial
              | (rw [← h1]; exact h3)
          · -- 0
            intro o ho listed vs a w' inv hun haft K hK
            obtain rfl := Option.some.inj ho
            have e6 := inv.old 6 (by kernel_rfl)
            have INV := Lib.hid inv
            clear inv haft hun ho
            simp at e6
            refine par_run rfl ?_
            have q0 := (INV.out.inv.cell (a := ⟨b, 0, none⟩) hb5 (by simp)).trans k0
            have q1 := (INV.out.inv.cell (a := ⟨b, 1, none⟩) hb5 (by simp)).trans k1
            have q2 := (INV.out.inv.cell (a := ⟨b, 2, none⟩) hb5 (by simp)).trans k2
            have q3 := (INV.out.inv.cell (a := ⟨b, 3, none⟩) hb5 (by simp)).trans k3
            go_simp
            exact hK _ _ INV.out.inv INV.out.val rfl
          · -- 1
            intro o ho listed vs a w' inv hun haft K hK
            obtain rfl := Option.some.inj ho
            obtain ⟨e38, r38⟩ := inv.get haft 0 38 (by kernel_rfl) (by kernel_rfl)
            have INV := Lib.hid inv
            clear inv haft hun ho
            change vs 0 = .agg #[.int .u64 G, .int .i64 X12, .int .i64 X16, .int .i64 X20] at r38
            rw [r38] at e38
            refine par_run rfl ?_
            go_simp
            refine (HMAY _).mono ?_
            rintro _ w7 ⟨_, rfl, rfl, m7⟩
            exact hK _ _ (INV.out.inv.same m7) (fun j hj hl => fromF_mod m7 (INV.out.val j hj hl)) rfl
          · -- 2
            intro o ho listed vs a w' inv hun haft K hK
            obtain rfl := Option.some.inj ho
            obtain ⟨e39, r39⟩ := inv.get haft 1 39 (by kernel_rfl) (by kernel_rfl)
            have INV := Lib.hid inv
            clear inv haft hun ho
            change vs 1 = .bool false at r39
            rw [r39] at e39
            refine par_run rfl ?_
            go_simp
            exact hK _ _ INV.out.inv INV.out.val rfl
          · -- 3
            intro o ho listed vs a w' inv hun haft K hK
            obtain rfl := Option.some.inj ho
            obtain ⟨e40, r40⟩ := inv.get haft 2 40 (by kernel_rfl) (by kernel_rfl)
            have INV := Lib.hid inv
            clear inv haft hun ho
            change vs 2 = .bool true at r40
            rw [r40] at e40
            refine par_run rfl ?_
            go_simp
            exact hK _ _ INV.out.inv INV.out.val rfl
          · -- 4
            intro o ho listed vs a w' inv hun haft K hK
            obtain rfl := Option.some.inj ho
            obtain ⟨e41, r41⟩ := inv.get haft 3 41 (by kernel_rfl) (by kernel_rfl)
            have INV := Lib.hid inv
            clear inv haft hun ho
            change vs 3 = .bool true at r41
            rw [r41] at e41
            refine par_guard rfl (by kernel_rfl) e41 ?_
            rw [if_neg (by decide)]
            exact hK _ _ INV.out.inv INV.out.val trivial
          · -- 5
            intro o ho listed vs a w' inv hun haft K hK
            obtain rfl := Option.some.inj ho
            obtain ⟨e41, r41⟩ := inv.get haft 3 41 (by kernel_rfl) (by kernel_rfl)
            have INV := Lib.hid inv
            clear inv haft hun ho
            change vs 3 = .bool true at r41
            rw [r41] at e41
            refine par_guard rfl (by kernel_rfl) e41 ?_
            rw [if_neg (by decide)]
            exact hK _ _ INV.out.inv INV.out.val trivial
          · -- 6
            intro o ho listed vs a w' inv hun haft K hK
            obtain rfl := Option.some.inj ho
            obtain ⟨e41, r41⟩ := inv.get haft 3 41 (by kernel_rfl) (by kernel_rfl)
            have INV := Lib.hid inv
            clear inv haft hun ho
            change vs 3 = .bool true at r41
            rw [r41] at e41
            refine par_guard rfl (by kernel_rfl) e41 ?_
            rw [if_neg (by decide)]
            exact hK _ _ INV.out.inv INV.out.val trivial
          · -- 7
            intro o ho listed vs a w' inv hun haft K hK
            obtain rfl := Option.some.inj ho
            obtain ⟨e41, r41⟩ := inv.get haft 3 41 (by kernel_rfl) (by kernel_rfl)
            have INV := Lib.hid inv
            clear inv haft hun ho
            change vs 3 = .bool true at r41
            rw [r41] at e41
            refine par_guard rfl (by kernel_rfl) e41 ?_
            rw [if_neg (by decide)]
            exact hK _ _ INV.out.inv INV.out.val trivial
          · -- 8
            intro o ho listed vs a w' inv hun haft K hK
            obtain rfl := Option.some.inj ho
            obtain ⟨e41, r41⟩ := inv.get haft 3 41 (by kernel_rfl) (by kernel_rfl)
            have INV := Lib.hid inv
            clear inv haft hun ho
            change vs 3 = .bool true at r41
            rw [r41] at e41
            refine par_guard rfl (by kernel_rfl) e41 ?_
            rw [if_neg (by decide)]
            exact hK _ _ INV.out.inv INV.out.val trivial
          · -- 9
            intro o ho listed vs a w' inv hun haft K hK
            obtain rfl := Option.some.inj ho
            obtain ⟨e41, r41⟩ := inv.get haft 3 41 (by kernel_rfl) (by kernel_rfl)
            have INV := Lib.hid inv
            clear inv haft hun ho
            change vs 3 = .bool true at r41
            rw [r41] at e41
            refine par_guard rfl (by kernel_rfl) e41 ?_
            rw [if_neg (by decide)]
            exact hK _ _ INV.out.inv INV.out.val trivial
          · -- 10
            intro o ho listed vs a w' inv hun haft K hK
            obtain rfl := Option.some.inj ho
            obtain ⟨e41, r41⟩ := inv.get haft 3 41 (by kernel_rfl) (by kernel_rfl)
            have INV := Lib.hid inv
            clear inv haft hun ho
            change vs 3 = .bool true at r41
            rw [r41] at e41
            refine par_run rfl ?_
            replace e41 := getD_opt e41
            go_simp
            exact hK _ _ INV.out.inv INV.out.val rfl
          · intro vs w6 X hm hr hslot hold hsize hdef
            have e48 := hslot 10 48 (by kernel_rfl)
            have r48 : vs 10 = .bool true := hr 10 (by decide)
            rw [r48] at e48
            have e2 := hold 2 (by kernel_rfl)
            have e6 := hold 6 (by kernel_rfl)
            have e49 := hold 49 (by kernel_rfl)
            have e50 := hold 50 (by kernel_rfl)
            clear hr hslot hold
            obtain ⟨⟨xs⟩, df⟩ := X
            replace hdef : df = [] := hdef
            subst hdef
            replace hsize : xs.length = 51 := hsize
            obtain ⟨v0, xs0, rfl, hs0⟩ := cons_of hsize
            obtain ⟨v1, xs1, rfl, hs1⟩ := cons_of hs0
            obtain ⟨v2, xs2, rfl, hs2⟩ := cons_of hs1
            obtain ⟨v3, xs3, rfl, hs3⟩ := cons_of hs2
            obtain ⟨v4, xs4, rfl, hs4⟩ := cons_of hs3
            obtain ⟨v5, xs5, rfl, hs5⟩ := cons_of hs4
            obtain ⟨v6, xs6, rfl, hs6⟩ := cons_of hs5
            obtain ⟨v7, xs7, rfl, hs7⟩ := cons_of hs6
            obtain ⟨v8, xs8, rfl, hs8⟩ := cons_of hs7
            obtain ⟨v9, xs9, rfl, hs9⟩ := cons_of hs8
            obtain ⟨v10, xs10, rfl, hs10⟩ := cons_of hs9
            obtain ⟨v11, xs11, rfl, hs11⟩ := cons_of hs10
            obtain ⟨v12, xs12, rfl, hs12⟩ := cons_of hs11
            obtain ⟨v13, xs13, rfl, hs13⟩ := cons_of hs12
            obtain ⟨v14, xs14, rfl, hs14⟩ := cons_of hs13
            obtain ⟨v15, xs15, rfl, hs15⟩ := cons_of hs14
            obtain ⟨v16, xs16, rfl, hs16⟩ := cons_of hs15
            obtain ⟨v17, xs17, rfl, hs17⟩ := cons_of hs16
            obtain ⟨v18, xs18, rfl, hs18⟩ := cons_of hs17
            obtain ⟨v19, xs19, rfl, hs19⟩ := cons_of hs18
            obtain ⟨v20, xs20, rfl, hs20⟩ := cons_of hs19
            obtain ⟨v21, xs21, rfl, hs21⟩ := cons_of hs20
            obtain ⟨v22, xs22, rfl, hs22⟩ := cons_of hs21
            obtain ⟨v23, xs23, rfl, hs23⟩ := cons_of hs22
            obtain ⟨v24, xs24, rfl, hs24⟩ := cons_of hs23
            obtain ⟨v25, xs25, rfl, hs25⟩ := cons_of hs24
            obtain ⟨v26, xs26, rfl, hs26⟩ := cons_of hs25
            obtain ⟨v27, xs27, rfl, hs27⟩ := cons_of hs26
            obtain ⟨v28, xs28, rfl, hs28⟩ := cons_of hs27
            obtain ⟨v29, xs29, rfl, hs29⟩ := cons_of hs28
            obtain ⟨v30, xs30, rfl, hs30⟩ := cons_of hs29
            obtain ⟨v31, xs31, rfl, hs31⟩ := cons_of hs30
            obtain ⟨v32, xs32, rfl, hs32⟩ := cons_of hs31
            obtain ⟨v33, xs33, rfl, hs33⟩ := cons_of hs32
            obtain ⟨v34, xs34, rfl, hs34⟩ := cons_of hs33
            obtain ⟨v35, xs35, rfl, hs35⟩ := cons_of hs34
            obtain ⟨v36, xs36, rfl, hs36⟩ := cons_of hs35
            obtain ⟨v37, xs37, rfl, hs37⟩ := cons_of hs36
            obtain ⟨v38, xs38, rfl, hs38⟩ := cons_of hs37
            obtain ⟨v39, xs39, rfl, hs39⟩ := cons_of hs38
            obtain ⟨v40, xs40, rfl, hs40⟩ := cons_of hs39
            obtain ⟨v41, xs41, rfl, hs41⟩ := cons_of hs40
            obtain ⟨v42, xs42, rfl, hs42⟩ := cons_of hs41
            obtain ⟨v43, xs43, rfl, hs43⟩ := cons_of hs42
            obtain ⟨v44, xs44, rfl, hs44⟩ := cons_of hs43
            obtain ⟨v45, xs45, rfl, hs45⟩ := cons_of hs44
            obtain ⟨v46, xs46, rfl, hs46⟩ := cons_of hs45
            obtain ⟨v47, xs47, rfl, hs47⟩ := cons_of hs46
            obtain ⟨v48, xs48, rfl, hs48⟩ := cons_of hs47
            obtain ⟨v49, xs49, rfl, hs49⟩ := cons_of hs48
            obtain ⟨v50, xs50, rfl, hs50⟩ := cons_of hs49
            obtain rfl := List.eq_nil_of_length_eq_zero hs50
            clear hsize hs0 hs1 hs2 hs3 hs4 hs5 hs6 hs7 hs8 hs9 hs10 hs11 hs12 hs13 hs14 hs15 hs16 hs17 hs18 hs19 hs20 hs21 hs22 hs23 hs24 hs25 hs26 hs27 hs28 hs29 hs30 hs31 hs32 hs33 hs34 hs35 hs36 hs37 hs38 hs39 hs40 hs41 hs42 hs43 hs44 hs45 hs46 hs47 hs48 hs49 hs50
            change v2 = .pointer (some ⟨w.heap.size, 0, none⟩) at e2
            change v6 = .pointer (some ⟨b, 0, none⟩) at e6
            change v49 = undef at e49
            change v50 = undef at e50
            change v48 = _ at e48
            subst e2 e6 e48 e49 e50
            have MC : Hid (Mod [] w5 w6) := hm
            clear hm
            have HE : Hid (fromM l = (⟨0, 0, 0, 0⟩, 5)) := HBAD.out
            have h9 := MC.out.at HAT5.out (by simp)
            have z0 : w6.cell? ⟨w.heap.size, 0, none⟩ = some (.int .u64 0) := cell_of_at h9 0
            have z1 : w6.cell? ⟨w.heap.size, 1, none⟩ = some (.int .i64 0) := cell_of_at h9 1
            have z2 : w6.cell? ⟨w.heap.size, 2, none⟩ = some (.int .i64 0) := cell_of_at h9 2
            have z3 : w6.cell? ⟨w.heap.size, 3, none⟩ = some (.int .i64 0) := cell_of_at h9 3
            have y0 : w6.frozen? ⟨w.heap.size, 0, none⟩ = false := free_of_at h9 0
            have y1 : w6.frozen? ⟨w.heap.size, 1, none⟩ = false := free_of_at h9 1
            have y2 : w6.frozen? ⟨w.heap.size, 2, none⟩ = false := free_of_at h9 2
            have y3 : w6.frozen? ⟨w.heap.size, 3, none⟩ = false := free_of_at h9 3
            have H9 := Lib.hid h9
            clear h9
            go_wp2
            refine bodyPost_ret (v := .tuple #[.agg #[.int .u64 0, .int .i64 0, .int .i64 0, .int .i64 0], .int .i64 5]) ?_ rfl ?_
            · rw [results_cell_tmp rfl]; go_simp
            · exact .mk ⟨by rw [HE.out]; rfl, (by first | exact res4 (M5.out.same MC.out) | exact (M5.out.same MC.out))⟩
        | true =>
          obtain ⟨D, hD⟩ : ∃ D, D = decide (M.bytes = l.take 24) := ⟨_, rfl⟩
          have HPM : Hid (payM M = M.bytes) := if_pos HMB.out.symm
          have HEQ : ∀ (W : World) (q : Option Addr) (c' : Nat), BytesIn W q 24 c' M.bytes → BytesIn W (some ⟨B, off, none⟩) 24 c (l.take 24) → Calls Tryd.prog 38 #[.slice q 24 c', .slice (some ⟨B, off, none⟩) 24 c] W (Ret (EqB D W)) := fun W q c' h1 h2 => by rw [hD]; exact equal_any q _ 24 24 c' c _ _ W h1 h2
          rw [HPM.out] at HPAY
          have HDD := Lib.hid hD
          clear hD MC
          go_wp2
          refine par_region (by kernel_rfl) (fromT (.slice (some ⟨B, off, none⟩) 1016 c) (.slice (some ⟨B, off, none⟩) 24 c) M.bytes D G X12 X16 X20) (fun w' => Mod [] w5 w') (by kernel_rfl) ?_ ⟨⟨⟨⟨⟨⟨⟨⟨⟨⟨⟨trivial, ?_⟩, ?_⟩, ?_⟩, ?_⟩, ?_⟩, ?_⟩, ?_⟩, ?_⟩, ?_⟩, ?_⟩, ?_⟩ (Mod.of_drew w5) ?_
          · intro j vs vs' w o ho h1 h2 h3
            unfold fromT at h3 ⊢
            split at h3
            all_goals first
              | exact trivial
              | (rw [← h1]; exact h3)
          · -- 0
            intro o ho listed vs a w' inv hun haft K hK
            obtain rfl := Option.some.inj ho
            have e6 := inv.old 6 (by kernel_rfl)
            have INV := Lib.hid inv
            clear inv haft hun ho
            simp at e6
            refine par_run rfl ?_
            have q0 := (INV.out.inv.cell (a := ⟨b, 0, none⟩) hb5 (by simp)).trans k0
            have q1 := (INV.out.inv.cell (a := ⟨b, 1, none⟩) hb5 (by simp)).trans k1
            have q2 := (INV.out.inv.cell (a := ⟨b, 2, none⟩) hb5 (by simp)).trans k2
            have q3 := (INV.out.inv.cell (a := ⟨b, 3, none⟩) hb5 (by simp)).trans k3
            go_simp
            exact hK _ _ INV.out.inv INV.out.val rfl
          · -- 1
            intro o ho listed vs a w' inv hun haft K hK
            obtain rfl := Option.some.inj ho
            obtain ⟨e38, r38⟩ := inv.get haft 0 38 (by kernel_rfl) (by kernel_rfl)
            have INV := Lib.hid inv
            clear inv haft hun ho
            change vs 0 = .agg #[.int .u64 G, .int .i64 X12, .int .i64 X16, .int .i64 X20] at r38
            rw [r38] at e38
            refine par_run rfl ?_
            go_simp
            refine (HMAY _).mono ?_
            rintro _ w7 ⟨_, rfl, rfl, m7⟩
            exact hK _ _ (INV.out.inv.same m7) (fun j hj hl => fromT_mod m7 (INV.out.val j hj hl)) rfl
          · -- 2
            intro o ho listed vs a w' inv hun haft K hK
            obtain rfl := Option.some.inj ho
            obtain ⟨e39, r39⟩ := inv.get haft 1 39 (by kernel_rfl) (by kernel_rfl)
            have INV := Lib.hid inv
            clear inv haft hun ho
            change vs 1 = .bool true at r39
            rw [r39] at e39
            refine par_run rfl ?_
            go_simp
            exact hK _ _ INV.out.inv INV.out.val rfl
          · -- 3
            intro o ho listed vs a w' inv hun haft K hK
            obtain rfl := Option.some.inj ho
            obtain ⟨e40, r40⟩ := inv.get haft 2 40 (by kernel_rfl) (by kernel_rfl)
            have INV := Lib.hid inv
            clear inv haft hun ho
            change vs 2 = .bool false at r40
            rw [r40] at e40
            refine par_run rfl ?_
            go_simp
            exact hK _ _ INV.out.inv INV.out.val rfl
          · -- 4
            intro o ho listed vs a w' inv hun haft K hK
            obtain rfl := Option.some.inj ho
            obtain ⟨e41, r41⟩ := inv.get haft 3 41 (by kernel_rfl) (by kernel_rfl)
            have e6 := inv.old 6 (by kernel_rfl)
            have INV := Lib.hid inv
            clear inv haft hun ho
            simp at e6
            change vs 3 = .bool false at r41
            rw [r41] at e41
            refine par_guard rfl (by kernel_rfl) e41 ?_
            rw [if_pos rfl]
            have q0 := (INV.out.inv.cell (a := ⟨b, 0, none⟩) hb5 (by simp)).trans k0
            have q1 := (INV.out.inv.cell (a := ⟨b, 1, none⟩) hb5 (by simp)).trans k1
            have q2 := (INV.out.inv.cell (a := ⟨b, 2, none⟩) hb5 (by simp)).trans k2
            have q3 := (INV.out.inv.cell (a := ⟨b, 3, none⟩) hb5 (by simp)).trans k3
            go_simp
            exact hK _ _ INV.out.inv INV.out.val rfl
          · -- 5
            intro o ho listed vs a w' inv hun haft K hK
            obtain rfl := Option.some.inj ho
            obtain ⟨e42, r42⟩ := inv.get haft 4 42 (by kernel_rfl) (by kernel_rfl)
            obtain ⟨e41, r41⟩ := inv.get haft 3 41 (by kernel_rfl) (by kernel_rfl)
            have INV := Lib.hid inv
            clear inv haft hun ho
            change vs 4 = .agg #[.int .u64 G, .int .i64 X12, .int .i64 X16, .int .i64 X20] at r42
            rw [r42] at e42
            change vs 3 = .bool false at r41
            rw [r41] at e41
            refine par_guard rfl (by kernel_rfl) e41 ?_
            rw [if_pos rfl]
            go_simp
            refine (HPAY _).mono ?_
            rintro _ w7 ⟨_, rfl, p7, n7, c7, rfl, e7, _, s7, m7⟩
            obtain rfl : n7 = 24 := by rw [e7, Mt.bytes_len]
            exact hK _ _ (INV.out.inv.same m7) (fun j hj hl => fromT_mod m7 (INV.out.val j hj hl)) ⟨p7, c7, rfl, s7⟩
          · -- 6
            intro o ho listed vs a w' inv hun haft K hK
            obtain rfl := Option.some.inj ho
            obtain ⟨e41, r41⟩ := inv.get haft 3 41 (by kernel_rfl) (by kernel_rfl)
            have e0 := inv.old 0 (by kernel_rfl)
            have INV := Lib.hid inv
            clear inv haft hun ho
            simp at e0
            change vs 3 = .bool false at r41
            rw [r41] at e41
            refine par_guard rfl (by kernel_rfl) e41 ?_
            rw [if_pos rfl]
            go_simp
            exact hK _ _ INV.out.inv INV.out.val rfl
          · -- 7
            intro o ho listed vs a w' inv hun haft K hK
            obtain rfl := Option.some.inj ho
            obtain ⟨e44, r44⟩ := inv.get haft 6 44 (by kernel_rfl) (by kernel_rfl)
            obtain ⟨e41, r41⟩ := inv.get haft 3 41 (by kernel_rfl) (by kernel_rfl)
            have INV := Lib.hid inv
            clear inv haft hun ho
            change vs 6 = .slice (some ⟨B, off, none⟩) 1016 c at r44
            rw [r44] at e44
            change vs 3 = .bool false at r41
            rw [r41] at e41
            refine par_guard rfl (by kernel_rfl) e41 ?_
            rw [if_pos rfl]
            go_simp
            exact hK _ _ INV.out.inv INV.out.val rfl
          · -- 8
            intro o ho listed vs a w' inv hun haft K hK
            obtain rfl := Option.some.inj ho
            obtain ⟨e43, r43⟩ := inv.get haft 5 43 (by kernel_rfl) (by kernel_rfl)
            obtain ⟨e45, r45⟩ := inv.get haft 7 45 (by kernel_rfl) (by kernel_rfl)
            obtain ⟨e41, r41⟩ := inv.get haft 3 41 (by kernel_rfl) (by kernel_rfl)
            have INV := Lib.hid inv
            clear inv haft hun ho
            obtain ⟨p43, c43, h43, s43⟩ := r43
            rw [h43] at e43
            change vs 7 = .slice (some ⟨B, off, none⟩) 24 c at r45
            rw [r45] at e45
            change vs 3 = .bool false at r41
            rw [r41] at e41
            refine par_guard rfl (by kernel_rfl) e41 ?_
            rw [if_pos rfl]
            have B1 : BytesIn w' p43 24 c43 M.bytes := ⟨s43, M.bytes_wf⟩
            have B2 := HB24h.out.mod ((M5.out).same INV.out.inv) (by simp)
            have HB1 := Lib.hid B1
            have HB2 := Lib.hid B2
            clear B1 B2 s43 h43
            go_simp
            refine (HEQ _ p43 c43 HB1.out HB2.out).mono ?_
            rintro _ w7 ⟨_, rfl, rfl, rfl⟩
            exact hK _ _ INV.out.inv INV.out.val rfl
          · -- 9
            intro o ho listed vs a w' inv hun haft K hK
            obtain rfl := Option.some.inj ho
            obtain ⟨e46, r46⟩ := inv.get haft 8 46 (by kernel_rfl) (by kernel_rfl)
            obtain ⟨e41, r41⟩ := inv.get haft 3 41 (by kernel_rfl) (by kernel_rfl)
            have INV := Lib.hid inv
            clear inv haft hun ho
            change vs 8 = .bool D at r46
            rw [r46] at e46
            change vs 3 = .bool false at r41
            rw [r41] at e41
            refine par_guard rfl (by kernel_rfl) e41 ?_
            rw [if_pos rfl]
            go_simp
            exact hK _ _ INV.out.inv INV.out.val rfl
          · -- 10
            intro o ho listed vs a w' inv hun haft K hK
            obtain rfl := Option.some.inj ho
            obtain ⟨e41, r41⟩ := inv.get haft 3 41 (by kernel_rfl) (by kernel_rfl)
            obtain ⟨e47, r47⟩ := inv.get haft 9 47 (by kernel_rfl) (by kernel_rfl)
            have INV := Lib.hid inv
            clear inv haft hun ho
            change vs 3 = .bool false at r41
            rw [r41] at e41
            change vs 9 = .bool (!D) at r47
            rw [r47] at e47
            refine par_run rfl ?_
            replace e41 := getD_opt e41
            replace e47 := getD_opt e47
            go_simp
            exact hK _ _ INV.out.inv INV.out.val rfl
          · intro vs w6 X hm hr hslot hold hsize hdef
            have e48 := hslot 10 48 (by kernel_rfl)
            have r48 : vs 10 = .bool (!D) := hr 10 (by decide)
            rw [r48] at e48
            have e2 := hold 2 (by kernel_rfl)
            have e6 := hold 6 (by kernel_rfl)
            have e49 := hold 49 (by kernel_rfl)
            have e50 := hold 50 (by kernel_rfl)
            clear hr hslot hold
            obtain ⟨⟨xs⟩, df⟩ := X
            replace hdef : df = [] := hdef
            subst hdef
            replace hsize : xs.length = 51 := hsize
            obtain ⟨v0, xs0, rfl, hs0⟩ := cons_of hsize
            obtain ⟨v1, xs1, rfl, hs1⟩ := cons_of hs0
            obtain ⟨v2, xs2, rfl, hs2⟩ := cons_of hs1
            obtain ⟨v3, xs3, rfl, hs3⟩ := cons_of hs2
            obtain ⟨v4, xs4, rfl, hs4⟩ := cons_of hs3
            obtain ⟨v5, xs5, rfl, hs5⟩ := cons_of hs4
            obtain ⟨v6, xs6, rfl, hs6⟩ := cons_of hs5
            obtain ⟨v7, xs7, rfl, hs7⟩ := cons_of hs6
            obtain ⟨v8, xs8, rfl, hs8⟩ := cons_of hs7
            obtain ⟨v9, xs9, rfl, hs9⟩ := cons_of hs8
            obtain ⟨v10, xs10, rfl, hs10⟩ := cons_of hs9
            obtain ⟨v11, xs11, rfl, hs11⟩ := cons_of hs10
            obtain ⟨v12, xs12, rfl, hs12⟩ := cons_of hs11
            obtain ⟨v13, xs13, rfl, hs13⟩ := cons_of hs12
            obtain ⟨v14, xs14, rfl, hs14⟩ := cons_of hs13
            obtain ⟨v15, xs15, rfl, hs15⟩ := cons_of hs14
            obtain ⟨v16, xs16, rfl, hs16⟩ := cons_of hs15
            obtain ⟨v17, xs17, rfl, hs17⟩ := cons_of hs16
            obtain ⟨v18, xs18, rfl, hs18⟩ := cons_of hs17
            obtain ⟨v19, xs19, rfl, hs19⟩ := cons_of hs18
            obtain ⟨v20, xs20, rfl, hs20⟩ := cons_of hs19
            obtain ⟨v21, xs21, rfl, hs21⟩ := cons_of hs20
            obtain ⟨v22, xs22, rfl, hs22⟩ := cons_of hs21
            obtain ⟨v23, xs23, rfl, hs23⟩ := cons_of hs22
            obtain ⟨v24, xs24, rfl, hs24⟩ := cons_of hs23
            obtain ⟨v25, xs25, rfl, hs25⟩ := cons_of hs24
            obtain ⟨v26, xs26, rfl, hs26⟩ := cons_of hs25
            obtain ⟨v27, xs27, rfl, hs27⟩ := cons_of hs26
            obtain ⟨v28, xs28, rfl, hs28⟩ := cons_of hs27
            obtain ⟨v29, xs29, rfl, hs29⟩ := cons_of hs28
            obtain ⟨v30, xs30, rfl, hs30⟩ := cons_of hs29
            obtain ⟨v31, xs31, rfl, hs31⟩ := cons_of hs30
            obtain ⟨v32, xs32, rfl, hs32⟩ := cons_of hs31
            obtain ⟨v33, xs33, rfl, hs33⟩ := cons_of hs32
            obtain ⟨v34, xs34, rfl, hs34⟩ := cons_of hs33
            obtain ⟨v35, xs35, rfl, hs35⟩ := cons_of hs34
            obtain ⟨v36, xs36, rfl, hs36⟩ := cons_of hs35
            obtain ⟨v37, xs37, rfl, hs37⟩ := cons_of hs36
            obtain ⟨v38, xs38, rfl, hs38⟩ := cons_of hs37
            obtain ⟨v39, xs39, rfl, hs39⟩ := cons_of hs38
            obtain ⟨v40, xs40, rfl, hs40⟩ := cons_of hs39
            obtain ⟨v41, xs41, rfl, hs41⟩ := cons_of hs40
            obtain ⟨v42, xs42, rfl, hs42⟩ := cons_of hs41
            obtain ⟨v43, xs43, rfl, hs43⟩ := cons_of hs42
            obtain ⟨v44, xs44, rfl, hs44⟩ := cons_of hs43
            obtain ⟨v45, xs45, rfl, hs45⟩ := cons_of hs44
            obtain ⟨v46, xs46, rfl, hs46⟩ := cons_of hs45
            obtain ⟨v47, xs47, rfl, hs47⟩ := cons_of hs46
            obtain ⟨v48, xs48, rfl, hs48⟩ := cons_of hs47
            obtain ⟨v49, xs49, rfl, hs49⟩ := cons_of hs48
            obtain ⟨v50, xs50, rfl, hs50⟩ := cons_of hs49
            obtain rfl := List.eq_nil_of_length_eq_zero hs50
            clear hsize hs0 hs1 hs2 hs3 hs4 hs5 hs6 hs7 hs8 hs9 hs10 hs11 hs12 hs13 hs14 hs15 hs16 hs17 hs18 hs19 hs20 hs21 hs22 hs23 hs24 hs25 hs26 hs27 hs28 hs29 hs30 hs31 hs32 hs33 hs34 hs35 hs36 hs37 hs38 hs39 hs40 hs41 hs42 hs43 hs44 hs45 hs46 hs47 hs48 hs49 hs50
            change v2 = .pointer (some ⟨w.heap.size, 0, none⟩) at e2
            change v6 = .pointer (some ⟨b, 0, none⟩) at e6
            change v49 = undef at e49
            change v50 = undef at e50
            change v48 = _ at e48
            subst e2 e6 e48 e49 e50
            have MC : Hid (Mod [] w5 w6) := hm
            clear hm
            cases D with
            | false =>
              have HBAD : Hid (fromM l = (⟨0, 0, 0, 0⟩, 5)) := fromM_bad (by
                rintro ⟨_, h⟩
                unfold goodM at h
                rw [Bool.and_eq_true] at h
                have h2 := (HIFF.out.2 (of_decide_eq_true h.2)).1
                rw [HR2.out, Mt.bytes_len] at h2
                have h3 := HDD.out
                rw [decide_eq_true h2.symm] at h3; cases h3)
              have HE : Hid (fromM l = (⟨0, 0, 0, 0⟩, 5)) := HBAD.out
              have h9 := MC.out.at HAT5.out (by simp)
              have z0 : w6.cell? ⟨w.heap.size, 0, none⟩ = some (.int .u64 0) := cell_of_at h9 0
              have z1 : w6.cell? ⟨w.heap.size, 1, none⟩ = some (.int .i64 0) := cell_of_at h9 1
              have z2 : w6.cell? ⟨w.heap.size, 2, none⟩ = some (.int .i64 0) := cell_of_at h9 2
              have z3 : w6.cell? ⟨w.heap.size, 3, none⟩ = some (.int .i64 0) := cell_of_at h9 3
              have y0 : w6.frozen? ⟨w.heap.size, 0, none⟩ = false := free_of_at h9 0
              have y1 : w6.frozen? ⟨w.heap.size, 1, none⟩ = false := free_of_at h9 1
              have y2 : w6.frozen? ⟨w.heap.size, 2, none⟩ = false := free_of_at h9 2
              have y3 : w6.frozen? ⟨w.heap.size, 3, none⟩ = false := free_of_at h9 3
              have H9 := Lib.hid h9
              clear h9
              go_wp2
              refine bodyPost_ret (v := .tuple #[.agg #[.int .u64 0, .int .i64 0, .int .i64 0, .int .i64 0], .int .i64 5]) ?_ rfl ?_
              · rw [results_cell_tmp rfl]; go_simp
              · exact .mk ⟨by rw [HE.out]; rfl, (by first | exact res4 (M5.out.same MC.out) | exact (M5.out.same MC.out))⟩
            | true =>
              have HE : Hid (fromM l = (M, 0)) := by
                unfold Hid
                rw [fromM_good HLN.out (by
                  unfold goodM
                  rw [HR2.out, ← HMB.out, Bool.true_and]
                  refine decide_eq_true ?_
                  have h1 := of_decide_eq_true HDD.out.symm
                  have h2 := HIFF.out.1 ⟨by rw [HR2.out, Mt.bytes_len]; exact h1.symm, fun x hx => HZ.out x (by rw [HR2.out, Mt.bytes_len] at hx; exact hx)⟩
                  rw [HR2.out] at h2; exact h2), HR2.out]
              have h9 := MC.out.at HAT5.out (by simp)
              have z0 : w6.cell? ⟨w.heap.size, 0, none⟩ = some (.int .u64 0) := cell_of_at h9 0
              have z1 : w6.cell? ⟨w.heap.size, 1, none⟩ = some (.int .i64 0) := cell_of_at h9 1
              have z2 : w6.cell? ⟨w.heap.size, 2, none⟩ = some (.int .i64 0) := cell_of_at h9 2
              have z3 : w6.cell? ⟨w.heap.size, 3, none⟩ = some (.int .i64 0) := cell_of_at h9 3
              have y0 : w6.frozen? ⟨w.heap.size, 0, none⟩ = false := free_of_at h9 0
              have y1 : w6.frozen? ⟨w.heap.size, 1, none⟩ = false := free_of_at h9 1
              have y2 : w6.frozen? ⟨w.heap.size, 2, none⟩ = false := free_of_at h9 2
              have y3 : w6.frozen? ⟨w.heap.size, 3, none⟩ = false := free_of_at h9 3
              have j0 := (MC.out.cell (a := ⟨b, 0, none⟩) hb5 (by simp)).trans k0
              have j1 := (MC.out.cell (a := ⟨b, 1, none⟩) hb5 (by simp)).trans k1
              have j2 := (MC.out.cell (a := ⟨b, 2, none⟩) hb5 (by simp)).trans k2
              have j3 := (MC.out.cell (a := ⟨b, 3, none⟩) hb5 (by simp)).trans k3
              clear h9 k0 k1 k2 k3
              go_wp2
              refine bodyPost_ret (v := .tuple #[.agg #[.int .u64 G, .int .i64 X12, .int .i64 X16, .int .i64 X20], .int .i64 0]) ?_ rfl ?_
              · rw [results_cell_tmp rfl]; go_simp
              · exact .mk ⟨by rw [HE.out]; simp only [HMC.out], (by first | exact res4 (M5.out.same MC.out) | exact (M5.out.same MC.out))⟩
    · have HBAD : Hid (fromM l = (⟨0, 0, 0, 0⟩, 5)) := fromM_bad (by
        rintro ⟨_, h⟩
        unfold goodM at h
        rw [Bool.and_eq_true] at h
        have h2 := (HIFF.out.2 (of_decide_eq_true h.2)).2
        rw [Mt.bytes_len] at h2
        have := HZ1.out.2 h2
        omega)
      have HE := HBAD
      have h9 := HAT1.out
      have z0 : w1.cell? ⟨w.heap.size, 0, none⟩ = some (.int .u64 0) := cell_of_at h9 0
      have z1 : w1.cell? ⟨w.heap.size, 1, none⟩ = some (.int .i64 0) := cell_of_at h9 1
      have z2 : w1.cell? ⟨w.heap.size, 2, none⟩ = some (.int .i64 0) := cell_of_at h9 2
      have z3 : w1.cell? ⟨w.heap.size, 3, none⟩ = some (.int .i64 0) := cell_of_at h9 3
      have y0 : w1.frozen? ⟨w.heap.size, 0, none⟩ = false := free_of_at h9 0
      have y1 : w1.frozen? ⟨w.heap.size, 1, none⟩ = false := free_of_at h9 1
      have y2 : w1.frozen? ⟨w.heap.size, 2, none⟩ = false := free_of_at h9 2
      have y3 : w1.frozen? ⟨w.heap.size, 3, none⟩ = false := free_of_at h9 3
      clear h9
      go_wp2
      refine bodyPost_ret (v := .tuple #[.agg #[.int .u64 0, .int .i64 0, .int .i64 0, .int .i64 0], .int .i64 5]) ?_ rfl ?_
      · rw [results_cell_tmp rfl]; go_simp
      · exact .mk ⟨by rw [HE.out]; rfl, (by first | exact res4 HM1.out | exact HM1.out)⟩
  · have HE : Hid (fromM l = (⟨0, 0, 0, 0⟩, 5)) := fromM_bad (by rw [HLN.out]; exact fun h => h16 h.1)
    have hne : ((n : Int) != 1016) = true := by simp; omega
    have z0 : (w.alloc (.cells #[.int .u64 0, .int .i64 0, .int .i64 0, .int .i64 0] 24)).cell? ⟨w.heap.size, 0, none⟩ = some (.int .u64 0) := cell_of_at HAT0.out 0
    have z1 : (w.alloc (.cells #[.int .u64 0, .int .i64 0, .int .i64 0, .int .i64 0] 24)).cell? ⟨w.heap.size, 1, none⟩ = some (.int .i64 0) := cell_of_at HAT0.out 1
    have z2 : (w.alloc (.cells #[.int .u64 0, .int .i64 0, .int .i64 0, .int .i64 0] 24)).cell? ⟨w.heap.size, 2, none⟩ = some (.int .i64 0) := cell_of_at HAT0.out 2
    have z3 : (w.alloc (.cells #[.int .u64 0, .int .i64 0, .int .i64 0, .int .i64 0] 24)).cell? ⟨w.heap.size, 3, none⟩ = some (.int .i64 0) := cell_of_at HAT0.out 3
    clear h16
    go_enter Tryd.func14, Tryd.ntmps14
    go_wp2
    refine bodyPost_ret (v := .tuple #[.agg #[.int .u64 0, .int .i64 0, .int .i64 0, .int .i64 0], .int .i64 5]) ?_ rfl ?_
    · rw [results_cell_tmp rfl]; go_simp
    · exact .mk ⟨by rw [HE.out]; rfl, (by first | exact res4 HM0.out | exact HM0.out)⟩
end Go.Proofs.YtbbjfgjbjghdiaaDoor
