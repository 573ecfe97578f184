/- The program's meta: its page. -/
import Derived.Test.YtbbjfgjbjghdiaaDoorMeta
import Derived.Test.YtbbjfgjbjghdiaaDoorPar
namespace Go.Proofs.YtbbjfgjbjghdiaaDoor
open Go.RowKit Go.Maps
set_option linter.unusedSimpArgs false
set_option linter.unusedVariables false

theorem own_row (w : World) (cs : List Value) (T : TypeId) (base : Nat) (hb : base ≤ w.heap.size) (hm : cs.length ≤ maxLen) : (w.alloc (.cells cs.toArray T)).ownsRow base T 1 (.slice (some ⟨w.heap.size, 0, none⟩) cs.length cs.length) cs.length cs :=
  ⟨by simp, Or.inr ⟨w.heap.size, cs.length, cs.toArray, rfl, hb, at_alloc w _, Nat.le_refl _, hm, by simp, by simp⟩⟩
theorem lit4 (W : World) (T : TypeId) : Sl (W.alloc (.cells #[.int .u8 67, .int .u8 65, .int .u8 77, .int .u8 66] T)) 1 (some ⟨W.heap.size, 0, none⟩) 4 4 (bs [67, 65, 77, 66]) :=
  Sl.new W [.int .u8 67, .int .u8 65, .int .u8 77, .int .u8 66] T 1 4 rfl (by simp [maxLen]) (by intro u hu; simp at hu; rcases hu with rfl | rfl | rfl | rfl <;> rfl)
theorem PartsAt.five (w : World) {p0 p1 p2 p3 p4 : Option Addr} {n0 c0 n1 c1 n2 c2 n3 c3 n4 c4 : Nat} {l0 l1 l2 l3 l4 : List Int} (T : TypeId) (h0 : Sl w 1 p0 n0 c0 (bs l0)) (h1 : Sl w 1 p1 n1 c1 (bs l1)) (h2 : Sl w 1 p2 n2 c2 (bs l2)) (h3 : Sl w 1 p3 n3 c3 (bs l3)) (h4 : Sl w 1 p4 n4 c4 (bs l4)) :
    PartsAt (w.alloc (.cells #[.slice p0 n0 c0, .slice p1 n1 c1, .slice p2 n2 c2, .slice p3 n3 c3, .slice p4 n4 c4] T)) (some ⟨w.heap.size, 0, none⟩) 5 5 [(p0, n0, c0, l0), (p1, n1, c1, l1), (p2, n2, c2, l2), (p3, n3, c3, l3), (p4, n4, c4, l4)] :=
  PartsAt.new w [(p0, n0, c0, l0), (p1, n1, c1, l1), (p2, n2, c2, l2), (p3, n3, c3, l3), (p4, n4, c4, l4)] T (by simp [maxLen]) (by
    intro z hz
    simp only [List.mem_cons, List.not_mem_nil, or_false] at hz
    rcases hz with rfl | rfl | rfl | rfl | rfl
    · exact h0
    · exact h1
    · exact h2
    · exact h3
    · exact h4)
theorem flat5 (p0 p1 p2 p3 p4 : Option Addr) (n0 c0 n1 c1 n2 c2 n3 c3 n4 c4 : Nat) (l0 l1 l2 l3 l4 : List Int) : flat [(p0, n0, c0, l0), (p1, n1, c1, l1), (p2, n2, c2, l2), (p3, n3, c3, l3), (p4, n4, c4, l4)] = l0 ++ l1 ++ l2 ++ l3 ++ l4 := by simp [flat]
theorem flat_meta (m : Mt) (p0 p1 p2 p3 p4 : Option Addr) (n0 c0 n1 c1 n2 c2 n3 c3 n4 c4 : Nat) : flat [(p0, n0, c0, [67, 65, 77, 66]), (p1, n1, c1, be 8 m.gen), (p2, n2, c2, be 4 m.high), (p3, n3, c3, be 4 m.root), (p4, n4, c4, be 4 m.free)] = m.bytes := by rw [flat5]; rfl

/-- '[]byte("..")' of a constant: the row is marked; its cells are as they were. -/
theorem conv_mark {w : World} {b : Nat} {C : Array Value} {T : TypeId} {fz : Nat × Nat} (n c : Nat) (h : w.heap[b]? = some (.cells C T fz)) :
    ∃ w2, (convert 25 25 (.slice (some ⟨b, 0, none⟩) n c)).run Tryd.prog w = .ok (.slice (some ⟨b, 0, none⟩) n c) w2 ∧ Keep w w2 ∧ Mod [b] w w2 := by
  have hsh : w.shape? b = some (T, C.size) := by unfold World.shape?; rw [h]
  refine ⟨w.freeze ⟨b, C.size, none⟩ 1, ?_, ?_, ?_⟩
  · simp [convert, run_underlying Tryd.underlying25, run_underlying uU8, markStringish, hsh]
  · unfold World.freeze
    rw [if_neg (by decide)]
    refine ⟨by simp, fun x cs T' fz' hx => ?_⟩
    by_cases e : b = x
    · subst e
      simp [Array.getElem?_modify, hx]
    · exact ⟨fz', by simp [Array.getElem?_modify, e, hx]⟩
  · unfold World.freeze
    rw [if_neg (by decide)]
    refine ⟨rfl, rfl, rfl, by simp, fun k hk hn => ?_⟩
    have : b ≠ k := fun e => hn (by simp [e])
    simp [Array.getElem?_modify, this]
theorem run_convert_of {P : Program} {t : TypeId} {v v' : Value} {w w2 : World} (h : (convert t t v).run P w = .ok v' w2) : (convert t t v).run P w = .ok v' w2 := h
def PayR (l : List Int) (w : World) (v : Value) (w' : World) : Prop := ∃ p n c, v = .slice p n c ∧ n = l.length ∧ (p = none ↔ l = []) ∧ Sl w' 1 p n c (bs l) ∧ Mod [] w w'
def metaR (g h r f : Int) (A B : Nat) (BB : List Int) (i : Nat) (v : Value) (w : World) : Prop :=
  match i with
  | 0 => ∃ b, v = .slice (some ⟨b, 0, none⟩) 4 4 ∧ B ≤ b ∧ ∃ fz, w.heap[b]? = some (.cells (bs [67, 65, 77, 66]).toArray 5 fz)
  | 1 => ∃ p, v = .slice p 4 4 ∧ Sl w 1 p 4 4 (bs [67, 65, 77, 66])
  | 2 => v = .pointer (some ⟨A, 0, none⟩)
  | 3 => v = .int .u64 g
  | 4 => ∃ p c, v = .slice p 8 c ∧ Sl w 1 p 8 c (bs (be 8 g))
  | 5 => v = .pointer (some ⟨A, 1, none⟩)
  | 6 => v = .int .i64 h
  | 7 => v = .int .u32 h
  | 8 => ∃ p c, v = .slice p 4 c ∧ Sl w 1 p 4 c (bs (be 4 h))
  | 9 => v = .pointer (some ⟨A, 2, none⟩)
  | 10 => v = .int .i64 r
  | 11 => v = .int .u32 r
  | 12 => ∃ p c, v = .slice p 4 c ∧ Sl w 1 p 4 c (bs (be 4 r))
  | 13 => v = .pointer (some ⟨A, 3, none⟩)
  | 14 => v = .int .i64 f
  | 15 => v = .int .u32 f
  | 16 => ∃ p c, v = .slice p 4 c ∧ Sl w 1 p 4 c (bs (be 4 f))
  | 17 => ∃ p l, v = .slice p 5 5 ∧ PartsAt w p 5 5 l ∧ flat l = BB
  | 18 => ∃ p c, v = .slice p 24 c ∧ Sl w 1 p 24 c (bs BB)
  | 19 => ∃ p c, v = .slice p 24 c ∧ Sl w 1 p 24 c (bs BB)
  | _ => True
theorem metaR_keep {g h r f : Int} {A B : Nat} {BB : List Int} {i : Nat} {v : Value} {w w' : World} (hk : Keep w w') (hr : metaR g h r f A B BB i v w) : metaR g h r f A B BB i v w' := by
  unfold metaR at hr ⊢
  split at hr
  · obtain ⟨b, h1, h2, fz, h3⟩ := hr
    obtain ⟨fz', h4⟩ := hk.block _ _ _ _ h3
    exact ⟨b, h1, h2, fz', h4⟩
  · obtain ⟨p, h1, h2⟩ := hr; exact ⟨p, h1, h2.keep hk⟩
  · exact hr
  · exact hr
  · obtain ⟨p, c, h1, h2⟩ := hr; exact ⟨p, c, h1, h2.keep hk⟩
  · exact hr
  · exact hr
  · exact hr
  · obtain ⟨p, c, h1, h2⟩ := hr; exact ⟨p, c, h1, h2.keep hk⟩
  · exact hr
  · exact hr
  · exact hr
  · obtain ⟨p, c, h1, h2⟩ := hr; exact ⟨p, c, h1, h2.keep hk⟩
  · exact hr
  · exact hr
  · exact hr
  · obtain ⟨p, c, h1, h2⟩ := hr; exact ⟨p, c, h1, h2.keep hk⟩
  · obtain ⟨p, l, h1, h2, h3⟩ := hr; exact ⟨p, l, h1, ⟨h2.sl.keep hk, fun x hx => (h2.each x hx).keep hk⟩, h3⟩
  · obtain ⟨p, c, h1, h2⟩ := hr; exact ⟨p, c, h1, h2.keep hk⟩
  · obtain ⟨p, c, h1, h2⟩ := hr; exact ⟨p, c, h1, h2.keep hk⟩
  · trivial
set_option maxRecDepth 100000 in
set_option maxHeartbeats 4000000 in
theorem paym_any (m : Mt) (w : World) : Calls Tryd.prog 9 #[.agg m.cells] w (Ret (PayR (payM m) w)) := by
  have HP1 : Hid (m.may = true → payM m = m.bytes) := fun h => if_pos h
  have HP0 : Hid (m.may = false → payM m = []) := fun h => payM_nil.2 h
  have HSP : Hid (m.may = true → _) := m.may_spec
  have HMAY := fun W => may_any m W
  have HFL := Lib.hid (flat_meta m)
  have HBL := Lib.hid m.bytes_len
  obtain ⟨B, hB⟩ : ∃ B, B = m.may := ⟨_, rfl⟩
  rw [← hB] at HP1 HP0 HSP HMAY
  clear hB
  generalize payM m = PP at *
  generalize m.bytes = BB at *
  obtain ⟨g, h, r, f⟩ := m
  simp only [Mt.cells] at HMAY HSP HFL ⊢
  have HMW : Hid (Mod [] w (w.alloc (.cells #[.int .u64 g, .int .i64 h, .int .i64 r, .int .i64 f] 24))) := Mod.of_alloc w _
  have c0 : (w.alloc (.cells #[.int .u64 g, .int .i64 h, .int .i64 r, .int .i64 f] 24)).cell? ⟨w.heap.size, 0, none⟩ = some (.int .u64 g) := cell_of_at (at_alloc w _) 0
  have c1 : (w.alloc (.cells #[.int .u64 g, .int .i64 h, .int .i64 r, .int .i64 f] 24)).cell? ⟨w.heap.size, 1, none⟩ = some (.int .i64 h) := cell_of_at (at_alloc w _) 1
  have c2 : (w.alloc (.cells #[.int .u64 g, .int .i64 h, .int .i64 r, .int .i64 f] 24)).cell? ⟨w.heap.size, 2, none⟩ = some (.int .i64 r) := cell_of_at (at_alloc w _) 2
  have c3 : (w.alloc (.cells #[.int .u64 g, .int .i64 h, .int .i64 r, .int .i64 f] 24)).cell? ⟨w.heap.size, 3, none⟩ = some (.int .i64 f) := cell_of_at (at_alloc w _) 3
  have hBL : w.heap.size < (w.alloc (.cells #[.int .u64 g, .int .i64 h, .int .i64 r, .int .i64 f] 24)).heap.size := lt_of_at (at_alloc w _)
  have C := And.intro c0 (And.intro c1 (And.intro c2 c3))
  have HC := Lib.hid C
  clear C
  go_enter Tryd.func9, Tryd.ntmps9
  go_wp2_with fail
  refine (HMAY _).mono ?_
  rintro _ w1 ⟨_, rfl, rfl, m1⟩
  have M1 := Lib.hid m1
  have hd0 := (m1.cell (a := ⟨w.heap.size, 0, none⟩) hBL (by simp)).trans c0
  have hd1 := (m1.cell (a := ⟨w.heap.size, 1, none⟩) hBL (by simp)).trans c1
  have hd2 := (m1.cell (a := ⟨w.heap.size, 2, none⟩) hBL (by simp)).trans c2
  have hd3 := (m1.cell (a := ⟨w.heap.size, 3, none⟩) hBL (by simp)).trans c3
  have hB1 : w.heap.size < w1.heap.size := Nat.lt_of_lt_of_le hBL m1.size
  clear c0 c1 c2 c3 hBL HMAY m1 HC
  cases B with
  | false =>
    have HP := Lib.hid (HP0.out rfl)
    go_wp2
    go_ret
    exact .mk ⟨none, 0, 0, rfl, by rw [HP.out]; rfl, by rw [HP.out]; simp, by rw [HP.out]; exact Sl.nil _ _, HMW.out.same M1.out⟩
  | true =>
    have HP := Lib.hid (HP1.out rfl)
    obtain ⟨⟨g1, g2⟩, ⟨h1, h2⟩, ⟨r1, r2⟩, ⟨f1, f2⟩⟩ := HSP.out rfl
    have hwh : IntKind.u32.wrap h = h := by rw [IntKind.wrap_u32]; omega
    have hwr : IntKind.u32.wrap r = r := by rw [IntKind.wrap_u32]; omega
    have hwf : IntKind.u32.wrap f = f := by rw [IntKind.wrap_u32]; omega
    have HM0 : Hid (Mod [] w w1) := HMW.out.same M1.out
    go_wp2
    generalize w.heap.size = A at *
    clear HMW M1 HP0 HP1 HSP
    refine par_region (by kernel_rfl) (fun i vs w => metaR g h r f A w1.heap.size BB i (vs i) w) (fun w' => Mod [] w1 w') (by kernel_rfl) (fun j vs vs' w o _ h1 _ h2 => by rw [← h1]; exact h2) ⟨⟨⟨⟨⟨⟨⟨⟨⟨⟨⟨⟨⟨⟨⟨⟨⟨⟨⟨⟨trivial, ?_⟩, ?_⟩, ?_⟩, ?_⟩, ?_⟩, ?_⟩, ?_⟩, ?_⟩, ?_⟩, ?_⟩, ?_⟩, ?_⟩, ?_⟩, ?_⟩, ?_⟩, ?_⟩, ?_⟩, ?_⟩, ?_⟩, ?_⟩ (Mod.of_drew w1) ?_
    · -- 0
      intro o ho listed vs a w' inv hun haft K hK
      obtain rfl := Option.some.inj ho
      refine par_run rfl ?_
      have INV := Lib.hid inv
      clear inv haft hun ho
      go_simp
      exact hK _ _ INV.out.inv.alloc (fun j hj hl => metaR_keep (Keep.of_mod (Mod.of_alloc _ _)) (INV.out.val j hj hl)) ⟨_, rfl, INV.out.inv.size, (0, 0), at_alloc w' _⟩
    · -- 1
      intro o ho listed vs a w' inv hun haft K hK
      obtain rfl := Option.some.inj ho
      refine par_run rfl ?_
      obtain ⟨e6, r6⟩ := inv.get haft 0 6 (by kernel_rfl) (by kernel_rfl)
      have INV := Lib.hid inv
      clear inv haft hun ho
      obtain ⟨b, h6, hb, fz, hat⟩ := r6
      rw [h6] at e6
      obtain ⟨w2, hcv, hkp, hmd⟩ := conv_mark 4 4 hat
      have HKP := Lib.hid hkp
      have HMD := Lib.hid hmd
      have HAT := Lib.hid hat
      have HB := Lib.hid hb
      clear hkp hmd hat hb
      go_simp
      refine hK _ _ (INV.out.inv.trans HMD.out (fun x hx => Or.inr (by simp at hx; rw [hx]; exact HB.out))) (fun j hj hl => metaR_keep HKP.out (INV.out.val j hj hl)) ⟨_, rfl, ?_⟩
      obtain ⟨fz', h2⟩ := HKP.out.block _ _ _ _ HAT.out
      exact ⟨by simp [bs], by omega, by unfold maxLen; omega, bs_one _, b, 0, fun _ => ⟨rfl, lt_of_at h2⟩, fun j u hj => by rw [cell_of_at h2, Nat.zero_add]; simpa using hj⟩
    · -- 2
      intro o ho listed vs a w' inv hun haft K hK
      obtain rfl := Option.some.inj ho
      refine par_run rfl ?_
      have e1 := inv.old 1 (by kernel_rfl)
      have INV := Lib.hid inv
      clear inv haft hun ho
      simp at e1
      go_simp
      exact hK _ _ INV.out.inv INV.out.val rfl
    · -- 3
      intro o ho listed vs a w' inv hun haft K hK
      obtain rfl := Option.some.inj ho
      refine par_run rfl ?_
      obtain ⟨e8, r8⟩ := inv.get haft 2 8 (by kernel_rfl) (by kernel_rfl)
      have INV := Lib.hid inv
      clear inv haft hun ho
      change vs 2 = .pointer (some ⟨A, 0, none⟩) at r8
      rw [r8] at e8
      have c := (INV.out.inv.cell (a := ⟨A, 0, none⟩) hB1 (by simp)).trans hd0
      go_simp
      exact hK _ _ INV.out.inv INV.out.val rfl
    · -- 4
      intro o ho listed vs a w' inv hun haft K hK
      obtain rfl := Option.some.inj ho
      refine par_run rfl ?_
      obtain ⟨e9, r9⟩ := inv.get haft 3 9 (by kernel_rfl) (by kernel_rfl)
      have INV := Lib.hid inv
      clear inv haft hun ho
      change vs 3 = .int .u64 g at r9
      rw [r9] at e9
      go_simp
      refine (key_any g _ (by omega) (by omega)).mono ?_
      rintro _ w3 ⟨_, rfl, p3, n3, c3, rfl, e3, s3, m3⟩
      obtain rfl : n3 = 8 := by rw [e3, be_len]
      exact hK _ _ (INV.out.inv.same m3) (fun j hj hl => metaR_keep (Keep.of_mod m3) (INV.out.val j hj hl)) ⟨_, _, rfl, (Sl.of_own s3 (bs_one _)).1⟩
    · -- 5
      intro o ho listed vs a w' inv hun haft K hK
      obtain rfl := Option.some.inj ho
      refine par_run rfl ?_
      have e1 := inv.old 1 (by kernel_rfl)
      have INV := Lib.hid inv
      clear inv haft hun ho
      simp at e1
      go_simp
      exact hK _ _ INV.out.inv INV.out.val rfl
    · -- 6
      intro o ho listed vs a w' inv hun haft K hK
      obtain rfl := Option.some.inj ho
      refine par_run rfl ?_
      obtain ⟨e11, r11⟩ := inv.get haft 5 11 (by kernel_rfl) (by kernel_rfl)
      have INV := Lib.hid inv
      clear inv haft hun ho
      change vs 5 = .pointer (some ⟨A, 1, none⟩) at r11
      rw [r11] at e11
      have c := (INV.out.inv.cell (a := ⟨A, 1, none⟩) hB1 (by simp)).trans hd1
      go_simp
      exact hK _ _ INV.out.inv INV.out.val rfl
    · -- 7
      intro o ho listed vs a w' inv hun haft K hK
      obtain rfl := Option.some.inj ho
      refine par_run rfl ?_
      obtain ⟨e12, r12⟩ := inv.get haft 6 12 (by kernel_rfl) (by kernel_rfl)
      have INV := Lib.hid inv
      clear inv haft hun ho
      change vs 6 = .int .i64 h at r12
      rw [r12] at e12
      go_simp
      exact hK _ _ INV.out.inv INV.out.val rfl
    · -- 8
      intro o ho listed vs a w' inv hun haft K hK
      obtain rfl := Option.some.inj ho
      refine par_run rfl ?_
      obtain ⟨e13, r13⟩ := inv.get haft 7 13 (by kernel_rfl) (by kernel_rfl)
      have INV := Lib.hid inv
      clear inv haft hun ho
      change vs 7 = .int .u32 h at r13
      rw [r13] at e13
      go_simp
      refine (put32_any h _ (by omega) (by omega)).mono ?_
      rintro _ w3 ⟨_, rfl, p3, n3, c3, rfl, e3, s3, m3⟩
      obtain rfl : n3 = 4 := by rw [e3, be_len]
      exact hK _ _ (INV.out.inv.same m3) (fun j hj hl => metaR_keep (Keep.of_mod m3) (INV.out.val j hj hl)) ⟨_, _, rfl, s3⟩
    · -- 9
      intro o ho listed vs a w' inv hun haft K hK
      obtain rfl := Option.some.inj ho
      refine par_run rfl ?_
      have e1 := inv.old 1 (by kernel_rfl)
      have INV := Lib.hid inv
      clear inv haft hun ho
      simp at e1
      go_simp
      exact hK _ _ INV.out.inv INV.out.val rfl
    · -- 10
      intro o ho listed vs a w' inv hun haft K hK
      obtain rfl := Option.some.inj ho
      refine par_run rfl ?_
      obtain ⟨e15, r15⟩ := inv.get haft 9 15 (by kernel_rfl) (by kernel_rfl)
      have INV := Lib.hid inv
      clear inv haft hun ho
      change vs 9 = .pointer (some ⟨A, 2, none⟩) at r15
      rw [r15] at e15
      have c := (INV.out.inv.cell (a := ⟨A, 2, none⟩) hB1 (by simp)).trans hd2
      go_simp
      exact hK _ _ INV.out.inv INV.out.val rfl
    · -- 11
      intro o ho listed vs a w' inv hun haft K hK
      obtain rfl := Option.some.inj ho
      refine par_run rfl ?_
      obtain ⟨e16, r16⟩ := inv.get haft 10 16 (by kernel_rfl) (by kernel_rfl)
      have INV := Lib.hid inv
      clear inv haft hun ho
      change vs 10 = .int .i64 r at r16
      rw [r16] at e16
      go_simp
      exact hK _ _ INV.out.inv INV.out.val rfl
    · -- 12
      intro o ho listed vs a w' inv hun haft K hK
      obtain rfl := Option.some.inj ho
      refine par_run rfl ?_
      obtain ⟨e17, r17⟩ := inv.get haft 11 17 (by kernel_rfl) (by kernel_rfl)
      have INV := Lib.hid inv
      clear inv haft hun ho
      change vs 11 = .int .u32 r at r17
      rw [r17] at e17
      go_simp
      refine (put32_any r _ (by omega) (by omega)).mono ?_
      rintro _ w3 ⟨_, rfl, p3, n3, c3, rfl, e3, s3, m3⟩
      obtain rfl : n3 = 4 := by rw [e3, be_len]
      exact hK _ _ (INV.out.inv.same m3) (fun j hj hl => metaR_keep (Keep.of_mod m3) (INV.out.val j hj hl)) ⟨_, _, rfl, s3⟩
    · -- 13
      intro o ho listed vs a w' inv hun haft K hK
      obtain rfl := Option.some.inj ho
      refine par_run rfl ?_
      have e1 := inv.old 1 (by kernel_rfl)
      have INV := Lib.hid inv
      clear inv haft hun ho
      simp at e1
      go_simp
      exact hK _ _ INV.out.inv INV.out.val rfl
    · -- 14
      intro o ho listed vs a w' inv hun haft K hK
      obtain rfl := Option.some.inj ho
      refine par_run rfl ?_
      obtain ⟨e19, r19⟩ := inv.get haft 13 19 (by kernel_rfl) (by kernel_rfl)
      have INV := Lib.hid inv
      clear inv haft hun ho
      change vs 13 = .pointer (some ⟨A, 3, none⟩) at r19
      rw [r19] at e19
      have c := (INV.out.inv.cell (a := ⟨A, 3, none⟩) hB1 (by simp)).trans hd3
      go_simp
      exact hK _ _ INV.out.inv INV.out.val rfl
    · -- 15
      intro o ho listed vs a w' inv hun haft K hK
      obtain rfl := Option.some.inj ho
      refine par_run rfl ?_
      obtain ⟨e20, r20⟩ := inv.get haft 14 20 (by kernel_rfl) (by kernel_rfl)
      have INV := Lib.hid inv
      clear inv haft hun ho
      change vs 14 = .int .i64 f at r20
      rw [r20] at e20
      go_simp
      exact hK _ _ INV.out.inv INV.out.val rfl
    · -- 16
      intro o ho listed vs a w' inv hun haft K hK
      obtain rfl := Option.some.inj ho
      refine par_run rfl ?_
      obtain ⟨e21, r21⟩ := inv.get haft 15 21 (by kernel_rfl) (by kernel_rfl)
      have INV := Lib.hid inv
      clear inv haft hun ho
      change vs 15 = .int .u32 f at r21
      rw [r21] at e21
      go_simp
      refine (put32_any f _ (by omega) (by omega)).mono ?_
      rintro _ w3 ⟨_, rfl, p3, n3, c3, rfl, e3, s3, m3⟩
      obtain rfl : n3 = 4 := by rw [e3, be_len]
      exact hK _ _ (INV.out.inv.same m3) (fun j hj hl => metaR_keep (Keep.of_mod m3) (INV.out.val j hj hl)) ⟨_, _, rfl, s3⟩
    · -- 17
      intro o ho listed vs a w' inv hun haft K hK
      obtain rfl := Option.some.inj ho
      refine par_run rfl ?_
      obtain ⟨e7, r7⟩ := inv.get haft 1 7 (by kernel_rfl) (by kernel_rfl)
      obtain ⟨e10, r10⟩ := inv.get haft 4 10 (by kernel_rfl) (by kernel_rfl)
      obtain ⟨e14, r14⟩ := inv.get haft 8 14 (by kernel_rfl) (by kernel_rfl)
      obtain ⟨e18, r18⟩ := inv.get haft 12 18 (by kernel_rfl) (by kernel_rfl)
      obtain ⟨e22, r22⟩ := inv.get haft 16 22 (by kernel_rfl) (by kernel_rfl)
      have INV := Lib.hid inv
      clear inv haft hun ho
      obtain ⟨p7, h7, s7⟩ := r7
      obtain ⟨p10, c10, h10, s10⟩ := r10
      obtain ⟨p14, c14, h14, s14⟩ := r14
      obtain ⟨p18, c18, h18, s18⟩ := r18
      obtain ⟨p22, c22, h22, s22⟩ := r22
      rw [h7] at e7
      rw [h10] at e10
      rw [h14] at e14
      rw [h18] at e18
      rw [h22] at e22
      have PA : Hid (∀ T, _) := fun T => PartsAt.five w' T s7 s10 s14 s18 s22
      replace e7 := getD_opt e7
      replace e10 := getD_opt e10
      replace e14 := getD_opt e14
      replace e18 := getD_opt e18
      replace e22 := getD_opt e22
      clear s7 s10 s14 s18 s22 h7 h10 h14 h18 h22
      go_simp
      exact hK _ _ INV.out.inv.alloc (fun j hj hl => metaR_keep (Keep.of_mod (Mod.of_alloc _ _)) (INV.out.val j hj hl)) ⟨_, _, rfl, PA.out _, HFL.out _ _ _ _ _ _ _ _ _ _ _ _ _ _ _⟩
    · -- 18
      intro o ho listed vs a w' inv hun haft K hK
      obtain rfl := Option.some.inj ho
      refine par_run rfl ?_
      obtain ⟨e23, r23⟩ := inv.get haft 17 23 (by kernel_rfl) (by kernel_rfl)
      have INV := Lib.hid inv
      clear inv haft hun ho
      obtain ⟨p23, l23, h23, pa, hfl⟩ := r23
      rw [h23] at e23
      go_simp
      refine (concat_any p23 5 5 l23 _ pa (by rw [hfl, HBL.out]; decide)).mono ?_
      rintro _ w3 ⟨_, rfl, p3, n3, c3, rfl, e3, s3, m3⟩
      rw [hfl] at e3 s3
      obtain rfl : n3 = 24 := by rw [e3]; exact HBL.out
      exact hK _ _ (INV.out.inv.same m3) (fun j hj hl => metaR_keep (Keep.of_mod m3) (INV.out.val j hj hl)) ⟨_, _, rfl, (Sl.of_own s3 (bs_one _)).1⟩
    · -- 19
      intro o ho listed vs a w' inv hun haft K hK
      obtain rfl := Option.some.inj ho
      refine par_run rfl ?_
      obtain ⟨e24, r24⟩ := inv.get haft 18 24 (by kernel_rfl) (by kernel_rfl)
      have INV := Lib.hid inv
      clear inv haft hun ho
      obtain ⟨p24, c24, h24, s24⟩ := r24
      rw [h24] at e24
      go_simp
      exact hK _ _ INV.out.inv INV.out.val ⟨p24, c24, rfl, s24⟩
    · intro vs w2 X hm hr hslot hold hsize hdef
      obtain ⟨p9, c9, h9, s9⟩ := hr 19 (by decide)
      have M9 := Lib.hid hm
      have S9 := Lib.hid s9
      have hX2 := hslot 19 2 (by kernel_rfl)
      have HD := Lib.hid hdef
      rw [h9] at hX2
      clear h9 hr hm s9 hslot hold hsize hdef
      go_wp2
      refine bodyPost_ret (results_tmp rfl _ _ _) HD.out ?_
      rw [hX2]
      exact .mk ⟨p9, 24, c9, rfl, by rw [HP.out, HBL.out], ⟨(by
        intro e
        obtain ⟨_, _, h, _⟩ := S9.out.addr (by omega)
        rw [e] at h; cases h), fun e => by rw [HP.out] at e; have := HBL.out; rw [e] at this; simp at this⟩, by rw [HP.out]; exact S9.out, HM0.out.same M9.out⟩
end Go.Proofs.YtbbjfgjbjghdiaaDoor
