/- MetaApart: what the law's function returns. -/
import Derived.Test.YtbbjfgjbjghdiaaDoorMetaTells
import Derived.Test.YtbbjfgjbjghdiaaDoorZeros2
namespace Go.Proofs.YtbbjfgjbjghdiaaDoor
open Go.RowKit Go.Maps
set_option linter.unusedSimpArgs false
set_option linter.unusedVariables false

theorem bits_xor_u8_nat (a b : Nat) (ha : a < 256) (hb : b < 256) : bits .xor .u8 (a : Int) (b : Int) = ((a ^^^ b : Nat) : Int) := by
  have hx : a ^^^ b < 2 ^ 8 := Nat.xor_lt_two_pow (by omega) (by omega)
  have h1 : (BitVec.ofInt 8 (a : Int)).toNat = a := by
    rw [BitVec.ofInt_natCast, BitVec.toNat_ofNat]; exact Nat.mod_eq_of_lt (by omega)
  have h2 : (BitVec.ofInt 8 (b : Int)).toNat = b := by
    rw [BitVec.ofInt_natCast, BitVec.toNat_ofNat]; exact Nat.mod_eq_of_lt (by omega)
  show IntKind.u8.wrap ((BitVec.ofInt 8 (a : Int) ^^^ BitVec.ofInt 8 (b : Int)).toNat : Int) = _
  rw [BitVec.toNat_xor, h1, h2, IntKind.wrap_u8]
  omega
/-- A byte, with some bits turned. -/
theorem xor8 {v y : Int} (hv : 0 ≤ v ∧ v < 256) (hy : 0 ≤ y ∧ y < 256) : (0 ≤ bits .xor .u8 v y ∧ bits .xor .u8 v y < 256) ∧ (bits .xor .u8 v y = v ↔ y = 0) := by
  obtain ⟨a, rfl⟩ : ∃ a : Nat, v = a := ⟨v.toNat, by omega⟩
  obtain ⟨b, rfl⟩ : ∃ b : Nat, y = b := ⟨y.toNat, by omega⟩
  rw [bits_xor_u8_nat a b (by omega) (by omega)]
  have hx : a ^^^ b < 2 ^ 8 := Nat.xor_lt_two_pow (by omega) (by omega)
  refine ⟨by omega, ?_⟩
  constructor
  · intro h
    have h1 : a ^^^ b = a := by omega
    have h2 : a ^^^ (a ^^^ b) = a ^^^ a := by rw [h1]
    rw [← Nat.xor_assoc, Nat.xor_self, Nat.zero_xor] at h2
    omega
  · intro h
    have : b = 0 := by omega
    subst this
    simp
theorem payM_inj {a b : Mt} (ha : a.may = true) (hb : b.may = true) (h : payM a = payM b) : a = b := by
  have h1 := fromM_pay ha
  have h2 := fromM_pay hb
  rw [h, h2] at h1
  exact (congrArg Prod.fst h1).symm
theorem fromM_back {l : List Int} {m : Mt} (h : fromM l = (m, 0)) : pad 1016 m.bytes = l := by
  unfold fromM at h
  split at h
  · rename_i hg
    have h1 := hg.2
    unfold goodM at h1
    rw [Bool.and_eq_true] at h1
    have h2 := of_decide_eq_true h1.2
    have h3 := congrArg Prod.fst h
    simp only at h3
    rw [← h3]; exact h2
  · have := congrArg Prod.snd h
    simp at this
/-- The meta with a byte of its page turned. -/
theorem fromM_set {m : Mt} (hm : m.may = true) {j : Nat} (hj : j < 24) {u : Int} : ((fromM ((pad 1016 (payM m)).set j u)).2 = 0 ∧ (fromM ((pad 1016 (payM m)).set j u)).1 = m) ↔ u = (pad 1016 (payM m)).getD j 0 := by
  have hl : (pad 1016 (payM m)).length = 1016 := pad_len (by have := payM_len m; omega)
  constructor
  · rintro ⟨h1, h2⟩
    have h3 : fromM ((pad 1016 (payM m)).set j u) = (m, 0) := Prod.ext h2 h1
    have h4 := fromM_back h3
    have h5 : payM m = m.bytes := if_pos hm
    rw [← h5] at h4
    have h6 : ((pad 1016 (payM m)).set j u).getD j 0 = u := by simp [List.getD, hl, show j < 1016 by omega]
    rw [← h4] at h6; exact h6.symm
  · intro h
    have h1 : (pad 1016 (payM m)).set j u = pad 1016 (payM m) := by
      subst h
      apply List.ext_getElem (by simp)
      intro i h1 h2
      rw [List.getElem_set]
      split
      · rename_i e; subst e; rw [getD_at]
      · rfl
    rw [h1, fromM_pay hm]; exact ⟨rfl, rfl⟩

theorem BytesIn.turn {w : World} {F o n c : Nat} {l : List Int} (h : BytesIn w (some ⟨F, o, none⟩) n c l) {j : Nat} (hj : j < n) {u : Int} (hu : 0 ≤ u ∧ u < 256) : BytesIn (w.setCell ⟨F, o + j, none⟩ (.int .u8 u)) (some ⟨F, o, none⟩) n c (l.set j u) := by
  have hl := h.len
  obtain ⟨b, off, hp, hlt, hc⟩ := h.sl.addr (by omega)
  cases hp
  have hs : bs (l.set j u) = (bs l).set j (.int .u8 u) := by simp [bs, List.map_set]
  refine ⟨⟨by rw [bs_len, List.length_set, hl]; omega, h.sl.le, h.sl.capm, bs_one _, F, o, fun _ => ⟨rfl, by simpa [World.setCell] using hlt⟩, fun i v hi => ?_⟩, fun x hx => ?_⟩
  · rw [hs, List.getElem?_set] at hi
    by_cases e : j = i
    · subst e
      rw [if_pos rfl, if_pos (by rw [bs_len, hl]; exact hj)] at hi
      have hc0 := hc j _ (bs_get (by omega))
      rw [← Option.some.inj hi]
      exact World.cell?_setCell_same _ _ _ hc0
    · rw [if_neg e] at hi
      rw [World.cell?_setCell_other _ _ _ _ (by simp)]
      exact hc i v hi
  · rcases List.mem_or_eq_of_mem_set hx with h1 | h1
    · exact h.wf x h1
    · rw [h1]; exact hu
theorem run_eqM (a b : Mt) (W : World) : (binOp .eql 24 (.agg a.cells) (.agg b.cells)).run Tryd.prog W = .ok (.bool (decide (a = b))) W := by
  obtain ⟨g, h, r, f⟩ := a
  obtain ⟨g', h', r', f'⟩ := b
  unfold Mt.cells
  go_simp
  repeat' split
  all_goals simp_all
set_option maxRecDepth 100000 in
set_option maxHeartbeats 8000000 in
theorem mapart_any (a b : Mt) (x y : Int) (w : World) (hx : 0 ≤ x ∧ x < 256) (hy : 0 ≤ y ∧ y < 256) : Calls Tryd.prog 4 #[.agg a.cells, .agg b.cells, .agg #[.int .u8 x, .int .u8 y]] w (Ret (TrueR w)) := by
  have HMA := fun W => Lib.hid (qmay_any a W)
  have HMB := fun W => Lib.hid (qmay_any b W)
  have HPA := fun W => Lib.hid (paym_any a W)
  have HPB := fun W => Lib.hid (paym_any b W)
  have HPW := Lib.hid (payM_wf a)
  obtain ⟨j, hj⟩ : ∃ j : Nat, (j : Int) = x % 24 := ⟨(x % 24).toNat, by omega⟩
  have hj24 : j < 24 := by omega
  obtain ⟨v, hv⟩ : ∃ v, v = (pad 1016 (payM a)).getD j 0 := ⟨_, rfl⟩
  have hv8 : 0 ≤ v ∧ v < 256 := by
    rw [hv, getD_at (by rw [pad_len (by have := payM_len a; omega)]; omega)]
    exact pad_wf (payM_wf a) _ (List.getElem_mem _)
  obtain ⟨u, hu⟩ : ∃ u, u = bits .xor .u8 v y := ⟨_, rfl⟩
  have hxr := xor8 hv8 hy
  rw [← hu] at hxr
  have HLA : Hid (a.may = true → (payM a).length = 24) := fun h => by unfold payM; rw [if_pos h, Mt.bytes_len]
  have HSAME : Hid (a.may = true → b.may = true → (decide (payM a = payM b) = decide (a = b))) := fun h1 h2 => by
    by_cases e : a = b
    · subst e; simp
    · have : payM a ≠ payM b := fun h => e (payM_inj h1 h2 h)
      simp [e, this]
  have HEND : Hid (a.may = true → (((fromM ((pad 1016 (payM a)).set j u)).2 = 0 ∧ (fromM ((pad 1016 (payM a)).set j u)).1 = a) ↔ y = 0)) := fun h => by
    rw [← hxr.2, hv]; exact fromM_set h hj24
  have HV := Lib.hid hv
  have HU := Lib.hid hu
  have hux := hxr.1
  clear hxr hu hv
  obtain ⟨PA, hPA⟩ : ∃ PA, PA = payM a := ⟨_, rfl⟩
  obtain ⟨PB, hPB⟩ : ∃ PB, PB = payM b := ⟨_, rfl⟩
  rw [← hPA] at HPW HLA HSAME HEND HV
  rw [← hPB] at HSAME
  simp only [← hPA] at HPA
  simp only [← hPB] at HPB
  obtain ⟨E, hE⟩ : ∃ E, E = decide (a = b) := ⟨_, rfl⟩
  rw [← hE] at HSAME
  have HEQ : Hid (∀ W : World, (binOp .eql 24 (.agg a.cells) (.agg b.cells)).run Tryd.prog W = .ok (.bool E) W) := fun W => by rw [hE]; exact run_eqM a b W
  have HEQA : Hid (∀ (m : Mt) (W : World), (binOp .eql 24 (.agg m.cells) (.agg a.cells)).run Tryd.prog W = .ok (.bool (decide (m = a))) W) := fun m W => run_eqM m a W
  generalize a.may = BA at *
  generalize b.may = BB at *
  clear hPA hPB hE
  obtain ⟨g, h, r, f⟩ := a
  obtain ⟨g', h', r', f'⟩ := b
  simp only [Mt.cells] at HMA HMB HPA HPB HEQ HEQA ⊢
  have hat0 := at_alloc w (.cells #[.int .u64 g, .int .i64 h, .int .i64 r, .int .i64 f] 24)
  obtain ⟨W0, hW0⟩ : ∃ W0, W0 = ((w.alloc (.cells #[.int .u64 g, .int .i64 h, .int .i64 r, .int .i64 f] 24)).alloc (.cells #[.int .u64 g', .int .i64 h', .int .i64 r', .int .i64 f'] 24)).alloc (.cells #[.int .u8 x, .int .u8 y] 34) := ⟨_, rfl⟩
  have HA0 : Hid (W0.heap[w.heap.size]? = some (.cells #[.int .u64 g, .int .i64 h, .int .i64 r, .int .i64 f] 24 (0, 0))) := by rw [hW0]; exact at_alloc_other (at_alloc_other hat0 _) _
  have HB0 : Hid (W0.heap[w.heap.size + 1]? = some (.cells #[.int .u64 g', .int .i64 h', .int .i64 r', .int .i64 f'] 24 (0, 0))) := by rw [hW0]; exact at_alloc_other (at_alloc' _ _ (by simp)) _
  have M0 : Hid (Mod [] w W0) := by rw [hW0]; exact (Mod.refl [] w).alloc.alloc.alloc
  clear hat0
  go_enter Tryd.func4, Tryd.ntmps4
  go_wp2_with fail
  rw [← hW0]
  have HT0 : Hid (W0.heap[w.heap.size + 1 + 1]? = some (.cells #[.int .u8 x, .int .u8 y] 34 (0, 0))) := by rw [hW0]; exact at_alloc' _ _ (by simp)
  clear hW0
  refine (awake_any _).mono ?_
  rintro _ w1 ⟨_, rfl, rfl, m1⟩
  have HA1 := Lib.hid (m1.at HA0.out (by simp))
  have HB1 := Lib.hid (m1.at HB0.out (by simp))
  have HT1 := Lib.hid (m1.at HT0.out (by simp))
  have M1 : Hid (Mod [] w w1) := M0.out.same m1
  clear m1 HA0 HB0 HT0 M0
  have c0 : w1.cell? ⟨w.heap.size, 0, none⟩ = some (.int .u64 g) := cell_of_at HA1.out 0
  have c1 : w1.cell? ⟨w.heap.size, 1, none⟩ = some (.int .i64 h) := cell_of_at HA1.out 1
  have c2 : w1.cell? ⟨w.heap.size, 2, none⟩ = some (.int .i64 r) := cell_of_at HA1.out 2
  have c3 : w1.cell? ⟨w.heap.size, 3, none⟩ = some (.int .i64 f) := cell_of_at HA1.out 3
  go_wp2_with fail
  refine (HMA _).out.mono ?_
  rintro _ w2 ⟨_, rfl, rfl, m2⟩
  have HA2 := Lib.hid (m2.at HA1.out (by simp))
  have HB2 := Lib.hid (m2.at HB1.out (by simp))
  have HT2 := Lib.hid (m2.at HT1.out (by simp))
  have M2 : Hid (Mod [] w w2) := M1.out.same m2
  clear m2 HA1 HB1 HT1 M1 c0 c1 c2 c3 HMA
  cases BA with
  | false =>
    go_wp2
    go_ret
    exact .mk ⟨rfl, M2.out⟩
  | true =>
    have HLA' := Lib.hid (HLA.out rfl)
    have HEND' := Lib.hid (HEND.out rfl)
    have HSAME' := Lib.hid (HSAME.out rfl)
    clear HLA HEND HSAME
    have d0 : w2.cell? ⟨w.heap.size + 1, 0, none⟩ = some (.int .u64 g') := cell_of_at HB2.out 0
    have d1 : w2.cell? ⟨w.heap.size + 1, 1, none⟩ = some (.int .i64 h') := cell_of_at HB2.out 1
    have d2 : w2.cell? ⟨w.heap.size + 1, 2, none⟩ = some (.int .i64 r') := cell_of_at HB2.out 2
    have d3 : w2.cell? ⟨w.heap.size + 1, 3, none⟩ = some (.int .i64 f') := cell_of_at HB2.out 3
    go_wp2_with fail
    refine (HMB _).out.mono ?_
    rintro _ w3 ⟨_, rfl, rfl, m3⟩
    have HA3 := Lib.hid (m3.at HA2.out (by simp))
    have HB3 := Lib.hid (m3.at HB2.out (by simp))
    have HT3 := Lib.hid (m3.at HT2.out (by simp))
    have M3 : Hid (Mod [] w w3) := M2.out.same m3
    clear m3 HA2 HB2 HT2 M2 d0 d1 d2 d3 HMB
    cases BB with
    | false =>
      go_wp2
      go_ret
      exact .mk ⟨rfl, M3.out⟩
    | true =>
      replace HSAME' := Lib.hid (HSAME'.out rfl)
      have c0 : w3.cell? ⟨w.heap.size, 0, none⟩ = some (.int .u64 g) := cell_of_at HA3.out 0
      have c1 : w3.cell? ⟨w.heap.size, 1, none⟩ = some (.int .i64 h) := cell_of_at HA3.out 1
      have c2 : w3.cell? ⟨w.heap.size, 2, none⟩ = some (.int .i64 r) := cell_of_at HA3.out 2
      have c3 : w3.cell? ⟨w.heap.size, 3, none⟩ = some (.int .i64 f) := cell_of_at HA3.out 3
      go_wp2_with fail
      refine (HPA _).out.mono ?_
      rintro _ w4 ⟨_, rfl, p4, n4, c4, rfl, e4, nil4, s4, m4⟩
      obtain rfl : n4 = 24 := by rw [e4]; exact HLA'.out
      have S4 := Lib.hid s4
      have HA4 := Lib.hid (m4.at HA3.out (by simp))
      have HB4 := Lib.hid (m4.at HB3.out (by simp))
      have HT4 := Lib.hid (m4.at HT3.out (by simp))
      have M4 : Hid (Mod [] w w4) := M3.out.same m4
      clear s4 m4 e4 nil4 HA3 HB3 HT3 M3 c0 c1 c2 c3 HPA
      have c0 : w4.cell? ⟨w.heap.size, 0, none⟩ = some (.int .u64 g) := cell_of_at HA4.out 0
      have c1 : w4.cell? ⟨w.heap.size, 1, none⟩ = some (.int .i64 h) := cell_of_at HA4.out 1
      have c2 : w4.cell? ⟨w.heap.size, 2, none⟩ = some (.int .i64 r) := cell_of_at HA4.out 2
      have c3 : w4.cell? ⟨w.heap.size, 3, none⟩ = some (.int .i64 f) := cell_of_at HA4.out 3
      have d0 : w4.cell? ⟨w.heap.size + 1, 0, none⟩ = some (.int .u64 g') := cell_of_at HB4.out 0
      have d1 : w4.cell? ⟨w.heap.size + 1, 1, none⟩ = some (.int .i64 h') := cell_of_at HB4.out 1
      have d2 : w4.cell? ⟨w.heap.size + 1, 2, none⟩ = some (.int .i64 r') := cell_of_at HB4.out 2
      have d3 : w4.cell? ⟨w.heap.size + 1, 3, none⟩ = some (.int .i64 f') := cell_of_at HB4.out 3
      have MD : Hid (Mod [] w4 w4.drew) := Mod.of_drew w4
      have hEQ := HEQ.out
      have HEQ2 : Hid (E = E) := rfl
      go_wp2
      go_region_held3 (fun w' => w'.cell? ⟨w.heap.size, 0, none⟩ = some (.int .u64 g) ∧ w'.cell? ⟨w.heap.size, 1, none⟩ = some (.int .i64 h) ∧ w'.cell? ⟨w.heap.size, 2, none⟩ = some (.int .i64 r) ∧ w'.cell? ⟨w.heap.size, 3, none⟩ = some (.int .i64 f) ∧ w'.cell? ⟨w.heap.size + 1, 0, none⟩ = some (.int .u64 g') ∧ w'.cell? ⟨w.heap.size + 1, 1, none⟩ = some (.int .i64 h') ∧ w'.cell? ⟨w.heap.size + 1, 2, none⟩ = some (.int .i64 r') ∧ w'.cell? ⟨w.heap.size + 1, 3, none⟩ = some (.int .i64 f'))
        (first
          | go_keep
          | exact ⟨cell_of_at (MD.out.at HA4.out (by simp)) 0, cell_of_at (MD.out.at HA4.out (by simp)) 1, cell_of_at (MD.out.at HA4.out (by simp)) 2, cell_of_at (MD.out.at HA4.out (by simp)) 3, cell_of_at (MD.out.at HB4.out (by simp)) 0, cell_of_at (MD.out.at HB4.out (by simp)) 1, cell_of_at (MD.out.at HB4.out (by simp)) 2, cell_of_at (MD.out.at HB4.out (by simp)) 3⟩
          | fail)
        (first
          | (go_at_call 9; refine (HPB _).out.mono ?_; rintro _ w5 ⟨_, rfl, p5, n5, c5, rfl, e5, nil5, t5, m5⟩; (replace MD : Hid (Mod [] w4 w5) := MD.out.same m5); (have S5 := Lib.hid t5); clear e5 nil5 t5 m5)
          | (go_at_call 12; refine (qsame_any _ _ _ _ _ _ PA PB _ (S4.out.mod MD.out (by simp)) S5.out).mono ?_; rintro _ w6 ⟨_, rfl, rfl, m6⟩; (replace MD : Hid (Mod [] w4 w6) := MD.out.same m6); (rw [HSAME'.out]); clear m6)
          | fail)
      rename_i hHeld
      clear hHeld c0 c1 c2 c3 d0 d1 d2 d3
      obtain ⟨i0, hi0, hz0, hz1, hz2⟩ := info_parts infoU8
      have S6 := Lib.hid (S4.out.mod MD.out (by simp))
      have HA6 := Lib.hid (MD.out.at HA4.out (by simp))
      have HT6 := Lib.hid (MD.out.at HT4.out (by simp))
      have M6 : Hid (Mod [] w w6) := M4.out.same MD.out
      clear HA4 HB4 HT4 M4 MD S4 S5 HPB hEQ HEQ HEQ2
      have T8 : Hid ((w6.alloc (.cells #[] 5)).ownsRow w6.heap.size 5 1 (.slice (some ⟨w6.heap.size, 0, none⟩) 0 0) 0 []) := own_row w6 [] _ _ (Nat.le_refl _) (by simp)
      have S8 : Hid (Sl (w6.alloc (.cells #[] 5)) 1 p4 24 c4 (bs PA)) := S6.out.mod (Mod.of_alloc w6 _) (by simp)
      have hs8 : w6.heap.size ≤ (w6.alloc (.cells #[] 5)).heap.size := (Mod.of_alloc w6 _).size
      go_wp2_with (first
        | (at_builtin; (refine wpList_append_src _ rfl _ _ _ rfl w6.heap.size 5 i0 _ 1 1 Tryd.underlying25 hi0 hz0 hz1 hz2 rfl (by omega) (.slice (some ⟨w6.heap.size, 0, none⟩) 0 0) 0 [] rfl T8.out _ _ _ _ rfl S8.out 24 (by omega) (by unfold maxLen; omega) (by omega) hs8 ?_); intro p12 c12 w12 ht12 hm12 hnil12 hor12; (have T12 : Hid (Tl w12 w6.heap.size 1 p12 24 c12 (bs PA)) := Tl.of_own ht12 (bs_one _)); (have F12 : Hid (Fz w12 p12) := fz_own ht12); (have M12 : Hid (Mod [] w6 w12) := (Mod.of_alloc w6 _).trans (Mod.of_grown' hm12) (by simp [Value.ownBlock])); (have hs12 := M12.out.size); clear ht12 hm12 hnil12 hor12)
        | (at_builtin; (refine wpList_append_zeros_fz _ rfl _ _ _ _ rfl w6.heap.size 5 i0 Tryd.underlying25 Tryd.underlying3 hi0 hz0 hz1 hz2 _ _ _ PA rfl T12.out F12.out 992 rfl 1016 (by omega) (by omega) hs12 ?_); intro p13 c13 w13 ht13 hm13 hnil13 hfz13; (have T13 := Lib.hid ht13); (have F13 := Lib.hid hfz13); (have M13 : Hid (Mod [] w6 w13) := T12.out.turned (w2 := w6) (w0 := w6) rfl hm13 M12.out); clear ht13 hm13 hnil13 hfz13)
        | go_in)
      have hT13 := T13.out
      obtain ⟨F, o, rfl, hFl, hcs⟩ := hT13.sl.addr (by omega)
      obtain ⟨_, hFb, _⟩ := hT13.own _ rfl
      simp only at hFb
      have hap : PA ++ List.replicate 992 0 = pad 1016 PA := pad_eq _ _ (by rw [HLA'.out])
      rw [hap] at hcs
      have HSL13 := Lib.hid hT13.sl
      rw [hap] at HSL13
      have hpl : (pad 1016 PA).length = 1016 := pad_len (by rw [HLA'.out]; omega)
      have hcv : w13.cell? ⟨F, o + j, none⟩ = some (.int .u8 v) := by rw [HV.out]; exact hcs j _ (bs_get (by rw [hpl]; omega))
      have hfz : w13.frozen? ⟨F, o + j, none⟩ = false := F13.out _ rfl (o + j)
      have hidx := fun W => Sl.idx (P := Tryd.prog) (cap := c13) Tryd.underlying25 sizeBytes (fun h : 0 < 1016 => rfl) W .i64 j (by omega) (p := some ⟨F, o, none⟩)
      rw [Nat.mul_one] at hidx
      have hle13 := hT13.sl.le
      have HT13 := Lib.hid (M13.out.at HT6.out (by simp))
      have t0 : w13.cell? ⟨w.heap.size + 1 + 1, 0, none⟩ = some (.int .u8 x) := cell_of_at HT13.out 0
      have t1 : w13.cell? ⟨w.heap.size + 1 + 1, 1, none⟩ = some (.int .u8 y) := cell_of_at HT13.out 1
      have hwx : IntKind.i64.wrap x = x := IntWalk.i64_in _ (by omega)
      have htm : x.tmod 24 = (j : Int) := by rw [Int.tmod_eq_emod_of_nonneg hx.1]; exact hj.symm
      have hwj : IntKind.i64.wrap (j : Int) = (j : Int) := IntWalk.i64_in _ (by omega)
      have hub : bits .xor .u8 v y = u := HU.out.symm
      have hp4 : w.heap.size + 1 + 1 < w6.heap.size := lt_of_at HT6.out
      have hFne : F ≠ w.heap.size + 1 + 1 := by omega
      have hjx : x % 24 = (j : Int) := hj.symm
      clear hT13 hcs hap hj
      go_region
      have HW13 : Hid (BytesIn w13 (some ⟨F, o, none⟩) 1016 c13 (pad 1016 PA)) := ⟨HSL13.out, pad_wf HPW.out⟩
      have HW14 : Hid (BytesIn (w13.setCell ⟨F, o + j, none⟩ (.int .u8 u)).drew (some ⟨F, o, none⟩) 1016 c13 ((pad 1016 PA).set j u)) := (HW13.out.turn (by omega) hux).mod (Mod.of_drew _) (by simp)
      have M614 : Hid (Mod [F] w6 (w13.setCell ⟨F, o + j, none⟩ (.int .u8 u)).drew) := (((M13.out.mono (by simp)).setCell (Or.inl (by simp)))).drew
      have M14 : Hid (Mod [] w (w13.setCell ⟨F, o + j, none⟩ (.int .u8 u)).drew) := M6.out.trans M614.out (fun b hb => Or.inr (by simp at hb; have := M6.out.size; omega))
      have HA14 := Lib.hid (M614.out.at HA6.out (by simp; have := lt_of_at HA6.out; omega))
      have HT14 := Lib.hid (M614.out.at HT6.out (by simp; omega))
      have hcd := fromM_gen HW14.out.wf
      clear HW13 M13 T13 F13 HSL13 M614 M6 HA6 HT6 HT13 t0 t1 hcv hfz hidx S6 S8 T8 T12 F12 M12 HU HV hs8 hs12
      generalize (w13.setCell ⟨F, o + j, none⟩ (.int .u8 u)).drew = w14 at *
      have HFR := Lib.hid (fromm_any (some ⟨F, o, none⟩) 1016 c13 _ w14 HW14.out)
      unfold FromMR at HFR
      generalize fromM ((pad 1016 PA).set j u) = X at *
      obtain ⟨⟨x0, x1, x2, x3⟩, x4⟩ := X
      have HEQX := HEQA.out ⟨x0, x1, x2, x3⟩
      simp only [Mt.cells] at HFR HEQX hcd HEND'
      obtain ⟨Q, hQ⟩ : ∃ Q, Q = decide ((⟨x0, x1, x2, x3⟩ : Mt) = ⟨g, h, r, f⟩) := ⟨_, rfl⟩
      rw [← hQ] at HEQX
      have HENDQ : Hid (((x4 = 0 ∧ Q = true) ↔ y = 0)) := by
        rw [hQ, decide_eq_true_iff]; exact HEND'.out
      clear hQ HEND' HEQA HW14
      go_wp2_with fail
      refine HFR.out.mono ?_
      rintro _ w15 ⟨_, rfl, rfl, m15⟩
      have HA15 := Lib.hid (m15.at HA14.out (by simp))
      have HT15 := Lib.hid (m15.at HT14.out (by simp))
      have M15 : Hid (Mod [] w w15) := M14.out.same m15
      clear m15 HA14 HT14 M14 HFR
      have HX16 := Lib.hid (at_alloc w15 (.cells #[.int .u64 x0, .int .i64 x1, .int .i64 x2, .int .i64 x3] 24))
      have M16 := Lib.hid (Mod.of_alloc w15 (.cells #[.int .u64 x0, .int .i64 x1, .int .i64 x2, .int .i64 x3] 24))
      have HA16 := Lib.hid (M16.out.at HA15.out (by simp))
      have HT16 := Lib.hid (M16.out.at HT15.out (by simp))
      have M17 : Hid (Mod [] w _) := M15.out.same M16.out
      obtain ⟨Y, hY⟩ : ∃ Y, Y = (y == 0) := ⟨_, rfl⟩
      have hYY : (y == 0) = Y := hY.symm
      rcases hcd with rfl | rfl
      · have HQY : Hid ((Q == Y) = true) := by
          have := HENDQ.out
          rw [hY]
          cases Q
          · have h2 : ¬ y = 0 := fun h => by have h3 := (this.2 h).2; cases h3
            unfold Hid; simp [h2]
          · have h2 : y = 0 := this.1 ⟨rfl, rfl⟩
            unfold Hid; simp [h2]
        have hqy := HQY.out
        clear hY HENDQ
        go_wp2_with fail
        have k0 : (w15.alloc (.cells #[.int .u64 x0, .int .i64 x1, .int .i64 x2, .int .i64 x3] 24)).cell? ⟨w15.heap.size, 0, none⟩ = some (.int .u64 x0) := cell_of_at HX16.out 0
        have k1 : (w15.alloc (.cells #[.int .u64 x0, .int .i64 x1, .int .i64 x2, .int .i64 x3] 24)).cell? ⟨w15.heap.size, 1, none⟩ = some (.int .i64 x1) := cell_of_at HX16.out 1
        have k2 : (w15.alloc (.cells #[.int .u64 x0, .int .i64 x1, .int .i64 x2, .int .i64 x3] 24)).cell? ⟨w15.heap.size, 2, none⟩ = some (.int .i64 x2) := cell_of_at HX16.out 2
        have k3 : (w15.alloc (.cells #[.int .u64 x0, .int .i64 x1, .int .i64 x2, .int .i64 x3] 24)).cell? ⟨w15.heap.size, 3, none⟩ = some (.int .i64 x3) := cell_of_at HX16.out 3
        have j0 : (w15.alloc (.cells #[.int .u64 x0, .int .i64 x1, .int .i64 x2, .int .i64 x3] 24)).cell? ⟨w.heap.size, 0, none⟩ = some (.int .u64 g) := cell_of_at HA16.out 0
        have j1 : (w15.alloc (.cells #[.int .u64 x0, .int .i64 x1, .int .i64 x2, .int .i64 x3] 24)).cell? ⟨w.heap.size, 1, none⟩ = some (.int .i64 h) := cell_of_at HA16.out 1
        have j2 : (w15.alloc (.cells #[.int .u64 x0, .int .i64 x1, .int .i64 x2, .int .i64 x3] 24)).cell? ⟨w.heap.size, 2, none⟩ = some (.int .i64 r) := cell_of_at HA16.out 2
        have j3 : (w15.alloc (.cells #[.int .u64 x0, .int .i64 x1, .int .i64 x2, .int .i64 x3] 24)).cell? ⟨w.heap.size, 3, none⟩ = some (.int .i64 f) := cell_of_at HA16.out 3
        have t1 : (w15.alloc (.cells #[.int .u64 x0, .int .i64 x1, .int .i64 x2, .int .i64 x3] 24)).cell? ⟨w.heap.size + 1 + 1, 1, none⟩ = some (.int .u8 y) := cell_of_at HT16.out 1
        have l1 : w.heap.size + 1 + 1 < w15.heap.size := lt_of_at HT15.out
        have l2 : w.heap.size < w15.heap.size := by omega
        generalize (w15.alloc (.cells #[.int .u64 x0, .int .i64 x1, .int .i64 x2, .int .i64 x3] 24)) = w16 at *
        clear HA16 HT16 HX16 M16 HA15 HT15 M15
        go_region
        go_wp2
        go_ret
        exact .mk ⟨by first | rfl | simp [hqy], M17.out.drew⟩
      · have HQY : Hid (Y = false) := by
          have := HENDQ.out
          rw [hY]
          unfold Hid
          have h2 : ¬ y = 0 := fun h => by have h3 := (this.2 h).1; omega
          simp [h2]
        have hqy := HQY.out
        clear hY HENDQ
        go_wp2_with fail
        have k0 : (w15.alloc (.cells #[.int .u64 x0, .int .i64 x1, .int .i64 x2, .int .i64 x3] 24)).cell? ⟨w15.heap.size, 0, none⟩ = some (.int .u64 x0) := cell_of_at HX16.out 0
        have k1 : (w15.alloc (.cells #[.int .u64 x0, .int .i64 x1, .int .i64 x2, .int .i64 x3] 24)).cell? ⟨w15.heap.size, 1, none⟩ = some (.int .i64 x1) := cell_of_at HX16.out 1
        have k2 : (w15.alloc (.cells #[.int .u64 x0, .int .i64 x1, .int .i64 x2, .int .i64 x3] 24)).cell? ⟨w15.heap.size, 2, none⟩ = some (.int .i64 x2) := cell_of_at HX16.out 2
        have k3 : (w15.alloc (.cells #[.int .u64 x0, .int .i64 x1, .int .i64 x2, .int .i64 x3] 24)).cell? ⟨w15.heap.size, 3, none⟩ = some (.int .i64 x3) := cell_of_at HX16.out 3
        have j0 : (w15.alloc (.cells #[.int .u64 x0, .int .i64 x1, .int .i64 x2, .int .i64 x3] 24)).cell? ⟨w.heap.size, 0, none⟩ = some (.int .u64 g) := cell_of_at HA16.out 0
        have j1 : (w15.alloc (.cells #[.int .u64 x0, .int .i64 x1, .int .i64 x2, .int .i64 x3] 24)).cell? ⟨w.heap.size, 1, none⟩ = some (.int .i64 h) := cell_of_at HA16.out 1
        have j2 : (w15.alloc (.cells #[.int .u64 x0, .int .i64 x1, .int .i64 x2, .int .i64 x3] 24)).cell? ⟨w.heap.size, 2, none⟩ = some (.int .i64 r) := cell_of_at HA16.out 2
        have j3 : (w15.alloc (.cells #[.int .u64 x0, .int .i64 x1, .int .i64 x2, .int .i64 x3] 24)).cell? ⟨w.heap.size, 3, none⟩ = some (.int .i64 f) := cell_of_at HA16.out 3
        have t1 : (w15.alloc (.cells #[.int .u64 x0, .int .i64 x1, .int .i64 x2, .int .i64 x3] 24)).cell? ⟨w.heap.size + 1 + 1, 1, none⟩ = some (.int .u8 y) := cell_of_at HT16.out 1
        have l1 : w.heap.size + 1 + 1 < w15.heap.size := lt_of_at HT15.out
        have l2 : w.heap.size < w15.heap.size := by omega
        generalize (w15.alloc (.cells #[.int .u64 x0, .int .i64 x1, .int .i64 x2, .int .i64 x3] 24)) = w16 at *
        clear HA16 HT16 HX16 M16 HA15 HT15 M15
        go_region
        go_wp2
        go_ret
        exact .mk ⟨by first | rfl | simp [hqy], M17.out.drew⟩
end Go.Proofs.YtbbjfgjbjghdiaaDoor
