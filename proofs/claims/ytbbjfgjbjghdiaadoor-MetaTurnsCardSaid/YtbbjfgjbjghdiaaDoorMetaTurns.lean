/- MetaTurns: what the law's function returns. -/
import Derived.Test.YtbbjfgjbjghdiaaDoorDoOpen
import Derived.Test.YtbbjfgjbjghdiaaDoorTurnsPure
namespace Go.Proofs.YtbbjfgjbjghdiaaDoor
open Go.RowKit Go.Maps
set_option linter.unusedSimpArgs false
set_option linter.unusedVariables false

theorem turn_start {g : Int} (h1 : 1 ≤ g) (h2 : g ≤ 1152921504606846976) : ((ck0 2).push (g % 2) (fr (g % 2) (payM (mg g)))).settle.rest.Turn g := by
  have hon : ((ck0 2).push (g % 2) (fr (g % 2) (payM (mg g)))).On := ck0_on.push _ _
  have p : g % 2 = 0 ∨ g % 2 = 1 := by omega
  have q : (g + 1) % 2 = 0 ∨ (g + 1) % 2 = 1 := by omega
  refine ⟨hon.settled, rfl, ?_, ?_⟩
  · exact told_fr (m := mg g) (hon.settled.there p) (by rw [hon.seen_settled p, Ck.seen_push, if_pos rfl]) (mg_may h1 h2) rfl
  · intro h
    rw [told_zeros (by rw [hon.seen_settled q, Ck.seen_push, if_neg (by omega), ck0_seen _ q])] at h
    cases h

/-- An act on a disk that was made behind the world w0, beside a block of one's own. -/
theorem DkR.step_at {D : Nat} {T : List Nat} {k : Ck} {r v : Value} {w0 w w' : World} {A : Nat} {o : Obj} (h : DkR D T k r w v w') (hm : Mod [] w0 w) (hT : ∀ b ∈ T, w0.heap.size ≤ b) (hA : A ∉ T) (hat : w.heap[A]? = some o) :
    v = r ∧ ∃ T', DiskAt w' D T' k ∧ (∀ b ∈ T', w0.heap.size ≤ b) ∧ Mod [] w0 w' ∧ A ∉ T' ∧ w'.heap[A]? = some o := by
  obtain ⟨h1, T', h2, h3, h4⟩ := h
  exact ⟨h1, T', h2, fun b hb => (h4 b hb).elim (hT b) fun h => Nat.le_trans hm.size h, hm.trans h3 fun b hb => Or.inr (hT b hb), fun hb => (h4 A hb).elim hA fun h => by have := lt_of_at hat; omega, h3.at hat hA⟩
theorem DiskAt.mem {w : World} {D : Nat} {T : List Nat} {k : Ck} (h : DiskAt w D T k) : D ∈ T := by
  obtain ⟨gs, ws, vs, vw, M, DM, S, h⟩ := h
  exact h.sub D (by rw [h.hS]; simp)
theorem sync_wait_le (k : Ck) : k.sync.2.wait.length ≤ k.wait.length := by
  unfold Ck.sync
  split
  · simp
  · split
    · simp [Ck.tick_wait]
    · simp [Ck.rest]
theorem turnE_wait {k : Ck} {g : Int} (h : k.Turn g) (n : Int) : (k.turnE n g).2.wait.length ≤ 1 := by
  unfold Ck.turnE Ck.mwrite Ck.write
  split
  · simp [Ck.arm, h.idle]
  · split
    · simp [Ck.arm, h.idle]
    · split
      · simp [Ck.arm, h.idle]
      · simp [Ck.tick_wait, Ck.push, Ck.arm, h.idle]
set_option maxRecDepth 100000 in
set_option maxHeartbeats 16000000 in
theorem mturns_any (x : Int) (a : Option Addr) (len cap b off : Nat) (l : Nat → Dm) (w : World) (hx : 0 ≤ x ∧ x < 65536) (ha : 0 < len → a = some ⟨b, off, none⟩) (hs : Script w b off len l) :
    Calls Tryd.prog 7 #[.int .u16 x, .slice a len cap] w (Ret (TrueR w)) := by
  have HS := Lib.hid hs
  have hidx := fun W i hi => idx_of (P := Tryd.prog) (E := 0) (cap := cap) Tryd.underlying42 sizeDo (by omega) ha W .i64 i hi
  obtain ⟨g0, hg0⟩ : ∃ g0, g0 = 1 + x := ⟨_, rfl⟩
  have hw0 : IntKind.u64.wrap x = x := by rw [IntKind.wrap_u64]; omega
  have hw1 : IntKind.u64.wrap (1 + x) = g0 := by rw [IntKind.wrap_u64]; omega
  have hg1 : 1 ≤ g0 ∧ g0 ≤ 65536 := by omega
  have hm0 : (mg g0).may = true := mg_may (by omega) (by omega)
  have HST := Lib.hid (turn_start (g := g0) (by omega) (by omega))
  have HW1 : Hid ((ck0 2).mwrite (mg g0) = (0, (ck0 2).push (g0 % 2) (fr (g0 % 2) (payM (mg g0))))) := ck0_on.mwrite hm0
  have HSY : Hid (((ck0 2).push (g0 % 2) (fr (g0 % 2) (payM (mg g0)))).sync = (0, ((ck0 2).push (g0 % 2) (fr (g0 % 2) (payM (mg g0)))).settle.rest)) := (ck0_on.push _ _).sync
  have HMW := fun D T W h => Lib.hid (mwrite_any D T (ck0 2) (mg g0) W h (by simp [ck0]))
  simp only [mg, Mt.cells] at HMW
  generalize ((ck0 2).push (g0 % 2) (fr (g0 % 2) (payM (mg g0)))) = k1 at *
  generalize k1.settle.rest = k2 at *
  clear hs hm0 hg0
  go_enter Tryd.func7, Tryd.ntmps7
  go_wp2_with fail
  refine (awake_any _).mono ?_
  rintro _ w1 ⟨_, rfl, rfl, m1⟩
  have M1 : Hid (Mod [] w w1) := m1
  clear m1
  go_wp2_with fail
  refine (dnew_any 2 2 _ (by decide)).mono ?_
  rintro _ w2 ⟨_, rfl, D, T2, rfl, h2, m2, t2⟩
  have H2 := Lib.hid h2
  have M2 : Hid (Mod [] w w2) := M1.out.same m2
  have T2' : Hid (∀ b ∈ T2, w.heap.size ≤ b) := fun b hb => Nat.le_trans M1.out.size (t2 b hb)
  clear h2 m2 t2 M1
  go_wp2_with fail
  refine (HMW D T2 _ H2.out).out.mono ?_
  rintro _ w3 ⟨_, rfl, h3⟩
  change DkR D T2 ((ck0 2).mwrite (mg g0)).2 (.int .i64 ((ck0 2).mwrite (mg g0)).1) w2 _ w3 at h3
  rw [HW1.out] at h3
  obtain ⟨rfl, T3, h3, t3, m3⟩ := h3.step M2.out T2'.out
  have H3 := Lib.hid h3
  have M3 := Lib.hid m3
  have T3' := Lib.hid t3
  clear h3 m3 t3 H2 M2 T2' HMW HW1
  go_wp2_with fail
  refine (dsync_any D T3 k1 _ H3.out).mono ?_
  rintro _ w4 ⟨_, rfl, h4⟩
  rw [HSY.out] at h4
  obtain ⟨rfl, T4, h4, t4, m4⟩ := h4.step M3.out T3'.out
  have H4 := Lib.hid h4
  have M4 := Lib.hid m4
  have T4' := Lib.hid t4
  clear h4 m4 t4 H3 M3 T3' HSY
  go_wp2
  go_loopw [6, 7] (fun gv iv wr => ∃ (i : Nat) (g : Int) (k : Ck) (T : List Nat), i ≤ len ∧ i ≤ 40 ∧ iv = .int .i64 i ∧ gv = .int .u64 g ∧ 1 ≤ g ∧ g ≤ 65536 + i ∧ k.Turn g ∧ DiskAt wr D T k ∧ (∀ b ∈ T, w.heap.size ≤ b) ∧ Mod [] w wr) (fun _ iv _ => 40 - (intOf iv).toNat)
  case atStart => exact ⟨0, g0, k2, T4, by omega, by omega, rfl, rfl, by omega, by omega, HST.out, H4.out, T4'.out, M4.out⟩
  case round =>
    obtain ⟨i, g, k, T, hil, hi40, rfl, rfl, hg, hgi, hturn, hd, ht, hm⟩ := hrel
    have HTU := Lib.hid hturn
    have HD := Lib.hid hd
    have HT := Lib.hid ht
    have HM := Lib.hid hm
    clear hturn hd ht hm HST H4 M4 T4'
    by_cases hlt : i < len
    · by_cases h40 : i < 40
      · have hidx' := fun W => hidx W i hlt
        have hbl := HS.out.lt (by omega)
        have hap := ha (by omega)
        subst hap
        have hc : ∀ j, j < 8 → wr.cell? ⟨b, off + i * 8 + j, none⟩ = ((l i).cells)[j]? := fun j hj => by
          rw [HM.out.cell (a := ⟨b, off + i * 8 + j, none⟩) hbl (by simp)]; exact HS.out.cell i hlt j hj
        have hn := HS.out.n i hlt
        obtain ⟨ks, hks⟩ := HS.out.keep i hlt
        obtain ⟨d, hd⟩ : ∃ d, d = l i := ⟨_, rfl⟩
        rw [← hd] at hc hn hks
        clear hd
        obtain ⟨kd, ⟨gg, hh, rr, ff⟩, no, kp, kn, kc, bp, bn, bc⟩ := d
        have c0 : wr.cell? ⟨b, off + i * 8, none⟩ = some (.int .i64 kd) := hc 0 (by omega)
        have c1 : wr.cell? ⟨b, off + i * 8 + 1, none⟩ = some (.int .u64 gg) := hc 1 (by omega)
        have c2 : wr.cell? ⟨b, off + i * 8 + 2, none⟩ = some (.int .i64 hh) := hc 2 (by omega)
        have c3 : wr.cell? ⟨b, off + i * 8 + 3, none⟩ = some (.int .i64 rr) := hc 3 (by omega)
        have c4 : wr.cell? ⟨b, off + i * 8 + 4, none⟩ = some (.int .i64 ff) := hc 4 (by omega)
        have c5 : wr.cell? ⟨b, off + i * 8 + 5, none⟩ = some (.int .i64 no) := hc 5 (by omega)
        have c6 : wr.cell? ⟨b, off + i * 8 + 6, none⟩ = some (.slice kp kn kc) := hc 6 (by omega)
        have c7 : wr.cell? ⟨b, off + i * 8 + 7, none⟩ = some (.slice bp bn bc) := hc 7 (by omega)
        simp only at hn hks
        have HKS := Lib.hid hks
        have hwi : IntKind.i64.wrap ((i : Int) + 1) = (i : Int) + 1 := IntWalk.i64_in _ (by omega)
        clear hc hks
        by_cases hk : kn ≤ 1000
        · have HA0 := Lib.hid (at_alloc wr (.cells #[.int .i64 kd, .int .u64 gg, .int .i64 hh, .int .i64 rr, .int .i64 ff, .int .i64 no, .slice kp kn kc, .slice bp bn bc] 47))
          have HD0 := Lib.hid (HD.out.mod (Mod.of_alloc wr (.cells #[.int .i64 kd, .int .u64 gg, .int .i64 hh, .int .i64 rr, .int .i64 ff, .int .i64 no, .slice kp kn kc, .slice bp bn bc] 47)) (by simp))
          have HM0 : Hid (Mod [] w (wr.alloc (.cells #[.int .i64 kd, .int .u64 gg, .int .i64 hh, .int .i64 rr, .int .i64 ff, .int .i64 no, .slice kp kn kc, .slice bp bn bc] 47))) := HM.out.alloc
          have hAT : ∀ b ∈ T, b ≠ wr.heap.size := fun b hb he => by
            obtain ⟨gs, ws, vs, vw, M, DM, S, h⟩ := HD.out
            have := h.lt b hb; omega
          have HAT := Lib.hid hAT
          have HAR := fun W h => Lib.hid (arm_any D T k no W h hn.2)
          have HSP := Lib.hid (Ck.turn_spec HTU.out hg (by omega) no ks kd)
          have HE := fun W h => Lib.hid (mwrite_any D T (k.arm no) (mg (g + 1)) W h (by simp [Ck.arm, HTU.out.idle]))
          have HEW := Lib.hid (turnE_wait HTU.out no)
          have HFW := Lib.hid (Nat.le_trans (sync_wait_le (k.turnE no g).2) HEW.out)
          have HFD : Hid ((k.turnE no g).2.sync = k.turnF no g) := rfl
          have HCD : Hid ((k.turnF no g).2.crash ks kd = k.turnC no g ks kd) := rfl
          rw [show (k.arm no).mwrite (mg (g + 1)) = k.turnE no g from rfl] at HE
          rw [show (k.turnE no g).2.sync = k.turnF no g from rfl] at HFW
          generalize k.turnE no g = RE at *
          generalize k.turnF no g = RF at *
          generalize k.turnC no g ks kd = kC at *
          obtain ⟨e, kE⟩ := RE
          obtain ⟨f, kF⟩ := RF
          simp only [mg, Mt.cells] at HE HSP HEW HFW HFD HCD
          obtain ⟨A, hA⟩ : ∃ A, A = wr.heap.size := ⟨_, rfl⟩
          have hwg : IntKind.u64.wrap (g + 1) = g + 1 := by rw [IntKind.wrap_u64]; omega
          clear HD
          go_wp2_with fail
          refine (HAR _ HD0.out).out.mono ?_
          rintro _ w5 ⟨rfl, h5, m5⟩
          rw [← hA] at HA0 HAT ⊢
          have hDT := HD0.out.mem
          have H5 := Lib.hid h5
          have M5 : Hid (Mod [] w w5) := HM0.out.trans m5 (fun b hb => Or.inr (by simp at hb; subst hb; exact HT.out _ hDT))
          have HA5 := Lib.hid (m5.at HA0.out (by simp; exact fun e => HAT.out _ hDT e.symm))
          have NA : Hid (A ∉ T) := fun h => HAT.out _ h rfl
          have hA5 : A < w5.heap.size := lt_of_at HA5.out
          clear h5 m5 c0 c1 c2 c3 c4 c5 c6 c7 HA0 HD0 HM0 HAT HAR hidx' hA
          go_wp2_with fail
          refine (HE _ H5.out).out.mono ?_
          rintro _ w6 ⟨_, rfl, h6⟩
          obtain ⟨rfl, T6, h6, t6, m6, na6, ha6⟩ := h6.step_at M5.out HT.out NA.out HA5.out
          have H6 := Lib.hid h6
          have M6 := Lib.hid m6
          have T6' := Lib.hid t6
          have NA6 := Lib.hid na6
          have HA6 := Lib.hid ha6
          have hA6 : A < w6.heap.size := lt_of_at ha6
          clear h6 t6 m6 na6 ha6 H5 M5 HA5 NA HE hA5
          go_wp2_with fail
          refine (dsync_any D T6 kE _ H6.out).mono ?_
          rintro _ w7 ⟨_, rfl, h7⟩
          rw [HFD.out] at h7
          obtain ⟨rfl, T7, h7, t7, m7, na7, ha7⟩ := h7.step_at M6.out T6'.out NA6.out HA6.out
          have H7 := Lib.hid h7
          have M7 := Lib.hid m7
          have T7' := Lib.hid t7
          have NA7 := Lib.hid na7
          have HA7 := Lib.hid ha7
          have hA7 : A < w7.heap.size := lt_of_at ha7
          clear h7 t7 m7 na7 ha7 H6 M6 HA6 NA6 T6' hA6
          have d0 : w7.cell? ⟨A, 0, none⟩ = some (.int .i64 kd) := cell_of_at HA7.out 0
          have d6 : w7.cell? ⟨A, 6, none⟩ = some (.slice kp kn kc) := cell_of_at HA7.out 6
          have HK7 : Hid (Sl w7 1 kp kn kc (ks.map .bool)) := HKS.out.mod M7.out (by simp)
          go_wp2_with fail
          refine (crash_any D T7 kF kp kn kc ks kd _ H7.out HK7.out (fun a ha h0 hb => by
            obtain ⟨b', o', hp, hlt, _⟩ := HKS.out.addr h0
            rw [hp] at ha; cases ha
            have := T7'.out _ hb; simp only at this; omega) (Nat.le_trans HFW.out (by omega))).mono ?_
          rintro _ w8 ⟨rfl, T8, h8, m8, t8⟩
          rw [HCD.out] at h8
          have M8 : Hid (Mod [] w w8) := M7.out.trans m8 (fun b hb => Or.inr (T7'.out b hb))
          have T8' : Hid (∀ b ∈ T8, w.heap.size ≤ b) := fun b hb => (t8 b hb).elim (T7'.out b) (fun h => Nat.le_trans M7.out.size h)
          have H8 := Lib.hid h8
          clear h8 t8 m8 H7 M7 HA7 NA7 T7' hA7 d0 d6 HK7
          have HN := fun W h => Lib.hid (newest_any D T8 kC W h)
          go_wp2_with fail
          refine (HN _ H8.out).out.mono ?_
          rintro _ w9 ⟨_, rfl, rfl, m9⟩
          have H9 := Lib.hid (H8.out.mod m9 (by simp))
          have M9 : Hid (Mod [] w w9) := M8.out.same m9
          clear m9 H8 M8 HN
          obtain ⟨g', hg', hT9, hor⟩ : ∃ g' : Int, (g' = g ∨ g' = g + 1) ∧ kC.Turn g' ∧ (g' = g → ¬ (e = 0 ∧ f = 0)) := by
            rcases HSP.out with ⟨h1, h2⟩ | h1
            · exact ⟨g, Or.inl rfl, h1, fun _ => h2⟩
            · exact ⟨g + 1, Or.inr rfl, h1, fun h => by omega⟩
          have HT9 := Lib.hid hT9
          rw [hT9.newest (by omega)]
          clear hT9 HSP
          simp only [mg, Mt.cells]
          have HOR := Lib.hid hor
          clear hor
          have HFIN : Hid (DiskAt (w9.alloc (.cells #[.int .u64 g', .int .i64 2, .int .i64 0, .int .i64 0] 24)) D T8 kC) := H9.out.mod (Mod.of_alloc w9 _) (by simp)
          have HMFIN : Hid (Mod [] w (w9.alloc (.cells #[.int .u64 g', .int .i64 2, .int .i64 0, .int .i64 0] 24))) := M9.out.alloc
          by_cases he : e = 0
          · by_cases hf : f = 0
            · have hgg : g' = g + 1 := by
                rcases hg' with h | h
                · exact absurd ⟨he, hf⟩ (HOR.out h)
                · exact h
              subst hgg
              have b1 : (g + 1 != g) = true := by simp; omega
              have b2 : (g + 1 != g + 1) = false := by simp
              have b3 : (e == 0) = true := by simpa using he
              have b4 : (f == 0) = true := by simpa using hf
              clear he hf hg'
              go_wp2
              go_roundw
              case rel => exact ⟨i + 1, g + 1, kC, T8, by omega, by omega, by go_num, rfl, by omega, by omega, HT9.out, HFIN.out, T8'.out, HMFIN.out⟩
              case measure => simp [intOf]; omega
            · have b3 : (e == 0) = true := by simpa using he
              have b4 : (f == 0) = false := by simpa using hf
              clear he hf
              rcases hg' with rfl | rfl
              · have b1 : (g' != g') = false := by simp
                go_wp2
                go_roundw
                case rel => exact ⟨i + 1, g', kC, T8, by omega, by omega, by go_num, rfl, by omega, by omega, HT9.out, HFIN.out, T8'.out, HMFIN.out⟩
                case measure => simp [intOf]; omega
              · have b1 : (g + 1 != g) = true := by simp; omega
                have b2 : (g + 1 != g + 1) = false := by simp
                go_wp2
                go_roundw
                case rel => exact ⟨i + 1, g + 1, kC, T8, by omega, by omega, by go_num, rfl, by omega, by omega, HT9.out, HFIN.out, T8'.out, HMFIN.out⟩
                case measure => simp [intOf]; omega
          · have b3 : (e == 0) = false := by simpa using he
            clear he
            rcases hg' with rfl | rfl
            · have b1 : (g' != g') = false := by simp
              go_wp2
              go_roundw
              case rel => exact ⟨i + 1, g', kC, T8, by omega, by omega, by go_num, rfl, by omega, by omega, HT9.out, HFIN.out, T8'.out, HMFIN.out⟩
              case measure => simp [intOf]; omega
            · have b1 : (g + 1 != g) = true := by simp; omega
              have b2 : (g + 1 != g + 1) = false := by simp
              go_wp2
              go_roundw
              case rel => exact ⟨i + 1, g + 1, kC, T8, by omega, by omega, by go_num, rfl, by omega, by omega, HT9.out, HFIN.out, T8'.out, HMFIN.out⟩
              case measure => simp [intOf]; omega
        · go_wp2
          go_ret
          exact .mk ⟨rfl, HM.out.alloc⟩
      · go_wp2
        go_ret
        exact .mk ⟨rfl, HM.out⟩
    · go_wp2
      go_ret
      exact .mk ⟨rfl, HM.out⟩
end Go.Proofs.YtbbjfgjbjghdiaaDoor
