/- PoolOnce: the walk. -/
import Derived.Test.YtibkhdlddllcjaaPoolOnce
namespace Go.Proofs.Ytibkhdlddllcjaa
open Go.RowKit Go.Maps
set_option linter.unusedSimpArgs false
set_option linter.unusedVariables false


set_option maxRecDepth 100000 in
set_option maxHeartbeats 2000000 in
theorem once_any (cap high : Int) (p : Option Addr) (n c : Nat) (l : List (Int × Int)) (a : Option Addr) (len scap b off : Nat) (ds : Nat → Do) (w : World) (hl : FreedIn w p n c l)
    (hlen : len ≤ 9223372036854775807) (ha : 0 < len → a = some ⟨b, off, none⟩) (hs : Script w b off len ds) :
    Calls Try.prog 4 #[.agg #[.int .i64 cap, .int .i64 high, .slice p n c], .slice a len scap] w (Ret (LawR w)) := by
  have hidx := fun W => idx_of (P := Try.prog) (T := 42) (E := 0) (c := 3) (cap := scap) (by kernel_rfl) sizeDo (by decide) ha W .i64
  have HIDX := Lib.hid hidx
  have HS := Lib.hid hs
  clear hidx hs
  obtain ⟨i0, hi0, hz0, hz1, hz2⟩ := info_parts infoI
  have HL := Lib.hid hl
  have hn := hl.sl.capm
  have hn2 := hl.sl.le
  unfold maxLen at hn
  clear hl
  go_enter Try.func4, Try.ntmps4
  go_wp2_with fail
  have hx0 := at_alloc w (.cells #[.int .i64 cap, .int .i64 high, .slice p n c] 24)
  have hb0 : Below w.heap.size w (w.alloc (.cells #[.int .i64 cap, .int .i64 high, .slice p n c] 24)) := (Below.refl _ _).alloc (Nat.le_refl _) _
  have hl0 : FreedIn (w.alloc (.cells #[.int .i64 cap, .int .i64 high, .slice p n c] 24)) p n c l := ⟨HL.out.sl.mod (Mod.of_alloc _ _) (by simp), HL.out.wf⟩
  have hxb : w.heap.size < (w.alloc (.cells #[.int .i64 cap, .int .i64 high, .slice p n c] 24)).heap.size := by simp
  generalize w.alloc (.cells #[.int .i64 cap, .int .i64 high, .slice p n c] 24) = W at *
  refine (awake_any _).mono ?_
  rintro _ w1 ⟨_, rfl, rfl, m1⟩
  have hx1 := m1.at hx0 (by simp)
  have hl1 : FreedIn w1 p n c l := ⟨hl0.sl.mod m1 (by simp), hl0.wf⟩
  have hb1 := hb0.trans (m1.below.mono hb0.size)
  have hs1 := m1.size
  have HX1 := Lib.hid hx1
  have HL1 := Lib.hid hl1
  have HB1 := Lib.hid hb1
  have q2 : w1.cell? ⟨w.heap.size, 2, none⟩ = some (.slice p n c) := cell_of_at hx1 2
  have q1 : w1.cell? ⟨w.heap.size, 1, none⟩ = some (.int .i64 high) := cell_of_at hx1 1
  have q0 : w1.cell? ⟨w.heap.size, 0, none⟩ = some (.int .i64 cap) := cell_of_at hx1 0
  clear hx0 hb0 hl0 m1 hx1 hl1 hb1 HL
  by_cases hbig : 100 < n
  · go_wp2
    go_ret
    exact .mk ⟨rfl, HB1.out⟩
  go_wp2_with fail
  refine (new_any cap high p n c l _ HL1.out).mono ?_
  rintro _ w2 ⟨_, rfl, m2, hnew⟩
  have hx2 := m2.at HX1.out (by simp)
  have HX2 := Lib.hid hx2
  have HL2 : Hid (FreedIn w2 p n c l) := ⟨HL1.out.sl.mod m2 (by simp), HL1.out.wf⟩
  have HB2 := Lib.hid (HB1.out.trans (m2.below.mono HB1.out.size))
  have q2' : w2.cell? ⟨w.heap.size, 2, none⟩ = some (.slice p n c) := cell_of_at hx2 2
  have q1' : w2.cell? ⟨w.heap.size, 1, none⟩ = some (.int .i64 high) := cell_of_at hx2 1
  have q0' : w2.cell? ⟨w.heap.size, 0, none⟩ = some (.int .i64 cap) := cell_of_at hx2 0
  have hs2 := m2.size
  clear hx2 q2 q1 q0 m2
  cases hN : PS.new cap high l with
  | none =>
    rw [hN] at hnew
    subst hnew
    clear hN
    go_wp2_with fail
    go_ret
    exact .mk ⟨rfl, HB2.out⟩
  | some s =>
    rw [hN] at hnew
    obtain ⟨sb, bm, rfl, hp2, hsb, hbm⟩ := hnew
    have H2 : Hid (OnceAt w w2 w2.heap.size sb bm s [] none 0 0) :=
      ⟨hp2, ⟨by simp [ints], Or.inl ⟨rfl, rfl⟩⟩, ⟨by simp, by simp⟩, HB2.out, Nat.le_refl _, ⟨lt_of_at hp2.at_, hp2.map.lt⟩, by omega⟩
    generalize w2.heap.size = base at *
    clear hN hp2 q0' q1' q2' HX2 HX1 HL2 HL1 HB1 HB2 hsb hbm hxb hs1 hs2
    go_wp2_with fail
    go_loopw [7, 8] (fun o i wr => ∃ (s : PS) (H : List Int) (k : Nat) (q : Option Addr) (m d : Nat), k ≤ len ∧ k ≤ 60 ∧ m ≤ k ∧ i = .int .i64 k ∧ o = .slice q m d ∧ OnceAt w wr base sb bm s H q m d) (fun _ i _ => len - (intOf i).toNat)
    case atStart => exact ⟨s, [], 0, none, 0, 0, by omega, by omega, by omega, rfl, rfl, H2.out⟩
    case round =>
      obtain ⟨s, H, k, q, m, d, hk, hk2, hm, rfl, rfl, hr⟩ := hrel
      clear H2
      by_cases hlt : k < len
      · by_cases hlt2 : k < 60
        · have q0 := HS.out.c0 k hlt
          have q1 := HS.out.c1 k hlt
          have q2 := HS.out.c2 k hlt
          have p1 := HS.out.w1 k hlt
          have p2 := HS.out.w2 k hlt
          have hb0 := HS.out.lt (by omega)
          rw [← hr.bel.cell (p := ⟨b, _, none⟩) hb0] at q0 q1 q2
          have hidx := HIDX.out
          generalize ds k = e at *
          have HR := Lib.hid hr
          clear hr
          have hX := Mod.of_alloc wr (.cells #[.int .i64 e.kind, .int .i64 e.page, .int .u64 e.gen] 45)
          have H0 := Lib.hid (HR.out.keep hX)
          have g0 : (wr.alloc (.cells #[.int .i64 e.kind, .int .i64 e.page, .int .u64 e.gen] 45)).heap[wr.heap.size]? = some (.cells #[.int .i64 e.kind, .int .i64 e.page, .int .u64 e.gen] 45 (0, 0)) := at_alloc wr _
          have HG0 := Lib.hid g0
          have hne : wr.heap.size ∉ [sb, bm] := by have := HR.out.far; have := HR.out.size; simp; omega
          have HNE := Lib.hid hne
          clear hX g0 hne
          by_cases c0 : e.kind = 0
          · have e0 : (e.kind == 0) = true := by simp [c0]
            clear c0
            go_wp2_with fail
            refine (alloc_any sb bm s e.gen _ H0.out.pool).mono ?_
            rintro _ w4 ⟨_, rfl, rfl, h4, m4⟩
            by_cases hf : (s.alloc e.gen).1.2 = 0
            · obtain ⟨f1, f2, f3, f4, f5⟩ := Held.alloc H0.out.pool.ok H0.out.held e.gen hf
              have hb := (H0.out.pool.ok.at_)
              have hbf : ((s.alloc e.gen).1.2 != 0) = false := by simp [hf]
              have H4 := Lib.hid (H0.out.turn h4 m4 f5.left)
              have HF5 := Lib.hid f5
              generalize s.alloc e.gen = r at *
              have F1 := Lib.hid f1
              have F2 := Lib.hid f2
              have HLEN := Lib.hid H4.out.len
              have hsmall := H4.out.pool.ok.small
              have hlow := H4.out.pool.ok.high
              have hcap := H4.out.pool.ok.cap
              clear h4 m4 hf f1 f2 f5 hb H0 HG0 HNE HR q0 q1 q2 hidx
              generalize r.1.1 = no at *
              go_wp2_with fail
              refine (list_any sb bm r.2 _ H4.out.pool).mono ?_
              rintro _ w5 ⟨_, rfl, lp, ln, lc, rfl, e5, hrow5, m5⟩
              have H5 := Lib.hid (H4.out.keep m5)
              have HS5 := Lib.hid (Sl.of_own hrow5 (fcells_one _)).1
              have HE5 := Lib.hid e5
              have hl5 : ln ≤ 2048 := by omega
              obtain ⟨lb, lo, hlp, hlc⟩ := HS5.out.at_
              have hidx2 := fun W => Sl.idx (P := Try.prog) (cap := lc) Try.underlying22 sizeFreed (fun h => (hlp h).1) W .i64
              have HLC := Lib.hid hlc
              clear hrow5 m5 H4 e5 hlp hlc hsmall
              go_wp2_with fail
              go_loopw [13] (fun i wr => ∃ j : Nat, j ≤ ln ∧ i = .int .i64 j ∧ wr = w5) (fun i _ => ln - (intOf i).toNat)
              case atStart => exact ⟨0, by omega, rfl, rfl⟩
              case round =>
                obtain ⟨j, hj, rfl, rfl⟩ := hrel
                by_cases hjl : j < ln
                · have hjm : j < r.2.m.length := by have := HE5.out; omega
                  have d0 := HLC.out _ _ (fcells_get r.2.m j hjm).1
                  have hx := F2.out (r.2.m.getD j (0, 0)) (by rw [getD_at hjm]; exact List.getElem_mem _)
                  generalize (r.2.m.getD j (0, 0)).1 = x at *
                  have hb1 : (x == no) = false := by simp; exact hx
                  clear hjm hx
                  go_wp2
                  go_roundw
                  case rel => exact ⟨j + 1, by omega, by go_num, by first | rfl | trivial⟩
                  case measure => simp [intOf]; omega
                · clear hidx2
                  obtain ⟨hb9, ho9, hhp, hhc⟩ := (Sl.of_own H5.out.row (ints_one _)).1.at_
                  have hidx3 := fun W => Sl.idx (P := Try.prog) (cap := d) Try.underlying43 sizeInts (fun h => (hhp h).1) W .i64
                  have HHC := Lib.hid hhc
                  clear hhp hhc
                  go_wp2_with fail
                  go_loopw [14] (fun i wr' => ∃ j : Nat, j ≤ m ∧ i = .int .i64 j ∧ wr' = wr) (fun i _ => m - (intOf i).toNat)
                  case atStart => exact ⟨0, by omega, rfl, rfl⟩
                  case round =>
                    obtain ⟨j2, hj2, rfl, rfl⟩ := hrel
                    by_cases hjl2 : j2 < m
                    · have hjm : j2 < H.length := by have := HLEN.out; omega
                      have d0 := HHC.out _ _ (ints_get (l := H) hjm)
                      have hx : H.getD j2 0 ≠ no := fun he => F1.out (by rw [← he, getD_at hjm]; exact List.getElem_mem _)
                      generalize H.getD j2 0 = x at *
                      have hb1 : (x == no) = false := by simp; exact hx
                      clear hjm hx
                      go_wp2
                      go_roundw
                      case rel => exact ⟨j2 + 1, by omega, by go_num, by first | rfl | trivial⟩
                      case measure => simp [intOf]; omega
                    · clear hidx3
                      go_wp2_with fail
                      refine (high_any sb bm r.2 _ H5.out.pool).mono ?_
                      rintro _ w6 ⟨_, rfl, rfl, rfl⟩
                      have hsz := H5.out.size
                      have HO := Lib.hid H5.out.row
                      go_wp2_with (first
                        | (at_builtin; go_must (refine wpList_append_src _ rfl _ _ _ rfl base 3 i0 _ 1 8 Try.underlying43 hi0 hz0 hz1 hz2 rfl (by omega) (.slice q m d) _ _ rfl (ownsRow_mod HO.out (Mod.of_alloc w6 _) (by simp)) _ _ _ [.int .i64 no] rfl (Sl.one_new _ _ _ rfl) (m + 1) (by omega) (by unfold maxLen; omega) (by omega) (by simp; omega) ?_); intro p' c' w7 hown1 hgrow hnil hlie; (have HO7 := Lib.hid hown1); (have HG7 := Lib.hid hgrow); clear hown1 hgrow hnil hlie)
                        | go_in)
                      have H7 : Hid (OnceAt w w7 base sb bm r.2 (H ++ [no]) p' (m + 1) c') := by
                        have h5 := H5.out
                        have h6 := h5.keep (Mod.of_alloc w6 (.cells #[.int .i64 no] 3))
                        have m7 := Mod.of_grown' HG7.out
                        have hno : ∀ z, z < base → z ∉ (Value.ownBlock (.slice q m d)).toList := fun z hz hb => by have := own_base h6.row z (by simpa using hb); omega
                        refine ⟨h6.pool.mod m7 (hno _ h6.far.1) (hno _ h6.far.2), by rw [ints_append]; exact HO7.out, HF5.out, h6.bel.trans (m7.below_of (B := w.heap.size) h6.bel.size (fun z hb => by have := own_base h6.row z (by simpa using hb); have := h6.near; omega)), Nat.le_trans h6.size m7.size, h6.far, h6.near⟩
                      go_roundw
                      case rel => exact ⟨r.2, (H ++ [no]), k + 1, p', (m + 1), c', by omega, by omega, by omega, by go_num, rfl, H7.out⟩
                      case measure => simp [intOf]; omega
            · have hbf : ((s.alloc e.gen).1.2 != 0) = true := by simp [hf]
              have H4 := Lib.hid (H0.out.turn h4 m4 (H0.out.held.alloc_full e.gen hf))
              generalize s.alloc e.gen = r at *
              clear h4 m4 hf H0 HG0 HNE HR q0 q1 q2
              go_wp2
              go_roundw
              case rel => exact ⟨r.2, H, k + 1, q, m, d, by omega, by omega, by omega, by go_num, rfl, H4.out⟩
              case measure => simp [intOf]; omega
          · have e0 : (e.kind == 0) = false := by simp [c0]
            clear c0
            by_cases c1 : e.kind = 1
            · have e1 : (e.kind == 1) = true := by simp [c1]
              clear c1
              go_wp2_with fail
              refine (free_any sb bm s e.page e.gen _ H0.out.pool p2.1 p2.2 p1.1 p1.2).mono ?_
              rintro _ w4 ⟨_, rfl, rfl, h4, m4⟩
              have g4 := (m4.at HG0.out HNE.out)
              have g1 : w4.cell? ⟨wr.heap.size, 1, none⟩ = some (.int .i64 e.page) := cell_of_at g4 1
              by_cases hf : (s.free e.page e.gen).1 = 0
              · have hbf : ((s.free e.page e.gen).1 == 0) = true := by simp [hf]
                have HH := Lib.hid (H0.out.held.free e.page e.gen hf)
                have HP4 := Lib.hid h4
                have HM4 := Lib.hid m4
                generalize s.free e.page e.gen = r at *
                have H4' := Lib.hid (show OnceAt w w4 base sb bm r.2 (gone e.page H) q m d ∨ True from Or.inr trivial)
                have hne := HR.out.far
                have hsz : base ≤ w4.heap.size := Nat.le_trans H0.out.size m4.size
                have HS4 := Lib.hid ((Sl.of_own H0.out.row (ints_one _)).1.mod m4 (fun ad had hm => by have := own_base H0.out.row ad.block (by rw [had]; simp [Value.ownBlock]); have := H0.out.far; simp; omega))
                clear h4 m4 hf HG0 HNE q0 q1 q2 g4 hidx
                go_wp2_with fail
                refine (without_any q m d H e.page _ HS4.out (by omega)).mono ?_
                rintro _ w5 ⟨_, rfl, q5, n5, c5, rfl, e5, hrow5, m5⟩
                have H5 : Hid (OnceAt w w5 base sb bm r.2 (gone e.page H) q5 n5 c5) := ⟨HP4.out.mod m5 (by simp) (by simp), own_weak hrow5 hsz, HH.out, (H0.out.bel.trans (HM4.out.below_of (B := w.heap.size) H0.out.bel.size (by have := H0.out.near; simp; omega))).trans (m5.below.mono (by have := H0.out.near; omega)), Nat.le_trans hsz m5.size, H0.out.far, H0.out.near⟩
                have hn5 : n5 ≤ m := by have := gone_len e.page H; have := H0.out.len; omega
                clear e5 hrow5 m5
                go_wp2
                go_roundw
                case rel => exact ⟨r.2, (gone e.page H), k + 1, q5, n5, c5, by omega, by omega, by omega, by go_num, rfl, H5.out⟩
                case measure => simp [intOf]; omega
              · have hbf : ((s.free e.page e.gen).1 == 0) = false := by simp [hf]
                have H4 := Lib.hid (H0.out.turn h4 m4 (H0.out.held.free_not e.page e.gen hf))
                generalize s.free e.page e.gen = r at *
                clear h4 m4 hf H0 HG0 HNE HR q0 q1 q2 g4 hidx
                go_wp2
                go_roundw
                case rel => exact ⟨r.2, H, k + 1, q, m, d, by omega, by omega, by omega, by go_num, rfl, H4.out⟩
                case measure => simp [intOf]; omega
            · have e1 : (e.kind == 1) = false := by simp [c1]
              clear c1
              by_cases c2 : e.kind = 2
              · have e2 : (e.kind == 2) = true := by simp [c2]
                clear c2
                go_wp2_with fail
                refine (trim_any sb bm s e.gen _ H0.out.pool).mono ?_
                rintro _ w4 ⟨_, rfl, rfl, h4, m4⟩
                have H4 := Lib.hid (H0.out.turn h4 m4 (Held.trim e.gen _ s (Nat.le_refl _) H0.out.pool.ok H0.out.held))
                generalize s.trim e.gen = r at *
                clear h4 m4 H0 HG0 HNE HR q0 q1 q2 hidx
                obtain ⟨hb9, ho9, hhp, hhc⟩ := (Sl.of_own H4.out.row (ints_one _)).1.at_
                have hidx3 := fun W => Sl.idx (P := Try.prog) (cap := d) Try.underlying43 sizeInts (fun h => (hhp h).1) W .i64
                have HHC := Lib.hid hhc
                have HLEN := Lib.hid H4.out.len
                clear hhp hhc
                go_wp2_with fail
                go_loopw [15, 16] (fun o i wr' => ∃ (j : Nat) (lq : Option Addr) (lc : Nat), j ≤ m ∧ i = .int .i64 j ∧ o = .slice lq j lc ∧ wr'.ownsRow w4.heap.size 3 1 (.slice lq j lc) j (ints (H.take j)) ∧ Mod [] w4 wr') (fun _ i _ => m - (intOf i).toNat)
                case atStart => exact ⟨0, none, 0, by omega, rfl, rfl, ⟨by simp [ints], Or.inl ⟨rfl, rfl⟩⟩, Mod.refl _ _⟩
                case round =>
                  obtain ⟨j, lq, lc, hj, rfl, rfl, hown, hmd⟩ := hrel
                  have HO := Lib.hid hown
                  have HMD := Lib.hid hmd
                  have hsz := hmd.size
                  clear hown hmd
                  by_cases hjl : j < m
                  · have hjm : j < H.length := by have := HLEN.out; omega
                    have d0 := HHC.out _ _ (ints_get (l := H) hjm)
                    have hx : H.getD j 0 < r.2.high := H4.out.held.lt _ (by rw [getD_at hjm]; exact List.getElem_mem _)
                    have HTK := Lib.hid (List.take_succ_eq_append_getElem hjm)
                    have hge := getD_at (d := (0 : Int)) hjm
                    rw [← HMD.out.cell (a := ⟨hb9, ho9 + j, none⟩) (World.block_lt_of_cell? w4 _ d0) (by simp)] at d0
                    rw [← hge] at HTK
                    generalize H.getD j 0 = x at *
                    clear hjm hge
                    go_wp2
                    go_region_held3 (fun w' => w'.cell? ⟨hb9, ho9 + j, none⟩ = some (.int .i64 x))
                      (first | go_keep)
                      (first
                        | (go_at_call 11; refine (high_any sb bm r.2 _ ((H4.out.keep HMD.out).pool.mod (Mod.refl [] wr).drew (by simp) (by simp))).mono ?_; rintro _ w9' ⟨_, rfl, rfl, rfl⟩))
                    have HMD2 := Lib.hid (HMD.out.drew)
                    have HO2 := Lib.hid (ownsRow_mod HO.out ((Mod.refl [] wr).drew) (by simp))
                    have hsz2 : w4.heap.size ≤ wr.drew.heap.size := hsz
                    have d1 : wr.drew.cell? ⟨hb9, ho9 + j, none⟩ = some (.int .i64 x) := d0
                    clear d0
                    generalize wr.drew = w5 at *
                    clear hsz HMD HO
                    go_wp2_with (first
                      | (at_builtin; go_must (refine wpList_append_src _ rfl _ _ _ rfl w4.heap.size 3 i0 _ 1 8 Try.underlying43 hi0 hz0 hz1 hz2 rfl (by omega) (.slice lq j lc) _ _ rfl (ownsRow_mod HO2.out (Mod.of_alloc w5 _) (by simp)) _ _ _ [.int .i64 x] rfl (Sl.one_new _ _ _ rfl) (j + 1) (by omega) (by unfold maxLen; omega) (by omega) (by simp; omega) ?_); intro p' c' w7 hown1 hgrow hnil hlie; (have HO7 := Lib.hid hown1); (have HG7 := Lib.hid hgrow); clear hown1 hgrow hnil hlie)
                      | go_in)
                    go_roundw
                    case rel => exact ⟨j + 1, p', c', by omega, by go_num, rfl, by rw [HTK.out, ints_append]; exact HO7.out, (HMD2.out.same (Mod.of_alloc w5 _)).trans (Mod.of_grown' HG7.out) (fun b hb => Or.inr (own_base HO2.out b (by simpa using hb)))⟩
                    case measure => simp [intOf]; omega
                  · obtain rfl : j = m := by omega
                    go_wp2
                    go_roundw
                    case rel => exact ⟨r.2, H, k + 1, q, j, d, by omega, by omega, by omega, by go_num, rfl, (H4.out.keep HMD.out)⟩
                    case measure => simp [intOf]; omega
              · have e2 : (e.kind == 2) = false := by simp [c2]
                clear c2
                go_wp2
                go_roundw
                case rel => exact ⟨s, H, k + 1, q, m, d, by omega, by omega, by omega, by go_num, rfl, H0.out⟩
                case measure => simp [intOf]; omega
        · have HR := Lib.hid hr
          clear hr
          go_wp2
          go_ret
          exact .mk ⟨rfl, HR.out.bel⟩
      · have HR := Lib.hid hr
        clear hr
        go_wp2
        go_ret
        exact .mk ⟨rfl, HR.out.bel⟩
end Go.Proofs.Ytibkhdlddllcjaa
