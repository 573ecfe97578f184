/- The document's Trim, and Clone. -/
import Derived.Test.YtibkhdlddllcjaaPoolTrim
namespace Go.Proofs.Ytibkhdlddllcjaa
open Go.RowKit Go.Maps
set_option linter.unusedSimpArgs false
set_option linter.unusedVariables false

theorem QPTurn.trans {qb : Nat} {v v1 v2 : Value} {s1 s2 : PS} {w w1 w2 : World} (h1 : QPTurn qb v s1 w w1 v1) (h2 : QPTurn qb v1 s2 w1 w2 v2) : QPTurn qb v s2 w w2 v2 := by
  refine ⟨h2.at_, h1.mod.trans h2.mod (fun b hb => ?_), fun b hb => ?_⟩
  · rcases List.mem_cons.1 hb with rfl | hb
    · exact Or.inl (by simp)
    · rcases h1.lies b (by simpa using hb) with h | h
      · exact Or.inl (by simp [h])
      · exact Or.inr h
  · rcases h2.lies b hb with h | h
    · exact h1.lies b h
    · exact Or.inr (Nat.le_trans h1.mod.size h)
theorem QPTurn.refl {qb : Nat} {v : Value} {s : PS} {w : World} (h : QPoolAt w qb v s) : QPTurn qb v s w w v := ⟨h, Mod.refl _ _, fun b hb => Or.inl hb⟩

/-- The last freed page, looked up. -/
theorem look_last {m : List (Int × Int)} {high : Int} (hs : Srt m) (hlt : ∀ p ∈ m, p.1 < high) {n : Nat} (hn : m.length = n + 1) :
    look m (high - 1) = if (m.getD n (0, 0)).1 = high - 1 then some (m.getD n (0, 0)).2 else none := by
  have hnl : n < m.length := by omega
  split
  · rename_i h
    rw [← h, getD_at hnl]
    exact look_of_mem hs (List.getElem_mem hnl)
  · rename_i h
    simp only [look, Option.map_eq_none_iff, List.find?_eq_none]
    intro p hp
    obtain ⟨j, hj, rfl⟩ := List.mem_iff_getElem.1 hp
    rw [getD_at hnl] at h
    have h2 := hlt _ (List.getElem_mem hnl)
    rcases Nat.lt_or_ge j n with hjn | hjn
    · have := List.pairwise_iff_getElem.1 hs j n hj hnl hjn
      simp; omega
    · obtain rfl : j = n := by omega
      simpa using h

def QTrimR (qb : Nat) (v : Value) (s : PS) (h : Int) (w : World) (r : Value) (w' : World) : Prop := r = .int .i64 (s.trim h).1 ∧ ∃ v', QPTurn qb v (s.trim h).2 w w' v'
set_option maxRecDepth 100000 in
set_option maxHeartbeats 1000000 in
theorem qtrim_any (qb : Nat) (v : Value) (s : PS) (h : Int) (w : World) (hr : QPoolAt w qb v s) :
    Calls Try.prog 19 #[.pointer (some ⟨qb, 0, none⟩), .int .u64 h] w (Ret (QTrimR qb v s h w)) := by
  have HR0 := Lib.hid hr
  clear hr
  go_enter Try.func19, Try.ntmps19
  go_wp2_with fail
  go_loopw [5] (fun o wr => ∃ (j : Nat) (t : PS) (v1 : Value), o = .int .i64 j ∧ QPTurn qb v t w wr v1 ∧ (j : Int) + t.high ≤ 2048 ∧ s.trim h = ((t.trim h).1 + j, (t.trim h).2)) (fun o _ => 2048 - (intOf o).toNat)
  case atStart => exact ⟨0, s, v, rfl, QPTurn.refl HR0.out, by have := HR0.out.ok.high; have := HR0.out.ok.cap; omega, by simp⟩
  case round =>
    obtain ⟨j, t, v1, rfl, hq, hj, ht⟩ := hrel
    have hr := hq.at_
    obtain ⟨g, rc, rfl, hsl⟩ := hr.slice
    obtain ⟨b, off, hp, hcs⟩ := hsl.at_
    have hidx := fun W => Sl.idx (P := Try.prog) (cap := rc) Try.underlying22 sizeFreed (fun h => (hp h).1) W .i64
    have c1 : wr.cell? ⟨qb, 1, none⟩ = some (.int .i64 t.high) := cell_of_at hr.at_ 1
    have c2 : wr.cell? ⟨qb, 2, none⟩ = some (.slice g t.m.length rc) := cell_of_at hr.at_ 2
    have hlow := hr.ok.low
    have hhigh := hr.ok.high
    have hcap := hr.ok.cap
    have hsm := hr.ok.small
    have HQ := Lib.hid hq
    have HT := Lib.hid ht
    have HCS := Lib.hid hcs
    clear hq hr ht HR0 hsl hp hcs
    by_cases h2 : 2 < t.high
    · obtain ⟨n, hn⟩ : ∃ n, n = t.m.length := ⟨_, rfl⟩
      rw [← hn] at c2 hidx hsm
      cases n with
      | zero =>
        have hm : t.m = [] := List.eq_nil_of_length_eq_zero hn.symm
        have HE := Lib.hid (PS.trim_none (h := h) (s := t) (by rw [hm]; rfl))
        clear hm hn hidx
        go_wp2
        go_quiet (fail)
        go_wp2
        go_ret
        have ht := HT.out
        rw [HE.out] at ht
        exact .mk ⟨by rw [ht]; simp, by rw [ht]; exact ⟨_, HQ.out.trans ⟨HQ.out.at_.mod (Mod.refl [] wr).drewN (by simp) (by simp), (Mod.refl _ _).drewN, fun b hb => Or.inl hb⟩⟩⟩
      | succ n =>
        have hlk := look_last HQ.out.at_.ok.srt (fun p hp => (HQ.out.at_.ok.at_ p hp).2) hn.symm
        obtain ⟨g1, g2⟩ := fcells_get t.m n (by omega)
        have d0 := HCS.out _ _ g1
        have d1 := HCS.out _ _ g2
        rw [← Nat.add_assoc] at d1
        obtain ⟨x, hx⟩ : ∃ x, x = (t.m.getD n (0, 0)).1 := ⟨_, rfl⟩
        obtain ⟨y, hy⟩ : ∃ y, y = (t.m.getD n (0, 0)).2 := ⟨_, rfl⟩
        rw [← hx] at d0 hlk
        rw [← hy] at d1 hlk
        have HX := Lib.hid hx
        have HN := Lib.hid hn
        generalize hN : n + 1 = N at *
        have wn : IntKind.i64.wrap ((N : Int) - 1) = (n : Int) := by rw [IntWalk.i64_in _ (by omega)]; omega
        have wh : IntKind.i64.wrap (t.high - 1) = t.high - 1 := IntWalk.i64_in _ (by omega)
        have hN0 : 0 < N := by omega
        have hnN : n < N := by omega
        clear hx hy g1 g2 hn hN
        by_cases he : x = t.high - 1
        · rw [if_pos he] at hlk
          have hb1 : (x == t.high - 1) = true := by simp [he]
          by_cases hyh : y ≤ h
          · have HE := Lib.hid (PS.trim_step (h := h) h2 hlk hyh)
            have HX2 := Lib.hid he
            clear hlk he
            go_wp2
            go_quiet (fail)
            go_wp2_with fail
            have HQ5 := Lib.hid (HQ.out.at_.mod ((Mod.refl [] wr).drewN (n := nq)) (by simp) (by simp))
            have hm5 : Mod [] wr (wr.drewN nq) := (Mod.refl [] wr).drewN
            have HM5 := Lib.hid hm5
            generalize wr.drewN nq = w5 at *
            refine (qcut_any qb _ t n _ HQ5.out (by have := HN.out; omega)).mono ?_
            rintro _ w6 ⟨rfl, v6, h6⟩
            have c6 : w6.cell? ⟨qb, 1, none⟩ = some (.int .i64 t.high) := cell_of_at h6.at_.at_ 1
            have f6 : w6.frozen? ⟨qb, 1, none⟩ = false := free_of_at h6.at_.at_ 1
            have HM6 := Lib.hid h6
            clear h6 hm5 c1 c2 d0 d1 hidx
            go_wp2
            have hn : n < t.m.length := by have := HN.out; omega
            have hfin : Hid (QPTurn qb v t.less w (w6.setCell ⟨qb, 1, none⟩ (.int .i64 (t.high - 1))) v6) := by
              have h6 := HM6.out
              have he := erase_cut HQ5.out.ok.srt hn
              rw [← HX.out, HX2.out] at he
              rw [he] at h6
              have hap := h6.at_.apart
              refine HQ.out.trans (QPTurn.trans (s1 := t) ⟨HQ5.out, HM5.out.mono (by simp), fun b hb => Or.inl hb⟩ ⟨⟨at_setCell h6.at_.at_ 1 _, ownsRow_mod h6.at_.row (Mod.of_setCell w6 _ _ _) (fun b hb => by simp; rintro rfl; exact hap hb.symm), HQ5.out.ok.less h2⟩, ?_, h6.lies⟩)
              exact Mod.setCell (b := qb) h6.mod (Or.inl (by simp))
            go_roundw
            case rel => exact ⟨j + 1, t.less, v6, by go_num, hfin.out, by simp [PS.less]; omega, by rw [HT.out, HE.out]; simp; omega⟩
            case measure => simp [intOf]; omega
          · have HE := Lib.hid (PS.trim_old (h := h) hlk hyh)
            clear hlk he
            go_wp2
            go_quiet (fail)
            go_wp2
            go_ret
            have ht := HT.out
            rw [HE.out] at ht
            exact .mk ⟨by rw [ht]; simp, by rw [ht]; exact ⟨_, HQ.out.trans ⟨HQ.out.at_.mod (Mod.refl [] wr).drewN (by simp) (by simp), (Mod.refl _ _).drewN, fun b hb => Or.inl hb⟩⟩⟩
        · rw [if_neg he] at hlk
          have hb1 : (x == t.high - 1) = false := by simp [he]
          have HE := Lib.hid (PS.trim_none (h := h) hlk)
          clear hlk he
          go_wp2
          go_quiet (fail)
          go_wp2
          go_ret
          have ht := HT.out
          rw [HE.out] at ht
          exact .mk ⟨by rw [ht]; simp, by rw [ht]; exact ⟨_, HQ.out.trans ⟨HQ.out.at_.mod (Mod.refl [] wr).drewN (by simp) (by simp), (Mod.refl _ _).drewN, fun b hb => Or.inl hb⟩⟩⟩
    · have HE := Lib.hid (PS.trim_low (h := h) h2)
      have hhi : t.high = 2 := by omega
      rw [hhi] at c1
      clear hidx
      go_wp2
      go_quiet (fail)
      go_wp2
      go_ret
      have ht := HT.out
      rw [HE.out] at ht
      exact .mk ⟨by rw [ht]; simp, by rw [ht]; exact ⟨_, HQ.out.trans ⟨HQ.out.at_.mod (Mod.refl [] wr).drewN (by simp) (by simp), (Mod.refl _ _).drewN, fun b hb => Or.inl hb⟩⟩⟩
end Go.Proofs.Ytibkhdlddllcjaa
