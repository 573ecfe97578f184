/- (program's side alone) New pools, the program's one and the document's one. -/
import Derived.Test.YtgimdodbajhpoaaDoorG08
namespace Go.Proofs.YtgimdodbajhpoaaDoor
open Go.RowKit Go.Maps
set_option linter.unusedSimpArgs false
set_option linter.unusedVariables false

namespace PS
def freeAll : PS → List (Int × Int) → Option PS
  | s, [] => some s
  | s, p :: r => if (s.free p.1 p.2).1 = 0 then freeAll (s.free p.1 p.2).2 r else none
def new (cap high : Int) (l : List (Int × Int)) : Option PS := if 2048 < cap ∨ high < 2 ∨ cap < high then none else freeAll ⟨cap, high, []⟩ l
theorem freeAll_append (s : PS) (a b : List (Int × Int)) : s.freeAll (a ++ b) = (s.freeAll a).bind fun s' => s'.freeAll b := by
  induction a generalizing s with
  | nil => rfl
  | cons p r ih => simp only [List.cons_append, freeAll]; split <;> simp [ih]
theorem freeAll_take {s s' : PS} {l : List (Int × Int)} {k : Nat} (hk : k < l.length) (h : s.freeAll (l.take k) = some s') :
    s.freeAll (l.take (k + 1)) = if (s'.free (l.getD k (0, 0)).1 (l.getD k (0, 0)).2).1 = 0 then some (s'.free (l.getD k (0, 0)).1 (l.getD k (0, 0)).2).2 else none := by
  rw [List.take_succ_eq_append_getElem hk, freeAll_append, h, getD_at hk]; rfl
theorem freeAll_fall {s : PS} {l : List (Int × Int)} {k : Nat} (h : s.freeAll (l.take k) = none) : s.freeAll l = none := by
  rw [← List.take_append_drop k l, freeAll_append, h]; rfl
end PS

/-- Freed pages that came in. -/
structure FreedIn (w : World) (p : Option Addr) (n c : Nat) (l : List (Int × Int)) : Prop where
  sl : Sl w 2 p n c (fcells l)
  wf : ∀ x ∈ l, (-9223372036854775808 ≤ x.1 ∧ x.1 ≤ 9223372036854775807) ∧ 0 ≤ x.2 ∧ x.2 < 2 ^ 64
theorem FreedIn.len {w : World} {p : Option Addr} {n c : Nat} {l : List (Int × Int)} (h : FreedIn w p n c l) : l.length = n := by have := h.sl.len; rw [fcells_len] at this; omega

def NewR (o : Option PS) (w : World) (v : Value) (w' : World) : Prop := Mod [] w w' ∧ match o with
  | none => v = .tuple #[.pointer none, .int .i64 1]
  | some s => ∃ sb bm, v = .tuple #[.pointer (some ⟨sb, 0, none⟩), .int .i64 0] ∧ PoolAt w' sb bm s ∧ w.heap.size ≤ sb ∧ w.heap.size ≤ bm
set_option maxRecDepth 100000 in
set_option maxHeartbeats 1000000 in
theorem pnew_any (cap high : Int) (p : Option Addr) (n c : Nat) (l : List (Int × Int)) (w : World) (hl : FreedIn w p n c l) :
    Calls Tryd.prog 5 #[.int .i64 cap, .int .i64 high, .slice p n c] w (Ret (NewR (PS.new cap high l) w)) := by
  have hmm := @run_makeMap Tryd.prog
  have hn := hl.sl.capm
  have hn2 := hl.sl.le
  unfold maxLen at hn
  by_cases hbad : 2048 < cap ∨ high < 2 ∨ cap < high
  · have HN : Hid (PS.new cap high l = none) := by unfold PS.new; rw [if_pos hbad]; exact rfl
    clear hl
    by_cases e1 : 2048 < cap
    · go_enter Tryd.func5, Tryd.ntmps5
      go_wp2
      go_ret2
      exact .mk ⟨Mod.refl _ _, by rw [HN.out]; rfl⟩
    · by_cases e2 : high < 2
      · go_enter Tryd.func5, Tryd.ntmps5
        go_wp2
        go_ret2
        exact .mk ⟨Mod.refl _ _, by rw [HN.out]; rfl⟩
      · have e3 : cap < high := by omega
        go_enter Tryd.func5, Tryd.ntmps5
        go_wp2
        go_ret2
        exact .mk ⟨Mod.refl _ _, by rw [HN.out]; rfl⟩
  · have HN : Hid (PS.new cap high l = PS.freeAll ⟨cap, high, []⟩ l) := by unfold PS.new; rw [if_neg hbad]; exact rfl
    have e1 : ¬ 2048 < cap := by omega
    have e2 : ¬ high < 2 := by omega
    have e3 : ¬ cap < high := by omega
    have HL := Lib.hid hl
    obtain ⟨b, off, hp, hcs⟩ := hl.sl.at_
    have hidx := fun W => Sl.idx (P := Tryd.prog) (cap := c) Tryd.underlying43 sizeFreed (fun h => (hp h).1) W .i64
    have HP := Lib.hid hp
    clear hbad hl hp
    go_enter Tryd.func5, Tryd.ntmps5
    go_wp2_with fail
    have hm0 : Mod [] w ((w.alloc (.map #[] 0)).alloc (.cells #[.int .i64 cap, .int .i64 high, .map (some w.heap.size)] 53)) := (Mod.refl [] w).alloc.alloc
    have hp0 : PoolAt ((w.alloc (.map #[] 0)).alloc (.cells #[.int .i64 cap, .int .i64 high, .map (some w.heap.size)] 53)) (w.heap.size + 1) w.heap.size ⟨cap, high, []⟩ :=
      ⟨at_alloc' _ _ (by simp), (MapI.made w).of_block (Below.heap_alloc _ _ _ (by simp)), ⟨by simp only; omega, by simp only; omega, by simp only; omega, by simp, by simp, by simp [Srt]⟩⟩
    have HM0 := Lib.hid hm0
    have HP0 := Lib.hid hp0
    clear hm0 hp0
    go_loopw [29] (fun i wr => ∃ (k : Nat) (s : PS), k ≤ n ∧ i = .int .i64 k ∧ PS.freeAll ⟨cap, high, []⟩ (l.take k) = some s ∧ PoolAt wr (w.heap.size + 1) w.heap.size s ∧ Mod [] w wr) (fun i _ => n - (intOf i).toNat)
    case atStart => exact ⟨0, _, by omega, rfl, rfl, HP0.out, HM0.out⟩
    case round =>
      obtain ⟨k, s, hk, rfl, hfa, hr, hmd⟩ := hrel
      have HFA := Lib.hid hfa
      have HR := Lib.hid hr
      have HMD := Lib.hid hmd
      clear hfa hr hmd HM0 HP0
      by_cases hlt : k < n
      · have hlen := HL.out.len
        obtain ⟨g1, g2⟩ := fcells_get l k (by omega)
        have d0 := hcs _ _ g1
        have d1 := hcs _ _ g2
        rw [← Nat.add_assoc] at d1
        have hblt := (HP.out (by omega)).2
        rw [← HMD.out.cell (a := ⟨b, _, none⟩) hblt (by simp)] at d0 d1
        obtain ⟨x, hx⟩ : ∃ x, x = (l.getD k (0, 0)).1 := ⟨_, rfl⟩
        obtain ⟨y, hy⟩ : ∃ y, y = (l.getD k (0, 0)).2 := ⟨_, rfl⟩
        have hwf : (-9223372036854775808 ≤ x ∧ x ≤ 9223372036854775807) ∧ 0 ≤ y ∧ y < 2 ^ 64 := by
          rw [hx, hy, getD_at (by omega)]; exact HL.out.wf _ (List.getElem_mem (by omega))
        rw [← hx] at d0
        rw [← hy] at d1
        have HST : Hid (PS.freeAll ⟨cap, high, []⟩ (l.take (k + 1)) = if (s.free x y).1 = 0 then some (s.free x y).2 else none) := by
          have := PS.freeAll_take (by omega) HFA.out; rw [← hx, ← hy] at this; exact this
        clear hx hy hcs g1 g2 hmm hlen
        go_wp2_with fail
        refine (free_any (w.heap.size + 1) w.heap.size s x y _ (HR.out.mod (Mod.refl [] wr).alloc (by simp) (by simp)) hwf.2.1 hwf.2.2 hwf.1.1 hwf.1.2).mono ?_
        rintro _ w1 ⟨_, rfl, rfl, h1, m1⟩
        have H1 := Lib.hid h1
        have hm1 : Mod [] w w1 := (HMD.out.alloc).trans m1 (by simp)
        have HM1 := Lib.hid hm1
        clear h1 m1 hm1
        by_cases hz : (s.free x y).1 = 0
        · have hz1 : ((s.free x y).1 != 0) = false := by simp [hz]
          have HST1 : Hid (PS.freeAll ⟨cap, high, []⟩ (l.take (k + 1)) = some (s.free x y).2) := by rw [HST.out, if_pos hz]; exact rfl
          clear hz HST
          go_wp2
          go_roundw
          case rel => exact ⟨k + 1, _, by omega, by go_num, HST1.out, H1.out, HM1.out⟩
          case measure => simp [intOf]; omega
        · have hz1 : ((s.free x y).1 != 0) = true := by simp [hz]
          have HST1 : Hid (PS.new cap high l = none) := by rw [HN.out]; exact PS.freeAll_fall (by rw [HST.out, if_neg hz])
          clear hz HST
          go_wp2
          go_ret2
          exact .mk ⟨HM1.out, by rw [HST1.out]; rfl⟩
      · have HST : Hid (PS.new cap high l = some s) := by
          have h1 := HFA.out
          rw [List.take_of_length_le (by have := HL.out.len; omega)] at h1
          rw [HN.out]; exact h1
        clear hcs
        go_wp2
        go_ret2
        exact .mk ⟨HMD.out, by rw [HST.out]; exact ⟨_, _, rfl, HR.out, by omega, by omega⟩⟩

end Go.Proofs.YtgimdodbajhpoaaDoor
