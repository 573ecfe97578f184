/- Functions of Go's library on bytes: Grow, Concat, Trim of zeros, Equal, HasPrefix. -/
import Derived.Lib.AppendZeros
import Derived.Test.YtgimdodbajhpoaaDoorG05
import Derived.Test.YtgimdodbajhpoaaDoorG06
namespace Go.Proofs.YtgimdodbajhpoaaDoor
open Go.RowKit Go.Maps
set_option linter.unusedSimpArgs false
set_option linter.unusedVariables false

def GrowR (w : World) (v : Value) (w' : World) : Prop := ∃ p c, v = .slice p 0 c ∧ w'.ownsRow w.heap.size 5 1 (.slice p 0 c) 0 [] ∧ Mod [] w w'
set_option maxRecDepth 100000 in
set_option maxHeartbeats 1000000 in
theorem grow_any (n : Nat) (w : World) (hn : n ≤ 2 ^ 30) : Calls Tryd.prog 52 #[.slice none 0 0, .int .i64 n] w (Ret (GrowR w)) := by
  obtain ⟨i0, hi0, hz0, hz1, hz2⟩ := info_parts infoU8
  rcases Nat.eq_zero_or_pos n with h0 | h0
  · subst h0
    go_enter Tryd.func52, Tryd.ntmps52
    go_wp2
    go_ret
    exact .mk ⟨none, 0, rfl, World.ownsRow_nil _ _ _ _, Mod.refl _ _⟩
  · obtain ⟨C, hC⟩ : ∃ C, C = grownCap w n 0 5 := ⟨_, rfl⟩
    have hge : n ≤ C := by rw [hC]; exact grownCap_ge w n 0 _
    have hcm : C ≤ maxLen := by rw [hC]; exact grownCap_le_maxLen w n 0 _ (by unfold maxLen; omega)
    have hr := Lib.run_append_nil_zeros (P := Tryd.prog) w 22 3 22 5 i0 (.int .u8 0) .i64 .i64 Tryd.underlying22 Tryd.underlying3 hi0 hz0 n h0 (by rw [hz1]; omega) (by omega) (by rw [hz2]; omega)
    rw [← hC] at hr
    obtain ⟨cur, hcur⟩ : ∃ cur, cur = Builtin.zeroCells (Value.int IntKind.u8 0).cells n ++ Builtin.zeroCells (Value.int IntKind.u8 0).cells (C - n) := ⟨_, rfl⟩
    have hsz : cur.size = C := by rw [hcur, Array.size_append, size_zeroCells, size_zeroCells]; simp [Value.cells]; omega
    rw [← hcur] at hr
    have HB : Hid ((w.drew.alloc (.cells cur 5)).heap[w.heap.size]? = some (.cells cur 5 (0, 0))) := at_alloc w.drew _
    have HM : Hid (Mod [] w (w.drew.alloc (.cells cur 5))) := (Mod.of_drew w).alloc
    have HSZ := Lib.hid hsz
    clear hC hsz hcur
    unfold maxLen at hcm
    go_enter Tryd.func52, Tryd.ntmps52
    have r0 : ∀ (W : World), (Instr.slice 22 (.slice (some ⟨w.heap.size, 0, none⟩) n C) none (some (.int .i64 0)) none).run Tryd.prog W = .ok (.slice (some ⟨w.heap.size, 0, none⟩) 0 C) W := fun W => by
      rw [run_slice_h W _ _ _ _ Tryd.underlying22 .i64 0 (by omega) (by omega), sizeBytes]; simp [Result.andThen, sliced, Addr.add]
    go_wp2_with (first
      | (at_builtin; go_must (refine Lib.wpList_append_run _ rfl _ _ _ _ rfl _ _ rfl rfl _ _ hr ?_))
      | go_in)
    go_ret
    exact .mk ⟨some ⟨w.heap.size, 0, none⟩, C, rfl, ⟨by simp, Or.inr ⟨w.heap.size, C, cur, rfl, Nat.le_refl _, HB.out, by omega, by unfold maxLen; omega, by simpa using HSZ.out, by simp⟩⟩, HM.out⟩

/-- A part: its address, its length and capacity, its bytes. -/
abbrev Part := Option Addr × Nat × Nat × List Int
def pv (x : Part) : Value := .slice x.1 x.2.1 x.2.2.1
def flat (l : List Part) : List Int := l.flatMap fun x => x.2.2.2
theorem flat_succ {l : List Part} {k : Nat} (hk : k < l.length) : flat (l.take (k + 1)) = flat (l.take k) ++ (l[k]).2.2.2 := by
  unfold flat; rw [List.take_succ_eq_append_getElem hk, List.flatMap_append]; simp only [List.flatMap_cons, List.flatMap_nil, List.append_nil]
theorem flat_le {l : List Part} {k : Nat} : (flat (l.take k)).length ≤ (flat l).length := by
  conv => rhs; rw [← List.take_append_drop k l]
  unfold flat; rw [List.flatMap_append, List.length_append]; exact Nat.le_add_right _ _
structure PartsAt (w : World) (p : Option Addr) (n c : Nat) (l : List Part) : Prop where
  sl : Sl w 1 p n c (l.map pv)
  each : ∀ x ∈ l, Sl w 1 x.1 x.2.1 x.2.2.1 (bs x.2.2.2)
theorem PartsAt.mod {w w' : World} {p : Option Addr} {n c : Nat} {l : List Part} (h : PartsAt w p n c l) (hm : Mod [] w w') : PartsAt w' p n c l :=
  ⟨h.sl.mod hm (by simp), fun x hx => (h.each x hx).mod hm (by simp)⟩
theorem PartsAt.len {w : World} {p : Option Addr} {n c : Nat} {l : List Part} (h : PartsAt w p n c l) : l.length = n := by have := h.sl.len; rw [List.length_map] at this; omega
/-- A row of parts that has just been made. -/
theorem PartsAt.new (w : World) (l : List Part) (T : TypeId) (hm : l.length ≤ maxLen) (h : ∀ x ∈ l, Sl w 1 x.1 x.2.1 x.2.2.1 (bs x.2.2.2)) : PartsAt (w.alloc (.cells (l.map pv).toArray T)) (some ⟨w.heap.size, 0, none⟩) l.length l.length l :=
  ⟨Sl.new w _ T 1 l.length (by simp) hm (by intro u hu; obtain ⟨x, _, rfl⟩ := List.mem_map.1 hu; rfl), fun x hx => (h x hx).mod (Mod.of_alloc w _) (by simp)⟩
theorem sizeRows (W : World) : (sizeOf (Tryd.prog.elem 58)).run Tryd.prog W = .ok 1 W := by kernel_rfl

set_option maxRecDepth 100000 in
set_option maxHeartbeats 1000000 in
theorem concat_any (p : Option Addr) (n c : Nat) (l : List Part) (w : World) (h : PartsAt w p n c l) (hb : (flat l).length ≤ 2 ^ 30) :
    Calls Tryd.prog 38 #[.slice p n c] w (Ret (BytesR (flat l) w)) := by
  obtain ⟨i0, hi0, hz0, hz1, hz2⟩ := info_parts infoU8
  have hln := h.len
  have hcm := h.sl.capm; have hle := h.sl.le
  unfold maxLen at hcm
  obtain ⟨b, off, hp, hcs⟩ := h.sl.at_
  have hidx := fun W => Sl.idx (P := Tryd.prog) (cap := c) Tryd.underlying58 sizeRows (fun h => (hp h).1) W .i64
  have HCS := Lib.hid hcs
  have HLT : Hid (0 < n → b < w.heap.size) := fun h => (hp h).2
  have H := Lib.hid h
  have HLN := Lib.hid hln
  clear h hp hcs hln
  go_enter Tryd.func38, Tryd.ntmps38
  go_wp2
  go_loop [3, 11] (fun s i => ∃ k : Nat, k ≤ n ∧ i = .int .i64 k ∧ s = .int .i64 ((flat (l.take k)).length : Nat)) (fun _ i => n - (intOf i).toNat)
  case atStart => exact ⟨0, by omega, rfl, by simp [flat]⟩
  case round =>
    obtain ⟨k, hk, rfl, rfl⟩ := hrel
    have hfl : (flat (l.take k)).length ≤ 1073741824 := Nat.le_trans flat_le hb
    by_cases hlt : k < n
    · have hkl : k < l.length := by rw [HLN.out]; exact hlt
      have d0 := HCS.out k (pv l[k]) (by simp [List.getElem?_eq_getElem hkl])
      have hx := (H.out.each _ (List.getElem_mem hkl)).len
      rw [bs_len] at hx
      have HF : Hid ((flat (l.take (k + 1))).length = (flat (l.take k)).length + l[k].2.1) := by unfold Hid; rw [flat_succ hkl, List.length_append, hx]; omega
      have hf2 : (flat (l.take k)).length + l[k].2.1 ≤ 1073741824 := by rw [← HF.out]; exact Nat.le_trans flat_le hb
      unfold pv at d0
      generalize l[k] = x at *
      generalize x.2.1 = m at *
      generalize (flat (l.take k)).length = F at *
      have hw1 : IntKind.i64.wrap ((F : Int) + (m : Int)) = ((F + m : Nat) : Int) := by rw [IntWalk.i64_in _ (by omega)]; omega
      clear hx hkl
      go_wp2
      go_round
      case rel => exact ⟨k + 1, by omega, by go_num, by rw [HF.out, Int.natCast_add]⟩
      case measure => simp [intOf]; omega
    · obtain rfl : k = n := by omega
      have HT : Hid (l.take k = l) := List.take_of_length_le (by rw [HLN.out]; omega)
      rw [HT.out] at hfl ⊢
      go_wp2_with fail
      refine (grow_any _ _ (by omega)).mono ?_
      rintro _ w1 ⟨_, rfl, q, d, rfl, hown, hm⟩
      have HO := Lib.hid hown
      have HM := Lib.hid hm
      clear hown hm
      go_wp2
      go_loopw [6, 27] (fun o i wr => ∃ (j m : Nat) (q : Option Addr) (d : Nat), j ≤ k ∧ i = .int .i64 j ∧ o = .slice q m d ∧ m = (flat (l.take j)).length ∧ wr.ownsRow w.heap.size 5 1 (.slice q m d) m (bs (flat (l.take j))) ∧ Mod [] w wr) (fun _ i _ => k - (intOf i).toNat)
      case atStart => exact ⟨0, 0, q, d, by omega, rfl, rfl, by simp [flat], by simpa [flat, bs] using HO.out, HM.out⟩
      case round =>
        clear HO HM
        obtain ⟨j, m, q, d, hj, rfl, rfl, hm, hown, hmd⟩ := hrel
        have HO := Lib.hid hown
        have HM := Lib.hid hmd
        have HMM := Lib.hid hm
        have hml : m ≤ 1073741824 := by rw [hm]; exact Nat.le_trans flat_le hb
        have hsz := hmd.size
        clear hown hmd hm
        by_cases hlt : j < k
        · have hkl : j < l.length := by rw [HLN.out]; exact hlt
          have d0 := HCS.out j (pv l[j]) (by simp [List.getElem?_eq_getElem hkl])
          rw [← HM.out.cell (a := ⟨b, off + j, none⟩) (HLT.out (by omega)) (by simp)] at d0
          have hx := H.out.each _ (List.getElem_mem hkl)
          have hx2 := Lib.hid (hx.mod HM.out (by simp))
          have HF : Hid (flat (l.take (j + 1)) = flat (l.take j) ++ l[j].2.2.2) := flat_succ hkl
          have hxl := hx.len
          rw [bs_len] at hxl
          have hf2 : m + l[j].2.1 ≤ 1073741824 := by
            have : (flat (l.take (j + 1))).length = m + l[j].2.1 := by rw [HF.out, List.length_append, ← HMM.out]; omega
            rw [← this]; exact Nat.le_trans flat_le hb
          unfold pv at d0
          generalize l[j] = x at *
          obtain ⟨x1, x2, x3, x4⟩ := x
          simp only at d0 hx2 HF hf2 hxl
          clear hx hkl
          have HXL := Lib.hid hxl
          clear hxl
          go_wp2_with (first
            | (at_builtin; go_must (refine wpList_append_src _ rfl _ _ _ rfl w.heap.size 5 i0 _ 1 1 Tryd.underlying22 hi0 hz0 hz1 hz2 rfl (by omega) (.slice q m d) m (bs (flat (l.take j))) rfl HO.out _ _ _ (bs x4) rfl hx2.out (m + x2) rfl (by unfold maxLen; omega) (by omega) hsz ?_); intro p' c' w1 hown1 hgrow hnil hlie; (have HO1 := Lib.hid hown1); (have HG1 := Lib.hid hgrow); clear hown1 hgrow hnil hlie)
            | go_in)
          go_roundw
          case rel => exact ⟨j + 1, m + x2, p', c', by omega, by go_num, rfl, by rw [HF.out, List.length_append, ← HMM.out, HXL.out]; omega, by rw [HF.out, bs_append]; exact HO1.out, HM.out.trans (Mod.of_grown' HG1.out) (fun b hb => Or.inr (by
            have := own_base HO.out b (by simpa using hb); omega))⟩
          case measure => simp [intOf]; omega
        · obtain rfl : j = k := by omega
          rw [HT.out] at HMM HO
          go_wp2
          go_ret
          exact .mk ⟨q, m, d, rfl, HMM.out, HO.out, HM.out⟩
end Go.Proofs.YtgimdodbajhpoaaDoor
