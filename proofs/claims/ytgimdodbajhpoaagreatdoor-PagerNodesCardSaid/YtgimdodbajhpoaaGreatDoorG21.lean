/- Functions of Go's library on bytes: Grow, Concat, Trim of zeros, Equal, HasPrefix. Functions of Go's library on bytes: Trim of zeros, Equal, HasPrefix. bytes.HasPrefix. -/
import Derived.Lib.AppendZeros
import Derived.Test.YtgimdodbajhpoaaGreatDoorG05
namespace Go.Proofs.YtgimdodbajhpoaaGreatDoor
open Go.RowKit Go.Maps
set_option linter.unusedSimpArgs false
set_option linter.unusedVariables false

def GrowR (w : World) (v : Value) (w' : World) : Prop := ∃ p c, v = .slice p 0 c ∧ w'.ownsRow w.heap.size 5 1 (.slice p 0 c) 0 [] ∧ Mod [] w w'
set_option maxRecDepth 100000 in
set_option maxHeartbeats 1000000 in
theorem grow_any (n : Nat) (w : World) (hn : n ≤ 2 ^ 30) : Calls Tryz.prog 124 #[.slice none 0 0, .int .i64 n] w (Ret (GrowR w)) := by
  obtain ⟨i0, hi0, hz0, hz1, hz2⟩ := info_parts infoU8
  rcases Nat.eq_zero_or_pos n with h0 | h0
  · subst h0
    go_enter Tryz.func124, Tryz.ntmps124
    go_wp2
    go_ret
    exact .mk ⟨none, 0, rfl, World.ownsRow_nil _ _ _ _, Mod.refl _ _⟩
  · obtain ⟨C, hC⟩ : ∃ C, C = grownCap w n 0 5 := ⟨_, rfl⟩
    have hge : n ≤ C := by rw [hC]; exact grownCap_ge w n 0 _
    have hcm : C ≤ maxLen := by rw [hC]; exact grownCap_le_maxLen w n 0 _ (by unfold maxLen; omega)
    have hr := Lib.run_append_nil_zeros (P := Tryz.prog) w 40 3 40 5 i0 (.int .u8 0) .i64 .i64 Tryz.underlying40 Tryz.underlying3 hi0 hz0 n h0 (by rw [hz1]; omega) (by omega) (by rw [hz2]; omega)
    rw [← hC] at hr
    obtain ⟨cur, hcur⟩ : ∃ cur, cur = Builtin.zeroCells (Value.int IntKind.u8 0).cells n ++ Builtin.zeroCells (Value.int IntKind.u8 0).cells (C - n) := ⟨_, rfl⟩
    have hsz : cur.size = C := by rw [hcur, Array.size_append, size_zeroCells, size_zeroCells]; simp [Value.cells]; omega
    rw [← hcur] at hr
    have HB : Hid ((w.drew.alloc (.cells cur 5)).heap[w.heap.size]? = some (.cells cur 5 (0, 0))) := at_alloc w.drew _
    have HM : Hid (Mod [] w (w.drew.alloc (.cells cur 5))) := (Mod.of_drew w).alloc
    have HSZ := Lib.hid hsz
    clear hC hsz hcur
    unfold maxLen at hcm
    go_enter Tryz.func124, Tryz.ntmps124
    have r0 : ∀ (W : World), (Instr.slice 40 (.slice (some ⟨w.heap.size, 0, none⟩) n C) none (some (.int .i64 0)) none).run Tryz.prog W = .ok (.slice (some ⟨w.heap.size, 0, none⟩) 0 C) W := fun W => by
      rw [run_slice_h W _ _ _ _ Tryz.underlying40 .i64 0 (by omega) (by omega), sizeBytes]; simp [Result.andThen, sliced, Addr.add]
    go_wp2_with (first
      | (at_builtin; go_must (refine Lib.wpList_append_run _ rfl _ _ _ _ rfl _ _ rfl rfl _ _ hr ?_))
      | go_in)
    go_ret
    exact .mk ⟨some ⟨w.heap.size, 0, none⟩, C, rfl, ⟨by simp, Or.inr ⟨w.heap.size, C, cur, rfl, Nat.le_refl _, HB.out, by omega, by unfold maxLen; omega, by simpa using HSZ.out, by simp⟩⟩, HM.out⟩

/-- A part: its address, its length and capacity, its bytes. -/
abbrev Part := Option Addr × Nat × Nat × List Int
def pv (x : Part) : Value := .slice x.1 x.2.1 x.2.2.1
def flat (l : List Part) : List Int := l.flatMap fun x => x.2.2.2
theorem flat_succ {l : List Part} {k : Nat} (hk : k < l.length) : flat (l.take (k + 1)) = flat (l.take k) ++ (l[k]).2.2.2 := by
  unfold flat; rw [List.take_succ_eq_append_getElem hk, List.flatMap_append]; simp only [List.flatMap_cons, List.flatMap_nil, List.append_nil]
theorem flat_le {l : List Part} {k : Nat} : (flat (l.take k)).length ≤ (flat l).length := by
  conv => rhs; rw [← List.take_append_drop k l]
  unfold flat; rw [List.flatMap_append, List.length_append]; exact Nat.le_add_right _ _
structure PartsAt (w : World) (p : Option Addr) (n c : Nat) (l : List Part) : Prop where
  sl : Sl w 1 p n c (l.map pv)
  each : ∀ x ∈ l, Sl w 1 x.1 x.2.1 x.2.2.1 (bs x.2.2.2)
theorem PartsAt.mod {w w' : World} {p : Option Addr} {n c : Nat} {l : List Part} (h : PartsAt w p n c l) (hm : Mod [] w w') : PartsAt w' p n c l :=
  ⟨h.sl.mod hm (by simp), fun x hx => (h.each x hx).mod hm (by simp)⟩
theorem PartsAt.len {w : World} {p : Option Addr} {n c : Nat} {l : List Part} (h : PartsAt w p n c l) : l.length = n := by have := h.sl.len; rw [List.length_map] at this; omega
/-- A row of parts that has just been made. -/
theorem PartsAt.new (w : World) (l : List Part) (T : TypeId) (hm : l.length ≤ maxLen) (h : ∀ x ∈ l, Sl w 1 x.1 x.2.1 x.2.2.1 (bs x.2.2.2)) : PartsAt (w.alloc (.cells (l.map pv).toArray T)) (some ⟨w.heap.size, 0, none⟩) l.length l.length l :=
  ⟨Sl.new w _ T 1 l.length (by simp) hm (by intro u hu; obtain ⟨x, _, rfl⟩ := List.mem_map.1 hu; rfl), fun x hx => (h x hx).mod (Mod.of_alloc w _) (by simp)⟩
theorem sizeRows (W : World) : (sizeOf (Tryz.prog.elem 23)).run Tryz.prog W = .ok 1 W := by kernel_rfl

set_option maxRecDepth 100000 in
set_option maxHeartbeats 1000000 in
theorem concat_any (p : Option Addr) (n c : Nat) (l : List Part) (w : World) (h : PartsAt w p n c l) (hb : (flat l).length ≤ 2 ^ 30) :
    Calls Tryz.prog 119 #[.slice p n c] w (Ret (BytesR (flat l) w)) := by
  obtain ⟨i0, hi0, hz0, hz1, hz2⟩ := info_parts infoU8
  have hln := h.len
  have hcm := h.sl.capm; have hle := h.sl.le
  unfold maxLen at hcm
  obtain ⟨b, off, hp, hcs⟩ := h.sl.at_
  have hidx := fun W => Sl.idx (P := Tryz.prog) (cap := c) Tryz.underlying23 sizeRows (fun h => (hp h).1) W .i64
  have HCS := Lib.hid hcs
  have HLT : Hid (0 < n → b < w.heap.size) := fun h => (hp h).2
  have H := Lib.hid h
  have HLN := Lib.hid hln
  clear h hp hcs hln
  go_enter Tryz.func119, Tryz.ntmps119
  go_wp2
  go_loop [3, 11] (fun s i => ∃ k : Nat, k ≤ n ∧ i = .int .i64 k ∧ s = .int .i64 ((flat (l.take k)).length : Nat)) (fun _ i => n - (intOf i).toNat)
  case atStart => exact ⟨0, by omega, rfl, by simp [flat]⟩
  case round =>
    obtain ⟨k, hk, rfl, rfl⟩ := hrel
    have hfl : (flat (l.take k)).length ≤ 1073741824 := Nat.le_trans flat_le hb
    by_cases hlt : k < n
    · have hkl : k < l.length := by rw [HLN.out]; exact hlt
      have d0 := HCS.out k (pv l[k]) (by simp [List.getElem?_eq_getElem hkl])
      have hx := (H.out.each _ (List.getElem_mem hkl)).len
      rw [bs_len] at hx
      have HF : Hid ((flat (l.take (k + 1))).length = (flat (l.take k)).length + l[k].2.1) := by unfold Hid; rw [flat_succ hkl, List.length_append, hx]; omega
      have hf2 : (flat (l.take k)).length + l[k].2.1 ≤ 1073741824 := by rw [← HF.out]; exact Nat.le_trans flat_le hb
      unfold pv at d0
      generalize l[k] = x at *
      generalize x.2.1 = m at *
      generalize (flat (l.take k)).length = F at *
      have hw1 : IntKind.i64.wrap ((F : Int) + (m : Int)) = ((F + m : Nat) : Int) := by rw [IntWalk.i64_in _ (by omega)]; omega
      clear hx hkl
      go_wp2
      go_round
      case rel => exact ⟨k + 1, by omega, by go_num, by rw [HF.out, Int.natCast_add]⟩
      case measure => simp [intOf]; omega
    · obtain rfl : k = n := by omega
      have HT : Hid (l.take k = l) := List.take_of_length_le (by rw [HLN.out]; omega)
      rw [HT.out] at hfl ⊢
      go_wp2_with fail
      refine (grow_any _ _ (by omega)).mono ?_
      rintro _ w1 ⟨_, rfl, q, d, rfl, hown, hm⟩
      have HO := Lib.hid hown
      have HM := Lib.hid hm
      clear hown hm
      go_wp2
      go_loopw [6, 27] (fun o i wr => ∃ (j m : Nat) (q : Option Addr) (d : Nat), j ≤ k ∧ i = .int .i64 j ∧ o = .slice q m d ∧ m = (flat (l.take j)).length ∧ wr.ownsRow w.heap.size 5 1 (.slice q m d) m (bs (flat (l.take j))) ∧ Mod [] w wr) (fun _ i _ => k - (intOf i).toNat)
      case atStart => exact ⟨0, 0, q, d, by omega, rfl, rfl, by simp [flat], by simpa [flat, bs] using HO.out, HM.out⟩
      case round =>
        clear HO HM
        obtain ⟨j, m, q, d, hj, rfl, rfl, hm, hown, hmd⟩ := hrel
        have HO := Lib.hid hown
        have HM := Lib.hid hmd
        have HMM := Lib.hid hm
        have hml : m ≤ 1073741824 := by rw [hm]; exact Nat.le_trans flat_le hb
        have hsz := hmd.size
        clear hown hmd hm
        by_cases hlt : j < k
        · have hkl : j < l.length := by rw [HLN.out]; exact hlt
          have d0 := HCS.out j (pv l[j]) (by simp [List.getElem?_eq_getElem hkl])
          rw [← HM.out.cell (a := ⟨b, off + j, none⟩) (HLT.out (by omega)) (by simp)] at d0
          have hx := H.out.each _ (List.getElem_mem hkl)
          have hx2 := Lib.hid (hx.mod HM.out (by simp))
          have HF : Hid (flat (l.take (j + 1)) = flat (l.take j) ++ l[j].2.2.2) := flat_succ hkl
          have hxl := hx.len
          rw [bs_len] at hxl
          have hf2 : m + l[j].2.1 ≤ 1073741824 := by
            have : (flat (l.take (j + 1))).length = m + l[j].2.1 := by rw [HF.out, List.length_append, ← HMM.out]; omega
            rw [← this]; exact Nat.le_trans flat_le hb
          unfold pv at d0
          generalize l[j] = x at *
          obtain ⟨x1, x2, x3, x4⟩ := x
          simp only at d0 hx2 HF hf2 hxl
          clear hx hkl
          have HXL := Lib.hid hxl
          clear hxl
          go_wp2_with (first
            | (at_builtin; go_must (refine wpList_append_src _ rfl _ _ _ rfl w.heap.size 5 i0 _ 1 1 Tryz.underlying40 hi0 hz0 hz1 hz2 rfl (by omega) (.slice q m d) m (bs (flat (l.take j))) rfl HO.out _ _ _ (bs x4) rfl hx2.out (m + x2) rfl (by unfold maxLen; omega) (by omega) hsz ?_); intro p' c' w1 hown1 hgrow hnil hlie; (have HO1 := Lib.hid hown1); (have HG1 := Lib.hid hgrow); clear hown1 hgrow hnil hlie)
            | go_in)
          go_roundw
          case rel => exact ⟨j + 1, m + x2, p', c', by omega, by go_num, rfl, by rw [HF.out, List.length_append, ← HMM.out, HXL.out]; omega, by rw [HF.out, bs_append]; exact HO1.out, HM.out.trans (Mod.of_grown' HG1.out) (fun b hb => Or.inr (by
            have := own_base HO.out b (by simpa using hb); omega))⟩
          case measure => simp [intOf]; omega
        · obtain rfl : j = k := by omega
          rw [HT.out] at HMM HO
          go_wp2
          go_ret
          exact .mk ⟨q, m, d, rfl, HMM.out, HO.out, HM.out⟩
end Go.Proofs.YtgimdodbajhpoaaGreatDoor
namespace Go.Proofs.YtgimdodbajhpoaaGreatDoor
open Go.RowKit Go.Maps
set_option linter.unusedSimpArgs false
set_option linter.unusedVariables false

def BoolM (b : Bool) (w : World) (v : Value) (w' : World) : Prop := v = .bool b ∧ Mod [] w w'
/-- A part of bytes: the first k are left; the others are zeros. -/
def TrimRR (p : Option Addr) (c : Nat) (l : List Int) (w : World) (v : Value) (w' : World) : Prop := ∃ k, k ≤ l.length ∧ v = .slice p k c ∧ (∀ x ∈ l.drop k, x = 0) ∧ w' = w
theorem drop_zero_succ {l : List Int} {k : Nat} (hk : k < l.length) (h0 : l.getD k 0 = 0) (h : ∀ x ∈ l.drop (k + 1), x = 0) : ∀ x ∈ l.drop k, x = 0 := by
  rw [List.drop_eq_getElem_cons hk]
  intro x hx
  rcases List.mem_cons.1 hx with rfl | hx
  · rwa [getD_at hk] at h0
  · exact h x hx
set_option maxRecDepth 100000 in
set_option maxHeartbeats 1000000 in
theorem trimr_any (p : Option Addr) (n c : Nat) (l : List Int) (w : World) (h : Sl w 1 p n c (bs l)) :
    Calls Tryz.prog 69 #[.slice p n c, .int .u8 0] w (Ret (TrimRR p c l w)) := by
  have hln : l.length = n := by have := h.len; rw [bs_len] at this; omega
  have hcm := h.capm; have hle := h.le
  unfold maxLen at hcm
  obtain ⟨b, off, hp, hcs⟩ := h.at_
  have HLT : Hid (0 < n → b < w.heap.size) := fun h => (hp h).2
  have HPP : Hid (0 < n → p = some ⟨b, off, none⟩) := fun h => (hp h).1
  have HCS := Lib.hid hcs
  have HLN := Lib.hid hln
  clear h hp hcs hln
  go_enter Tryz.func69, Tryz.ntmps69
  go_wp2
  go_loopw [0] (fun s wr => ∃ k : Nat, k ≤ n ∧ s = .slice p k c ∧ (∀ x ∈ l.drop k, x = 0) ∧ wr = w) (fun s _ => match s with | .slice _ k _ => k | _ => 0)
  case atStart => exact ⟨n, by omega, rfl, by rw [List.drop_of_length_le (by have := HLN.out; omega)]; simp, rfl⟩
  case round =>
    obtain ⟨k, hk, rfl, hz, rfl⟩ := hrel
    have HZ := Lib.hid hz
    clear hz
    rcases Nat.eq_zero_or_pos k with h0 | h0
    · subst h0
      go_wp2
      go_ret
      exact .mk ⟨0, by omega, rfl, HZ.out, rfl⟩
    · obtain ⟨j, hj⟩ : ∃ j, j = k - 1 := ⟨_, rfl⟩
      have hjl : j < l.length := by have := HLN.out; omega
      have hjk : j < k := by omega
      have hjc : j ≤ c := by omega
      have d0 := HCS.out j _ (bs_get hjl)
      have hidx := fun W => Sl.idx (P := Tryz.prog) (cap := c) (m := k) (size := 1) Tryz.underlying40 sizeBytes (fun _ => HPP.out (by omega)) W .i64 j hjk
      have hw1 : IntKind.i64.wrap ((k : Int) - 1) = (j : Int) := by rw [IntWalk.i64_in _ (by omega)]; omega
      have hw2 : wrap64 ((k : Int) - 1) = (j : Int) := by unfold wrap64; omega
      have hsl : ∀ q W, (Instr.slice 40 (.slice p k c) none (some (.int q (j : Int))) none).run Tryz.prog W = .ok (.slice p j c) W := fun q W => by
        rw [run_slice_h W _ p k c Tryz.underlying40 q j (by omega) (by omega), sizeBytes]
        simp only [Result.andThen, sliced, Int.toNat_natCast, Nat.sub_zero, Nat.zero_mul]
        cases p with
        | none => simp
        | some a => simp [Addr.add]
      obtain ⟨x, hx⟩ : ∃ x, x = l.getD j 0 := ⟨_, rfl⟩
      rw [← hx] at d0
      have HX := Lib.hid hx
      have HJ := Lib.hid hj
      clear hx hj
      by_cases hx0 : x = 0
      · have hb : (x == 0) = true := by simp [hx0]
        have HX0 := Lib.hid hx0
        clear hx0
        go_wp2
        go_roundw
        case rel => exact ⟨j, by omega, rfl, drop_zero_succ hjl (by rw [← HX.out]; exact HX0.out) (by have := HJ.out; rw [show j + 1 = k from by omega]; exact HZ.out), by first | rfl | trivial⟩
        case measure => exact hjk
      · have hb : (x == 0) = false := by simp [hx0]
        clear hx0
        go_wp2
        go_ret
        exact .mk ⟨k, by have := HLN.out; omega, rfl, HZ.out, rfl⟩
/-- A part of bytes: none is left just if all are zeros. -/
def TrimLR (l : List Int) (w : World) (v : Value) (w' : World) : Prop := ∃ q k d, v = .slice q k d ∧ (k = 0 ↔ ∀ x ∈ l, x = 0) ∧ w' = w
set_option maxRecDepth 100000 in
set_option maxHeartbeats 1000000 in
theorem triml_any (p : Option Addr) (n c : Nat) (l : List Int) (w : World) (h : Sl w 1 p n c (bs l)) :
    Calls Tryz.prog 68 #[.slice p n c, .int .u8 0] w (Ret (TrimLR l w)) := by
  have hln : l.length = n := by have := h.len; rw [bs_len] at this; omega
  have hcm := h.capm; have hle := h.le
  unfold maxLen at hcm
  have H := Lib.hid h
  have HLN := Lib.hid hln
  clear h hln
  go_enter Tryz.func68, Tryz.ntmps68
  go_wp2
  go_loopw [0] (fun s wr => ∃ (k m d : Nat) (q : Option Addr), k + m = n ∧ s = .slice q m d ∧ Sl w 1 q m d (bs (l.drop k)) ∧ (∀ x ∈ l.take k, x = 0) ∧ wr = w) (fun s _ => match s with | .slice _ k _ => k | _ => 0)
  case atStart => exact ⟨0, n, c, p, by omega, rfl, H.out, by simp, rfl⟩
  case round =>
    obtain ⟨k, m, d, q, hk, rfl, hs, hz, rfl⟩ := hrel
    have hdm := hs.capm; have hmd := hs.le
    unfold maxLen at hdm
    have HS := Lib.hid hs
    have HZ := Lib.hid hz
    have HK := Lib.hid hk
    have hkn : k ≤ n := by omega
    clear hs hz hk
    rcases Nat.eq_zero_or_pos m with h0 | h0
    · subst h0
      go_wp2
      go_ret
      exact .mk ⟨none, 0, 0, rfl, ⟨fun _ x hx => HZ.out x (by rwa [List.take_of_length_le (by have := HK.out; have := HLN.out; omega)]), fun _ => rfl⟩, rfl⟩
    · have hkl : k < l.length := by have := HLN.out; have := HK.out; omega
      obtain ⟨b, off, rfl, hlt, hc⟩ := HS.out.addr h0
      have d0 := hc 0 _ (bs_get (l := l.drop k) (by rw [List.length_drop]; omega))
      rw [show (l.drop k).getD 0 0 = l.getD k 0 from by simp [List.getD]] at d0
      have hidx := fun W => Sl.idx (P := Tryz.prog) (cap := d) (m := m) (size := 1) Tryz.underlying40 sizeBytes (fun _ => rfl) W .i64 0 h0 (b := b) (off := off)
      obtain ⟨q2, r2, s2, _⟩ := HS.out.sub_l Tryz.underlying40 sizeBytes 1 .i64 (by omega)
      simp only [show ((1 : Nat) : Int) = 1 from rfl, Nat.mul_one, Nat.zero_mul, show ((0 : Nat) : Int) = 0 from rfl, Nat.add_zero] at r2 s2 hidx d0
      have HS2 := Lib.hid s2
      obtain ⟨x, hx⟩ : ∃ x, x = l.getD k 0 := ⟨_, rfl⟩
      rw [← hx] at d0
      have HX := Lib.hid hx
      clear hx hc s2
      by_cases hx0 : x = 0
      · have hb : (x == 0) = true := by simp [hx0]
        have HX0 := Lib.hid hx0
        clear hx0
        go_wp2
        go_roundw
        case rel => exact ⟨k + 1, m - 1, d - 1, q2, by have := HK.out; omega, rfl, by have := HS2.out; rw [show bs (l.drop (k + 1)) = (bs (l.drop k)).drop 1 from by simp [bs, List.drop_drop]]; exact this, by
            rw [List.take_succ_eq_append_getElem hkl]
            intro y hy
            rcases List.mem_append.1 hy with hy | hy
            · exact HZ.out y hy
            · simp at hy; rw [hy, ← getD_at hkl (d := 0), ← HX.out]; exact HX0.out, by first | rfl | trivial⟩
        case measure => show m - 1 < m; omega
      · have hb : (x == 0) = false := by simp [hx0]
        have HX0 := Lib.hid hx0
        clear hx0
        go_wp2
        go_ret
        exact .mk ⟨_, m, d, rfl, ⟨fun h => by omega, fun h => absurd (h _ (List.getElem_mem hkl)) (by rw [← getD_at hkl (d := 0), ← HX.out]; exact HX0.out)⟩, rfl⟩

theorem Sl.takeb {P : Program} {T : TypeId} {w : World} {p : Option Addr} {n c k : Nat} {l : List Int} (hT : P.underlying T = some (.slice (P.elem T))) (hs : ∀ W : World, (sizeOf (P.elem T)).run P W = .ok 1 W) (h : Sl w 1 p n c (bs l)) (hk : k ≤ n) : Sl w 1 p k c (bs (l.take k)) := by
  have := (h.sub_h hT hs k .i64 hk).2
  rw [Nat.mul_one] at this
  simpa [bs, List.map_take] using this
def TrimM (l : List Int) (w : World) (v : Value) (w' : World) : Prop := ∃ q k d, v = .slice q k d ∧ (k = 0 ↔ ∀ x ∈ l, x = 0) ∧ Mod [] w w'
set_option maxRecDepth 100000 in
set_option maxHeartbeats 1000000 in
theorem trim_any (p : Option Addr) (n c : Nat) (l : List Int) (w : World) (h : Sl w 1 p n c (bs l)) :
    Calls Tryz.prog 62 #[.slice p n c, .string ⟨#[0]⟩] w (Ret (TrimM l w)) := by
  have hln : l.length = n := by have := h.len; rw [bs_len] at this; omega
  have H := Lib.hid h
  have HLN := Lib.hid hln
  clear h hln
  rcases Nat.eq_zero_or_pos n with h0 | h0
  · subst h0
    go_enter Tryz.func62, Tryz.ntmps62
    go_wp2
    go_ret
    exact .mk ⟨none, 0, 0, rfl, ⟨fun _ x hx => by rw [List.eq_nil_of_length_eq_zero HLN.out] at hx; simp at hx, fun _ => rfl⟩, Mod.refl _ _⟩
  · go_enter Tryz.func62, Tryz.ntmps62
    go_wp2
    · go_region_held3 (fun w' => True)
        (first | go_keep | trivial)
        (first
          | (go_at_call 69; refine (trimr_any p n c l _ (H.out.mod (Mod.of_drew w) (by simp))).mono ?_; rintro _ w1 ⟨_, rfl, k1, hk1, rfl, hz1, rfl⟩; (have HZ1 := Lib.hid hz1); (have hk2 : k1 ≤ n := by rw [← HLN.out]; exact hk1); (have HS1 := Lib.hid ((H.out.mod (Mod.of_drew w) (by simp)).takeb Tryz.underlying40 sizeBytes hk2)); clear hk1 hz1)
          | (go_at_call 68; refine (triml_any p k1 c (l.take k1) _ HS1.out).mono ?_; rintro _ w2 ⟨_, rfl, q2, k2, d2, rfl, hz2, rfl⟩; (have HZ2 := Lib.hid hz2); clear hz2))
      all_goals
        go_wp2
        go_ret
        exact .mk ⟨q2, k2, d2, rfl, HZ2.out.trans ⟨fun h x hx => by
          rw [← List.take_append_drop k1 l] at hx
          rcases List.mem_append.1 hx with hx | hx
          · exact h x hx
          · exact HZ1.out x hx, fun h x hx => h x (List.mem_of_mem_take hx)⟩, Mod.of_drew w⟩

theorem uStr : Tryz.prog.underlying 9 = some .string := Tryz.underlying9
theorem uU8 : Tryz.prog.underlying 5 = some (.int .u8) := Tryz.underlying5
def EqB (b : Bool) (w : World) (v : Value) (w' : World) : Prop := v = .bool b ∧ w' = w
set_option maxRecDepth 100000 in
theorem equal_any (p q : Option Addr) (n m c d : Nat) (l k : List Int) (w : World) (h1 : BytesIn w p n c l) (h2 : BytesIn w q m d k) :
    Calls Tryz.prog 67 #[.slice p n c, .slice q m d] w (Ret (EqB (decide (l = k)) w)) := by
  have g1 := h1.sl.str (P := Tryz.prog) 40 5 9 Tryz.underlying40 uU8 uStr
  have g2 := h2.sl.str (P := Tryz.prog) 40 5 9 Tryz.underlying40 uU8 uStr
  have HB := Lib.hid (str_beq h1.wf h2.wf)
  obtain ⟨B, hB⟩ : ∃ B, B = decide (l = k) := ⟨_, rfl⟩
  rw [← hB] at HB ⊢
  generalize strOfNums l = s1 at *
  generalize strOfNums k = s2 at *
  clear hB h1 h2
  go_enter Tryz.func67, Tryz.ntmps67
  go_wp2
  go_ret
  exact .mk ⟨by rw [← HB.out]; rfl, rfl⟩
end Go.Proofs.YtgimdodbajhpoaaGreatDoor
namespace Go.Proofs.YtgimdodbajhpoaaGreatDoor
open Go.RowKit Go.Maps
set_option linter.unusedSimpArgs false
set_option linter.unusedVariables false

set_option maxRecDepth 100000 in
theorem hasprefix_any (p q : Option Addr) (n m c d : Nat) (l k : List Int) (w : World) (h1 : BytesIn w p n c l) (h2 : BytesIn w q m d k) :
    Calls Tryz.prog 61 #[.slice p n c, .slice q m d] w (Ret (EqB (decide (l.take k.length = k)) w)) := by
  have e1 := h1.len; have e2 := h2.len
  have HB : Hid (m ≤ n → decide (l.take m = k) = decide (l.take k.length = k)) := fun _ => by rw [e2]
  have HB0 : Hid (¬ m ≤ n → decide (l.take k.length = k) = false) := fun h => decide_eq_false fun e => h (by
    have := congrArg List.length e; rw [List.length_take] at this; omega)
  obtain ⟨B, hB⟩ : ∃ B, B = decide (l.take k.length = k) := ⟨_, rfl⟩
  rw [← hB] at HB HB0 ⊢
  have hc := h1.sl.capm; have hc2 := h1.sl.le
  unfold maxLen at hc
  have H1 := Lib.hid h1; have H2 := Lib.hid h2
  clear h1 h2 hB e1 e2
  by_cases hmn : m ≤ n
  · have hb : decide (m ≤ n) = true := decide_eq_true hmn
    obtain ⟨r1, s1⟩ := H1.out.sl.sub_h Tryz.underlying40 sizeBytes m .i64 hmn
    have HS : Hid (BytesIn w p m c (l.take m)) := ⟨by rw [Nat.mul_one] at s1; simpa [bs, List.map_take] using s1, fun x hx => H1.out.wf x (List.mem_of_mem_take hx)⟩
    have HB' := Lib.hid (HB.out hmn)
    clear s1
    go_enter Tryz.func61, Tryz.ntmps61
    go_wp2_with fail
    refine (equal_any p q m m c d (l.take m) k _ HS.out H2.out).mono ?_
    rintro _ w1 ⟨_, rfl, rfl, rfl⟩
    rw [HB'.out]
    go_wp2
    go_ret
    exact .mk ⟨rfl, rfl⟩
  · have hb : decide (m ≤ n) = false := decide_eq_false hmn
    have HB' := Lib.hid (HB0.out hmn)
    go_enter Tryz.func61, Tryz.ntmps61
    go_wp2
    go_ret
    exact .mk ⟨by rw [HB'.out]; rfl, rfl⟩
end Go.Proofs.YtgimdodbajhpoaaGreatDoor
