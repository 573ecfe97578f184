/- The document's order of rows of bytes. Functions of Go's library on bytes: Grow, Concat, Trim of zeros, Equal, HasPrefix. Functions of Go's library on bytes: Trim of zeros, Equal, HasPrefix. Roots: what they are, plainly; a name; a root by itself. A root by itself: may it be? The program's and the document's. -/
import Derived.Lib.AppendZeros
import Derived.Test.YtpdkkokgpdabhaaDoorG02
namespace Go.Proofs.YtpdkkokgpdabhaaDoor
open Go.RowKit Go.Maps
set_option linter.unusedSimpArgs false
set_option linter.unusedVariables false

theorem less_skip : ∀ {l k : List Int} {i : Nat}, l.take i = k.take i → i ≤ l.length → i ≤ k.length → less l k = less (l.drop i) (k.drop i)
  | _, _, 0, _, _, _ => rfl
  | [], _, i + 1, _, h, _ => by simp at h
  | _ :: _, [], i + 1, _, _, h => by simp at h
  | x :: a, y :: b, i + 1, h, h1, h2 => by
    simp only [List.take_succ_cons, List.cons.injEq] at h
    simp only [less, h.1, if_true, List.drop_succ_cons]
    exact less_skip h.2 (by simpa using h1) (by simpa using h2)
set_option maxRecDepth 100000 in
set_option maxHeartbeats 2000000 in
theorem qless_any (p q : Option Addr) (n m c d : Nat) (l k : List Int) (w : World) (h1 : BytesIn w p n c l) (h2 : BytesIn w q m d k) :
    Calls Tryd.prog 30 #[.slice p n c, .slice q m d] w (Ret fun v w' => v = .bool (less l k) ∧ Mod [] w w') := by
  have hl := h1.len; have hk := h2.len
  have hcm := h1.sl.capm; have hle := h1.sl.le
  have hcm2 := h2.sl.capm; have hle2 := h2.sl.le
  unfold maxLen at hcm hcm2
  obtain ⟨b, off, hp, hcs⟩ := h1.sl.at_
  have hidx := fun W => Sl.idx (P := Tryd.prog) (cap := c) Tryd.underlying23 sizeBytes (fun h => (hp h).1) W .i64
  obtain ⟨b2, off2, hp2, hcs2⟩ := h2.sl.at_
  have hidx2 := fun W => Sl.idx (P := Tryd.prog) (cap := d) Tryd.underlying23 sizeBytes (fun h => (hp2 h).1) W .i64
  simp only [Nat.mul_one] at hidx hidx2
  have HA : Hid (∀ i, i < n → ∃ x, l[i]? = some x ∧ w.cell? ⟨b, off + i, none⟩ = some (.int .u8 x)) := fun i hi => by
    have hi2 : i < l.length := by omega
    exact ⟨_, List.getElem?_eq_getElem hi2, by have := hcs i _ (bs_get hi2); rwa [getD_at hi2] at this⟩
  have HB : Hid (∀ i, i < m → ∃ x, k[i]? = some x ∧ w.cell? ⟨b2, off2 + i, none⟩ = some (.int .u8 x)) := fun i hi => by
    have hi2 : i < k.length := by omega
    exact ⟨_, List.getElem?_eq_getElem hi2, by have := hcs2 i _ (bs_get hi2); rwa [getD_at hi2] at this⟩
  have HLT : Hid (0 < n → b < w.heap.size) := fun h => (hp h).2
  have HLT2 : Hid (0 < m → b2 < w.heap.size) := fun h => (hp2 h).2
  have HL := Lib.hid hl
  have HK := Lib.hid hk
  clear h1 h2 hp hcs hp2 hcs2 hl hk
  go_enter Tryd.func30, Tryd.ntmps30
  go_wp2
  go_loopw [5] (fun iv wr => ∃ i : Nat, i ≤ n ∧ i ≤ m ∧ iv = .int .i64 i ∧ l.take i = k.take i ∧ Mod [] w wr) (fun iv _ => n - (intOf iv).toNat)
  case atStart => exact ⟨0, by omega, by omega, rfl, rfl, Mod.refl _ _⟩
  case round =>
    obtain ⟨i, hi, hj, rfl, ht, hm⟩ := hrel
    have HT := Lib.hid ht
    have HM := Lib.hid hm
    clear ht hm
    by_cases h1 : i < n
    · by_cases h2 : i < m
      · obtain ⟨x, hx, d0⟩ := HA.out i h1
        obtain ⟨y, hy, d1⟩ := HB.out i h2
        rw [← HM.out.cell (a := ⟨b, _, none⟩) (HLT.out (by omega)) (by simp)] at d0
        rw [← HM.out.cell (a := ⟨b2, _, none⟩) (HLT2.out (by omega)) (by simp)] at d1
        have hd1 : l.drop i = x :: l.drop (i + 1) := by
          obtain ⟨g1, g2⟩ := List.getElem?_eq_some_iff.1 hx
          rw [List.drop_eq_getElem_cons g1, g2]
        have hd2 : k.drop i = y :: k.drop (i + 1) := by
          obtain ⟨g1, g2⟩ := List.getElem?_eq_some_iff.1 hy
          rw [List.drop_eq_getElem_cons g1, g2]
        have hless : less l k = less (x :: l.drop (i + 1)) (y :: k.drop (i + 1)) := by
          rw [less_skip HT.out (by rw [HL.out]; exact hi) (by rw [HK.out]; exact hj), hd1, hd2]
        have hwi : IntKind.i64.wrap ((i : Int) + 1) = (i : Int) + 1 := IntWalk.i64_in _ (by omega)
        have hi1 := fun W => hidx W i h1
        have hi2 := fun W => hidx2 W i h2
        by_cases hxy : x = y
        · have HTT : Hid (l.take (i + 1) = k.take (i + 1)) := by
            obtain ⟨g1, g2⟩ := List.getElem?_eq_some_iff.1 hx
            obtain ⟨g3, g4⟩ := List.getElem?_eq_some_iff.1 hy
            unfold Hid; rw [List.take_succ_eq_append_getElem g1, List.take_succ_eq_append_getElem g3, HT.out, g2, g4, hxy]
          have hb : (x != y) = false := by simp [hxy]
          clear hx hy hd1 hd2 hless hxy
          go_wp2_with fail
          go_quiet (fail)
          go_wp2
          go_roundw
          case rel => exact ⟨i + 1, by omega, by omega, by go_num, HTT.out, HM.out.drewN⟩
          case measure => simp [intOf]; omega
        · have HE : Hid (less l k = decide (x < y)) := by rw [hless]; simp [less, hxy, Hid]
          have hb : (x != y) = true := by simp [hxy]
          clear hx hy hd1 hd2 hless hxy
          go_wp2_with fail
          go_quiet (fail)
          go_wp2_with fail
          go_quiet (fail)
          go_wp2
          go_ret
          exact .mk ⟨by rw [HE.out]; rfl, HM.out.drewN.drewN⟩
      · obtain rfl : i = m := by omega
        have HE : Hid (less l k = false) := by
          unfold Hid
          rw [less_skip HT.out (by rw [HL.out]; exact hi) (by rw [HK.out]; exact hj), List.drop_of_length_le (l := k) (by rw [HK.out]; omega)]
          cases l.drop i <;> rfl
        go_wp2
        go_ret
        exact .mk ⟨by rw [HE.out]; simp; omega, HM.out⟩
    · obtain rfl : i = n := by omega
      have HE : Hid (less l k = decide (i < m)) := by
        unfold Hid
        rw [less_skip HT.out (by rw [HL.out]; exact hi) (by rw [HK.out]; exact hj), List.drop_of_length_le (l := l) (by rw [HL.out]; omega)]
        by_cases h3 : i < m
        · rw [decide_eq_true h3, List.drop_eq_getElem_cons (by rw [HK.out]; exact h3)]; rfl
        · rw [decide_eq_false h3, List.drop_of_length_le (by rw [HK.out]; omega)]; rfl
      go_wp2
      go_ret
      exact .mk ⟨by rw [HE.out]; simp, HM.out⟩
end Go.Proofs.YtpdkkokgpdabhaaDoor
namespace Go.Proofs.YtpdkkokgpdabhaaDoor
open Go.RowKit Go.Maps
set_option linter.unusedSimpArgs false
set_option linter.unusedVariables false

def GrowR (w : World) (v : Value) (w' : World) : Prop := ∃ p c, v = .slice p 0 c ∧ w'.ownsRow w.heap.size 5 1 (.slice p 0 c) 0 [] ∧ Mod [] w w'
set_option maxRecDepth 100000 in
set_option maxHeartbeats 1000000 in
theorem grow_any (n : Nat) (w : World) (hn : n ≤ 2 ^ 30) : Calls Tryd.prog 37 #[.slice none 0 0, .int .i64 n] w (Ret (GrowR w)) := by
  obtain ⟨i0, hi0, hz0, hz1, hz2⟩ := info_parts infoU8
  rcases Nat.eq_zero_or_pos n with h0 | h0
  · subst h0
    go_enter Tryd.func37, Tryd.ntmps37
    go_wp2
    go_ret
    exact .mk ⟨none, 0, rfl, World.ownsRow_nil _ _ _ _, Mod.refl _ _⟩
  · obtain ⟨C, hC⟩ : ∃ C, C = grownCap w n 0 5 := ⟨_, rfl⟩
    have hge : n ≤ C := by rw [hC]; exact grownCap_ge w n 0 _
    have hcm : C ≤ maxLen := by rw [hC]; exact grownCap_le_maxLen w n 0 _ (by unfold maxLen; omega)
    have hr := Lib.run_append_nil_zeros (P := Tryd.prog) w 23 3 23 5 i0 (.int .u8 0) .i64 .i64 Tryd.underlying23 Tryd.underlying3 hi0 hz0 n h0 (by rw [hz1]; omega) (by omega) (by rw [hz2]; omega)
    rw [← hC] at hr
    obtain ⟨cur, hcur⟩ : ∃ cur, cur = Builtin.zeroCells (Value.int IntKind.u8 0).cells n ++ Builtin.zeroCells (Value.int IntKind.u8 0).cells (C - n) := ⟨_, rfl⟩
    have hsz : cur.size = C := by rw [hcur, Array.size_append, size_zeroCells, size_zeroCells]; simp [Value.cells]; omega
    rw [← hcur] at hr
    have HB : Hid ((w.drew.alloc (.cells cur 5)).heap[w.heap.size]? = some (.cells cur 5 (0, 0))) := at_alloc w.drew _
    have HM : Hid (Mod [] w (w.drew.alloc (.cells cur 5))) := (Mod.of_drew w).alloc
    have HSZ := Lib.hid hsz
    clear hC hsz hcur
    unfold maxLen at hcm
    go_enter Tryd.func37, Tryd.ntmps37
    have r0 : ∀ (W : World), (Instr.slice 23 (.slice (some ⟨w.heap.size, 0, none⟩) n C) none (some (.int .i64 0)) none).run Tryd.prog W = .ok (.slice (some ⟨w.heap.size, 0, none⟩) 0 C) W := fun W => by
      rw [run_slice_h W _ _ _ _ Tryd.underlying23 .i64 0 (by omega) (by omega), sizeBytes]; simp [Result.andThen, sliced, Addr.add]
    go_wp2_with (first
      | (at_builtin; go_must (refine Lib.wpList_append_run _ rfl _ _ _ _ rfl _ _ rfl rfl _ _ hr ?_))
      | go_in)
    go_ret
    exact .mk ⟨some ⟨w.heap.size, 0, none⟩, C, rfl, ⟨by simp, Or.inr ⟨w.heap.size, C, cur, rfl, Nat.le_refl _, HB.out, by omega, by unfold maxLen; omega, by simpa using HSZ.out, by simp⟩⟩, HM.out⟩

/-- A part: its address, its length and capacity, its bytes. -/
abbrev Part := Option Addr × Nat × Nat × List Int
def pv (x : Part) : Value := .slice x.1 x.2.1 x.2.2.1
def flat (l : List Part) : List Int := l.flatMap fun x => x.2.2.2
theorem flat_succ {l : List Part} {k : Nat} (hk : k < l.length) : flat (l.take (k + 1)) = flat (l.take k) ++ (l[k]).2.2.2 := by
  unfold flat; rw [List.take_succ_eq_append_getElem hk, List.flatMap_append]; simp only [List.flatMap_cons, List.flatMap_nil, List.append_nil]
theorem flat_le {l : List Part} {k : Nat} : (flat (l.take k)).length ≤ (flat l).length := by
  conv => rhs; rw [← List.take_append_drop k l]
  unfold flat; rw [List.flatMap_append, List.length_append]; exact Nat.le_add_right _ _
structure PartsAt (w : World) (p : Option Addr) (n c : Nat) (l : List Part) : Prop where
  sl : Sl w 1 p n c (l.map pv)
  each : ∀ x ∈ l, Sl w 1 x.1 x.2.1 x.2.2.1 (bs x.2.2.2)
theorem PartsAt.mod {w w' : World} {p : Option Addr} {n c : Nat} {l : List Part} (h : PartsAt w p n c l) (hm : Mod [] w w') : PartsAt w' p n c l :=
  ⟨h.sl.mod hm (by simp), fun x hx => (h.each x hx).mod hm (by simp)⟩
theorem PartsAt.len {w : World} {p : Option Addr} {n c : Nat} {l : List Part} (h : PartsAt w p n c l) : l.length = n := by have := h.sl.len; rw [List.length_map] at this; omega
/-- A row of parts that has just been made. -/
theorem PartsAt.new (w : World) (l : List Part) (T : TypeId) (hm : l.length ≤ maxLen) (h : ∀ x ∈ l, Sl w 1 x.1 x.2.1 x.2.2.1 (bs x.2.2.2)) : PartsAt (w.alloc (.cells (l.map pv).toArray T)) (some ⟨w.heap.size, 0, none⟩) l.length l.length l :=
  ⟨Sl.new w _ T 1 l.length (by simp) hm (by intro u hu; obtain ⟨x, _, rfl⟩ := List.mem_map.1 hu; rfl), fun x hx => (h x hx).mod (Mod.of_alloc w _) (by simp)⟩
theorem sizeRows (W : World) : (sizeOf (Tryd.prog.elem 55)).run Tryd.prog W = .ok 1 W := by kernel_rfl

set_option maxRecDepth 100000 in
set_option maxHeartbeats 1000000 in
theorem concat_any (p : Option Addr) (n c : Nat) (l : List Part) (w : World) (h : PartsAt w p n c l) (hb : (flat l).length ≤ 2 ^ 30) :
    Calls Tryd.prog 22 #[.slice p n c] w (Ret (BytesR (flat l) w)) := by
  obtain ⟨i0, hi0, hz0, hz1, hz2⟩ := info_parts infoU8
  have hln := h.len
  have hcm := h.sl.capm; have hle := h.sl.le
  unfold maxLen at hcm
  obtain ⟨b, off, hp, hcs⟩ := h.sl.at_
  have hidx := fun W => Sl.idx (P := Tryd.prog) (cap := c) Tryd.underlying55 sizeRows (fun h => (hp h).1) W .i64
  have HCS := Lib.hid hcs
  have HLT : Hid (0 < n → b < w.heap.size) := fun h => (hp h).2
  have H := Lib.hid h
  have HLN := Lib.hid hln
  clear h hp hcs hln
  go_enter Tryd.func22, Tryd.ntmps22
  go_wp2
  go_loop [3, 11] (fun s i => ∃ k : Nat, k ≤ n ∧ i = .int .i64 k ∧ s = .int .i64 ((flat (l.take k)).length : Nat)) (fun _ i => n - (intOf i).toNat)
  case atStart => exact ⟨0, by omega, rfl, by simp [flat]⟩
  case round =>
    obtain ⟨k, hk, rfl, rfl⟩ := hrel
    have hfl : (flat (l.take k)).length ≤ 1073741824 := Nat.le_trans flat_le hb
    by_cases hlt : k < n
    · have hkl : k < l.length := by rw [HLN.out]; exact hlt
      have d0 := HCS.out k (pv l[k]) (by simp [List.getElem?_eq_getElem hkl])
      have hx := (H.out.each _ (List.getElem_mem hkl)).len
      rw [bs_len] at hx
      have HF : Hid ((flat (l.take (k + 1))).length = (flat (l.take k)).length + l[k].2.1) := by unfold Hid; rw [flat_succ hkl, List.length_append, hx]; omega
      have hf2 : (flat (l.take k)).length + l[k].2.1 ≤ 1073741824 := by rw [← HF.out]; exact Nat.le_trans flat_le hb
      unfold pv at d0
      generalize l[k] = x at *
      generalize x.2.1 = m at *
      generalize (flat (l.take k)).length = F at *
      have hw1 : IntKind.i64.wrap ((F : Int) + (m : Int)) = ((F + m : Nat) : Int) := by rw [IntWalk.i64_in _ (by omega)]; omega
      clear hx hkl
      go_wp2
      go_round
      case rel => exact ⟨k + 1, by omega, by go_num, by rw [HF.out, Int.natCast_add]⟩
      case measure => simp [intOf]; omega
    · obtain rfl : k = n := by omega
      have HT : Hid (l.take k = l) := List.take_of_length_le (by rw [HLN.out]; omega)
      rw [HT.out] at hfl ⊢
      go_wp2_with fail
      refine (grow_any _ _ (by omega)).mono ?_
      rintro _ w1 ⟨_, rfl, q, d, rfl, hown, hm⟩
      have HO := Lib.hid hown
      have HM := Lib.hid hm
      clear hown hm
      go_wp2
      go_loopw [6, 27] (fun o i wr => ∃ (j m : Nat) (q : Option Addr) (d : Nat), j ≤ k ∧ i = .int .i64 j ∧ o = .slice q m d ∧ m = (flat (l.take j)).length ∧ wr.ownsRow w.heap.size 5 1 (.slice q m d) m (bs (flat (l.take j))) ∧ Mod [] w wr) (fun _ i _ => k - (intOf i).toNat)
      case atStart => exact ⟨0, 0, q, d, by omega, rfl, rfl, by simp [flat], by simpa [flat, bs] using HO.out, HM.out⟩
      case round =>
        clear HO HM
        obtain ⟨j, m, q, d, hj, rfl, rfl, hm, hown, hmd⟩ := hrel
        have HO := Lib.hid hown
        have HM := Lib.hid hmd
        have HMM := Lib.hid hm
        have hml : m ≤ 1073741824 := by rw [hm]; exact Nat.le_trans flat_le hb
        have hsz := hmd.size
        clear hown hmd hm
        by_cases hlt : j < k
        · have hkl : j < l.length := by rw [HLN.out]; exact hlt
          have d0 := HCS.out j (pv l[j]) (by simp [List.getElem?_eq_getElem hkl])
          rw [← HM.out.cell (a := ⟨b, off + j, none⟩) (HLT.out (by omega)) (by simp)] at d0
          have hx := H.out.each _ (List.getElem_mem hkl)
          have hx2 := Lib.hid (hx.mod HM.out (by simp))
          have HF : Hid (flat (l.take (j + 1)) = flat (l.take j) ++ l[j].2.2.2) := flat_succ hkl
          have hxl := hx.len
          rw [bs_len] at hxl
          have hf2 : m + l[j].2.1 ≤ 1073741824 := by
            have : (flat (l.take (j + 1))).length = m + l[j].2.1 := by rw [HF.out, List.length_append, ← HMM.out]; omega
            rw [← this]; exact Nat.le_trans flat_le hb
          unfold pv at d0
          generalize l[j] = x at *
          obtain ⟨x1, x2, x3, x4⟩ := x
          simp only at d0 hx2 HF hf2 hxl
          clear hx hkl
          have HXL := Lib.hid hxl
          clear hxl
          go_wp2_with (first
            | (at_builtin; go_must (refine wpList_append_src _ rfl _ _ _ rfl w.heap.size 5 i0 _ 1 1 Tryd.underlying23 hi0 hz0 hz1 hz2 rfl (by omega) (.slice q m d) m (bs (flat (l.take j))) rfl HO.out _ _ _ (bs x4) rfl hx2.out (m + x2) rfl (by unfold maxLen; omega) (by omega) hsz ?_); intro p' c' w1 hown1 hgrow hnil hlie; (have HO1 := Lib.hid hown1); (have HG1 := Lib.hid hgrow); clear hown1 hgrow hnil hlie)
            | go_in)
          go_roundw
          case rel => exact ⟨j + 1, m + x2, p', c', by omega, by go_num, rfl, by rw [HF.out, List.length_append, ← HMM.out, HXL.out]; omega, by rw [HF.out, bs_append]; exact HO1.out, HM.out.trans (Mod.of_grown' HG1.out) (fun b hb => Or.inr (by
            have := own_base HO.out b (by simpa using hb); omega))⟩
          case measure => simp [intOf]; omega
        · obtain rfl : j = k := by omega
          rw [HT.out] at HMM HO
          go_wp2
          go_ret
          exact .mk ⟨q, m, d, rfl, HMM.out, HO.out, HM.out⟩
end Go.Proofs.YtpdkkokgpdabhaaDoor
namespace Go.Proofs.YtpdkkokgpdabhaaDoor
open Go.RowKit Go.Maps
set_option linter.unusedSimpArgs false
set_option linter.unusedVariables false

def BoolM (b : Bool) (w : World) (v : Value) (w' : World) : Prop := v = .bool b ∧ Mod [] w w'
/-- A part of bytes: the first k are left; the others are zeros. -/
def TrimRR (p : Option Addr) (c : Nat) (l : List Int) (w : World) (v : Value) (w' : World) : Prop := ∃ k, k ≤ l.length ∧ v = .slice p k c ∧ (∀ x ∈ l.drop k, x = 0) ∧ w' = w
theorem drop_zero_succ {l : List Int} {k : Nat} (hk : k < l.length) (h0 : l.getD k 0 = 0) (h : ∀ x ∈ l.drop (k + 1), x = 0) : ∀ x ∈ l.drop k, x = 0 := by
  rw [List.drop_eq_getElem_cons hk]
  intro x hx
  rcases List.mem_cons.1 hx with rfl | hx
  · rwa [getD_at hk] at h0
  · exact h x hx
set_option maxRecDepth 100000 in
set_option maxHeartbeats 1000000 in
theorem trimr_any (p : Option Addr) (n c : Nat) (l : List Int) (w : World) (h : Sl w 1 p n c (bs l)) :
    Calls Tryd.prog 42 #[.slice p n c, .int .u8 0] w (Ret (TrimRR p c l w)) := by
  have hln : l.length = n := by have := h.len; rw [bs_len] at this; omega
  have hcm := h.capm; have hle := h.le
  unfold maxLen at hcm
  obtain ⟨b, off, hp, hcs⟩ := h.at_
  have HLT : Hid (0 < n → b < w.heap.size) := fun h => (hp h).2
  have HPP : Hid (0 < n → p = some ⟨b, off, none⟩) := fun h => (hp h).1
  have HCS := Lib.hid hcs
  have HLN := Lib.hid hln
  clear h hp hcs hln
  go_enter Tryd.func42, Tryd.ntmps42
  go_wp2
  go_loopw [0] (fun s wr => ∃ k : Nat, k ≤ n ∧ s = .slice p k c ∧ (∀ x ∈ l.drop k, x = 0) ∧ wr = w) (fun s _ => match s with | .slice _ k _ => k | _ => 0)
  case atStart => exact ⟨n, by omega, rfl, by rw [List.drop_of_length_le (by have := HLN.out; omega)]; simp, rfl⟩
  case round =>
    obtain ⟨k, hk, rfl, hz, rfl⟩ := hrel
    have HZ := Lib.hid hz
    clear hz
    rcases Nat.eq_zero_or_pos k with h0 | h0
    · subst h0
      go_wp2
      go_ret
      exact .mk ⟨0, by omega, rfl, HZ.out, rfl⟩
    · obtain ⟨j, hj⟩ : ∃ j, j = k - 1 := ⟨_, rfl⟩
      have hjl : j < l.length := by have := HLN.out; omega
      have hjk : j < k := by omega
      have hjc : j ≤ c := by omega
      have d0 := HCS.out j _ (bs_get hjl)
      have hidx := fun W => Sl.idx (P := Tryd.prog) (cap := c) (m := k) (size := 1) Tryd.underlying23 sizeBytes (fun _ => HPP.out (by omega)) W .i64 j hjk
      have hw1 : IntKind.i64.wrap ((k : Int) - 1) = (j : Int) := by rw [IntWalk.i64_in _ (by omega)]; omega
      have hw2 : wrap64 ((k : Int) - 1) = (j : Int) := by unfold wrap64; omega
      have hsl : ∀ q W, (Instr.slice 23 (.slice p k c) none (some (.int q (j : Int))) none).run Tryd.prog W = .ok (.slice p j c) W := fun q W => by
        rw [run_slice_h W _ p k c Tryd.underlying23 q j (by omega) (by omega), sizeBytes]
        simp only [Result.andThen, sliced, Int.toNat_natCast, Nat.sub_zero, Nat.zero_mul]
        cases p with
        | none => simp
        | some a => simp [Addr.add]
      obtain ⟨x, hx⟩ : ∃ x, x = l.getD j 0 := ⟨_, rfl⟩
      rw [← hx] at d0
      have HX := Lib.hid hx
      have HJ := Lib.hid hj
      clear hx hj
      by_cases hx0 : x = 0
      · have hb : (x == 0) = true := by simp [hx0]
        have HX0 := Lib.hid hx0
        clear hx0
        go_wp2
        go_roundw
        case rel => exact ⟨j, by omega, rfl, drop_zero_succ hjl (by rw [← HX.out]; exact HX0.out) (by have := HJ.out; rw [show j + 1 = k from by omega]; exact HZ.out), by first | rfl | trivial⟩
        case measure => exact hjk
      · have hb : (x == 0) = false := by simp [hx0]
        clear hx0
        go_wp2
        go_ret
        exact .mk ⟨k, by have := HLN.out; omega, rfl, HZ.out, rfl⟩
/-- A part of bytes: none is left just if all are zeros. -/
def TrimLR (l : List Int) (w : World) (v : Value) (w' : World) : Prop := ∃ q k d, v = .slice q k d ∧ (k = 0 ↔ ∀ x ∈ l, x = 0) ∧ w' = w
set_option maxRecDepth 100000 in
set_option maxHeartbeats 1000000 in
theorem triml_any (p : Option Addr) (n c : Nat) (l : List Int) (w : World) (h : Sl w 1 p n c (bs l)) :
    Calls Tryd.prog 41 #[.slice p n c, .int .u8 0] w (Ret (TrimLR l w)) := by
  have hln : l.length = n := by have := h.len; rw [bs_len] at this; omega
  have hcm := h.capm; have hle := h.le
  unfold maxLen at hcm
  have H := Lib.hid h
  have HLN := Lib.hid hln
  clear h hln
  go_enter Tryd.func41, Tryd.ntmps41
  go_wp2
  go_loopw [0] (fun s wr => ∃ (k m d : Nat) (q : Option Addr), k + m = n ∧ s = .slice q m d ∧ Sl w 1 q m d (bs (l.drop k)) ∧ (∀ x ∈ l.take k, x = 0) ∧ wr = w) (fun s _ => match s with | .slice _ k _ => k | _ => 0)
  case atStart => exact ⟨0, n, c, p, by omega, rfl, H.out, by simp, rfl⟩
  case round =>
    obtain ⟨k, m, d, q, hk, rfl, hs, hz, rfl⟩ := hrel
    have hdm := hs.capm; have hmd := hs.le
    unfold maxLen at hdm
    have HS := Lib.hid hs
    have HZ := Lib.hid hz
    have HK := Lib.hid hk
    have hkn : k ≤ n := by omega
    clear hs hz hk
    rcases Nat.eq_zero_or_pos m with h0 | h0
    · subst h0
      go_wp2
      go_ret
      exact .mk ⟨none, 0, 0, rfl, ⟨fun _ x hx => HZ.out x (by rwa [List.take_of_length_le (by have := HK.out; have := HLN.out; omega)]), fun _ => rfl⟩, rfl⟩
    · have hkl : k < l.length := by have := HLN.out; have := HK.out; omega
      obtain ⟨b, off, rfl, hlt, hc⟩ := HS.out.addr h0
      have d0 := hc 0 _ (bs_get (l := l.drop k) (by rw [List.length_drop]; omega))
      rw [show (l.drop k).getD 0 0 = l.getD k 0 from by simp [List.getD]] at d0
      have hidx := fun W => Sl.idx (P := Tryd.prog) (cap := d) (m := m) (size := 1) Tryd.underlying23 sizeBytes (fun _ => rfl) W .i64 0 h0 (b := b) (off := off)
      obtain ⟨q2, r2, s2, _⟩ := HS.out.sub_l Tryd.underlying23 sizeBytes 1 .i64 (by omega)
      simp only [show ((1 : Nat) : Int) = 1 from rfl, Nat.mul_one, Nat.zero_mul, show ((0 : Nat) : Int) = 0 from rfl, Nat.add_zero] at r2 s2 hidx d0
      have HS2 := Lib.hid s2
      obtain ⟨x, hx⟩ : ∃ x, x = l.getD k 0 := ⟨_, rfl⟩
      rw [← hx] at d0
      have HX := Lib.hid hx
      clear hx hc s2
      by_cases hx0 : x = 0
      · have hb : (x == 0) = true := by simp [hx0]
        have HX0 := Lib.hid hx0
        clear hx0
        go_wp2
        go_roundw
        case rel => exact ⟨k + 1, m - 1, d - 1, q2, by have := HK.out; omega, rfl, by have := HS2.out; rw [show bs (l.drop (k + 1)) = (bs (l.drop k)).drop 1 from by simp [bs, List.drop_drop]]; exact this, by
            rw [List.take_succ_eq_append_getElem hkl]
            intro y hy
            rcases List.mem_append.1 hy with hy | hy
            · exact HZ.out y hy
            · simp at hy; rw [hy, ← getD_at hkl (d := 0), ← HX.out]; exact HX0.out, by first | rfl | trivial⟩
        case measure => show m - 1 < m; omega
      · have hb : (x == 0) = false := by simp [hx0]
        have HX0 := Lib.hid hx0
        clear hx0
        go_wp2
        go_ret
        exact .mk ⟨_, m, d, rfl, ⟨fun h => by omega, fun h => absurd (h _ (List.getElem_mem hkl)) (by rw [← getD_at hkl (d := 0), ← HX.out]; exact HX0.out)⟩, rfl⟩

theorem Sl.takeb {P : Program} {T : TypeId} {w : World} {p : Option Addr} {n c k : Nat} {l : List Int} (hT : P.underlying T = some (.slice (P.elem T))) (hs : ∀ W : World, (sizeOf (P.elem T)).run P W = .ok 1 W) (h : Sl w 1 p n c (bs l)) (hk : k ≤ n) : Sl w 1 p k c (bs (l.take k)) := by
  have := (h.sub_h hT hs k .i64 hk).2
  rw [Nat.mul_one] at this
  simpa [bs, List.map_take] using this
def TrimM (l : List Int) (w : World) (v : Value) (w' : World) : Prop := ∃ q k d, v = .slice q k d ∧ (k = 0 ↔ ∀ x ∈ l, x = 0) ∧ Mod [] w w'
set_option maxRecDepth 100000 in
set_option maxHeartbeats 1000000 in
theorem trim_any (p : Option Addr) (n c : Nat) (l : List Int) (w : World) (h : Sl w 1 p n c (bs l)) :
    Calls Tryd.prog 26 #[.slice p n c, .string ⟨#[0]⟩] w (Ret (TrimM l w)) := by
  have hln : l.length = n := by have := h.len; rw [bs_len] at this; omega
  have H := Lib.hid h
  have HLN := Lib.hid hln
  clear h hln
  rcases Nat.eq_zero_or_pos n with h0 | h0
  · subst h0
    go_enter Tryd.func26, Tryd.ntmps26
    go_wp2
    go_ret
    exact .mk ⟨none, 0, 0, rfl, ⟨fun _ x hx => by rw [List.eq_nil_of_length_eq_zero HLN.out] at hx; simp at hx, fun _ => rfl⟩, Mod.refl _ _⟩
  · go_enter Tryd.func26, Tryd.ntmps26
    go_wp2
    · go_region_held3 (fun w' => True)
        (first | go_keep | trivial)
        (first
          | (go_at_call 42; refine (trimr_any p n c l _ (H.out.mod (Mod.of_drew w) (by simp))).mono ?_; rintro _ w1 ⟨_, rfl, k1, hk1, rfl, hz1, rfl⟩; (have HZ1 := Lib.hid hz1); (have hk2 : k1 ≤ n := by rw [← HLN.out]; exact hk1); (have HS1 := Lib.hid ((H.out.mod (Mod.of_drew w) (by simp)).takeb Tryd.underlying23 sizeBytes hk2)); clear hk1 hz1)
          | (go_at_call 41; refine (triml_any p k1 c (l.take k1) _ HS1.out).mono ?_; rintro _ w2 ⟨_, rfl, q2, k2, d2, rfl, hz2, rfl⟩; (have HZ2 := Lib.hid hz2); clear hz2))
      all_goals
        go_wp2
        go_ret
        exact .mk ⟨q2, k2, d2, rfl, HZ2.out.trans ⟨fun h x hx => by
          rw [← List.take_append_drop k1 l] at hx
          rcases List.mem_append.1 hx with hx | hx
          · exact h x hx
          · exact HZ1.out x hx, fun h x hx => h x (List.mem_of_mem_take hx)⟩, Mod.of_drew w⟩

theorem uStr : Tryd.prog.underlying 9 = some .string := Tryd.underlying9
theorem uU8 : Tryd.prog.underlying 5 = some (.int .u8) := Tryd.underlying5
def EqB (b : Bool) (w : World) (v : Value) (w' : World) : Prop := v = .bool b ∧ w' = w
set_option maxRecDepth 100000 in
theorem equal_any (p q : Option Addr) (n m c d : Nat) (l k : List Int) (w : World) (h1 : BytesIn w p n c l) (h2 : BytesIn w q m d k) :
    Calls Tryd.prog 40 #[.slice p n c, .slice q m d] w (Ret (EqB (decide (l = k)) w)) := by
  have g1 := h1.sl.str (P := Tryd.prog) 23 5 9 Tryd.underlying23 uU8 uStr
  have g2 := h2.sl.str (P := Tryd.prog) 23 5 9 Tryd.underlying23 uU8 uStr
  have HB := Lib.hid (str_beq h1.wf h2.wf)
  obtain ⟨B, hB⟩ : ∃ B, B = decide (l = k) := ⟨_, rfl⟩
  rw [← hB] at HB ⊢
  generalize strOfNums l = s1 at *
  generalize strOfNums k = s2 at *
  clear hB h1 h2
  go_enter Tryd.func40, Tryd.ntmps40
  go_wp2
  go_ret
  exact .mk ⟨by rw [← HB.out]; rfl, rfl⟩
end Go.Proofs.YtpdkkokgpdabhaaDoor
namespace Go.Proofs.YtpdkkokgpdabhaaDoor
open Go.RowKit Go.Maps
set_option linter.unusedSimpArgs false
set_option linter.unusedVariables false

def chOk (x : Int) : Bool := decide (97 ≤ x ∧ x ≤ 122) || decide (x = 45)
def nameOk (l : List Int) : Bool := l.all chOk && (decide (1 ≤ l.length) && decide (l.length ≤ 24))
structure Rt where
  l : List Int
  page : Int
  count : Int
deriving DecidableEq
def Rt.cells (r : Rt) : List Value := [.string (strOfNums r.l), .int .i64 r.page, .int .i64 r.count]
def Rt.val (r : Rt) : Value := .agg #[.string (strOfNums r.l), .int .i64 r.page, .int .i64 r.count]
def Rt.ok (r : Rt) : Bool := nameOk r.l && ((decide (0 ≤ r.count) && decide (r.count ≤ 2147483647)) && (if r.page = 0 then decide (r.count = 0) else (decide (2 ≤ r.page) && decide (r.page ≤ 2147483647)) && decide (0 < r.count)))
instance : Inhabited Rt := ⟨⟨[], 0, 0⟩⟩

theorem all_take {l : List Int} {p : Int → Bool} {k : Nat} (hk : k < l.length) : (l.take (k + 1)).all p = ((l.take k).all p && p (l.getD k 0)) := by
  rw [List.take_succ_eq_append_getElem hk, List.all_append, getD_at hk]; simp
theorem all_bad {l : List Int} {p : Int → Bool} {k : Nat} (hk : k < l.length) (h : p (l.getD k 0) = false) : l.all p = false := by
  rw [List.all_eq_false]
  exact ⟨l[k], List.getElem_mem hk, by rw [getD_at hk] at h; simp [h]⟩
set_option maxRecDepth 100000 in
set_option maxHeartbeats 4000000 in
theorem mayname_any (l : List Int) (w : World) (h : WfL l) : Calls Tryd.prog 48 #[.string (strOfNums l)] w (Ret (BoolM (nameOk l) w)) := by
  have HSZ := Lib.hid (strOfNums_size l)
  have HBAD : Hid (∀ k, k < l.length → chOk (l.getD k 0) = false → nameOk l = false) := fun k hk hc => by unfold nameOk; rw [all_bad hk hc]; rfl
  have HEND : Hid (l.all chOk = true → nameOk l = (decide (1 ≤ l.length) && decide (l.length ≤ 24))) := fun hc => by unfold nameOk; rw [hc]; rfl
  have HNE : Hid ((strOfNums l).toList.isEmpty = decide (l.length = 0)) := by
    unfold Hid
    rw [str_list]
    cases l <;> simp [Lib.bytesOf]
  have H := Lib.hid h
  clear h
  go_enter Tryd.func48, Tryd.ntmps48
  go_wp2
  go_loopw [4] (fun _ wr => ∃ k : Nat, k ≤ l.length ∧ wr = w.iter (strOfNums l) k ∧ (l.take k).all chOk = true) (fun _ wr => l.length - wr.iterPos w.heap.size)
  case atStart => exact ⟨0, Nat.zero_le _, rfl, rfl⟩
  case round =>
    obtain ⟨k, hk, rfl, hall⟩ := hrel
    have HALL := Lib.hid hall
    have hM : ∀ j, Mod [] w (w.iter (strOfNums l) j) := fun j => Mod.of_alloc w _
    have HM := Lib.hid hM
    have hmu : ∀ j, (w.iter (strOfNums l) j).iterPos w.heap.size = j := fun j => by simp [World.iterPos, World.iter_heap]
    have HMU := Lib.hid hmu
    clear hall hM hmu
    by_cases hlt : k < l.length
    · have hks : k < (strOfNums l).size := by rw [strOfNums_size]; exact hlt
      obtain ⟨g1, g2, g3⟩ := str_index H.out hlt
      have HT := Lib.hid (all_take (p := chOk) hlt)
      have HB := Lib.hid (HBAD.out k hlt)
      by_cases h128 : l.getD k 0 < 128
      · have hnext : ∀ ty, (Instr.next (.pointer (some ⟨w.heap.size, 0, none⟩)) true ty).run Tryd.prog (w.iter (strOfNums l) k) = .ok (.tuple #[.bool true, .int .i64 k, .int .i32 (l.getD k 0)]) (w.iter (strOfNums l) (k + 1)) := fun ty => by
          rw [run_next_ascii w (strOfNums l) k ty hks (by rw [g1]; omega), g1, Int.toNat_of_nonneg g2]
        generalize l.getD k 0 = x at *
        clear hks g1
        by_cases hc : chOk x = true
        · have HA : Hid ((l.take (k + 1)).all chOk = true) := by unfold Hid; rw [HT.out, HALL.out, hc]; rfl
          unfold chOk at hc
          by_cases h45 : x = 45
          · subst h45
            clear hc
            go_wp2
            go_roundw
            case rel => exact ⟨k + 1, by omega, rfl, HA.out⟩
            case measure => rw [HMU.out, HMU.out]; omega
          · have h97 : 97 ≤ x ∧ x ≤ 122 := by simpa [h45] using hc
            obtain ⟨h97, h122⟩ := h97
            clear hc
            go_wp2
            go_roundw
            case rel => exact ⟨k + 1, by omega, rfl, HA.out⟩
            case measure => rw [HMU.out, HMU.out]; omega
        · have hcf : chOk x = false := by simpa using hc
          have HN := Lib.hid (HB.out hcf)
          unfold chOk at hcf
          simp only [Bool.or_eq_false_iff, decide_eq_false_iff_not] at hcf
          obtain ⟨hc1, hc2⟩ := hcf
          clear hc
          by_cases h97 : x < 97
          · clear hc1
            go_wp2
            go_ret
            exact .mk ⟨by rw [HN.out] <;> rfl, HM.out _⟩
          · have h122 : 122 < x := by omega
            clear hc1
            go_wp2
            go_ret
            exact .mk ⟨by rw [HN.out] <;> rfl, HM.out _⟩
      · have hdec : 128 ≤ (Utf8.decode (strOfNums l) k).1 := decode_high _ _ (by
          have e : (strOfNums l).get! k = (strOfNums l)[k]'hks := by
            show ByteArray.get! _ k = _
            simp [ByteArray.get!, getElem!_pos, hks]
            rfl
          rw [e, g1]; omega)
        have hnext : ∀ ty, (Instr.next (.pointer (some ⟨w.heap.size, 0, none⟩)) true ty).run Tryd.prog (w.iter (strOfNums l) k) = _ := fun ty => Lib.run_next_any_at _ w.heap.size (strOfNums l) k ty (World.iter_heap _ _ _) hks
        have HN := Lib.hid (HB.out (by unfold chOk; rw [decide_eq_false (by omega), decide_eq_false (by omega)]; rfl))
        have HM2 : Hid (Mod [] w ((w.iter (strOfNums l) k).iterAt w.heap.size (strOfNums l) (k + (Utf8.decode (strOfNums l) k).2))) := by
          have e : (w.iter (strOfNums l) k).iterAt w.heap.size (strOfNums l) (k + (Utf8.decode (strOfNums l) k).2) = w.iter (strOfNums l) (k + (Utf8.decode (strOfNums l) k).2) := World.iter_set _ _ _ _
          unfold Hid; rw [e]; exact HM.out _
        generalize (w.iter (strOfNums l) k).iterAt w.heap.size (strOfNums l) (k + (Utf8.decode (strOfNums l) k).2) = W2 at *
        generalize (Utf8.decode (strOfNums l) k).1 = D at *
        have h122 : (122 : Int) < (D : Int) := by omega
        have h97 : ¬ ((D : Int) < 97) := by omega
        have h45 : ¬ ((D : Int) = 45) := by omega
        clear hks g1 hdec
        go_wp2
        go_ret
        exact .mk ⟨by rw [HN.out] <;> rfl, HM2.out⟩
    · obtain rfl : k = l.length := by omega
      have hks : ¬ l.length < (strOfNums l).size := by rw [strOfNums_size]; omega
      have hnext : ∀ ty, (Instr.next (.pointer (some ⟨w.heap.size, 0, none⟩)) true ty).run Tryd.prog (w.iter (strOfNums l) l.length) = _ := fun ty => run_next_end w (strOfNums l) l.length ty hks
      have HE : Hid (nameOk l = (decide (1 ≤ l.length) && decide (l.length ≤ 24))) := HEND.out (by have := HALL.out; rwa [List.take_length] at this)
      have hsz := HSZ.out
      have hem := HNE.out
      generalize l.length = n at *
      generalize nameOk l = N at *
      clear hks
      by_cases h0 : n = 0
      · subst h0
        replace hem : (strOfNums l).toList.isEmpty = true := by rw [hem]; rfl
        go_wp2
        go_ret
        exact .mk ⟨by rw [HE.out] <;> rfl, HM.out _⟩
      · replace hem : (strOfNums l).toList.isEmpty = false := by rw [hem]; simp [h0]
        have H24 : Hid (decide ((n : Int) ≤ 24) = N) := by
          unfold Hid
          rw [HE.out, decide_eq_true (show 1 ≤ n by omega), Bool.true_and]
          exact decide_eq_decide.2 (by omega)
        go_wp2
        go_ret
        exact .mk ⟨congrArg Value.bool H24.out, HM.out _⟩
end Go.Proofs.YtpdkkokgpdabhaaDoor
namespace Go.Proofs.YtpdkkokgpdabhaaDoor
open Go.RowKit Go.Maps
set_option linter.unusedSimpArgs false
set_option linter.unusedVariables false

set_option maxRecDepth 100000 in
set_option maxHeartbeats 8000000 in
theorem rmay_any (r : Rt) (w : World) (h : WfL r.l) : Calls Tryd.prog 28 #[r.val] w (Ret (BoolM r.ok w)) := by
  obtain ⟨l, p, c⟩ := r
  have HV : Hid (Rt.ok ⟨l, p, c⟩ = (nameOk l && ((decide (0 ≤ c) && decide (c ≤ 2147483647)) && (if p = 0 then decide (c = 0) else (decide (2 ≤ p) && decide (p ≤ 2147483647)) && decide (0 < c))))) := rfl
  generalize Rt.ok ⟨l, p, c⟩ = V at *
  have H : Hid (WfL l) := h
  have HA := Lib.hid (at_alloc w (.cells #[.string (strOfNums l), .int .i64 p, .int .i64 c] 34))
  have HM1 : Hid (Mod [] w (w.alloc (.cells #[.string (strOfNums l), .int .i64 p, .int .i64 c] 34))) := Mod.of_alloc w _
  have c0 : (w.alloc (.cells #[.string (strOfNums l), .int .i64 p, .int .i64 c] 34)).cell? ⟨w.heap.size, 0, none⟩ = some (.string (strOfNums l)) := cell_of_at HA.out 0
  have c1 : (w.alloc (.cells #[.string (strOfNums l), .int .i64 p, .int .i64 c] 34)).cell? ⟨w.heap.size, 1, none⟩ = some (.int .i64 p) := cell_of_at HA.out 1
  have c2 : (w.alloc (.cells #[.string (strOfNums l), .int .i64 p, .int .i64 c] 34)).cell? ⟨w.heap.size, 2, none⟩ = some (.int .i64 c) := cell_of_at HA.out 2
  clear h
  unfold Rt.val
  simp only
  go_enter Tryd.func28, Tryd.ntmps28
  by_cases p0 : p = 0
  · subst p0
    replace HV : Hid (V = (nameOk l && ((decide (0 ≤ c) && decide (c ≤ 2147483647)) && decide (c = 0)))) := by unfold Hid; rw [HV.out, if_pos rfl]
    go_wp2_with fail
    refine (mayname_any l _ H.out).mono ?_
    rintro _ w2 ⟨_, rfl, rfl, m2⟩
    have HM2 : Hid (Mod [] w w2) := HM1.out.same m2
    have d1 := (m2.cell (a := ⟨w.heap.size, 1, none⟩) (lt_of_at HA.out) (by simp)).trans c1
    have d2 := (m2.cell (a := ⟨w.heap.size, 2, none⟩) (lt_of_at HA.out) (by simp)).trans c2
    clear m2 c0 c1 c2 HM1 HA
    generalize nameOk l = M at *
    cases M with
    | false =>
      have HV0 : Hid (V = false) := by unfold Hid; rw [HV.out]; rfl
      go_wp2
      go_ret
      exact .mk ⟨by rw [HV0.out] <;> rfl, HM2.out⟩
    | true =>
      by_cases e0 : 0 ≤ c
      · by_cases e1 : c ≤ 2147483647
        · by_cases ez : c = 0
          · subst ez
            have HV0 : Hid (V = true) := by unfold Hid; rw [HV.out]; rfl
            go_wp2
            go_ret
            exact .mk ⟨by rw [HV0.out] <;> rfl, HM2.out⟩
          · have cz : (c == 0) = false := by simpa using ez
            have HV0 : Hid (V = false) := by unfold Hid; rw [HV.out, decide_eq_false ez]; simp
            go_wp2
            go_ret
            exact .mk ⟨by rw [HV0.out] <;> rfl, HM2.out⟩
        · have HV0 : Hid (V = false) := by unfold Hid; rw [HV.out, decide_eq_false e1]; simp
          go_wp2
          go_ret
          exact .mk ⟨by rw [HV0.out] <;> rfl, HM2.out⟩
      · have HV0 : Hid (V = false) := by unfold Hid; rw [HV.out, decide_eq_false e0]; simp
        go_wp2
        go_ret
        exact .mk ⟨by rw [HV0.out] <;> rfl, HM2.out⟩
  · have pz : (p == 0) = false := by simpa using p0
    replace HV : Hid (V = (nameOk l && ((decide (0 ≤ c) && decide (c ≤ 2147483647)) && ((decide (2 ≤ p) && decide (p ≤ 2147483647)) && decide (0 < c))))) := by unfold Hid; rw [HV.out, if_neg p0]
    by_cases p2 : 2 ≤ p
    · by_cases pm : p ≤ 2147483647
      · rw [decide_eq_true p2, decide_eq_true pm] at HV
        clear p0
        go_wp2_with fail
        refine (mayname_any l _ H.out).mono ?_
        rintro _ w2 ⟨_, rfl, rfl, m2⟩
        have HM2 : Hid (Mod [] w w2) := HM1.out.same m2
        have d1 := (m2.cell (a := ⟨w.heap.size, 1, none⟩) (lt_of_at HA.out) (by simp)).trans c1
        have d2 := (m2.cell (a := ⟨w.heap.size, 2, none⟩) (lt_of_at HA.out) (by simp)).trans c2
        clear m2 c0 c1 c2 HM1 HA
        generalize nameOk l = M at *
        cases M with
        | false =>
          have HV0 : Hid (V = false) := by unfold Hid; rw [HV.out]; rfl
          go_wp2
          go_ret
          exact .mk ⟨by rw [HV0.out] <;> rfl, HM2.out⟩
        | true =>
          by_cases e0 : 0 ≤ c
          · by_cases e1 : c ≤ 2147483647
            · by_cases ez : c = 0
              · subst ez
                have HV0 : Hid (V = false) := by unfold Hid; rw [HV.out]; rfl
                go_wp2
                go_ret
                exact .mk ⟨by rw [HV0.out] <;> rfl, HM2.out⟩
              · have cz : (c == 0) = false := by simpa using ez
                have HV0 : Hid (V = true) := by unfold Hid; rw [HV.out, decide_eq_true e0, decide_eq_true e1, decide_eq_true (show 0 < c by omega)]; rfl
                go_wp2
                go_ret
                exact .mk ⟨by rw [HV0.out] <;> rfl, HM2.out⟩
            · have HV0 : Hid (V = false) := by unfold Hid; rw [HV.out, decide_eq_false e1]; simp
              go_wp2
              go_ret
              exact .mk ⟨by rw [HV0.out] <;> rfl, HM2.out⟩
          · have HV0 : Hid (V = false) := by unfold Hid; rw [HV.out, decide_eq_false e0]; simp
            go_wp2
            go_ret
            exact .mk ⟨by rw [HV0.out] <;> rfl, HM2.out⟩
      · have HV0 : Hid (V = false) := by unfold Hid; rw [HV.out, decide_eq_false pm]; simp
        clear p0 HV
        go_wp2_with fail
        refine (mayname_any l _ H.out).mono ?_
        rintro _ w2 ⟨_, rfl, rfl, m2⟩
        have HM2 : Hid (Mod [] w w2) := HM1.out.same m2
        have d1 := (m2.cell (a := ⟨w.heap.size, 1, none⟩) (lt_of_at HA.out) (by simp)).trans c1
        have d2 := (m2.cell (a := ⟨w.heap.size, 2, none⟩) (lt_of_at HA.out) (by simp)).trans c2
        clear m2 c0 c1 c2 HM1 HA
        generalize nameOk l = M at *
        cases M with
        | false =>
          go_wp2
          go_ret
          exact .mk ⟨by rw [HV0.out] <;> rfl, HM2.out⟩
        | true =>
          go_wp2
          go_ret
          exact .mk ⟨by rw [HV0.out] <;> rfl, HM2.out⟩
    · have HV0 : Hid (V = false) := by unfold Hid; rw [HV.out, decide_eq_false p2]; simp
      clear p0 HV
      go_wp2_with fail
      refine (mayname_any l _ H.out).mono ?_
      rintro _ w2 ⟨_, rfl, rfl, m2⟩
      have HM2 : Hid (Mod [] w w2) := HM1.out.same m2
      have d1 := (m2.cell (a := ⟨w.heap.size, 1, none⟩) (lt_of_at HA.out) (by simp)).trans c1
      have d2 := (m2.cell (a := ⟨w.heap.size, 2, none⟩) (lt_of_at HA.out) (by simp)).trans c2
      clear m2 c0 c1 c2 HM1 HA
      generalize nameOk l = M at *
      cases M with
      | false =>
        go_wp2
        go_ret
        exact .mk ⟨by rw [HV0.out] <;> rfl, HM2.out⟩
      | true =>
        go_wp2
        go_ret
        exact .mk ⟨by rw [HV0.out] <;> rfl, HM2.out⟩
end Go.Proofs.YtpdkkokgpdabhaaDoor
