/- Numbers as bytes: Unkey. -/
import Derived.Test.YtbbjfgjbjghdiaaDoorNum2
namespace Go.Proofs.YtbbjfgjbjghdiaaDoor
open Go.RowKit Go.Maps
set_option linter.unusedSimpArgs false
set_option linter.unusedVariables false

def AtR (x : Int) (j : Nat) (w : World) (v : Value) (w' : World) : Prop := v = .int .u64 (x * 2 ^ (8 * (7 - j))) ∧ w' = w
set_option maxRecDepth 100000 in
set_option maxHeartbeats 1000000 in
theorem unkey1_any (bx : Nat) (p : Option Addr) (c : Nat) (l : List Int) (j : Nat) (w : World) (h : BytesIn w p 8 c l) (hb : w.cell? ⟨bx, 0, none⟩ = some (.slice p 8 c)) (hj : j < 8) :
    Calls Tryd.prog 63 #[.int .i64 j, .pointer (some ⟨bx, 0, none⟩)] w (Ret (AtR (l.getD j 0) j w)) := by
  have hln := h.len
  obtain ⟨b, off, hp, hcs⟩ := h.sl.at_
  have hidx := fun W => Sl.idx (P := Tryd.prog) (cap := c) Tryd.underlying25 sizeBytes (fun h => (hp h).1) W .i64
  have d0 := hcs j _ (bs_get (by rw [hln]; exact hj))
  have hx := h.wf (l.getD j 0) (by rw [getD_at (by rw [hln]; exact hj)]; exact List.getElem_mem _)
  generalize l.getD j 0 = x at *
  have hw1 : IntKind.u64.wrap x = x := by rw [IntKind.wrap_u64]; omega
  have hw2 : IntKind.i64.wrap (7 - (j : Int)) = ((7 - j : Nat) : Int) := by rw [IntWalk.i64_in _ (by omega)]; omega
  have hw3 : IntKind.i64.wrap (8 * ((7 - j : Nat) : Int)) = ((8 * (7 - j) : Nat) : Int) := by rw [IntWalk.i64_in _ (by omega)]; omega
  have hm7 : 7 - j ≤ 7 := by omega
  generalize hm : 7 - j = m at *
  have hpow : (2 : Int) ^ (8 * m) ≤ 2 ^ 56 := by
    obtain ⟨e, he⟩ : ∃ e, 56 = 8 * m + e := ⟨56 - 8 * m, by omega⟩
    conv => rhs; rw [he, Int.pow_add]
    have h1 : (1 : Int) ≤ 2 ^ e := Int.pow_pos (by omega)
    have h9 := Int.mul_le_mul_of_nonneg_left h1 (Int.le_of_lt (show (0 : Int) < 2 ^ (8 * m) from Int.pow_pos (by omega)))
    rwa [Int.mul_one] at h9
  have hpos : (0 : Int) < 2 ^ (8 * m) := Int.pow_pos (by omega)
  have hsh : IntKind.u64.wrap (x * 2 ^ (8 * m)) = x * 2 ^ (8 * m) := by
    have h1 : x * 2 ^ (8 * m) ≤ 255 * 2 ^ 56 := Int.mul_le_mul (by omega) hpow (Int.le_of_lt hpos) (by omega)
    have h2 : 0 ≤ x * 2 ^ (8 * m) := Int.mul_nonneg hx.1 (Int.le_of_lt hpos)
    rw [IntKind.wrap_u64, Int.emod_eq_of_lt h2 (by omega)]
  have HM := Lib.hid hm
  clear hm
  clear hpow hpos
  clear h hp hcs hln
  go_enter Tryd.func63, Tryd.ntmps63
  go_wp2
  go_ret
  exact .mk ⟨by rw [HM.out]; conv => rhs; rw [← hsh]
                rfl, rfl⟩

/-- One step: the next byte is set below those that are there. -/
theorem unkey_step {l : List Int} (hwf : ∀ x ∈ l, 0 ≤ x ∧ x < 256) (hl : l.length = 8) {k : Nat} (hk : k < 8) :
    bits .or .u64 (un (l.take k) * 2 ^ (8 * (8 - k))) (l.getD k 0 * 2 ^ (8 * (7 - k))) = un (l.take (k + 1)) * 2 ^ (8 * (8 - (k + 1))) := by
  obtain ⟨h1, h2⟩ := un_range hwf k (by omega)
  obtain ⟨h3, h4⟩ := un_range hwf (k + 1) (by omega)
  have hx := hwf (l.getD k 0) (by rw [getD_at (by omega)]; exact List.getElem_mem _)
  have hs := un_succ (l := l) (k := k) (by omega)
  obtain ⟨a, ha⟩ : ∃ a : Nat, un (l.take k) = a := ⟨(un (l.take k)).toNat, by omega⟩
  obtain ⟨x, hxx⟩ : ∃ x : Nat, l.getD k 0 = x := ⟨(l.getD k 0).toNat, by omega⟩
  obtain ⟨m, hm⟩ : ∃ m, m = 7 - k := ⟨_, rfl⟩
  rw [show 8 - k = m + 1 from by omega, ← hm, show 8 - (k + 1) = m from by omega, hs, ha, hxx]
  rw [hs, ha, hxx] at h4
  rw [hxx] at hx
  have hx2 : x < 256 := by omega
  have h5 : a * 256 + x < 256 ^ (k + 1) := by
    have : ((a * 256 + x : Nat) : Int) < ((256 ^ (k + 1) : Nat) : Int) := by rw [Int.natCast_add, Int.natCast_mul, Int.natCast_pow]; exact h4
    omega
  have e1 : a * 2 ^ (8 * (m + 1)) = a * 256 * 2 ^ (8 * m) := by rw [show 8 * (m + 1) = 8 + 8 * m from by omega, Nat.pow_add, Nat.mul_assoc]
  have hp : 0 < 2 ^ (8 * m) := Nat.pow_pos (by omega)
  have hb : x * 2 ^ (8 * m) < 2 ^ (8 * (m + 1)) := by
    rw [show 8 * (m + 1) = 8 + 8 * m from by omega, Nat.pow_add]
    exact Nat.mul_lt_mul_of_pos_right hx2 hp
  have e2 : a * 2 ^ (8 * (m + 1)) + x * 2 ^ (8 * m) = (a * 256 + x) * 2 ^ (8 * m) := by rw [e1, Nat.add_mul]
  have h6 : (a * 256 + x) * 2 ^ (8 * m) < 2 ^ 64 := by
    have h7 := Nat.mul_lt_mul_of_pos_right h5 hp
    have h8 : 256 ^ (k + 1) * 2 ^ (8 * m) = 2 ^ 64 := by
      rw [show (256 : Nat) = 2 ^ 8 from rfl, ← Nat.pow_mul, ← Nat.pow_add]; congr 1; omega
    omega
  have h9 := or_add .u64 a (x * 2 ^ (8 * m)) (8 * (m + 1)) hb (by rw [e2]; exact h6)
  rw [e2] at h9
  have hc1 : ((a * 2 ^ (8 * (m + 1)) : Nat) : Int) = (a : Int) * 2 ^ (8 * (m + 1)) := by rw [Int.natCast_mul, Int.natCast_pow]; rfl
  have hc2 : ((x * 2 ^ (8 * m) : Nat) : Int) = (x : Int) * 2 ^ (8 * m) := by rw [Int.natCast_mul, Int.natCast_pow]; rfl
  have hc3 : (((a * 256 + x) * 2 ^ (8 * m) : Nat) : Int) = ((a : Int) * 256 + x) * 2 ^ (8 * m) := by rw [Int.natCast_mul, Int.natCast_add, Int.natCast_mul, Int.natCast_pow]; rfl
  rw [hc1, hc2] at h9
  rw [h9, ← hc3, IntKind.wrap_u64, Int.emod_eq_of_lt (by omega) (by omega)]

def UnkeyM (n : Nat) (l : List Int) (w : World) (v : Value) (w' : World) : Prop := v = .tuple #[.int .u64 (if n = 8 then un l else 0), .bool (n == 8)] ∧ Mod [] w w'
set_option maxRecDepth 100000 in
set_option maxHeartbeats 1000000 in
theorem unkey_any (p : Option Addr) (n c : Nat) (l : List Int) (w : World) (h : BytesIn w p n c l) :
    Calls Tryd.prog 36 #[.slice p n c] w (Ret (UnkeyM n l w)) := by
  have hln := h.len
  have HLN := Lib.hid hln
  have H := Lib.hid h
  clear h hln
  have hM : Mod [] w (w.alloc (.cells #[.slice p n c] 25)) := Mod.of_alloc w _
  have hB : (w.alloc (.cells #[.slice p n c] 25)).cell? ⟨w.heap.size, 0, none⟩ = some (.slice p n c) := cell_of_at (at_alloc w _) 0
  have HM := Lib.hid hM
  have HB := Lib.hid hB
  clear hM hB
  by_cases hn : n = 8
  · have HU : Hid (UnkeyM n l w (.tuple #[.int .u64 (un l), .bool true]) (w.alloc (.cells #[.slice p n c] 25))) := ⟨by rw [if_pos hn, hn]; rfl, HM.out⟩
    subst hn
    have H2 : Hid (BytesIn (w.alloc (.cells #[.slice p 8 c] 25)) p 8 c l) := ⟨H.out.sl.mod HM.out (by simp), H.out.wf⟩
    go_enter Tryd.func36, Tryd.ntmps36
    go_wp2
    go_loopw [5, 11] (fun v i wr => ∃ k : Nat, k ≤ 8 ∧ i = .int .i64 k ∧ v = .int .u64 (un (l.take k) * 2 ^ (8 * (8 - k))) ∧ wr = w.alloc (.cells #[.slice p 8 c] 25)) (fun _ i _ => 8 - (intOf i).toNat)
    case atStart => exact ⟨0, by omega, rfl, by simp [un], rfl⟩
    case round =>
      obtain ⟨k, hk, rfl, rfl, rfl⟩ := hrel
      by_cases hlt : k < 8
      · have HST := Lib.hid (unkey_step H.out.wf HLN.out hlt)
        obtain ⟨B, hBB⟩ : ∃ B, B = l.getD k 0 * 2 ^ (8 * (7 - k)) := ⟨_, rfl⟩
        rw [← hBB] at HST
        have HBB := Lib.hid hBB
        clear hBB
        generalize un (l.take k) * 2 ^ (8 * (8 - k)) = V at *
        go_wp2_with fail
        refine (unkey1_any w.heap.size p c l k _ H2.out HB.out hlt).mono ?_
        rintro _ w3 ⟨_, rfl, rfl, rfl⟩
        rw [← HBB.out]
        go_wp2
        go_roundw
        case rel => exact ⟨k + 1, by omega, by go_num, by rw [HST.out], by first | rfl | trivial⟩
        case measure => simp [intOf]; omega
      · obtain rfl : k = 8 := by omega
        have hll : un (l.take 8) * 2 ^ (8 * (8 - 8)) = un l := by rw [List.take_of_length_le (by rw [HLN.out]; omega)]; simp
        rw [hll]
        clear hll
        go_wp2
        go_ret2
        exact .mk HU.out
  · have HU : Hid (UnkeyM n l w (.tuple #[.int .u64 0, .bool false]) (w.alloc (.cells #[.slice p n c] 25))) := ⟨by rw [if_neg hn]; simp [hn], HM.out⟩
    have hb : ((n : Int) != 8) = true := by simp; omega
    clear hn
    go_enter Tryd.func36, Tryd.ntmps36
    go_wp2
    go_ret2
    exact .mk HU.out
end Go.Proofs.YtbbjfgjbjghdiaaDoor
