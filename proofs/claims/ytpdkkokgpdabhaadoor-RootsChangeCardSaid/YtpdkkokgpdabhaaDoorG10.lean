/- Numbers as bytes: Key. Numbers as bytes: Put32; bits. Numbers as bytes: Unkey. Numbers as bytes: Get32. append(s, make([]byte, k)...), s a slice in a block of the call's own. A text is appended to a slice of bytes that lies in a block of the call's own, at whatever place in it. Roots: what their page says, plainly; appends whose run is known. -/
import Derived.Laws.CopyRow
import Derived.Deep.WholeRow
import Derived.Lib.AppendZerosOnto
import Derived.Lib.AppendStr
import Derived.Lib.SlBytesConst
import Derived.Test.YtpdkkokgpdabhaaDoorG02
import Derived.Test.YtpdkkokgpdabhaaDoorG08
import Derived.Test.YtpdkkokgpdabhaaDoorG09
import Derived.Test.YtpdkkokgpdabhaaDoorG05
import Derived.Test.YtpdkkokgpdabhaaDoorG03
namespace Go.Proofs.YtpdkkokgpdabhaaDoor
open Go.RowKit Go.Maps
set_option linter.unusedSimpArgs false
set_option linter.unusedVariables false

theorem bytes_own {w : World} {B base : Nat} {l : List Int} {n : Nat} (h : w.heap[B]? = some (.cells (bs l).toArray 5 (0, 0))) (hn : l.length = n) (hb : base ≤ B) (hm : n ≤ maxLen) : w.ownsRow base 5 1 (.slice (some ⟨B, 0, none⟩) n n) n (bs l) :=
  ⟨by simp [bs, hn], Or.inr ⟨B, n, (bs l).toArray, rfl, hb, h, by omega, hm, by simp [bs, hn], by simp [bs]; exact List.take_of_length_le (by simp [hn])⟩⟩

set_option maxRecDepth 100000 in
set_option maxHeartbeats 1000000 in
theorem key_any (v : Int) (w : World) (h0 : 0 ≤ v) (h1 : v < 2 ^ 64) :
    Calls Tryd.prog 38 #[.int .u64 v] w (Ret (BytesR (be 8 v) w)) := by
  obtain ⟨i0, hi0, hz0, hz1, hz2⟩ := info_parts infoU8
  have hmk := fun W => run_makeSlice (P := Tryd.prog) W 23 5 i0 (.int .u8 0) Tryd.underlying23 hi0 hz0 .i64 .i64 8 8 (by omega) (by omega) (by rw [hz1]; decide) (by rw [hz2]; decide)
  go_enter Tryd.func38, Tryd.ntmps38
  go_wp2
  have hmc : madeCells #[.int .u8 0] 8 = (bs (List.replicate 8 0)).toArray := by kernel_rfl
  have hB0 : (w.alloc (.cells (madeCells #[.int .u8 0] 8) 5)).heap[w.heap.size]? = some (.cells (bs (List.replicate 8 0)).toArray 5 (0, 0)) := by rw [hmc]; exact at_alloc w _
  have HB0 := Lib.hid hB0
  have hM0 : Mod [] w (w.alloc (.cells (madeCells #[.int .u8 0] 8) 5)) := Mod.of_alloc w _
  have HM0 := Lib.hid hM0
  clear hmk hB0 hM0 hmc
  have hidx : ∀ (W : World) (j : Nat), j < 8 → (Instr.indexAt 23 (.slice (some ⟨w.heap.size, 0, none⟩) 8 8) (.int .i64 j)).run Tryd.prog W = .ok (.pointer (some ⟨w.heap.size, 0 + j * 1, none⟩)) W :=
    fun W => Sl.idx (P := Tryd.prog) (cap := 8) Tryd.underlying23 sizeBytes (fun _ => rfl) W .i64
  go_loopw [8] (fun i wr => ∃ (k : Nat), k ≤ 8 ∧ i = .int .i64 k ∧ wr.heap[w.heap.size]? = some (.cells (bs (List.replicate (8 - k) 0 ++ be k v)).toArray 5 (0, 0)) ∧ Mod [] w wr) (fun i _ => 8 - (intOf i).toNat)
  case atStart => exact ⟨0, by omega, rfl, by simpa [be] using HB0.out, HM0.out⟩
  case round =>
    obtain ⟨k, hk, rfl, hat, hm⟩ := hrel
    have HA := Lib.hid hat
    have HM := Lib.hid hm
    clear hat hm HB0 HM0
    by_cases hlt : k < 8
    · obtain ⟨j, hj⟩ : ∃ j, j = 7 - k := ⟨_, rfl⟩
      have hjk : (7 : Int) - (k : Int) = (j : Int) := by omega
      have hw1 : IntKind.i64.wrap (7 - (k : Int)) = (j : Int) := by rw [IntWalk.i64_in _ (by omega)]; exact hjk
      have hj8 : j < 8 := by omega
      have hf : wr.frozen? ⟨w.heap.size, j, none⟩ = false := free_of_at HA.out j
      have hll : (List.replicate (8 - k) 0 ++ be k v).length = 8 := by rw [List.length_append, be_len, List.length_replicate]; omega
      have hc : wr.cell? ⟨w.heap.size, j, none⟩ = some (.int .u8 ((List.replicate (8 - k) 0 ++ be k v).getD j 0)) := by
        rw [cell_of_at HA.out j, List.getElem?_toArray]; exact bs_get (by rw [hll]; exact hj8)
      have h256 : (2 : Int) ^ (8 * k) = 256 ^ k := by rw [show 8 * k = k * 8 from by omega, Nat.mul_comm, Int.pow_mul]; rfl
      have HFin : Hid (((bs (List.replicate (8 - k) 0 ++ be k v)).toArray.setIfInBounds j (.int .u8 (v / 2 ^ (8 * k) % 256))) = (bs (List.replicate (8 - (k + 1)) 0 ++ be (k + 1) v)).toArray) := by
        have e8 : 8 - k = (8 - (k + 1)) + 1 := by omega
        have ej : j = 8 - (k + 1) := by omega
        rw [List.setIfInBounds_toArray, h256, be_succ, e8, List.replicate_succ', List.append_assoc]
        congr 1
        simp only [bs, List.map_append, List.map_cons, List.singleton_append, List.cons_append, List.nil_append]
        rw [List.set_append_right _ _ (by simp; omega)]
        simp [ej]
      clear hll h256
      have HJ := Lib.hid hj
      clear hj
      generalize hG : v / 2 ^ (8 * k) % 256 = G at HFin
      go_wp2
      go_roundw
      case rel => exact ⟨k + 1, by omega, by go_num, by rw [← HFin.out]; exact at_setCell HA.out j _, HM.out.trans (Mod.of_setCell wr _ _ _) (by simp)⟩
      case measure => simp [intOf]; omega
    · obtain rfl : k = 8 := by omega
      go_wp2
      go_ret
      exact .mk ⟨_, 8, 8, rfl, by rw [be_len], bytes_own (by simpa using HA.out) (be_len _ _) (Nat.le_refl _) (by unfold maxLen; omega), HM.out⟩

def UnkeyR (n : Nat) (l : List Int) (w : World) (v : Value) (w' : World) : Prop := v = .tuple #[.int .u64 (if n = 8 then un l else 0), .bool (n == 8)] ∧ w' = w
def Get32R (l : List Int) (w : World) (v : Value) (w' : World) : Prop := v = .int .u32 (un4 l 4) ∧ w' = w
set_option maxRecDepth 100000 in
set_option maxHeartbeats 1000000 in
theorem qget32_any (p : Option Addr) (n c : Nat) (l : List Int) (w : World) (h : BytesIn w p n c l) :
    Calls Tryd.prog 27 #[.slice p n c] w (Ret (Get32R l w)) := by
  have hln := h.len
  have HWF := Lib.hid h.wf
  obtain ⟨b, off, hp, hcs⟩ := h.sl.at_
  have hidx := fun W => Sl.idx (P := Tryd.prog) (cap := c) Tryd.underlying23 sizeBytes (fun h => (hp h).1) W .i64
  have HCS := Lib.hid hcs
  have HLN := Lib.hid hln
  clear h hp hcs hln
  go_enter Tryd.func27, Tryd.ntmps27
  go_wp2
  go_loopw [3, 4] (fun v i wr => ∃ k : Nat, k ≤ 4 ∧ i = .int .i64 k ∧ v = .int .u32 (un4 l k) ∧ wr = w) (fun _ i _ => 4 - (intOf i).toNat)
  case atStart => exact ⟨0, by omega, rfl, rfl, rfl⟩
  case round =>
    obtain ⟨k, hk, rfl, rfl, rfl⟩ := hrel
    by_cases hlt : k < 4
    · obtain ⟨h1, h2⟩ := un4_range HWF.out k
      obtain ⟨h3, h4⟩ := un4_range HWF.out (k + 1)
      have hp4 : (256 : Int) ^ (k + 1) ≤ 256 ^ 4 := by
        obtain ⟨e, he⟩ : ∃ e, 4 = (k + 1) + e := ⟨4 - (k + 1), by omega⟩
        conv => rhs; rw [he, Int.pow_add]
        have : (1 : Int) ≤ 256 ^ e := Int.pow_pos (by omega)
        have h9 := Int.mul_le_mul_of_nonneg_left this (Int.le_of_lt (show (0 : Int) < 256 ^ (k + 1) from Int.pow_pos (by omega)))
        rwa [Int.mul_one] at h9
      have HS : Hid (un4 l (k + 1) = un4 l k * 256 + l.getD k 0) := rfl
      have h5 : un4 l (k + 1) < 4294967296 := Int.lt_of_lt_of_le h4 hp4
      rw [HS.out] at h3 h5
      clear h2 h4 hp4
      by_cases hkn : k < n
      · have hkl : k < l.length := by rw [HLN.out]; exact hkn
        have d0 := HCS.out k _ (bs_get hkl)
        have hx := HWF.out (l.getD k 0) (by rw [getD_at hkl]; exact List.getElem_mem _)
        generalize un4 l k = V at *
        generalize l.getD k 0 = x at *
        have hw1 : IntKind.u32.wrap (V * 256) = V * 256 := by rw [IntKind.wrap_u32]; omega
        have hw2 : IntKind.u32.wrap (V * 256 + x) = V * 256 + x := by rw [IntKind.wrap_u32]; omega
        have hw3 : IntKind.u32.wrap x = x := by rw [IntKind.wrap_u32]; omega
        clear hkl
        go_wp2
        go_roundw
        case rel => exact ⟨k + 1, by omega, by go_num, by rw [HS.out], by first | rfl | trivial⟩
        case measure => simp [intOf]; omega
      · have hx0 : l.getD k 0 = 0 := by
          have hk' : l.length ≤ k := by rw [HLN.out]; omega
          simp [List.getD, List.getElem?_eq_none hk']
        rw [hx0, Int.add_zero] at HS h3 h5
        generalize un4 l k = V at *
        have hw1 : IntKind.u32.wrap (V * 256) = V * 256 := by rw [IntKind.wrap_u32]; omega
        clear hx0
        go_wp2
        go_roundw
        case rel => exact ⟨k + 1, by omega, by go_num, by rw [HS.out], by first | rfl | trivial⟩
        case measure => simp [intOf]; omega
    · obtain rfl : k = 4 := by omega
      go_wp2
      go_ret
      exact .mk ⟨rfl, rfl⟩
end Go.Proofs.YtpdkkokgpdabhaaDoor
namespace Go.Proofs.YtpdkkokgpdabhaaDoor
open Go.RowKit Go.Maps
set_option linter.unusedSimpArgs false
set_option linter.unusedVariables false

set_option maxRecDepth 100000 in
set_option maxHeartbeats 1000000 in
theorem put32_any (v : Int) (w : World) (h0 : 0 ≤ v) (h1 : v < 2 ^ 32) :
    Calls Tryd.prog 23 #[.int .u32 v] w (Ret (BytesS (be 4 v) w)) := by
  have hwr : IntKind.u64.wrap v = v := by rw [IntKind.wrap_u64]; omega
  go_enter Tryd.func23, Tryd.ntmps23
  go_wp2_with fail
  refine (key_any v _ h0 (by omega)).mono ?_
  rintro _ w1 ⟨_, rfl, p, n, c, rfl, hn, hown, hm⟩
  obtain rfl : n = 8 := by rw [hn, be_len]
  have hsl := (Sl.of_own hown (bs_one _)).1
  obtain ⟨p2, r2, s2, _⟩ := hsl.sub_l Tryd.underlying23 sizeBytes 4 .i64 (by omega)
  have HS := Lib.hid s2
  have HM := Lib.hid hm
  clear hown hm hn hsl s2
  simp only [show ((4 : Nat) : Int) = 4 from rfl] at r2
  go_wp2
  go_ret
  refine .mk ⟨p2, 4, c - 4, rfl, by rw [be_len], ?_, HM.out⟩
  have h := HS.out
  rw [show List.drop (4 * 1) (bs (be 8 v)) = bs (be 4 v) from by rw [← be_drop]; simp [bs]] at h
  exact h

/-- Bits that don't meet are added. -/
theorem or_add (k : IntKind) (a b j : Nat) (hb : b < 2 ^ j) (h : a * 2 ^ j + b < 2 ^ k.bits) : bits .or k ((a * 2 ^ j : Nat) : Int) (b : Int) = k.wrap ((a * 2 ^ j + b : Nat) : Int) := by
  have h1 : a * 2 ^ j < 2 ^ k.bits := by omega
  have h2 : b < 2 ^ k.bits := by omega
  have h3 := Nat.shiftLeft_add_eq_or_of_lt hb a
  rw [Nat.shiftLeft_eq] at h3
  unfold bits
  have e1 : ((a * 2 ^ j : Nat) : Int) = Int.ofNat (a * 2 ^ j) := rfl
  rw [h3]
  congr 1
  simp only [BitVec.toNat_or, BitVec.ofInt_natCast, BitVec.toNat_ofNat, Nat.mod_eq_of_lt h1, Nat.mod_eq_of_lt h2]
end Go.Proofs.YtpdkkokgpdabhaaDoor
namespace Go.Proofs.YtpdkkokgpdabhaaDoor
open Go.RowKit Go.Maps
set_option linter.unusedSimpArgs false
set_option linter.unusedVariables false

def AtR (x : Int) (j : Nat) (w : World) (v : Value) (w' : World) : Prop := v = .int .u64 (x * 2 ^ (8 * (7 - j))) ∧ w' = w
/-- One step: the next byte is set below those that are there. -/
theorem unkey_step {l : List Int} (hwf : ∀ x ∈ l, 0 ≤ x ∧ x < 256) (hl : l.length = 8) {k : Nat} (hk : k < 8) :
    bits .or .u64 (un (l.take k) * 2 ^ (8 * (8 - k))) (l.getD k 0 * 2 ^ (8 * (7 - k))) = un (l.take (k + 1)) * 2 ^ (8 * (8 - (k + 1))) := by
  obtain ⟨h1, h2⟩ := un_range hwf k (by omega)
  obtain ⟨h3, h4⟩ := un_range hwf (k + 1) (by omega)
  have hx := hwf (l.getD k 0) (by rw [getD_at (by omega)]; exact List.getElem_mem _)
  have hs := un_succ (l := l) (k := k) (by omega)
  obtain ⟨a, ha⟩ : ∃ a : Nat, un (l.take k) = a := ⟨(un (l.take k)).toNat, by omega⟩
  obtain ⟨x, hxx⟩ : ∃ x : Nat, l.getD k 0 = x := ⟨(l.getD k 0).toNat, by omega⟩
  obtain ⟨m, hm⟩ : ∃ m, m = 7 - k := ⟨_, rfl⟩
  rw [show 8 - k = m + 1 from by omega, ← hm, show 8 - (k + 1) = m from by omega, hs, ha, hxx]
  rw [hs, ha, hxx] at h4
  rw [hxx] at hx
  have hx2 : x < 256 := by omega
  have h5 : a * 256 + x < 256 ^ (k + 1) := by
    have : ((a * 256 + x : Nat) : Int) < ((256 ^ (k + 1) : Nat) : Int) := by rw [Int.natCast_add, Int.natCast_mul, Int.natCast_pow]; exact h4
    omega
  have e1 : a * 2 ^ (8 * (m + 1)) = a * 256 * 2 ^ (8 * m) := by rw [show 8 * (m + 1) = 8 + 8 * m from by omega, Nat.pow_add, Nat.mul_assoc]
  have hp : 0 < 2 ^ (8 * m) := Nat.pow_pos (by omega)
  have hb : x * 2 ^ (8 * m) < 2 ^ (8 * (m + 1)) := by
    rw [show 8 * (m + 1) = 8 + 8 * m from by omega, Nat.pow_add]
    exact Nat.mul_lt_mul_of_pos_right hx2 hp
  have e2 : a * 2 ^ (8 * (m + 1)) + x * 2 ^ (8 * m) = (a * 256 + x) * 2 ^ (8 * m) := by rw [e1, Nat.add_mul]
  have h6 : (a * 256 + x) * 2 ^ (8 * m) < 2 ^ 64 := by
    have h7 := Nat.mul_lt_mul_of_pos_right h5 hp
    have h8 : 256 ^ (k + 1) * 2 ^ (8 * m) = 2 ^ 64 := by
      rw [show (256 : Nat) = 2 ^ 8 from rfl, ← Nat.pow_mul, ← Nat.pow_add]; congr 1; omega
    omega
  have h9 := or_add .u64 a (x * 2 ^ (8 * m)) (8 * (m + 1)) hb (by rw [e2]; exact h6)
  rw [e2] at h9
  have hc1 : ((a * 2 ^ (8 * (m + 1)) : Nat) : Int) = (a : Int) * 2 ^ (8 * (m + 1)) := by rw [Int.natCast_mul, Int.natCast_pow]; rfl
  have hc2 : ((x * 2 ^ (8 * m) : Nat) : Int) = (x : Int) * 2 ^ (8 * m) := by rw [Int.natCast_mul, Int.natCast_pow]; rfl
  have hc3 : (((a * 256 + x) * 2 ^ (8 * m) : Nat) : Int) = ((a : Int) * 256 + x) * 2 ^ (8 * m) := by rw [Int.natCast_mul, Int.natCast_add, Int.natCast_mul, Int.natCast_pow]; rfl
  rw [hc1, hc2] at h9
  rw [h9, ← hc3, IntKind.wrap_u64, Int.emod_eq_of_lt (by omega) (by omega)]

def UnkeyM (n : Nat) (l : List Int) (w : World) (v : Value) (w' : World) : Prop := v = .tuple #[.int .u64 (if n = 8 then un l else 0), .bool (n == 8)] ∧ Mod [] w w'
end Go.Proofs.YtpdkkokgpdabhaaDoor
namespace Go.Proofs.YtpdkkokgpdabhaaDoor
open Go.RowKit Go.Maps
set_option linter.unusedSimpArgs false
set_option linter.unusedVariables false

theorem or4 (a b c d : Nat) (ha : a < 256) (hb : b < 256) (hc : c < 256) (hd : d < 256) :
    bits .or .u32 (bits .or .u32 (bits .or .u32 ((a : Int) * 16777216) ((b : Int) * 65536)) ((c : Int) * 256)) (d : Int) = (((a : Int) * 256 + b) * 256 + c) * 256 + d := by
  have e1 : bits .or .u32 ((a * 16777216 : Nat) : Int) ((b * 65536 : Nat) : Int) = IntKind.u32.wrap ((a * 16777216 + b * 65536 : Nat) : Int) := or_add .u32 a (b * 65536) 24 (by omega) (by show a * 16777216 + b * 65536 < 4294967296; omega)
  have e2 : bits .or .u32 (((a * 256 + b) * 65536 : Nat) : Int) ((c * 256 : Nat) : Int) = IntKind.u32.wrap (((a * 256 + b) * 65536 + c * 256 : Nat) : Int) := or_add .u32 (a * 256 + b) (c * 256) 16 (by omega) (by show (a * 256 + b) * 65536 + c * 256 < 4294967296; omega)
  have e3 : bits .or .u32 ((((a * 256 + b) * 256 + c) * 256 : Nat) : Int) (d : Int) = IntKind.u32.wrap ((((a * 256 + b) * 256 + c) * 256 + d : Nat) : Int) := or_add .u32 ((a * 256 + b) * 256 + c) d 8 (by omega) (by show ((a * 256 + b) * 256 + c) * 256 + d < 4294967296; omega)
  rw [show (a : Int) * 16777216 = ((a * 16777216 : Nat) : Int) from by omega, show (b : Int) * 65536 = ((b * 65536 : Nat) : Int) from by omega, e1,
    show IntKind.u32.wrap ((a * 16777216 + b * 65536 : Nat) : Int) = (((a * 256 + b) * 65536 : Nat) : Int) from by rw [IntKind.wrap_u32]; omega,
    show (c : Int) * 256 = ((c * 256 : Nat) : Int) from by omega, e2,
    show IntKind.u32.wrap (((a * 256 + b) * 65536 + c * 256 : Nat) : Int) = ((((a * 256 + b) * 256 + c) * 256 : Nat) : Int) from by rw [IntKind.wrap_u32]; omega, e3, IntKind.wrap_u32]
  omega

def Get32M (l : List Int) (w : World) (v : Value) (w' : World) : Prop := v = .int .u32 (un4 l 4) ∧ Mod [] w w'
set_option maxRecDepth 100000 in
set_option maxHeartbeats 1000000 in
theorem get32_any (p : Option Addr) (n c : Nat) (l : List Int) (w : World) (h : BytesIn w p n c l) (hn : 4 ≤ n) :
    Calls Tryd.prog 39 #[.slice p n c] w (Ret (Get32M l w)) := by
  have hln := h.len
  obtain ⟨b, off, hp, hblt, hcs⟩ := h.sl.addr (by omega)
  subst hp
  obtain ⟨i0, hi0, hz0, hz1, hz2⟩ := info_parts infoU8
  have hsz : (Tryd.prog.info? 5).map (·.size) = some 1 := by rw [hi0]; simp [hz1]
  have h4 : l.length ≥ 4 := by omega
  have hlen4 : (bs (l.take 4)).length = 4 := by rw [bs_len, List.length_take]; omega
  have htk : bs (l.take 4) = [.int .u8 (l.getD 0 0), .int .u8 (l.getD 1 0), .int .u8 (l.getD 2 0), .int .u8 (l.getD 3 0)] := by
    match l, h4 with
    | a :: b :: c :: d :: r, _ => simp [bs]
  have hcopy : (Builtin.copy_ #[23, 23] 3 #[.slice (some ⟨w.heap.size, 0, none⟩) 4 4, .slice (some ⟨b, off, none⟩) n c]).run Tryd.prog (w.alloc (.cells #[.int .u8 0, .int .u8 0, .int .u8 0, .int .u8 0] 70))
      = .ok (.int .i64 4) (w.alloc (.cells #[.int .u8 (l.getD 0 0), .int .u8 (l.getD 1 0), .int .u8 (l.getD 2 0), .int .u8 (l.getD 3 0)] 70)) := by
    have hm := Mod.of_alloc w (.cells #[.int .u8 0, .int .u8 0, .int .u8 0, .int .u8 0] 70)
    rw [run_copy_row (P := Tryd.prog) _ 23 23 3 5 w.heap.size 0 4 4 ⟨b, off, none⟩ n c #[.int .u8 0, .int .u8 0, .int .u8 0, .int .u8 0] 70 (bs (l.take 4)) Tryd.underlying23 hsz (at_alloc w _) (by rw [hlen4]; exact (Nat.min_eq_right hn).symm)
      (fun j v hj => by
        have hj4 : j < 4 := by
          rcases Nat.lt_or_ge j 4 with h | h
          · exact h
          · rw [List.getElem?_eq_none (by rw [hlen4]; exact h)] at hj; cases hj
        have e : (bs (l.take 4))[j]? = (bs l)[j]? := by simp only [bs, List.getElem?_map, List.getElem?_take, if_pos hj4]
        rw [e] at hj
        have hadd : Addr.add ⟨b, off, none⟩ j = ⟨b, off + j, none⟩ := by unfold Addr.add; split <;> simp_all
        rw [hadd]
        exact (hm.cell (a := ⟨b, off + j, none⟩) hblt (by simp)).trans (hcs j v hj))
      (by rw [hlen4]; decide) (bs_one _)]
    rw [World.setRow_alloc_new, hlen4, htk]
    rfl
  have hwf : ∀ i, i < 4 → 0 ≤ l.getD i 0 ∧ l.getD i 0 < 256 := fun i hi => h.wf _ (by rw [getD_at (by omega)]; exact List.getElem_mem _)
  have HU : Hid (un4 l 4 = ((l.getD 0 0 * 256 + l.getD 1 0) * 256 + l.getD 2 0) * 256 + l.getD 3 0) := by simp [un4, Hid]
  obtain ⟨x0, y0⟩ := hwf 0 (by omega)
  obtain ⟨x1, y1⟩ := hwf 1 (by omega)
  obtain ⟨x2, y2⟩ := hwf 2 (by omega)
  obtain ⟨x3, y3⟩ := hwf 3 (by omega)
  generalize l.getD 0 0 = f0 at *
  generalize l.getD 1 0 = f1 at *
  generalize l.getD 2 0 = f2 at *
  generalize l.getD 3 0 = f3 at *
  clear hwf htk hlen4 h4 hcs h hln hblt
  go_enter Tryd.func39, Tryd.ntmps39
  go_wp2
  go_ret
  have hor := or4 f0.toNat f1.toNat f2.toNat f3.toNat (by omega) (by omega) (by omega) (by omega)
  rw [Int.toNat_of_nonneg x0, Int.toNat_of_nonneg x1, Int.toNat_of_nonneg x2, Int.toNat_of_nonneg x3] at hor
  exact .mk ⟨by rw [HU.out, ← hor]; rfl, Mod.of_alloc w _⟩
end Go.Proofs.YtpdkkokgpdabhaaDoor
namespace Go.Proofs.YtpdkkokgpdabhaaDoor
open Go.RowKit Go.Maps
set_option linter.unusedSimpArgs false
set_option linter.unusedVariables false

theorem zeroCells_one (v : Value) (k : Nat) : Builtin.zeroCells #[v] k = (List.replicate k v).toArray := by
  apply Array.ext
  · simp [Builtin.zeroCells]
  · intro i h1 h2
    simp [Builtin.zeroCells, Nat.mod_one]
theorem bs_replicate (k : Nat) : bs (List.replicate k 0) = List.replicate k (.int .u8 0) := by simp [bs]
section
variable {P : Program} (w : World)
theorem run_append_zeros_tl (base : Nat) (t tn ty e : TypeId) (i : TypeInfo) (ht : P.underlying t = some (.slice e)) (htn : P.underlying tn = some (.int .i64)) (hi : P.info? e = some i) (hz : i.zero = some (.int .u8 0))
    (hsize : i.size = 1) (hby : i.bytes = 1) (p : Option Addr) (n cap : Nat) (l : List Int) (h : Tl w base 1 p n cap (bs l)) (k : Nat) (hk : n + k ≤ 1073741824) (hbase : base ≤ w.heap.size) :
    ∃ p' c' w', (Builtin.append_ #[t, tn] ty #[.slice p n cap, .int .i64 k]).run P w = .ok (.slice p' (n + k) c') w' ∧ Tl w' base 1 p' (n + k) c' (bs (l ++ List.replicate k 0)) ∧ Mod (p.map (·.block)).toList w w' ∧
      (p' = none ↔ p = none ∧ k = 0) := by
  have hw : IntKind.i64.wrap (k : Int) = k := by rw [IntKind.wrap_i64]; omega
  have hneg : ¬ ((k : Int) < 0) := by omega
  have h48i : ¬ (281474976710656 < (k : Int)) := by omega
  have hln := h.sl.len
  rw [bs_len] at hln
  by_cases hroom : n + k ≤ cap
  · cases p with
    | none =>
      obtain ⟨rfl, rfl⟩ := h.nil rfl
      obtain rfl : k = 0 := by omega
      have hw0 : IntKind.i64.wrap 0 = 0 := by decide
      refine ⟨none, 0, w, ?_, by simpa using h, Mod.refl _ _, by simp⟩
      simp [Builtin.append_, run_underlying ht, run_underlying htn, sizeOf, typeInfo, hi, asInt, asIntOf, hw0, hsize, hby]
    | some a =>
      obtain ⟨b, o, s⟩ := a
      obtain ⟨g1, g2, g3⟩ := h.own _ rfl
      cases g1
      simp only at g2 g3
      have hsp : ∀ j, j < k → (w.cell? ⟨b, o + n * 1 + j, none⟩).isSome = true ∧ w.frozen? ⟨b, o + n * 1 + j, none⟩ = false := fun j hj => h.spare _ rfl j (by omega)
      have hrl : (List.replicate k (Value.int IntKind.u8 0)).length = k := by simp
      have hst := run_storeCells_cells (P := P) b (o + n * 1) (List.replicate k (.int .u8 0)) 0 w (fun j hj => by rw [hrl] at hj; exact (hsp j hj).1) (fun j hj => by rw [hrl] at hj; exact (hsp j hj).2) (by intro v hv; rw [List.eq_of_mem_replicate hv]; rfl)
      have hr : (Builtin.append_ #[t, tn] ty #[.slice (some ⟨b, o, none⟩) n cap, .int .i64 k]).run P w = .ok (.slice (some ⟨b, o, none⟩) (n + k) cap) (w.setCells b (o + n * 1) (List.replicate k (.int .u8 0))) := by
        simp only [Nat.add_zero] at hst
        by_cases hk0 : k = 0
        · subst hk0
          have hw0 : IntKind.i64.wrap 0 = 0 := by decide
          have hroom0 : n ≤ cap := hroom
          simp [Builtin.append_, run_underlying ht, run_underlying htn, sizeOf, typeInfo, hi, asInt, asIntOf, hw0, hsize, hby, hroom0, storeCells, World.setCells]
        · have hcz : (Value.int IntKind.u8 0).cells = #[Value.int IntKind.u8 0] := rfl
          simp [Builtin.append_, run_underlying ht, run_underlying htn, sizeOf, typeInfo, zeroValue, hi, hz, asInt, asIntOf, hw, hsize, hby, hroom, hneg, h48i, hk0, hcz, zeroCells_one, Addr.add_lit]
          simp at hst
          simp [hst]
      exact ⟨some ⟨b, o, none⟩, cap, _, hr, by rw [bs_append, bs_replicate]; exact h.extend (by simp) (by intro v hv; rw [List.eq_of_mem_replicate hv]; rfl) hroom, Mod.setCells _ _ _, by simp⟩
  · obtain ⟨k0, hk0⟩ : ∃ k0, k = k0 + 1 := ⟨k - 1, by have := h.sl.le; omega⟩
    have hold : (Builtin.firstCells i.size n (.slice p n cap)).run P w.drew = .ok (bs l).toArray w.drew := by
      cases p with
      | none =>
        obtain ⟨rfl, rfl⟩ := h.nil rfl
        obtain rfl : l = [] := List.eq_nil_of_length_eq_zero hln
        simp [Builtin.firstCells, bs]
      | some a =>
        obtain ⟨b, o, s⟩ := a
        obtain ⟨g1, g2, g3⟩ := h.own _ rfl
        cases g1
        refine run_firstCells_some (P := P) w.drew i.size n ⟨b, o, none⟩ n cap (bs l) (by rw [hsize]; exact h.sl.len) (fun j u hj => ?_)
        rcases Nat.eq_zero_or_pos n with h0 | h0
        · have := (List.getElem?_eq_some_iff.1 hj).1; rw [bs_len] at this; omega
        · obtain ⟨b', o', hp, _, hc⟩ := h.sl.addr h0
          cases hp
          rw [add_plain]; exact hc j u hj
    have hr := Lib.run_append_grow_zeros (P := P) w t tn ty e i (.int .u8 0) .i64 .i64 ht htn hi hz p n cap (bs l) hold k (by omega) (by omega) (by omega) (by omega) (by rw [hby]; omega) (growslice_fits (by omega) (by rw [hby]; omega))
    have hge := grownCap_ge w (n + k) cap e
    have hcm : grownCap w (n + k) cap e ≤ maxLen := grownCap_le_maxLen w (n + k) cap e (by unfold maxLen; omega)
    have hcz : (Value.int IntKind.u8 0).cells = #[Value.int IntKind.u8 0] := rfl
    have hown : (w.drew.alloc (.cells ((bs l).toArray ++ Builtin.zeroCells (Value.int IntKind.u8 0).cells k ++ Builtin.zeroCells (Value.int IntKind.u8 0).cells (grownCap w (n + k) cap e - (n + k))) e)).ownsRow w.heap.size e 1 (.slice (some ⟨w.heap.size, 0, none⟩) (n + k) (grownCap w (n + k) cap e)) (n + k) (bs (l ++ List.replicate k 0)) := by
      refine ⟨by simp [bs_len, hln], Or.inr ⟨w.heap.size, _, _, rfl, Nat.le_refl _, heap_alloc_new w.drew _, hge, hcm, ?_, ?_⟩⟩
      · simp [hcz, zeroCells_one, bs_len, hln]; omega
      · rw [bs_append, bs_replicate, hcz, zeroCells_one, zeroCells_one]
        simp only [Array.toList_append]
        rw [List.take_append_of_le_length (by simp [bs_len, hln]), List.take_of_length_le (by simp [bs_len, hln])]
    refine ⟨_, _, _, hr, (Tl.of_own hown (bs_one _)).base_le hbase, ?_, by simp; omega⟩
    exact ((Mod.of_drew w).alloc).mono (by simp)

theorem wpList_append_zeros_tl {ops : Array Oper} {rest : List Oper} {o : Oper} {a : Act} {Q : Exit → Act → World → Prop} (hgd : o.guard = none) (s x : Operand) (t tn : TypeId)
    (ho : o.op = .call { callee := .builtin .append, args := #[s, x], argTypes := #[t, tn] })
    (base : Nat) (e : TypeId) (i : TypeInfo) (ht : P.underlying t = some (.slice e)) (htn : P.underlying tn = some (.int .i64)) (hi : P.info? e = some i) (hz : i.zero = some (.int .u8 0))
    (hsize : i.size = 1) (hby : i.bytes = 1) (p : Option Addr) (n cap : Nat) (l : List Int) (hs : a.eval s = .slice p n cap) (hown : Tl w base 1 p n cap (bs l)) (k : Nat) (hx : a.eval x = .int .i64 k)
    (N : Nat) (hN : n + k = N) (hk : N ≤ 1073741824) (hbase : base ≤ w.heap.size)
    (h : ∀ p' c' w', Tl w' base 1 p' N c' (bs (l ++ List.replicate k 0)) → Mod (p.map (·.block)).toList w w' → (p' = none ↔ p = none ∧ k = 0) → wpList P ops Q rest (a.put o.dst (.slice p' N c')) w') :
    wpList P ops Q (o :: rest) a w := by
  subst hN
  refine wpList_plain hgd fun K hK => ?_
  obtain ⟨p', c', w', hr, h2, h3, h4⟩ := run_append_zeros_tl (P := P) w base t tn o.type e i ht htn hi hz hsize hby p n cap l hown k hk hbase
  unfold Oper.wp execOp
  simp only [ho, resolve, invoke, builtin, Sem.run_bind, Sem.run_pure, Result.andThen_ok, List.map_toArray, List.map_cons, List.map_nil, hs, hx, hr]
  exact hK _ _ (h p' c' w' h2 h3 h4)
end
end Go.Proofs.YtpdkkokgpdabhaaDoor
namespace Go.Proofs.YtpdkkokgpdabhaaDoor
open Go.RowKit Go.Maps
set_option linter.unusedSimpArgs false
set_option linter.unusedVariables false

theorem strCells_nums {l : List Int} (h : WfL l) : Lib.strCells (strOfNums l) = bs l := by
  unfold Lib.strCells
  rw [strOfNums_data]
  unfold bs
  rw [List.map_map]
  apply List.map_congr_left
  intro x hx
  have := h x hx
  show Value.int .u8 ((UInt8.ofNat x.toNat).toNat : Int) = .int .u8 x
  rw [UInt8.toNat_ofNat']
  congr 1
  omega
theorem tl_mark (w : World) (T : TypeId) (l : List Int) (fr : Nat × Nat) (hfr : l.length ≤ fr.1) (hm : l.length ≤ 1000000) : Tl (w.alloc (.cells (bs l).toArray T fr)) w.heap.size 1 (some ⟨w.heap.size, 0, none⟩) l.length l.length (bs l) := by
  have hat : (w.alloc (.cells (bs l).toArray T fr)).heap[w.heap.size]? = some (.cells (bs l).toArray T fr) := at_alloc w _
  refine ⟨⟨by rw [bs_len]; omega, Nat.le_refl _, by unfold maxLen; omega, bs_one _, w.heap.size, 0, fun _ => ⟨rfl, lt_of_at hat⟩, fun j u hj => ?_⟩, by simp, fun a ha => by cases ha; exact ⟨rfl, Nat.le_refl _, lt_of_at hat⟩, fun a ha j hj => by omega⟩
  rw [Nat.zero_add, cell_of_at hat, List.getElem?_toArray]; exact hj
section
variable {P : Program} (w : World)
theorem run_append_text_tl (base : Nat) (t u ty e : TypeId) (i : TypeInfo) (ht : P.underlying t = some (.slice e)) (hu : P.underlying u = some .string) (hi : P.info? e = some i) (hz : i.zero = some (.int .u8 0))
    (hsize : i.size = 1) (hby : i.bytes = 1) (p : Option Addr) (n cap : Nat) (l : List Int) (h : Tl w base 1 p n cap (bs l)) (k : List Int) (hw : WfL k) (hk : n + k.length ≤ 1073741824) (hbase : base ≤ w.heap.size) :
    ∃ p' c' w', (Builtin.append_ #[t, u] ty #[.slice p n cap, .string (strOfNums k)]).run P w = .ok (.slice p' (n + k.length) c') w' ∧ Tl w' base 1 p' (n + k.length) c' (bs (l ++ k)) ∧ Mod (p.map (·.block)).toList w w' ∧
      (p' = none ↔ p = none ∧ k.length = 0) := by
  have hsz := strOfNums_size k
  have hln := h.sl.len
  rw [bs_len] at hln
  cases p with
  | none =>
    obtain ⟨rfl, rfl⟩ := h.nil rfl
    obtain rfl : l = [] := List.eq_nil_of_length_eq_zero hln
    obtain ⟨v', w', hr, h2, h3, h4⟩ := Lib.run_append_own_string (P := P) w base t u ty e i ht hu hi hz hsize hby (.slice none 0 0) 0 [] (World.ownsRow_nil w base e 1) (strOfNums k) (by rw [hsz]; unfold maxLen; omega) (by rw [hsz]; omega) hbase
    rw [hsz, strCells_nums hw] at h2
    rw [hsz] at h4
    obtain ⟨p', c', rfl, hp⟩ := own_shape h2
    exact ⟨p', c', w', hr, Tl.of_own h2 (by simpa using bs_one k), Mod.of_grown' h3, by simpa using hp.trans h4⟩
  | some a =>
    obtain ⟨b, o, s⟩ := a
    obtain ⟨g1, g2, g3⟩ := h.own _ rfl
    cases g1
    simp only at g2 g3
    by_cases hroom : n + k.length ≤ cap
    · have hsp : ∀ j, j < k.length → (w.cell? ⟨b, o + n * 1 + j, none⟩).isSome = true ∧ w.frozen? ⟨b, o + n * 1 + j, none⟩ = false := fun j hj => h.spare _ rfl j (by omega)
      have hst := run_storeCells_cells (P := P) b (o + n * 1) (bs k) 0 w (fun j hj => by rw [bs_len] at hj; exact (hsp j hj).1) (fun j hj => by rw [bs_len] at hj; exact (hsp j hj).2) (bs_one _)
      have hf := Lib.run_firstCells_string (P := P) w 1 (strOfNums k)
      rw [strCells_nums hw] at hf
      rw [hsz] at hf
      have hr : (Builtin.append_ #[t, u] ty #[.slice (some ⟨b, o, none⟩) n cap, .string (strOfNums k)]).run P w = .ok (.slice (some ⟨b, o, none⟩) (n + k.length) cap) (w.setCells b (o + n * 1) (bs k)) := by
        simp only [Nat.add_zero] at hst
        simp [Builtin.append_, run_underlying ht, run_underlying hu, sizeOf, typeInfo, hi, hsize, Builtin.lenOf, hsz, hroom, hf, Addr.add_lit]
        simp at hst
        simp [hst]
      exact ⟨some ⟨b, o, none⟩, cap, _, hr, by rw [bs_append]; exact h.extend (by rw [bs_len]; omega) (bs_one _) hroom, Mod.setCells _ _ _, by simp⟩
    · have holds : ∀ j v, (bs l)[j]? = some v → w.cell? ((⟨b, o, none⟩ : Addr).add j) = some v := fun j v hj => by
        rcases Nat.eq_zero_or_pos n with h0 | h0
        · have := (List.getElem?_eq_some_iff.1 hj).1; rw [bs_len] at this; omega
        · obtain ⟨b', o', hp, _, hc⟩ := h.sl.addr h0
          cases hp; rw [add_plain]; exact hc j v hj
      have hr := Lib.run_append_grow_string (P := P) w t u ty e i (.int .u8 0) ht hu hi hz ⟨b, o, none⟩ n cap (bs l) (by rw [bs_len, hsize]; omega) holds (strOfNums k) (by rw [hsz]; omega) (by rw [hsz]; omega) (by rw [hby, hsz]; exact growslice_fits (by omega) (by omega))
      rw [hsz, strCells_nums hw] at hr
      have hge := grownCap_ge w (n + k.length) cap e
      have hcm : grownCap w (n + k.length) cap e ≤ maxLen := grownCap_le_maxLen w (n + k.length) cap e (by unfold maxLen; omega)
      have hown : (w.drew.alloc (.cells ((bs l).toArray ++ (bs k).toArray ++ Builtin.zeroCells (Value.int .u8 0).cells (grownCap w (n + k.length) cap e - (n + k.length))) e)).ownsRow w.heap.size e 1 (.slice (some ⟨w.heap.size, 0, none⟩) (n + k.length) (grownCap w (n + k.length) cap e)) (n + k.length) (bs (l ++ k)) := by
        refine ⟨by simp [bs_len, hln], Or.inr ⟨w.heap.size, _, _, rfl, Nat.le_refl _, heap_alloc_new w.drew _, hge, hcm, ?_, ?_⟩⟩
        · have hcz : (Value.int IntKind.u8 0).cells = #[Value.int IntKind.u8 0] := rfl
          simp [hcz, zeroCells_one, bs_len, hln]; omega
        · rw [bs_append]
          simp only [Array.toList_append]
          rw [List.take_append_of_le_length (by simp [bs_len, hln]), List.take_of_length_le (by simp [bs_len, hln])]
      exact ⟨_, _, _, hr, (Tl.of_own hown (bs_one _)).base_le hbase, ((Mod.of_drew w).alloc).mono (by simp), by simp⟩
end
end Go.Proofs.YtpdkkokgpdabhaaDoor
namespace Go.Proofs.YtpdkkokgpdabhaaDoor
open Go.RowKit Go.Maps
set_option linter.unusedSimpArgs false
set_option linter.unusedVariables false

def rootBytes (r : Rt) : List Int := (r.l.length : Int) :: (r.l ++ (be 4 r.page ++ be 4 r.count))
def rootsBytes (rs : List Rt) : List Int := [67, 82, 79, 79, (rs.length : Int)] ++ rs.flatMap rootBytes
def payRs (rs : List Rt) : List Int := if mayR rs = true then rootsBytes rs else []
theorem rootBytes_len (r : Rt) : (rootBytes r).length = r.l.length + 9 := by simp [rootBytes, be_len]
theorem mayR_len {rs : List Rt} (h : mayR rs = true) : rs.length ≤ 12 := by
  unfold mayR at h; simp only [Bool.and_eq_true, decide_eq_true_eq] at h; exact h.2
theorem mayR_ok {rs : List Rt} (h : mayR rs = true) {i : Nat} (hi : i < rs.length) : (rs.getD i default).ok = true := by
  unfold mayR at h; simp only [Bool.and_eq_true] at h
  have := rtTo_le h.1 hi
  unfold rtAt at this; simp only [Bool.and_eq_true] at this; exact this.1
theorem ok_spec {r : Rt} (h : r.ok = true) : (1 ≤ r.l.length ∧ r.l.length ≤ 24) ∧ (0 ≤ r.page ∧ r.page ≤ 2147483647) ∧ (0 ≤ r.count ∧ r.count ≤ 2147483647) := by
  unfold Rt.ok nameOk at h
  simp only [Bool.and_eq_true, decide_eq_true_eq] at h
  obtain ⟨⟨_, h1, h2⟩, ⟨h3, h4⟩, h5⟩ := h
  refine ⟨⟨h1, h2⟩, ?_, h3, h4⟩
  split at h5
  · omega
  · simp only [Bool.and_eq_true, decide_eq_true_eq] at h5; omega
theorem flat_take {rs : List Rt} {i : Nat} (hi : i < rs.length) : (rs.take (i + 1)).flatMap rootBytes = (rs.take i).flatMap rootBytes ++ rootBytes (rs.getD i default) := by
  rw [List.take_succ_eq_append_getElem hi, List.flatMap_append, List.getD_eq_getElem?_getD, List.getElem?_eq_getElem hi]
  simp
theorem rootsBytes_wf {rs : List Rt} (h : ∀ r ∈ rs, WfL r.l) (hm : mayR rs = true) : ∀ x ∈ rootsBytes rs, 0 ≤ x ∧ x < 256 := by
  intro x hx
  have hl := mayR_len hm
  unfold rootsBytes at hx
  rw [List.mem_append] at hx
  rcases hx with hx | hx
  · simp only [List.mem_cons, List.not_mem_nil, or_false] at hx
    rcases hx with rfl | rfl | rfl | rfl | rfl <;> omega
  · rw [List.mem_flatMap] at hx
    obtain ⟨r, hr, hx⟩ := hx
    obtain ⟨i, hi, rfl⟩ := List.mem_iff_getElem.1 hr
    have hok := mayR_ok hm hi
    rw [List.getD_eq_getElem?_getD, List.getElem?_eq_getElem hi] at hok
    obtain ⟨h1, h2, h3⟩ := ok_spec hok
    unfold rootBytes at hx
    simp only [Option.getD_some] at h1
    rcases List.mem_cons.1 hx with rfl | hx
    · omega
    · simp only [List.mem_append] at hx
      rcases hx with hx | hx | hx
      · exact h _ hr x hx
      · exact be_wf _ _ x hx
      · exact be_wf _ _ x hx
theorem payRs_wf {rs : List Rt} (h : ∀ r ∈ rs, WfL r.l) : ∀ x ∈ payRs rs, 0 ≤ x ∧ x < 256 := by
  unfold payRs
  split
  · rename_i hm; exact rootsBytes_wf h hm
  · simp
theorem flat_len {rs : List Rt} {k : Nat} (h : ∀ i, i < rs.length → (rs.getD i default).l.length ≤ 24) : (rs.flatMap rootBytes).length ≤ rs.length * 33 := by
  induction rs with
  | nil => simp
  | cons r t ih =>
    rw [List.flatMap_cons, List.length_append, rootBytes_len]
    have h0 : r.l.length ≤ 24 := h 0 (by simp)
    have := ih (fun i hi => h (i + 1) (by simpa using hi))
    rw [List.length_cons]; omega
theorem rootsBytes_len {rs : List Rt} (hm : mayR rs = true) : (rootsBytes rs).length ≤ 401 := by
  have := flat_len (k := 0) (rs := rs) (fun i hi => (ok_spec (mayR_ok hm hi)).1.2)
  have := mayR_len hm
  unfold rootsBytes
  simp only [List.length_append, List.length_cons, List.length_nil]; omega
theorem payRs_len (rs : List Rt) : (payRs rs).length ≤ 401 := by
  unfold payRs; split
  · rename_i hm; exact rootsBytes_len hm
  · simp

section
variable {P : Program} {w : World}
theorem step_append_run {ops : Array Oper} {o : Oper} {a : Act} {K : Act → World → Prop} {Q : Exit → Act → World → Prop} {E : Prop} (hgd : o.guard = none) (s x : Operand) (t tn : TypeId)
    (ho : o.op = .call { callee := .builtin .append, args := #[s, x], argTypes := #[t, tn] }) (v1 v2 r : Value) (w' : World) (hs : a.eval s = v1) (hx : a.eval x = v2)
    (hr : (Builtin.append_ #[t, tn] o.type #[v1, v2]).run P w = .ok r w') (h : K (a.put o.dst r) w') :
    if Region.wanted o (yielded ops a.tmps) = true then Oper.wp P o a w K Q else E := by
  have hw : Region.wanted o (yielded ops a.tmps) = true := by simp [Region.wanted, hgd]
  rw [if_pos hw]
  unfold Oper.wp execOp
  simp only [ho, resolve, invoke, builtin, Sem.run_bind, Sem.run_pure, Result.andThen_ok, List.map_toArray, List.map_cons, List.map_nil, hs, hx, hr]
  exact h
end
/-- Bytes appended to a slice of bytes in an own block. -/
theorem app_bytes (w : World) (base : Nat) (p : Option Addr) (n c : Nat) (l : List Int) (h : Tl w base 1 p n c (bs l)) (q : Option Addr) (m d : Nat) (k : List Int) (hs : Sl w 1 q m d (bs k)) (hb : n + m ≤ 1000000) (hbase : base ≤ w.heap.size) :
    ∃ p' c' w', (Builtin.append_ #[23, 23] 23 #[.slice p n c, .slice q m d]).run Tryd.prog w = .ok (.slice p' (n + m) c') w' ∧ Tl w' base 1 p' (n + m) c' (bs (l ++ k)) ∧ Mod (p.map (·.block)).toList w w' ∧ (p' = none ↔ p = none ∧ m = 0) ∧ (p'.map (·.block) = p.map (·.block) ∨ p'.map (·.block) = some w.heap.size) := by
  obtain ⟨i0, hi0, hz0, hz1, hz2⟩ := info_parts infoU8
  obtain ⟨p', c', w', hr, h2, h3, h4, h5⟩ := run_append_tl (P := Tryd.prog) w base 23 23 5 i0 _ 1 1 Tryd.underlying23 hi0 hz0 hz1 hz2 rfl (by omega) p n c (bs l) h q m d (bs k) hs (by unfold maxLen; omega) (by omega) hbase
  exact ⟨p', c', w', hr, by rw [bs_append]; exact h2, h3, h4, h5⟩
/-- A text appended to a slice of bytes in an own block. -/
theorem app_text (w : World) (base : Nat) (p : Option Addr) (n c : Nat) (l : List Int) (h : Tl w base 1 p n c (bs l)) (k : List Int) (hk : WfL k) (hb : n + k.length ≤ 1000000) (hbase : base ≤ w.heap.size) :
    ∃ p' c' w', (Builtin.append_ #[23, 9] 23 #[.slice p n c, .string (strOfNums k)]).run Tryd.prog w = .ok (.slice p' (n + k.length) c') w' ∧ Tl w' base 1 p' (n + k.length) c' (bs (l ++ k)) ∧ Mod (p.map (·.block)).toList w w' ∧ (p' = none ↔ p = none ∧ k.length = 0) := by
  obtain ⟨i0, hi0, hz0, hz1, hz2⟩ := info_parts infoU8
  exact run_append_text_tl (P := Tryd.prog) w base 23 9 23 5 i0 Tryd.underlying23 Tryd.underlying9 hi0 hz0 hz1 hz2 p n c l h k hk (by omega) hbase
end Go.Proofs.YtpdkkokgpdabhaaDoor
