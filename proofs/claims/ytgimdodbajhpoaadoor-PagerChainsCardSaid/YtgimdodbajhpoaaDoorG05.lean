/- Bytes as numbers, plainly. Bytes that are read: a part of them. Rows of bytes in a list. The document's numbers as bytes: Key, Same. Numbers as bytes: Key. -/
import Derived.Test.YtgimdodbajhpoaaDoorG04
import Derived.Test.YtgimdodbajhpoaaDoorRows
namespace Go.Proofs.YtgimdodbajhpoaaDoor
open Go.RowKit Go.Maps
set_option linter.unusedSimpArgs false
set_option linter.unusedVariables false

def bs (l : List Int) : List Value := l.map (.int .u8 ·)
theorem bs_len (l : List Int) : (bs l).length = l.length := by simp [bs]
theorem bs_one (l : List Int) : ∀ u ∈ bs l, u.oneCell' = true := by
  intro u hu; simp [bs] at hu; obtain ⟨a, _, rfl⟩ := hu; rfl
theorem bs_append (a b : List Int) : bs (a ++ b) = bs a ++ bs b := by simp [bs]
theorem bs_get {l : List Int} {k : Nat} (hk : k < l.length) : (bs l)[k]? = some (.int .u8 (l.getD k 0)) := by
  rw [getD_at hk, bs, List.getElem?_map, List.getElem?_eq_getElem hk]; rfl

/-- The n low bytes of a number, the greatest first. -/
def be : Nat → Int → List Int
  | 0, _ => []
  | n + 1, v => be n (v / 256) ++ [v % 256]
theorem be_len : ∀ (n : Nat) (v : Int), (be n v).length = n
  | 0, _ => rfl
  | n + 1, v => by rw [be, List.length_append, be_len n]; rfl
theorem be_succ : ∀ (n : Nat) (v : Int), be (n + 1) v = (v / 256 ^ n % 256) :: be n v
  | 0, v => by simp [be]
  | n + 1, v => by
    rw [be, be_succ n (v / 256), be, Int.ediv_ediv_of_nonneg (by omega), List.cons_append, Int.pow_succ, Int.mul_comm]

theorem getD_ext {l m : List Int} (hl : l.length = m.length) (h : ∀ j, j < l.length → l.getD j 0 = m.getD j 0) : l = m := by
  apply List.ext_getElem hl
  intro i h1 h2
  have := h i h1
  rwa [getD_at h1, getD_at h2] at this
/-- A slice of bytes that came in. -/
structure BytesIn (w : World) (p : Option Addr) (n c : Nat) (l : List Int) : Prop where
  sl : Sl w 1 p n c (bs l)
  wf : ∀ x ∈ l, 0 ≤ x ∧ x < 256
theorem BytesIn.len {w : World} {p : Option Addr} {n c : Nat} {l : List Int} (h : BytesIn w p n c l) : l.length = n := by have := h.sl.len; rw [bs_len] at this; omega
/-- The number that bytes say, the greatest first. -/
def un (l : List Int) : Int := l.foldl (fun a x => a * 256 + x) 0
theorem un_succ {l : List Int} {k : Nat} (hk : k < l.length) : un (l.take (k + 1)) = un (l.take k) * 256 + l.getD k 0 := by
  rw [List.take_succ_eq_append_getElem hk, un, List.foldl_append, getD_at hk]; rfl
theorem un_range {l : List Int} (h : ∀ x ∈ l, 0 ≤ x ∧ x < 256) : ∀ k : Nat, k ≤ l.length → 0 ≤ un (l.take k) ∧ un (l.take k) < 256 ^ k
  | 0, _ => by simp [un]
  | k + 1, hk => by
    obtain ⟨h1, h2⟩ := un_range h k (by omega)
    have hx := h (l.getD k 0) (by rw [getD_at (by omega)]; exact List.getElem_mem _)
    rw [un_succ (by omega), Int.pow_succ]
    constructor <;> omega

/-- The number that the first four bytes say; a byte that isn't there counts as 0. -/
def un4 (l : List Int) : Nat → Int
  | 0 => 0
  | k + 1 => un4 l k * 256 + l.getD k 0
theorem un4_range {l : List Int} (h : ∀ x ∈ l, 0 ≤ x ∧ x < 256) : ∀ k : Nat, 0 ≤ un4 l k ∧ un4 l k < 256 ^ k
  | 0 => by simp [un4]
  | k + 1 => by
    obtain ⟨h1, h2⟩ := un4_range h k
    have hx : 0 ≤ l.getD k 0 ∧ l.getD k 0 < 256 := by
      rcases Nat.lt_or_ge k l.length with hk | hk
      · exact h _ (by rw [getD_at hk]; exact List.getElem_mem _)
      · rw [show l.getD k 0 = 0 from by simp [List.getD, List.getElem?_eq_none hk]]; omega
    rw [un4, Int.pow_succ]
    constructor <;> omega
theorem be_drop (v : Int) : (be 8 v).drop 4 = be 4 v := by
  rw [be_succ 7, be_succ 6, be_succ 5, be_succ 4]; rfl
def BytesS (l : List Int) (w : World) (v : Value) (w' : World) : Prop := ∃ p n c, v = .slice p n c ∧ n = l.length ∧ Sl w' 1 p n c (bs l) ∧ Mod [] w w'

/-- One byte more, read as part of a number. -/
theorem un_append (a : List Int) (x : Int) : un (a ++ [x]) = un a * 256 + x := by simp [un, List.foldl_append]
theorem un_be : ∀ (n : Nat) (v : Int), 0 ≤ v → v < 256 ^ n → un (be n v) = v
  | 0, v, h0, h1 => by simp at h1; simp [be, un]; omega
  | n + 1, v, h0, h1 => by
    rw [Int.pow_succ] at h1
    rw [be, un_append, un_be n (v / 256) (by omega) (by omega)]
    omega
theorem un4_take {l : List Int} : ∀ {k : Nat}, k ≤ l.length → un4 l k = un (l.take k)
  | 0, _ => by simp [un4, un]
  | k + 1, h => by rw [un4, un4_take (by omega), un_succ (by omega)]
theorem be_wf : ∀ (n : Nat) (v : Int), ∀ x ∈ be n v, 0 ≤ x ∧ x < 256
  | 0, _, _, h => by simp [be] at h
  | n + 1, v, x, h => by
    rw [be] at h
    rcases List.mem_append.1 h with h | h
    · exact be_wf n _ x h
    · simp at h; omega
theorem un4_be {v : Int} (r : List Int) (h0 : 0 ≤ v) (h1 : v < 4294967296) : un4 (be 4 v ++ r) 4 = v := by
  rw [un4_take (by rw [List.length_append, be_len]; omega), List.take_append_of_le_length (by rw [be_len]; omega), List.take_of_length_le (by rw [be_len]; omega), un_be 4 v h0 h1]
theorem un8_be {v : Int} (r : List Int) (h0 : 0 ≤ v) (h1 : v < 18446744073709551616) : un ((be 8 v ++ r).take 8) = v := by
  rw [List.take_append_of_le_length (by rw [be_len]; omega), List.take_of_length_le (by rw [be_len]; omega), un_be 8 v h0 h1]
theorem unkey_range {l : List Int} (h : ∀ x ∈ l, 0 ≤ x ∧ x < 256) {a : Nat} : 0 ≤ un ((l.drop a).take 8) ∧ un ((l.drop a).take 8) < 18446744073709551616 := by
  have hw : ∀ x ∈ (l.drop a).take 8, 0 ≤ x ∧ x < 256 := fun x hx => h x (List.mem_of_mem_drop (List.mem_of_mem_take hx))
  obtain ⟨h1, h2⟩ := un_range hw _ (Nat.le_refl _)
  rw [List.take_of_length_le (Nat.le_refl _)] at h1 h2
  refine ⟨h1, Int.lt_of_lt_of_le h2 ?_⟩
  have hlen : ((l.drop a).take 8).length ≤ 8 := by rw [List.length_take]; omega
  obtain ⟨e, he⟩ : ∃ e, 8 = ((l.drop a).take 8).length + e := ⟨8 - ((l.drop a).take 8).length, by omega⟩
  have h8 : (18446744073709551616 : Int) = 256 ^ 8 := by decide
  rw [h8]
  conv => rhs; rw [he, Int.pow_add]
  have h1 : (1 : Int) ≤ 256 ^ e := Int.pow_pos (by omega)
  have h9 := Int.mul_le_mul_of_nonneg_left h1 (Int.le_of_lt (show (0 : Int) < 256 ^ ((l.drop a).take 8).length from Int.pow_pos (by omega)))
  rwa [Int.mul_one] at h9
end Go.Proofs.YtgimdodbajhpoaaDoor
namespace Go.Proofs.YtgimdodbajhpoaaDoor
open Go.RowKit Go.Maps
set_option linter.unusedSimpArgs false
set_option linter.unusedVariables false

theorem BytesIn.mod {w w' : World} {S : List Nat} {p : Option Addr} {n c : Nat} {l : List Int} (h : BytesIn w p n c l) (hm : Mod S w w') (hn : ∀ a, p = some a → 0 < n → a.block ∉ S) : BytesIn w' p n c l := ⟨h.sl.mod hm hn, h.wf⟩
/-- 'b[lo:]'. -/
theorem BytesIn.from_ {P : Program} {T : TypeId} {w : World} {p : Option Addr} {n c : Nat} {l : List Int} (hT : P.underlying T = some (.slice (P.elem T))) (hs : ∀ W : World, (sizeOf (P.elem T)).run P W = .ok 1 W) (h : BytesIn w p n c l) (lo : Nat) (h1 : lo ≤ n) :
    ∃ p', (∀ W, (Instr.slice T (.slice p n c) (some (.int .i64 lo)) none none).run P W = .ok (.slice p' (n - lo) (c - lo)) W) ∧ BytesIn w p' (n - lo) (c - lo) (l.drop lo) := by
  obtain ⟨p', r, s, _⟩ := h.sl.sub_l hT hs lo .i64 h1
  refine ⟨p', r, ?_, fun x hx => h.wf x (List.mem_of_mem_drop hx)⟩
  rw [Nat.mul_one] at s
  simpa [bs, List.map_drop] using s
/-- 'b[lo:lo+k]'. -/
theorem BytesIn.sub {P : Program} {T : TypeId} {w : World} {p : Option Addr} {n c : Nat} {l : List Int} (hT : P.underlying T = some (.slice (P.elem T))) (hs : ∀ W : World, (sizeOf (P.elem T)).run P W = .ok 1 W) (h : BytesIn w p n c l) (lo hi k : Nat) (hk : hi = lo + k) (h1 : hi ≤ n) :
    ∃ p', (∀ W, (Instr.slice T (.slice p n c) (some (.int .i64 lo)) (some (.int .i64 hi)) none).run P W = .ok (.slice p' k (c - lo)) W) ∧ BytesIn w p' k (c - lo) ((l.drop lo).take k) := by
  obtain ⟨p', r, s, _⟩ := h.sl.sub hT hs lo hi .i64 .i64 (by omega) h1
  rw [show hi - lo = k from by omega] at r s
  refine ⟨p', r, ?_, fun x hx => h.wf x (List.mem_of_mem_drop (List.mem_of_mem_take hx))⟩
  rw [Nat.mul_one, Nat.mul_one] at s
  simpa [bs, List.map_drop, List.map_take] using s
end Go.Proofs.YtgimdodbajhpoaaDoor
namespace Go.Proofs.YtgimdodbajhpoaaDoor
open Go.RowKit Go.Maps
set_option linter.unusedSimpArgs false
set_option linter.unusedVariables false

/-- A slice of bytes, and its bytes. -/
structure Bv where
  p : Option Addr
  n : Nat
  c : Nat
  l : List Int
def Bv.val (k : Bv) : Value := .slice k.p k.n k.c
def Bv.In (w : World) (k : Bv) : Prop := BytesIn w k.p k.n k.c k.l
theorem Bv.In.mod {w w' : World} {S : List Nat} {k : Bv} (h : k.In w) (hm : Mod S w w') (hn : ∀ a, k.p = some a → 0 < k.n → a.block ∉ S) : k.In w' := ⟨BytesIn.sl h |>.mod hm hn, BytesIn.wf h⟩
theorem Bv.In.mod0 {w w' : World} {k : Bv} (h : k.In w) (hm : Mod [] w w') : k.In w' := h.mod hm (by simp)
theorem Bv.In.len {w : World} {k : Bv} (h : k.In w) : k.l.length = k.n := BytesIn.len h
structure KeysIn (w : World) (p : Option Addr) (n c : Nat) (ks : List Bv) : Prop where
  sl : Sl w 1 p n c (ks.map Bv.val)
  io : ∀ k ∈ ks, k.In w
theorem KeysIn.len {w : World} {p : Option Addr} {n c : Nat} {ks : List Bv} (h : KeysIn w p n c ks) : ks.length = n := by have := h.sl.len; simpa using this
theorem KeysIn.mod0 {w w' : World} {p : Option Addr} {n c : Nat} {ks : List Bv} (h : KeysIn w p n c ks) (hm : Mod [] w w') : KeysIn w' p n c ks := ⟨h.sl.mod hm (by simp), fun k hk => (h.io k hk).mod0 hm⟩
end Go.Proofs.YtgimdodbajhpoaaDoor
namespace Go.Proofs.YtgimdodbajhpoaaDoor
open Go.RowKit Go.Maps
set_option linter.unusedSimpArgs false
set_option linter.unusedVariables false

theorem own_lit {w : World} (T : TypeId) (x : Value) (hx : x.oneCell' = true) (base : Nat) (hb : base ≤ w.heap.size) : (w.alloc (.cells #[x] T)).ownsRow base T 1 (.slice (some ⟨w.heap.size, 0, none⟩) 1 1) 1 [x] := by
  refine ⟨by simp, Or.inr ⟨w.heap.size, 1, #[x], rfl, hb, at_alloc w _, by omega, by unfold maxLen; omega, by simp, by simp⟩⟩
theorem infoU8 : (Tryd.prog.info? 5).map (fun i => (i.zero, i.size, i.bytes)) = some (some (.int .u8 0), 1, 1) := by kernel_rfl

def BytesR (l : List Int) (w : World) (v : Value) (w' : World) : Prop := ∃ p n c, v = .slice p n c ∧ n = l.length ∧ w'.ownsRow w.heap.size 5 1 (.slice p n c) n (bs l) ∧ Mod [] w w'
theorem sizeBytes (W : World) : (sizeOf (Tryd.prog.elem 22)).run Tryd.prog W = .ok 1 W := by kernel_rfl
def SameR (w : World) (b : Bool) (v : Value) (w' : World) : Prop := v = .bool b ∧ Mod [] w w'
set_option maxRecDepth 100000 in
theorem qsame_any (p q : Option Addr) (nl nm c d : Nat) (l m : List Int) (w : World) (h1 : Sl w 1 p nl c (bs l)) (h2 : Sl w 1 q nm d (bs m)) :
    Calls Tryd.prog 12 #[.slice p nl c, .slice q nm d] w (Ret (SameR w (decide (l = m)))) := by
  have e1 : l.length = nl := by have := h1.len; simpa [bs] using this
  have e2 : m.length = nm := by have := h2.len; simpa [bs] using this
  have hc1 := h1.capm; have hd1 := h1.le
  have hc2 := h2.capm; have hd2 := h2.le
  unfold maxLen at hc1 hc2
  obtain ⟨b1, o1, ha1, hx1⟩ := h1.at_
  obtain ⟨b2, o2, ha2, hx2⟩ := h2.at_
  have hi1 := fun W => Sl.idx (P := Tryd.prog) (cap := c) Tryd.underlying22 sizeBytes (fun h => (ha1 h).1) W .i64
  have hi2 := fun W => Sl.idx (P := Tryd.prog) (cap := d) Tryd.underlying22 sizeBytes (fun h => (ha2 h).1) W .i64
  clear h1 h2 ha1 ha2
  have E1 := Lib.hid e1
  have E2 := Lib.hid e2
  clear e1 e2
  by_cases hl : nl = nm
  · have HL := Lib.hid hl
    have hne : ((nl : Int) != (nm : Int)) = false := by simp [hl]
    go_enter Tryd.func12, Tryd.ntmps12
    clear hl
    go_wp2
    go_loopw [5] (fun i wr => ∃ k : Nat, k ≤ nl ∧ i = .int .i64 k ∧ Mod [] w wr ∧ ∀ j, j < k → l.getD j 0 = m.getD j 0) (fun i _ => nl - (intOf i).toNat)
    case atStart => exact ⟨0, by omega, rfl, Mod.refl _ _, by omega⟩
    case round =>
      obtain ⟨k, hk, rfl, hmd, hall⟩ := hrel
      have HA := Lib.hid hall
      have HM := Lib.hid hmd
      clear hall hmd
      by_cases hlt : k < nl
      · have hlt2 : k < nm := by have := HL.out; omega
        have d1 := hx1 k _ (bs_get (l := l) (by have := E1.out; omega))
        have d2 := hx2 k _ (bs_get (l := m) (by have := E2.out; omega))
        rw [← HM.out.cell (a := ⟨b1, o1 + k, none⟩) (World.block_lt_of_cell? w _ d1) (by simp)] at d1
        rw [← HM.out.cell (a := ⟨b2, o2 + k, none⟩) (World.block_lt_of_cell? w _ d2) (by simp)] at d2
        obtain ⟨x, hx⟩ : ∃ x, x = l.getD k 0 := ⟨_, rfl⟩
        obtain ⟨y, hy⟩ : ∃ y, y = m.getD k 0 := ⟨_, rfl⟩
        rw [← hx] at d1
        rw [← hy] at d2
        have HX := Lib.hid hx
        have HY := Lib.hid hy
        clear hx hy hx1 hx2
        by_cases hxy : x = y
        · have hb : (x != y) = false := by simp [hxy]
          have HXY := Lib.hid hxy
          clear hxy
          go_wp2
          go_quiet (fail)
          go_wp2
          go_roundw
          case rel => exact ⟨k + 1, by omega, by go_num, HM.out.same (Mod.of_drewN wr _), fun j hj => by
            rcases Nat.lt_succ_iff_lt_or_eq.1 hj with h | rfl
            · exact HA.out j h
            · rw [← HX.out, ← HY.out]; exact HXY.out⟩
          case measure => simp [intOf]; omega
        · have hb : (x != y) = true := by simp [hxy]
          have HXY := Lib.hid hxy
          clear hxy
          go_wp2
          go_quiet (fail)
          go_wp2
          go_ret
          exact .mk ⟨by rw [decide_eq_false (fun e => HXY.out (by rw [HX.out, HY.out, e]))]; rfl, HM.out.same (Mod.of_drewN wr _)⟩
      · go_wp2
        go_ret
        exact .mk ⟨by rw [getD_ext (by have := E1.out; have := E2.out; have := HL.out; omega) (fun j hj => HA.out j (by have := E1.out; omega))]; simp, HM.out⟩
  · have HL := Lib.hid hl
    have hne : ((nl : Int) != (nm : Int)) = true := by simp; omega
    clear hl
    go_enter Tryd.func12, Tryd.ntmps12
    go_wp2
    go_ret
    exact .mk ⟨by rw [decide_eq_false (fun e => HL.out (by rw [← E1.out, ← E2.out, e]))]; rfl, Mod.refl _ _⟩

end Go.Proofs.YtgimdodbajhpoaaDoor
namespace Go.Proofs.YtgimdodbajhpoaaDoor
open Go.RowKit Go.Maps
set_option linter.unusedSimpArgs false
set_option linter.unusedVariables false

theorem bytes_own {w : World} {B base : Nat} {l : List Int} {n : Nat} (h : w.heap[B]? = some (.cells (bs l).toArray 5 (0, 0))) (hn : l.length = n) (hb : base ≤ B) (hm : n ≤ maxLen) : w.ownsRow base 5 1 (.slice (some ⟨B, 0, none⟩) n n) n (bs l) :=
  ⟨by simp [bs, hn], Or.inr ⟨B, n, (bs l).toArray, rfl, hb, h, by omega, hm, by simp [bs, hn], by simp [bs]; exact List.take_of_length_le (by simp [hn])⟩⟩

set_option maxRecDepth 100000 in
set_option maxHeartbeats 1000000 in
theorem key_any (v : Int) (w : World) (h0 : 0 ≤ v) (h1 : v < 2 ^ 64) :
    Calls Tryd.prog 53 #[.int .u64 v] w (Ret (BytesR (be 8 v) w)) := by
  obtain ⟨i0, hi0, hz0, hz1, hz2⟩ := info_parts infoU8
  have hmk := fun W => run_makeSlice (P := Tryd.prog) W 22 5 i0 (.int .u8 0) Tryd.underlying22 hi0 hz0 .i64 .i64 8 8 (by omega) (by omega) (by rw [hz1]; decide) (by rw [hz2]; decide)
  go_enter Tryd.func53, Tryd.ntmps53
  go_wp2
  have hmc : madeCells #[.int .u8 0] 8 = (bs (List.replicate 8 0)).toArray := by kernel_rfl
  have hB0 : (w.alloc (.cells (madeCells #[.int .u8 0] 8) 5)).heap[w.heap.size]? = some (.cells (bs (List.replicate 8 0)).toArray 5 (0, 0)) := by rw [hmc]; exact at_alloc w _
  have HB0 := Lib.hid hB0
  have hM0 : Mod [] w (w.alloc (.cells (madeCells #[.int .u8 0] 8) 5)) := Mod.of_alloc w _
  have HM0 := Lib.hid hM0
  clear hmk hB0 hM0 hmc
  have hidx : ∀ (W : World) (j : Nat), j < 8 → (Instr.indexAt 22 (.slice (some ⟨w.heap.size, 0, none⟩) 8 8) (.int .i64 j)).run Tryd.prog W = .ok (.pointer (some ⟨w.heap.size, 0 + j * 1, none⟩)) W :=
    fun W => Sl.idx (P := Tryd.prog) (cap := 8) Tryd.underlying22 sizeBytes (fun _ => rfl) W .i64
  go_loopw [8] (fun i wr => ∃ (k : Nat), k ≤ 8 ∧ i = .int .i64 k ∧ wr.heap[w.heap.size]? = some (.cells (bs (List.replicate (8 - k) 0 ++ be k v)).toArray 5 (0, 0)) ∧ Mod [] w wr) (fun i _ => 8 - (intOf i).toNat)
  case atStart => exact ⟨0, by omega, rfl, by simpa [be] using HB0.out, HM0.out⟩
  case round =>
    obtain ⟨k, hk, rfl, hat, hm⟩ := hrel
    have HA := Lib.hid hat
    have HM := Lib.hid hm
    clear hat hm HB0 HM0
    by_cases hlt : k < 8
    · obtain ⟨j, hj⟩ : ∃ j, j = 7 - k := ⟨_, rfl⟩
      have hjk : (7 : Int) - (k : Int) = (j : Int) := by omega
      have hw1 : IntKind.i64.wrap (7 - (k : Int)) = (j : Int) := by rw [IntWalk.i64_in _ (by omega)]; exact hjk
      have hj8 : j < 8 := by omega
      have hf : wr.frozen? ⟨w.heap.size, j, none⟩ = false := free_of_at HA.out j
      have hll : (List.replicate (8 - k) 0 ++ be k v).length = 8 := by rw [List.length_append, be_len, List.length_replicate]; omega
      have hc : wr.cell? ⟨w.heap.size, j, none⟩ = some (.int .u8 ((List.replicate (8 - k) 0 ++ be k v).getD j 0)) := by
        rw [cell_of_at HA.out j, List.getElem?_toArray]; exact bs_get (by rw [hll]; exact hj8)
      have h256 : (2 : Int) ^ (8 * k) = 256 ^ k := by rw [show 8 * k = k * 8 from by omega, Nat.mul_comm, Int.pow_mul]; rfl
      have HFin : Hid (((bs (List.replicate (8 - k) 0 ++ be k v)).toArray.setIfInBounds j (.int .u8 (v / 2 ^ (8 * k) % 256))) = (bs (List.replicate (8 - (k + 1)) 0 ++ be (k + 1) v)).toArray) := by
        have e8 : 8 - k = (8 - (k + 1)) + 1 := by omega
        have ej : j = 8 - (k + 1) := by omega
        rw [List.setIfInBounds_toArray, h256, be_succ, e8, List.replicate_succ', List.append_assoc]
        congr 1
        simp only [bs, List.map_append, List.map_cons, List.singleton_append, List.cons_append, List.nil_append]
        rw [List.set_append_right _ _ (by simp; omega)]
        simp [ej]
      clear hll h256
      have HJ := Lib.hid hj
      clear hj
      generalize hG : v / 2 ^ (8 * k) % 256 = G at HFin
      go_wp2
      go_roundw
      case rel => exact ⟨k + 1, by omega, by go_num, by rw [← HFin.out]; exact at_setCell HA.out j _, HM.out.trans (Mod.of_setCell wr _ _ _) (by simp)⟩
      case measure => simp [intOf]; omega
    · obtain rfl : k = 8 := by omega
      go_wp2
      go_ret
      exact .mk ⟨_, 8, 8, rfl, by rw [be_len], bytes_own (by simpa using HA.out) (be_len _ _) (Nat.le_refl _) (by unfold maxLen; omega), HM.out⟩

def UnkeyR (n : Nat) (l : List Int) (w : World) (v : Value) (w' : World) : Prop := v = .tuple #[.int .u64 (if n = 8 then un l else 0), .bool (n == 8)] ∧ w' = w
def Get32R (l : List Int) (w : World) (v : Value) (w' : World) : Prop := v = .int .u32 (un4 l 4) ∧ w' = w
end Go.Proofs.YtgimdodbajhpoaaDoor
