/- Numbers as bytes: Put32; bits. Numbers as bytes: Unkey. What a piece's page says, plainly: bytes, and back. Bytes as a text. -/
import Derived.Laws.BytesArg
import Derived.Test.YtgimdodbajhpoaaDoorG05
namespace Go.Proofs.YtgimdodbajhpoaaDoor
open Go.RowKit Go.Maps
set_option linter.unusedSimpArgs false
set_option linter.unusedVariables false

set_option maxRecDepth 100000 in
set_option maxHeartbeats 1000000 in
theorem put32_any (v : Int) (w : World) (h0 : 0 ≤ v) (h1 : v < 2 ^ 32) :
    Calls Tryd.prog 39 #[.int .u32 v] w (Ret (BytesS (be 4 v) w)) := by
  have hwr : IntKind.u64.wrap v = v := by rw [IntKind.wrap_u64]; omega
  go_enter Tryd.func39, Tryd.ntmps39
  go_wp2_with fail
  refine (key_any v _ h0 (by omega)).mono ?_
  rintro _ w1 ⟨_, rfl, p, n, c, rfl, hn, hown, hm⟩
  obtain rfl : n = 8 := by rw [hn, be_len]
  have hsl := (Sl.of_own hown (bs_one _)).1
  obtain ⟨p2, r2, s2, _⟩ := hsl.sub_l Tryd.underlying22 sizeBytes 4 .i64 (by omega)
  have HS := Lib.hid s2
  have HM := Lib.hid hm
  clear hown hm hn hsl s2
  simp only [show ((4 : Nat) : Int) = 4 from rfl] at r2
  go_wp2
  go_ret
  refine .mk ⟨p2, 4, c - 4, rfl, by rw [be_len], ?_, HM.out⟩
  have h := HS.out
  rw [show List.drop (4 * 1) (bs (be 8 v)) = bs (be 4 v) from by rw [← be_drop]; simp [bs]] at h
  exact h

/-- Bits that don't meet are added. -/
theorem or_add (k : IntKind) (a b j : Nat) (hb : b < 2 ^ j) (h : a * 2 ^ j + b < 2 ^ k.bits) : bits .or k ((a * 2 ^ j : Nat) : Int) (b : Int) = k.wrap ((a * 2 ^ j + b : Nat) : Int) := by
  have h1 : a * 2 ^ j < 2 ^ k.bits := by omega
  have h2 : b < 2 ^ k.bits := by omega
  have h3 := Nat.shiftLeft_add_eq_or_of_lt hb a
  rw [Nat.shiftLeft_eq] at h3
  unfold bits
  have e1 : ((a * 2 ^ j : Nat) : Int) = Int.ofNat (a * 2 ^ j) := rfl
  rw [h3]
  congr 1
  simp only [BitVec.toNat_or, BitVec.ofInt_natCast, BitVec.toNat_ofNat, Nat.mod_eq_of_lt h1, Nat.mod_eq_of_lt h2]
end Go.Proofs.YtgimdodbajhpoaaDoor
namespace Go.Proofs.YtgimdodbajhpoaaDoor
open Go.RowKit Go.Maps
set_option linter.unusedSimpArgs false
set_option linter.unusedVariables false

def AtR (x : Int) (j : Nat) (w : World) (v : Value) (w' : World) : Prop := v = .int .u64 (x * 2 ^ (8 * (7 - j))) ∧ w' = w
/-- One step: the next byte is set below those that are there. -/
theorem unkey_step {l : List Int} (hwf : ∀ x ∈ l, 0 ≤ x ∧ x < 256) (hl : l.length = 8) {k : Nat} (hk : k < 8) :
    bits .or .u64 (un (l.take k) * 2 ^ (8 * (8 - k))) (l.getD k 0 * 2 ^ (8 * (7 - k))) = un (l.take (k + 1)) * 2 ^ (8 * (8 - (k + 1))) := by
  obtain ⟨h1, h2⟩ := un_range hwf k (by omega)
  obtain ⟨h3, h4⟩ := un_range hwf (k + 1) (by omega)
  have hx := hwf (l.getD k 0) (by rw [getD_at (by omega)]; exact List.getElem_mem _)
  have hs := un_succ (l := l) (k := k) (by omega)
  obtain ⟨a, ha⟩ : ∃ a : Nat, un (l.take k) = a := ⟨(un (l.take k)).toNat, by omega⟩
  obtain ⟨x, hxx⟩ : ∃ x : Nat, l.getD k 0 = x := ⟨(l.getD k 0).toNat, by omega⟩
  obtain ⟨m, hm⟩ : ∃ m, m = 7 - k := ⟨_, rfl⟩
  rw [show 8 - k = m + 1 from by omega, ← hm, show 8 - (k + 1) = m from by omega, hs, ha, hxx]
  rw [hs, ha, hxx] at h4
  rw [hxx] at hx
  have hx2 : x < 256 := by omega
  have h5 : a * 256 + x < 256 ^ (k + 1) := by
    have : ((a * 256 + x : Nat) : Int) < ((256 ^ (k + 1) : Nat) : Int) := by rw [Int.natCast_add, Int.natCast_mul, Int.natCast_pow]; exact h4
    omega
  have e1 : a * 2 ^ (8 * (m + 1)) = a * 256 * 2 ^ (8 * m) := by rw [show 8 * (m + 1) = 8 + 8 * m from by omega, Nat.pow_add, Nat.mul_assoc]
  have hp : 0 < 2 ^ (8 * m) := Nat.pow_pos (by omega)
  have hb : x * 2 ^ (8 * m) < 2 ^ (8 * (m + 1)) := by
    rw [show 8 * (m + 1) = 8 + 8 * m from by omega, Nat.pow_add]
    exact Nat.mul_lt_mul_of_pos_right hx2 hp
  have e2 : a * 2 ^ (8 * (m + 1)) + x * 2 ^ (8 * m) = (a * 256 + x) * 2 ^ (8 * m) := by rw [e1, Nat.add_mul]
  have h6 : (a * 256 + x) * 2 ^ (8 * m) < 2 ^ 64 := by
    have h7 := Nat.mul_lt_mul_of_pos_right h5 hp
    have h8 : 256 ^ (k + 1) * 2 ^ (8 * m) = 2 ^ 64 := by
      rw [show (256 : Nat) = 2 ^ 8 from rfl, ← Nat.pow_mul, ← Nat.pow_add]; congr 1; omega
    omega
  have h9 := or_add .u64 a (x * 2 ^ (8 * m)) (8 * (m + 1)) hb (by rw [e2]; exact h6)
  rw [e2] at h9
  have hc1 : ((a * 2 ^ (8 * (m + 1)) : Nat) : Int) = (a : Int) * 2 ^ (8 * (m + 1)) := by rw [Int.natCast_mul, Int.natCast_pow]; rfl
  have hc2 : ((x * 2 ^ (8 * m) : Nat) : Int) = (x : Int) * 2 ^ (8 * m) := by rw [Int.natCast_mul, Int.natCast_pow]; rfl
  have hc3 : (((a * 256 + x) * 2 ^ (8 * m) : Nat) : Int) = ((a : Int) * 256 + x) * 2 ^ (8 * m) := by rw [Int.natCast_mul, Int.natCast_add, Int.natCast_mul, Int.natCast_pow]; rfl
  rw [hc1, hc2] at h9
  rw [h9, ← hc3, IntKind.wrap_u64, Int.emod_eq_of_lt (by omega) (by omega)]

def UnkeyM (n : Nat) (l : List Int) (w : World) (v : Value) (w' : World) : Prop := v = .tuple #[.int .u64 (if n = 8 then un l else 0), .bool (n == 8)] ∧ Mod [] w w'
end Go.Proofs.YtgimdodbajhpoaaDoor
namespace Go.Proofs.YtgimdodbajhpoaaDoor
open Go.RowKit Go.Maps
set_option linter.unusedSimpArgs false
set_option linter.unusedVariables false

/-- Bytes, filled up with zeros. -/
def pad (n : Nat) (p : List Int) : List Int := p ++ List.replicate (n - p.length) 0
theorem pad_len {n : Nat} {p : List Int} (h : p.length ≤ n) : (pad n p).length = n := by rw [pad, List.length_append, List.length_replicate]; omega
theorem pad_iff {n : Nat} {b p : List Int} (hb : b.length = n) (hp : p.length ≤ n) : (b.take p.length = p ∧ ∀ x ∈ b.drop p.length, x = 0) ↔ pad n p = b := by
  constructor
  · rintro ⟨h1, h2⟩
    rw [← List.take_append_drop p.length b, h1, pad]
    congr 1
    symm
    rw [List.eq_replicate_iff]
    exact ⟨by rw [List.length_drop, hb], h2⟩
  · intro h
    rw [← h, pad]
    simp
def cell12 (p : Int × Int) : List Int := be 4 p.1 ++ be 8 p.2
def body (l : List (Int × Int)) : List Int := l.flatMap cell12
def payl (l : List (Int × Int)) (next : Int) : List Int := be 2 l.length ++ be 4 next ++ body l
def mayPg (n : Int) : Bool := decide (0 ≤ n ∧ n ≤ 2147483647)
def mayL (l : List (Int × Int)) : Bool := l.all fun p => mayPg p.1
def mayPay (l : List (Int × Int)) (next : Int) : Bool := decide (l.length ≤ 84) && mayPg next && mayL l
def payO (l : List (Int × Int)) (next : Int) : List Int := if mayPay l next = true then payl l next else []
def rdAt (b : List Int) (i : Nat) : Int × Int := (un4 (b.drop (6 + 12 * i)) 4, un ((b.drop (10 + 12 * i)).take 8))
def rd (b : List Int) (n : Nat) : List (Int × Int) := (List.range n).map (rdAt b)
theorem rd_zero (b : List Int) : rd b 0 = [] := rfl
theorem rd_succ (b : List Int) (k : Nat) : rd b (k + 1) = rd b k ++ [rdAt b k] := by simp [rd, List.range_succ]
theorem rd_len (b : List Int) (k : Nat) : (rd b k).length = k := by simp [rd]
theorem cell12_len (p : Int × Int) : (cell12 p).length = 12 := by simp [cell12, be_len]
theorem body_len : ∀ l : List (Int × Int), (body l).length = 12 * l.length
  | [] => rfl
  | a :: r => by have := body_len r; simp only [body, List.flatMap_cons, List.length_append, cell12_len, List.length_cons] at this ⊢; omega
theorem body_append (a b : List (Int × Int)) : body (a ++ b) = body a ++ body b := by simp [body]
theorem body_one (a : Int × Int) : body [a] = cell12 a := by simp [body]
theorem body_take_succ {l : List (Int × Int)} {k : Nat} (hk : k < l.length) : body (l.take (k + 1)) = body (l.take k) ++ cell12 (l.getD k (0, 0)) := by
  rw [List.take_succ_eq_append_getElem hk, body_append, body_one, getD_at hk]
theorem body_drop : ∀ (l : List (Int × Int)) (i : Nat), i < l.length → (body l).drop (12 * i) = cell12 (l.getD i (0, 0)) ++ body (l.drop (i + 1))
  | a :: r, 0, _ => by simp [body]
  | a :: r, i + 1, h => by
    have e : body (a :: r) = cell12 a ++ body r := by simp [body]
    rw [e, show 12 * (i + 1) = (cell12 a).length + 12 * i from by rw [cell12_len]; omega, List.drop_append, List.drop_of_length_le (by omega), show (cell12 a).length + 12 * i - (cell12 a).length = 12 * i from by omega]
    have := body_drop r i (by simpa using h)
    simpa using this
theorem payl_len (l : List (Int × Int)) (next : Int) : (payl l next).length = 6 + 12 * l.length := by simp [payl, be_len, body_len]; omega
theorem payO_len (l : List (Int × Int)) (next : Int) : (payO l next).length ≤ 1014 := by
  unfold payO; split
  · rename_i h
    simp [mayPay] at h
    rw [payl_len]; omega
  · simp
theorem payO_nil {l : List (Int × Int)} {next : Int} : payO l next = [] ↔ mayPay l next = false := by
  unfold payO; split
  · rename_i h; rw [h]
    have := payl_len l next
    constructor
    · intro e; rw [e] at this; simp at this; omega
    · simp
  · rename_i h; simpa using h
theorem be_small (v : Nat) (h : v < 65536) : (be 2 (v : Int)).getD 0 0 * 256 + (be 2 (v : Int)).getD 1 0 = v := by
  have h0 : be 2 (v : Int) = [(v : Int) / 256 % 256, (v : Int) % 256] := by simp [be]
  rw [h0]; simp; omega

theorem payO_wf (l : List (Int × Int)) (next : Int) : ∀ x ∈ payO l next, 0 ≤ x ∧ x < 256 := by
  intro x hx
  unfold payO at hx
  split at hx
  · simp only [payl, body, List.mem_append, List.mem_flatMap, cell12] at hx
    rcases hx with (h | h) | ⟨a, _, h | h⟩ <;> exact be_wf _ _ _ h
  · simp at hx
/-- The code, the pieces and the next page that bytes say. -/
def nOf (b : List Int) : Nat := (b.getD 0 0 * 256 + b.getD 1 0).toNat
def nextOf (b : List Int) : Int := un4 (b.drop 2) 4
def goodP (b : List Int) : Bool := decide (nOf b ≤ 84) && mayPay (rd b (nOf b)) (nextOf b) && decide (pad 1016 (payO (rd b (nOf b)) (nextOf b)) = b)
def fromP (b : List Int) : List (Int × Int) × Int × Int := if b.length = 1016 ∧ goodP b = true then (rd b (nOf b), nextOf b, 0) else ([], 0, 5)

theorem nOf_payl (l : List (Int × Int)) (next : Int) (z : List Int) (h : l.length ≤ 84) : nOf (payl l next ++ z) = l.length := by
  have h0 : be 2 (l.length : Int) = [(l.length : Int) / 256 % 256, (l.length : Int) % 256] := by simp [be]
  unfold nOf payl
  rw [h0]; simp; omega
theorem nextOf_payl (l : List (Int × Int)) (next : Int) (z : List Int) (h0 : 0 ≤ next) (h1 : next ≤ 2147483647) : nextOf (payl l next ++ z) = next := by
  unfold nextOf payl
  rw [List.append_assoc, List.append_assoc, List.drop_append, List.drop_of_length_le (by rw [be_len]; omega), be_len, List.nil_append]
  simpa using un4_be (v := next) (body l ++ z) h0 (by omega)
theorem rd_payl (l : List (Int × Int)) (next : Int) (z : List Int) (hw : ∀ p ∈ l, (0 ≤ p.1 ∧ p.1 ≤ 2147483647) ∧ 0 ≤ p.2 ∧ p.2 < 18446744073709551616) : rd (payl l next ++ z) l.length = l := by
  apply List.ext_getElem (rd_len _ _)
  intro i h1 h2
  have hp := hw l[i] (List.getElem_mem _)
  have hd : ∀ k, k ≤ 12 → (payl l next ++ z).drop (6 + 12 * i + k) = (cell12 l[i]).drop k ++ (body (l.drop (i + 1)) ++ z) := by
    intro k hk
    have e : (payl l next ++ z) = (be 2 (l.length : Int) ++ be 4 next) ++ (body l ++ z) := by simp [payl]
    have e6 : (be 2 (l.length : Int) ++ be 4 next).length = 6 := by simp [be_len]
    have d6 : ((be 2 (l.length : Int) ++ be 4 next) ++ (body l ++ z)).drop 6 = body l ++ z := by
      rw [List.drop_append, List.drop_of_length_le (Nat.le_of_eq e6), e6]; rfl
    rw [e, show 6 + 12 * i + k = 6 + (12 * i + k) from by omega, ← List.drop_drop, d6, ← List.drop_drop,
      List.drop_append, show 12 * i - (body l).length = 0 from by rw [body_len]; omega, List.drop_zero, body_drop l i h2, getD_at h2, List.append_assoc, List.drop_append, cell12_len, show k - 12 = 0 from by omega, List.drop_zero]
  simp only [rd, List.getElem_map, List.getElem_range, rdAt]
  have d0 := hd 0 (by omega)
  have d4 := hd 4 (by omega)
  rw [show 6 + 12 * i + 0 = 6 + 12 * i from by omega, List.drop_zero] at d0
  rw [show 6 + 12 * i + 4 = 10 + 12 * i from by omega] at d4
  rw [d0, d4]
  have c4 : (cell12 l[i]).drop 4 = be 8 l[i].2 := by
    unfold cell12
    rw [List.drop_append, List.drop_of_length_le (by rw [be_len]; omega), be_len]; rfl
  rw [c4, un8_be _ hp.2.1 hp.2.2]
  unfold cell12
  rw [List.append_assoc, un4_be _ hp.1.1 (by omega)]
theorem mayPay_spec {l : List (Int × Int)} {next : Int} (h : mayPay l next = true) : l.length ≤ 84 ∧ (0 ≤ next ∧ next ≤ 2147483647) ∧ ∀ p ∈ l, 0 ≤ p.1 ∧ p.1 ≤ 2147483647 := by
  simp only [mayPay, Bool.and_eq_true, mayPg, decide_eq_true_eq, mayL, List.all_eq_true] at h
  exact ⟨h.1.1, h.1.2, fun p hp => h.2 p hp⟩
theorem fromP_payO {l : List (Int × Int)} {next : Int} (h : mayPay l next = true) (hw : ∀ p ∈ l, 0 ≤ p.2 ∧ p.2 < 18446744073709551616) : fromP (pad 1016 (payO l next)) = (l, next, 0) := by
  obtain ⟨h1, h2, h3⟩ := mayPay_spec h
  have hlen : (pad 1016 (payO l next)).length = 1016 := pad_len (by have := payO_len l next; omega)
  have e : pad 1016 (payO l next) = payl l next ++ List.replicate (1016 - (payl l next).length) 0 := by rw [payO, if_pos h]; rfl
  have n1 : nOf (pad 1016 (payO l next)) = l.length := by rw [e]; exact nOf_payl _ _ _ h1
  have n2 : nextOf (pad 1016 (payO l next)) = next := by rw [e]; exact nextOf_payl _ _ _ h2.1 h2.2
  have n3 : rd (pad 1016 (payO l next)) l.length = l := by rw [e]; exact rd_payl _ _ _ fun p hp => ⟨h3 p hp, hw p hp⟩
  have g : goodP (pad 1016 (payO l next)) = true := by
    unfold goodP
    rw [n1, n2, n3, h, decide_eq_true h1]; simp
  unfold fromP
  rw [if_pos ⟨hlen, g⟩, n1, n2, n3]
end Go.Proofs.YtgimdodbajhpoaaDoor
namespace Go.Proofs.YtgimdodbajhpoaaDoor
open Go.RowKit Go.Maps
set_option linter.unusedSimpArgs false
set_option linter.unusedVariables false

theorem Sl.str {P : Program} {w : World} {p : Option Addr} {n c : Nat} {l : List Int} (h : Sl w 1 p n c (bs l)) (src e dst : TypeId) (hs : P.underlying src = some (.slice e)) (he : P.underlying e = some (.int .u8)) (hd : P.underlying dst = some .string) :
    (convert src dst (.slice p n c)).run P w = .ok (.string (strOfNums l)) w := by
  have hl : l.length = n := by have := h.len; rw [bs_len] at this; omega
  rcases Nat.eq_zero_or_pos n with h0 | h0
  · subst h0
    obtain rfl : l = [] := List.eq_nil_of_length_eq_zero hl
    rw [run_convert_bytes_string w src dst e _ 0 c hs he hd]
    cases p <;> simp [Conv.bytesToString, loadCells]
    all_goals rfl
  · obtain ⟨b, off, rfl, _, hc⟩ := h.addr h0
    exact run_convert_bytes_arg w src e hs he b off n c l hl (fun i hi => hc i _ (bs_get (by omega))) dst hd
theorem str_inj {l m : List Int} (h1 : ∀ x ∈ l, 0 ≤ x ∧ x < 256) (h2 : ∀ x ∈ m, 0 ≤ x ∧ x < 256) (h : strOfNums l = strOfNums m) : l = m := by
  have e : l.map (fun n => UInt8.ofNat n.toNat) = m.map (fun n => UInt8.ofNat n.toNat) := by rw [← strOfNums_data, ← strOfNums_data, h]
  have hl : l.length = m.length := by have := congrArg List.length e; simpa using this
  apply List.ext_getElem hl
  intro i a b
  have e1 := congrArg (fun q => q[i]?) e
  simp only [List.getElem?_map, List.getElem?_eq_getElem a, List.getElem?_eq_getElem b, Option.map_some, Option.some.injEq] at e1
  have e2 := congrArg UInt8.toNat e1
  simp only [UInt8.toNat_ofNat'] at e2
  have g1 := h1 _ (List.getElem_mem a)
  have g2 := h2 _ (List.getElem_mem b)
  omega
theorem toList_inj {a b : ByteArray} (h : a.toList = b.toList) : a = b := by
  rw [ByteArray.toList_eq, ByteArray.toList_eq] at h
  cases a; cases b
  exact congrArg ByteArray.mk (Array.toList_inj.1 h)
theorem str_beq {l m : List Int} (h1 : ∀ x ∈ l, 0 ≤ x ∧ x < 256) (h2 : ∀ x ∈ m, 0 ≤ x ∧ x < 256) : ((strOfNums l).toList == (strOfNums m).toList) = decide (l = m) := by
  by_cases h : l = m
  · simp [h]
  · rw [decide_eq_false h]
    refine beq_eq_false_iff_ne.2 fun e => h (str_inj h1 h2 (toList_inj e))
end Go.Proofs.YtgimdodbajhpoaaDoor
