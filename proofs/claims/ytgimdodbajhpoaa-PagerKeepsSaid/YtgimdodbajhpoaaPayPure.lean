/- What a piece's page says, plainly: bytes, and back. -/
import Derived.Test.YtgimdodbajhpoaaBe
namespace Go.Proofs.Ytgimdodbajhpoaa
open Go.RowKit Go.Maps
set_option linter.unusedSimpArgs false
set_option linter.unusedVariables false

/-- Bytes, filled up with zeros. -/
def pad (n : Nat) (p : List Int) : List Int := p ++ List.replicate (n - p.length) 0
theorem pad_len {n : Nat} {p : List Int} (h : p.length ≤ n) : (pad n p).length = n := by rw [pad, List.length_append, List.length_replicate]; omega
theorem pad_iff {n : Nat} {b p : List Int} (hb : b.length = n) (hp : p.length ≤ n) : (b.take p.length = p ∧ ∀ x ∈ b.drop p.length, x = 0) ↔ pad n p = b := by
  constructor
  · rintro ⟨h1, h2⟩
    rw [← List.take_append_drop p.length b, h1, pad]
    congr 1
    symm
    rw [List.eq_replicate_iff]
    exact ⟨by rw [List.length_drop, hb], h2⟩
  · intro h
    rw [← h, pad]
    simp
def cell12 (p : Int × Int) : List Int := be 4 p.1 ++ be 8 p.2
def body (l : List (Int × Int)) : List Int := l.flatMap cell12
def payl (l : List (Int × Int)) (next : Int) : List Int := be 2 l.length ++ be 4 next ++ body l
def mayPg (n : Int) : Bool := decide (0 ≤ n ∧ n ≤ 2147483647)
def mayL (l : List (Int × Int)) : Bool := l.all fun p => mayPg p.1
def mayPay (l : List (Int × Int)) (next : Int) : Bool := decide (l.length ≤ 84) && mayPg next && mayL l
def payO (l : List (Int × Int)) (next : Int) : List Int := if mayPay l next = true then payl l next else []
def rdAt (b : List Int) (i : Nat) : Int × Int := (un4 (b.drop (6 + 12 * i)) 4, un ((b.drop (10 + 12 * i)).take 8))
def rd (b : List Int) (n : Nat) : List (Int × Int) := (List.range n).map (rdAt b)
theorem rd_zero (b : List Int) : rd b 0 = [] := rfl
theorem rd_succ (b : List Int) (k : Nat) : rd b (k + 1) = rd b k ++ [rdAt b k] := by simp [rd, List.range_succ]
theorem rd_len (b : List Int) (k : Nat) : (rd b k).length = k := by simp [rd]
theorem cell12_len (p : Int × Int) : (cell12 p).length = 12 := by simp [cell12, be_len]
theorem body_len : ∀ l : List (Int × Int), (body l).length = 12 * l.length
  | [] => rfl
  | a :: r => by have := body_len r; simp only [body, List.flatMap_cons, List.length_append, cell12_len, List.length_cons] at this ⊢; omega
theorem body_append (a b : List (Int × Int)) : body (a ++ b) = body a ++ body b := by simp [body]
theorem body_one (a : Int × Int) : body [a] = cell12 a := by simp [body]
theorem body_take_succ {l : List (Int × Int)} {k : Nat} (hk : k < l.length) : body (l.take (k + 1)) = body (l.take k) ++ cell12 (l.getD k (0, 0)) := by
  rw [List.take_succ_eq_append_getElem hk, body_append, body_one, getD_at hk]
theorem body_drop : ∀ (l : List (Int × Int)) (i : Nat), i < l.length → (body l).drop (12 * i) = cell12 (l.getD i (0, 0)) ++ body (l.drop (i + 1))
  | a :: r, 0, _ => by simp [body]
  | a :: r, i + 1, h => by
    have e : body (a :: r) = cell12 a ++ body r := by simp [body]
    rw [e, show 12 * (i + 1) = (cell12 a).length + 12 * i from by rw [cell12_len]; omega, List.drop_append, List.drop_of_length_le (by omega), show (cell12 a).length + 12 * i - (cell12 a).length = 12 * i from by omega]
    have := body_drop r i (by simpa using h)
    simpa using this
theorem payl_len (l : List (Int × Int)) (next : Int) : (payl l next).length = 6 + 12 * l.length := by simp [payl, be_len, body_len]; omega
theorem payO_len (l : List (Int × Int)) (next : Int) : (payO l next).length ≤ 1014 := by
  unfold payO; split
  · rename_i h
    simp [mayPay] at h
    rw [payl_len]; omega
  · simp
theorem payO_nil {l : List (Int × Int)} {next : Int} : payO l next = [] ↔ mayPay l next = false := by
  unfold payO; split
  · rename_i h; rw [h]
    have := payl_len l next
    constructor
    · intro e; rw [e] at this; simp at this; omega
    · simp
  · rename_i h; simpa using h
theorem be_small (v : Nat) (h : v < 65536) : (be 2 (v : Int)).getD 0 0 * 256 + (be 2 (v : Int)).getD 1 0 = v := by
  have h0 : be 2 (v : Int) = [(v : Int) / 256 % 256, (v : Int) % 256] := by simp [be]
  rw [h0]; simp; omega

theorem payO_wf (l : List (Int × Int)) (next : Int) : ∀ x ∈ payO l next, 0 ≤ x ∧ x < 256 := by
  intro x hx
  unfold payO at hx
  split at hx
  · simp only [payl, body, List.mem_append, List.mem_flatMap, cell12] at hx
    rcases hx with (h | h) | ⟨a, _, h | h⟩ <;> exact be_wf _ _ _ h
  · simp at hx
/-- The code, the pieces and the next page that bytes say. -/
def nOf (b : List Int) : Nat := (b.getD 0 0 * 256 + b.getD 1 0).toNat
def nextOf (b : List Int) : Int := un4 (b.drop 2) 4
def goodP (b : List Int) : Bool := decide (nOf b ≤ 84) && mayPay (rd b (nOf b)) (nextOf b) && decide (pad 1016 (payO (rd b (nOf b)) (nextOf b)) = b)
def fromP (b : List Int) : List (Int × Int) × Int × Int := if b.length = 1016 ∧ goodP b = true then (rd b (nOf b), nextOf b, 0) else ([], 0, 5)

theorem nOf_payl (l : List (Int × Int)) (next : Int) (z : List Int) (h : l.length ≤ 84) : nOf (payl l next ++ z) = l.length := by
  have h0 : be 2 (l.length : Int) = [(l.length : Int) / 256 % 256, (l.length : Int) % 256] := by simp [be]
  unfold nOf payl
  rw [h0]; simp; omega
theorem nextOf_payl (l : List (Int × Int)) (next : Int) (z : List Int) (h0 : 0 ≤ next) (h1 : next ≤ 2147483647) : nextOf (payl l next ++ z) = next := by
  unfold nextOf payl
  rw [List.append_assoc, List.append_assoc, List.drop_append, List.drop_of_length_le (by rw [be_len]; omega), be_len, List.nil_append]
  simpa using un4_be (v := next) (body l ++ z) h0 (by omega)
theorem rd_payl (l : List (Int × Int)) (next : Int) (z : List Int) (hw : ∀ p ∈ l, (0 ≤ p.1 ∧ p.1 ≤ 2147483647) ∧ 0 ≤ p.2 ∧ p.2 < 18446744073709551616) : rd (payl l next ++ z) l.length = l := by
  apply List.ext_getElem (rd_len _ _)
  intro i h1 h2
  have hp := hw l[i] (List.getElem_mem _)
  have hd : ∀ k, k ≤ 12 → (payl l next ++ z).drop (6 + 12 * i + k) = (cell12 l[i]).drop k ++ (body (l.drop (i + 1)) ++ z) := by
    intro k hk
    have e : (payl l next ++ z) = (be 2 (l.length : Int) ++ be 4 next) ++ (body l ++ z) := by simp [payl]
    have e6 : (be 2 (l.length : Int) ++ be 4 next).length = 6 := by simp [be_len]
    have d6 : ((be 2 (l.length : Int) ++ be 4 next) ++ (body l ++ z)).drop 6 = body l ++ z := by
      rw [List.drop_append, List.drop_of_length_le (Nat.le_of_eq e6), e6]; rfl
    rw [e, show 6 + 12 * i + k = 6 + (12 * i + k) from by omega, ← List.drop_drop, d6, ← List.drop_drop,
      List.drop_append, show 12 * i - (body l).length = 0 from by rw [body_len]; omega, List.drop_zero, body_drop l i h2, getD_at h2, List.append_assoc, List.drop_append, cell12_len, show k - 12 = 0 from by omega, List.drop_zero]
  simp only [rd, List.getElem_map, List.getElem_range, rdAt]
  have d0 := hd 0 (by omega)
  have d4 := hd 4 (by omega)
  rw [show 6 + 12 * i + 0 = 6 + 12 * i from by omega, List.drop_zero] at d0
  rw [show 6 + 12 * i + 4 = 10 + 12 * i from by omega] at d4
  rw [d0, d4]
  have c4 : (cell12 l[i]).drop 4 = be 8 l[i].2 := by
    unfold cell12
    rw [List.drop_append, List.drop_of_length_le (by rw [be_len]; omega), be_len]; rfl
  rw [c4, un8_be _ hp.2.1 hp.2.2]
  unfold cell12
  rw [List.append_assoc, un4_be _ hp.1.1 (by omega)]
theorem mayPay_spec {l : List (Int × Int)} {next : Int} (h : mayPay l next = true) : l.length ≤ 84 ∧ (0 ≤ next ∧ next ≤ 2147483647) ∧ ∀ p ∈ l, 0 ≤ p.1 ∧ p.1 ≤ 2147483647 := by
  simp only [mayPay, Bool.and_eq_true, mayPg, decide_eq_true_eq, mayL, List.all_eq_true] at h
  exact ⟨h.1.1, h.1.2, fun p hp => h.2 p hp⟩
theorem fromP_payO {l : List (Int × Int)} {next : Int} (h : mayPay l next = true) (hw : ∀ p ∈ l, 0 ≤ p.2 ∧ p.2 < 18446744073709551616) : fromP (pad 1016 (payO l next)) = (l, next, 0) := by
  obtain ⟨h1, h2, h3⟩ := mayPay_spec h
  have hlen : (pad 1016 (payO l next)).length = 1016 := pad_len (by have := payO_len l next; omega)
  have e : pad 1016 (payO l next) = payl l next ++ List.replicate (1016 - (payl l next).length) 0 := by rw [payO, if_pos h]; rfl
  have n1 : nOf (pad 1016 (payO l next)) = l.length := by rw [e]; exact nOf_payl _ _ _ h1
  have n2 : nextOf (pad 1016 (payO l next)) = next := by rw [e]; exact nextOf_payl _ _ _ h2.1 h2.2
  have n3 : rd (pad 1016 (payO l next)) l.length = l := by rw [e]; exact rd_payl _ _ _ fun p hp => ⟨h3 p hp, hw p hp⟩
  have g : goodP (pad 1016 (payO l next)) = true := by
    unfold goodP
    rw [n1, n2, n3, h, decide_eq_true h1]; simp
  unfold fromP
  rw [if_pos ⟨hlen, g⟩, n1, n2, n3]
end Go.Proofs.Ytgimdodbajhpoaa
