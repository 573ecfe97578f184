/- Bytes as numbers, plainly. -/
import Derived.Test.YtgimdodbajhpoaaTail
namespace Go.Proofs.Ytgimdodbajhpoaa
open Go.RowKit Go.Maps
set_option linter.unusedSimpArgs false
set_option linter.unusedVariables false

def bs (l : List Int) : List Value := l.map (.int .u8 ·)
theorem bs_len (l : List Int) : (bs l).length = l.length := by simp [bs]
theorem bs_one (l : List Int) : ∀ u ∈ bs l, u.oneCell' = true := by
  intro u hu; simp [bs] at hu; obtain ⟨a, _, rfl⟩ := hu; rfl
theorem bs_append (a b : List Int) : bs (a ++ b) = bs a ++ bs b := by simp [bs]
theorem bs_get {l : List Int} {k : Nat} (hk : k < l.length) : (bs l)[k]? = some (.int .u8 (l.getD k 0)) := by
  rw [getD_at hk, bs, List.getElem?_map, List.getElem?_eq_getElem hk]; rfl

/-- The n low bytes of a number, the greatest first. -/
def be : Nat → Int → List Int
  | 0, _ => []
  | n + 1, v => be n (v / 256) ++ [v % 256]
theorem be_len : ∀ (n : Nat) (v : Int), (be n v).length = n
  | 0, _ => rfl
  | n + 1, v => by rw [be, List.length_append, be_len n]; rfl
theorem be_succ : ∀ (n : Nat) (v : Int), be (n + 1) v = (v / 256 ^ n % 256) :: be n v
  | 0, v => by simp [be]
  | n + 1, v => by
    rw [be, be_succ n (v / 256), be, Int.ediv_ediv_of_nonneg (by omega), List.cons_append, Int.pow_succ, Int.mul_comm]

theorem getD_ext {l m : List Int} (hl : l.length = m.length) (h : ∀ j, j < l.length → l.getD j 0 = m.getD j 0) : l = m := by
  apply List.ext_getElem hl
  intro i h1 h2
  have := h i h1
  rwa [getD_at h1, getD_at h2] at this
/-- A slice of bytes that came in. -/
structure BytesIn (w : World) (p : Option Addr) (n c : Nat) (l : List Int) : Prop where
  sl : Sl w 1 p n c (bs l)
  wf : ∀ x ∈ l, 0 ≤ x ∧ x < 256
theorem BytesIn.len {w : World} {p : Option Addr} {n c : Nat} {l : List Int} (h : BytesIn w p n c l) : l.length = n := by have := h.sl.len; rw [bs_len] at this; omega
/-- The number that bytes say, the greatest first. -/
def un (l : List Int) : Int := l.foldl (fun a x => a * 256 + x) 0
theorem un_succ {l : List Int} {k : Nat} (hk : k < l.length) : un (l.take (k + 1)) = un (l.take k) * 256 + l.getD k 0 := by
  rw [List.take_succ_eq_append_getElem hk, un, List.foldl_append, getD_at hk]; rfl
theorem un_range {l : List Int} (h : ∀ x ∈ l, 0 ≤ x ∧ x < 256) : ∀ k : Nat, k ≤ l.length → 0 ≤ un (l.take k) ∧ un (l.take k) < 256 ^ k
  | 0, _ => by simp [un]
  | k + 1, hk => by
    obtain ⟨h1, h2⟩ := un_range h k (by omega)
    have hx := h (l.getD k 0) (by rw [getD_at (by omega)]; exact List.getElem_mem _)
    rw [un_succ (by omega), Int.pow_succ]
    constructor <;> omega

/-- The number that the first four bytes say; a byte that isn't there counts as 0. -/
def un4 (l : List Int) : Nat → Int
  | 0 => 0
  | k + 1 => un4 l k * 256 + l.getD k 0
theorem un4_range {l : List Int} (h : ∀ x ∈ l, 0 ≤ x ∧ x < 256) : ∀ k : Nat, 0 ≤ un4 l k ∧ un4 l k < 256 ^ k
  | 0 => by simp [un4]
  | k + 1 => by
    obtain ⟨h1, h2⟩ := un4_range h k
    have hx : 0 ≤ l.getD k 0 ∧ l.getD k 0 < 256 := by
      rcases Nat.lt_or_ge k l.length with hk | hk
      · exact h _ (by rw [getD_at hk]; exact List.getElem_mem _)
      · rw [show l.getD k 0 = 0 from by simp [List.getD, List.getElem?_eq_none hk]]; omega
    rw [un4, Int.pow_succ]
    constructor <;> omega
theorem be_drop (v : Int) : (be 8 v).drop 4 = be 4 v := by
  rw [be_succ 7, be_succ 6, be_succ 5, be_succ 4]; rfl
def BytesS (l : List Int) (w : World) (v : Value) (w' : World) : Prop := ∃ p n c, v = .slice p n c ∧ n = l.length ∧ Sl w' 1 p n c (bs l) ∧ Mod [] w w'

/-- One byte more, read as part of a number. -/
theorem un_append (a : List Int) (x : Int) : un (a ++ [x]) = un a * 256 + x := by simp [un, List.foldl_append]
theorem un_be : ∀ (n : Nat) (v : Int), 0 ≤ v → v < 256 ^ n → un (be n v) = v
  | 0, v, h0, h1 => by simp at h1; simp [be, un]; omega
  | n + 1, v, h0, h1 => by
    rw [Int.pow_succ] at h1
    rw [be, un_append, un_be n (v / 256) (by omega) (by omega)]
    omega
theorem un4_take {l : List Int} : ∀ {k : Nat}, k ≤ l.length → un4 l k = un (l.take k)
  | 0, _ => by simp [un4, un]
  | k + 1, h => by rw [un4, un4_take (by omega), un_succ (by omega)]
theorem be_wf : ∀ (n : Nat) (v : Int), ∀ x ∈ be n v, 0 ≤ x ∧ x < 256
  | 0, _, _, h => by simp [be] at h
  | n + 1, v, x, h => by
    rw [be] at h
    rcases List.mem_append.1 h with h | h
    · exact be_wf n _ x h
    · simp at h; omega
theorem un4_be {v : Int} (r : List Int) (h0 : 0 ≤ v) (h1 : v < 4294967296) : un4 (be 4 v ++ r) 4 = v := by
  rw [un4_take (by rw [List.length_append, be_len]; omega), List.take_append_of_le_length (by rw [be_len]; omega), List.take_of_length_le (by rw [be_len]; omega), un_be 4 v h0 h1]
theorem un8_be {v : Int} (r : List Int) (h0 : 0 ≤ v) (h1 : v < 18446744073709551616) : un ((be 8 v ++ r).take 8) = v := by
  rw [List.take_append_of_le_length (by rw [be_len]; omega), List.take_of_length_le (by rw [be_len]; omega), un_be 8 v h0 h1]
theorem unkey_range {l : List Int} (h : ∀ x ∈ l, 0 ≤ x ∧ x < 256) {a : Nat} : 0 ≤ un ((l.drop a).take 8) ∧ un ((l.drop a).take 8) < 18446744073709551616 := by
  have hw : ∀ x ∈ (l.drop a).take 8, 0 ≤ x ∧ x < 256 := fun x hx => h x (List.mem_of_mem_drop (List.mem_of_mem_take hx))
  obtain ⟨h1, h2⟩ := un_range hw _ (Nat.le_refl _)
  rw [List.take_of_length_le (Nat.le_refl _)] at h1 h2
  refine ⟨h1, Int.lt_of_lt_of_le h2 ?_⟩
  have hlen : ((l.drop a).take 8).length ≤ 8 := by rw [List.length_take]; omega
  obtain ⟨e, he⟩ : ∃ e, 8 = ((l.drop a).take 8).length + e := ⟨8 - ((l.drop a).take 8).length, by omega⟩
  have h8 : (18446744073709551616 : Int) = 256 ^ 8 := by decide
  rw [h8]
  conv => rhs; rw [he, Int.pow_add]
  have h1 : (1 : Int) ≤ 256 ^ e := Int.pow_pos (by omega)
  have h9 := Int.mul_le_mul_of_nonneg_left h1 (Int.le_of_lt (show (0 : Int) < 256 ^ ((l.drop a).take 8).length from Int.pow_pos (by omega)))
  rwa [Int.mul_one] at h9
end Go.Proofs.Ytgimdodbajhpoaa
