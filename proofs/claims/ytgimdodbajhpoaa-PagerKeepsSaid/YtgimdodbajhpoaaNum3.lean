/- Numbers as bytes: Unkey. -/
import Derived.Test.YtgimdodbajhpoaaNum2
namespace Go.Proofs.Ytgimdodbajhpoaa
open Go.RowKit Go.Maps
set_option linter.unusedSimpArgs false
set_option linter.unusedVariables false

def AtR (x : Int) (j : Nat) (w : World) (v : Value) (w' : World) : Prop := v = .int .u64 (x * 2 ^ (8 * (7 - j))) ∧ w' = w
/-- One step: the next byte is set below those that are there. -/
theorem unkey_step {l : List Int} (hwf : ∀ x ∈ l, 0 ≤ x ∧ x < 256) (hl : l.length = 8) {k : Nat} (hk : k < 8) :
    bits .or .u64 (un (l.take k) * 2 ^ (8 * (8 - k))) (l.getD k 0 * 2 ^ (8 * (7 - k))) = un (l.take (k + 1)) * 2 ^ (8 * (8 - (k + 1))) := by
  obtain ⟨h1, h2⟩ := un_range hwf k (by omega)
  obtain ⟨h3, h4⟩ := un_range hwf (k + 1) (by omega)
  have hx := hwf (l.getD k 0) (by rw [getD_at (by omega)]; exact List.getElem_mem _)
  have hs := un_succ (l := l) (k := k) (by omega)
  obtain ⟨a, ha⟩ : ∃ a : Nat, un (l.take k) = a := ⟨(un (l.take k)).toNat, by omega⟩
  obtain ⟨x, hxx⟩ : ∃ x : Nat, l.getD k 0 = x := ⟨(l.getD k 0).toNat, by omega⟩
  obtain ⟨m, hm⟩ : ∃ m, m = 7 - k := ⟨_, rfl⟩
  rw [show 8 - k = m + 1 from by omega, ← hm, show 8 - (k + 1) = m from by omega, hs, ha, hxx]
  rw [hs, ha, hxx] at h4
  rw [hxx] at hx
  have hx2 : x < 256 := by omega
  have h5 : a * 256 + x < 256 ^ (k + 1) := by
    have : ((a * 256 + x : Nat) : Int) < ((256 ^ (k + 1) : Nat) : Int) := by rw [Int.natCast_add, Int.natCast_mul, Int.natCast_pow]; exact h4
    omega
  have e1 : a * 2 ^ (8 * (m + 1)) = a * 256 * 2 ^ (8 * m) := by rw [show 8 * (m + 1) = 8 + 8 * m from by omega, Nat.pow_add, Nat.mul_assoc]
  have hp : 0 < 2 ^ (8 * m) := Nat.pow_pos (by omega)
  have hb : x * 2 ^ (8 * m) < 2 ^ (8 * (m + 1)) := by
    rw [show 8 * (m + 1) = 8 + 8 * m from by omega, Nat.pow_add]
    exact Nat.mul_lt_mul_of_pos_right hx2 hp
  have e2 : a * 2 ^ (8 * (m + 1)) + x * 2 ^ (8 * m) = (a * 256 + x) * 2 ^ (8 * m) := by rw [e1, Nat.add_mul]
  have h6 : (a * 256 + x) * 2 ^ (8 * m) < 2 ^ 64 := by
    have h7 := Nat.mul_lt_mul_of_pos_right h5 hp
    have h8 : 256 ^ (k + 1) * 2 ^ (8 * m) = 2 ^ 64 := by
      rw [show (256 : Nat) = 2 ^ 8 from rfl, ← Nat.pow_mul, ← Nat.pow_add]; congr 1; omega
    omega
  have h9 := or_add .u64 a (x * 2 ^ (8 * m)) (8 * (m + 1)) hb (by rw [e2]; exact h6)
  rw [e2] at h9
  have hc1 : ((a * 2 ^ (8 * (m + 1)) : Nat) : Int) = (a : Int) * 2 ^ (8 * (m + 1)) := by rw [Int.natCast_mul, Int.natCast_pow]; rfl
  have hc2 : ((x * 2 ^ (8 * m) : Nat) : Int) = (x : Int) * 2 ^ (8 * m) := by rw [Int.natCast_mul, Int.natCast_pow]; rfl
  have hc3 : (((a * 256 + x) * 2 ^ (8 * m) : Nat) : Int) = ((a : Int) * 256 + x) * 2 ^ (8 * m) := by rw [Int.natCast_mul, Int.natCast_add, Int.natCast_mul, Int.natCast_pow]; rfl
  rw [hc1, hc2] at h9
  rw [h9, ← hc3, IntKind.wrap_u64, Int.emod_eq_of_lt (by omega) (by omega)]

def UnkeyM (n : Nat) (l : List Int) (w : World) (v : Value) (w' : World) : Prop := v = .tuple #[.int .u64 (if n = 8 then un l else 0), .bool (n == 8)] ∧ Mod [] w w'
end Go.Proofs.Ytgimdodbajhpoaa
