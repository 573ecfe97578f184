/- Numbers as bytes: Put32; bits. -/
import Derived.Test.YtgimdodbajhpoaaNum
namespace Go.Proofs.Ytgimdodbajhpoaa
open Go.RowKit Go.Maps
set_option linter.unusedSimpArgs false
set_option linter.unusedVariables false

set_option maxRecDepth 100000 in
set_option maxHeartbeats 1000000 in
theorem put32_any (v : Int) (w : World) (h0 : 0 ≤ v) (h1 : v < 2 ^ 32) :
    Calls Try.prog 38 #[.int .u32 v] w (Ret (BytesS (be 4 v) w)) := by
  have hwr : IntKind.u64.wrap v = v := by rw [IntKind.wrap_u64]; omega
  go_enter Try.func38, Try.ntmps38
  go_wp2_with fail
  refine (key_any v _ h0 (by omega)).mono ?_
  rintro _ w1 ⟨_, rfl, p, n, c, rfl, hn, hown, hm⟩
  obtain rfl : n = 8 := by rw [hn, be_len]
  have hsl := (Sl.of_own hown (bs_one _)).1
  obtain ⟨p2, r2, s2, _⟩ := hsl.sub_l Try.underlying23 sizeBytes 4 .i64 (by omega)
  have HS := Lib.hid s2
  have HM := Lib.hid hm
  clear hown hm hn hsl s2
  simp only [show ((4 : Nat) : Int) = 4 from rfl] at r2
  go_wp2
  go_ret
  refine .mk ⟨p2, 4, c - 4, rfl, by rw [be_len], ?_, HM.out⟩
  have h := HS.out
  rw [show List.drop (4 * 1) (bs (be 8 v)) = bs (be 4 v) from by rw [← be_drop]; simp [bs]] at h
  exact h

/-- Bits that don't meet are added. -/
theorem or_add (k : IntKind) (a b j : Nat) (hb : b < 2 ^ j) (h : a * 2 ^ j + b < 2 ^ k.bits) : bits .or k ((a * 2 ^ j : Nat) : Int) (b : Int) = k.wrap ((a * 2 ^ j + b : Nat) : Int) := by
  have h1 : a * 2 ^ j < 2 ^ k.bits := by omega
  have h2 : b < 2 ^ k.bits := by omega
  have h3 := Nat.shiftLeft_add_eq_or_of_lt hb a
  rw [Nat.shiftLeft_eq] at h3
  unfold bits
  have e1 : ((a * 2 ^ j : Nat) : Int) = Int.ofNat (a * 2 ^ j) := rfl
  rw [h3]
  congr 1
  simp only [BitVec.toNat_or, BitVec.ofInt_natCast, BitVec.toNat_ofNat, Nat.mod_eq_of_lt h1, Nat.mod_eq_of_lt h2]
end Go.Proofs.Ytgimdodbajhpoaa
