/- Pieces of a list of freed pages: how many; may a number stand for a page. -/
import Derived.Test.YtibkhdlddllcjaaDoorNum4
namespace Go.Proofs.YtibkhdlddllcjaaDoor
open Go.RowKit Go.Maps
set_option linter.unusedSimpArgs false
set_option linter.unusedVariables false

/-- How many pieces so many freed pages need. -/
def pcs (n : Nat) : Nat := if n < 1 then 1 else (n - 1) / 84 + 1
theorem pcs_step {n : Nat} (h : 84 < n) : pcs n = pcs (n - 84) + 1 := by unfold pcs; rw [if_neg (by omega), if_neg (by omega)]; omega
theorem pcs_one {n : Nat} (h : n ≤ 84) : pcs n = 1 := by unfold pcs; split <;> omega
def NumR (x : Int) (w : World) (v : Value) (w' : World) : Prop := v = .int .i64 x ∧ w' = w
theorem pieces_any (n : Nat) (w : World) (hn : n ≤ 2 ^ 40) : Calls Tryd.prog 9 #[.int .i64 n] w (Ret (NumR (pcs n) w)) := by
  by_cases h1 : n < 1
  · have hp : Hid (pcs n = 1) := by unfold Hid pcs; rw [if_pos h1]
    go_enter Tryd.func9, Tryd.ntmps9
    go_wp2
    go_ret
    exact .mk ⟨by rw [hp.out]; rfl, rfl⟩
  · have hp : Hid (pcs n = (n - 1) / 84 + 1) := by unfold Hid pcs; rw [if_neg h1]
    have hw1 : IntKind.i64.wrap ((n : Int) - 1) = ((n - 1 : Nat) : Int) := by rw [IntWalk.i64_in _ (by omega)]; omega
    have hw2 : IntKind.i64.wrap (((n - 1 : Nat) : Int) / 84) = (((n - 1) / 84 : Nat) : Int) := by rw [IntWalk.i64_in _ (by omega)]; omega
    have hw3 : IntKind.i64.wrap ((((n - 1) / 84 : Nat) : Int) + 1) = (((n - 1) / 84 + 1 : Nat) : Int) := by rw [IntWalk.i64_in _ (by omega)]; omega
    have hm0 : 0 ≤ ((n - 1 : Nat) : Int) := by omega
    generalize hm : n - 1 = m at *
    go_enter Tryd.func9, Tryd.ntmps9
    go_wp2
    go_ret
    exact .mk ⟨by rw [hp.out]; first | rfl | (simp; omega), rfl⟩

set_option maxRecDepth 100000 in
theorem qpieces_any (n : Nat) (w : World) (hn : n ≤ 2 ^ 40) : Calls Tryd.prog 10 #[.int .i64 n] w (Ret (NumR (pcs n) w)) := by
  go_enter Tryd.func10, Tryd.ntmps10
  go_wp2
  go_loopw [0, 3] (fun x k wr => ∃ (m j : Nat), x = .int .i64 m ∧ k = .int .i64 ((j : Int) + 1) ∧ wr = w ∧ j + m ≤ n ∧ pcs n = pcs m + j) (fun x _ _ => (intOf x).toNat)
  case atStart => exact ⟨n, 0, rfl, by simp, rfl, by omega, by omega⟩
  case round =>
    obtain ⟨m, j, rfl, rfl, rfl, hj, hp⟩ := hrel
    have HP := Lib.hid hp
    clear hp
    by_cases h84 : 84 < m
    · have HS := Lib.hid (pcs_step h84)
      have hw1 : IntKind.i64.wrap ((m : Int) - 84) = ((m - 84 : Nat) : Int) := by rw [IntWalk.i64_in _ (by omega)]; omega
      have hlt : m - 84 < m := by omega
      have hle : j + 1 + (m - 84) ≤ n := by omega
      generalize hr : m - 84 = r at *
      clear hr
      go_wp2
      go_roundw
      case rel => exact ⟨r, j + 1, by first | rfl | trivial, by go_num, by first | rfl | trivial, by omega, by rw [HP.out, HS.out]; omega⟩
      case measure => simp [intOf]; omega
    · have HS := Lib.hid (pcs_one (n := m) (by omega))
      go_wp2
      go_ret
      exact .mk ⟨by rw [HP.out, HS.out]; simp; omega, rfl⟩

def BoolR (x : Bool) (w : World) (v : Value) (w' : World) : Prop := v = .bool x ∧ w' = w
theorem maypage_any (n : Int) (w : World) : Calls Tryd.prog 16 #[.int .i64 n] w (Ret (BoolR (decide (0 ≤ n ∧ n ≤ 2147483647)) w)) := by
  obtain ⟨B, hB⟩ : ∃ B, B = decide (0 ≤ n ∧ n ≤ 2147483647) := ⟨_, rfl⟩
  rw [← hB]
  by_cases h1 : 0 ≤ n
  · by_cases h2 : n ≤ 2147483647
    · have H : Hid (B = true) := by unfold Hid; rw [hB]; simp [h1, h2]
      clear hB
      go_enter Tryd.func16, Tryd.ntmps16
      go_wp2
      go_ret
      exact .mk ⟨by rw [H.out]; rfl, rfl⟩
    · have H : Hid (B = false) := by unfold Hid; rw [hB]; simp; omega
      clear hB
      go_enter Tryd.func16, Tryd.ntmps16
      go_wp2
      go_ret
      exact .mk ⟨by rw [H.out]; rfl, rfl⟩
  · have H : Hid (B = false) := by unfold Hid; rw [hB]; simp; omega
    clear hB
    go_enter Tryd.func16, Tryd.ntmps16
    go_wp2
    go_ret
    exact .mk ⟨by rw [H.out]; rfl, rfl⟩
end Go.Proofs.YtibkhdlddllcjaaDoor
