/- Freed pages in memory. -/
import Derived.Test.YtgimdodbajhpoaaSl
import Derived.Test.YtgimdodbajhpoaaRows
namespace Go.Proofs.Ytgimdodbajhpoaa
open Go.RowKit Go.Maps
set_option linter.unusedSimpArgs false
set_option linter.unusedVariables false

def fcells (m : List (Int × Int)) : List Value := m.flatMap fun p => [.int .i64 p.1, .int .u64 p.2]
theorem fcells_len (m : List (Int × Int)) : (fcells m).length = m.length * 2 := by
  induction m with
  | nil => rfl
  | cons a r ih => simp [fcells] at ih ⊢; omega
theorem fcells_append (a b : List (Int × Int)) : fcells (a ++ b) = fcells a ++ fcells b := by simp [fcells]
theorem fcells_one (m : List (Int × Int)) : ∀ u ∈ fcells m, u.oneCell' = true := by
  intro u hu; simp [fcells] at hu; obtain ⟨a, b, _, rfl | rfl⟩ := hu <;> rfl
theorem fcells_take (m : List (Int × Int)) (i : Nat) : (fcells m).take (i * 2) = fcells (m.take i) := by
  induction m generalizing i with
  | nil => simp [fcells]
  | cons a r ih =>
    cases i with
    | zero => simp [fcells]
    | succ i => have := ih i; simp only [fcells, List.flatMap_cons, List.take_succ_cons, Nat.succ_mul] at this ⊢; simp [List.take_append, this]
theorem fcells_drop (m : List (Int × Int)) (i : Nat) : (fcells m).drop (i * 2) = fcells (m.drop i) := by
  induction m generalizing i with
  | nil => simp [fcells]
  | cons a r ih =>
    cases i with
    | zero => simp [fcells]
    | succ i => have := ih i; simp only [fcells, List.flatMap_cons, List.drop_succ_cons, Nat.succ_mul] at this ⊢; simp [List.drop_append, this]
theorem fcells_get (m : List (Int × Int)) (i : Nat) (hi : i < m.length) : (fcells m)[i * 2]? = some (.int .i64 (m.getD i (0, 0)).1) ∧ (fcells m)[i * 2 + 1]? = some (.int .u64 (m.getD i (0, 0)).2) := by
  induction m generalizing i with
  | nil => simp at hi
  | cons a r ih =>
    cases i with
    | zero => simp [fcells]
    | succ i =>
      obtain ⟨h1, h2⟩ := ih i (by simpa using hi)
      simp only [fcells, List.flatMap_cons] at h1 h2 ⊢
      constructor
      · rw [show (i + 1) * 2 = i * 2 + 2 by omega, List.getElem?_append_right (by simp)]; simpa using h1
      · rw [show (i + 1) * 2 + 1 = (i * 2 + 1) + 2 by omega, List.getElem?_append_right (by simp)]; simpa using h2

theorem sizeFreed (W : World) : (sizeOf (Try.prog.elem 48)).run Try.prog W = .ok 2 W := by kernel_rfl
end Go.Proofs.Ytgimdodbajhpoaa
