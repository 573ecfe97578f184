/- Functions of Go's library on bytes: Trim of zeros, Equal, HasPrefix. -/
import Derived.Test.YtgimdodbajhpoaaNumRef
import Derived.Test.YtgimdodbajhpoaaPar
import Derived.Test.YtgimdodbajhpoaaTlKey
namespace Go.Proofs.Ytgimdodbajhpoaa
open Go.RowKit Go.Maps
set_option linter.unusedSimpArgs false
set_option linter.unusedVariables false

def BoolM (b : Bool) (w : World) (v : Value) (w' : World) : Prop := v = .bool b ∧ Mod [] w w'
/-- A part of bytes: the first k are left; the others are zeros. -/
def TrimRR (p : Option Addr) (c : Nat) (l : List Int) (w : World) (v : Value) (w' : World) : Prop := ∃ k, k ≤ l.length ∧ v = .slice p k c ∧ (∀ x ∈ l.drop k, x = 0) ∧ w' = w
theorem drop_zero_succ {l : List Int} {k : Nat} (hk : k < l.length) (h0 : l.getD k 0 = 0) (h : ∀ x ∈ l.drop (k + 1), x = 0) : ∀ x ∈ l.drop k, x = 0 := by
  rw [List.drop_eq_getElem_cons hk]
  intro x hx
  rcases List.mem_cons.1 hx with rfl | hx
  · rwa [getD_at hk] at h0
  · exact h x hx
def TrimLR (l : List Int) (w : World) (v : Value) (w' : World) : Prop := ∃ q k d, v = .slice q k d ∧ (k = 0 ↔ ∀ x ∈ l, x = 0) ∧ w' = w
theorem Sl.takeb {P : Program} {T : TypeId} {w : World} {p : Option Addr} {n c k : Nat} {l : List Int} (hT : P.underlying T = some (.slice (P.elem T))) (hs : ∀ W : World, (sizeOf (P.elem T)).run P W = .ok 1 W) (h : Sl w 1 p n c (bs l)) (hk : k ≤ n) : Sl w 1 p k c (bs (l.take k)) := by
  have := (h.sub_h hT hs k .i64 hk).2
  rw [Nat.mul_one] at this
  simpa [bs, List.map_take] using this
def TrimM (l : List Int) (w : World) (v : Value) (w' : World) : Prop := ∃ q k d, v = .slice q k d ∧ (k = 0 ↔ ∀ x ∈ l, x = 0) ∧ Mod [] w w'
theorem uStr : Try.prog.underlying 9 = some .string := Try.underlying9
theorem uU8 : Try.prog.underlying 5 = some (.int .u8) := Try.underlying5
def EqB (b : Bool) (w : World) (v : Value) (w' : World) : Prop := v = .bool b ∧ w' = w
end Go.Proofs.Ytgimdodbajhpoaa
