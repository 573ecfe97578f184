/- Bytes put together: parts and literals. -/
import Derived.Test.YtgimdodbajhpoaaGreatDoorG21
import Derived.Test.YtgimdodbajhpoaaGreatDoorG22
import Derived.Test.YtgimdodbajhpoaaGreatDoorG09
namespace Go.Proofs.YtgimdodbajhpoaaGreatDoor
open Go.RowKit Go.Maps
set_option linter.unusedSimpArgs false
set_option linter.unusedVariables false

def ValR (l : List Int) (w : World) (v : Value) (w' : World) : Prop := ∃ p n c, v = .slice p n c ∧ n = l.length ∧ Sl w' 1 p n c (bs l) ∧ Mod [] w w'
theorem be2_of {n : Int} (h0 : 0 ≤ n) (h1 : n < 65536) : be 2 n = [n / 256, n % 256] := by simp [be]; omega
theorem flat3' (q p5 p6 : Option Addr) (m d n5 c5 n6 c6 : Nat) (A X Y : List Int) : flat [(q, m, d, A), (p5, n5, c5, X), (p6, n6, c6, Y)] = A ++ (X ++ Y) := by simp [flat]
theorem PartsAt.three' (w : World) {q p5 p6 : Option Addr} {m d n5 c5 n6 c6 : Nat} {A X Y : List Int} (T : TypeId) (h1 : Sl w 1 q m d (bs A)) (h2 : Sl w 1 p5 n5 c5 (bs X)) (h3 : Sl w 1 p6 n6 c6 (bs Y)) :
    PartsAt (w.alloc (.cells #[.slice q m d, .slice p5 n5 c5, .slice p6 n6 c6] T)) (some ⟨w.heap.size, 0, none⟩) 3 3 [(q, m, d, A), (p5, n5, c5, X), (p6, n6, c6, Y)] :=
  PartsAt.new w [(q, m, d, A), (p5, n5, c5, X), (p6, n6, c6, Y)] T (by simp [maxLen]) (by
    intro z hz
    simp only [List.mem_cons, List.not_mem_nil, or_false] at hz
    rcases hz with rfl | rfl | rfl
    · exact h1
    · exact h2
    · exact h3)
theorem flat4' (q p5 p6 p7 : Option Addr) (m d n5 c5 n6 c6 n7 c7 : Nat) (A X Y Z : List Int) : flat [(q, m, d, A), (p5, n5, c5, X), (p6, n6, c6, Y), (p7, n7, c7, Z)] = A ++ (X ++ (Y ++ Z)) := by simp [flat]
theorem PartsAt.four' (w : World) {q p5 p6 p7 : Option Addr} {m d n5 c5 n6 c6 n7 c7 : Nat} {A X Y Z : List Int} (T : TypeId) (h1 : Sl w 1 q m d (bs A)) (h2 : Sl w 1 p5 n5 c5 (bs X)) (h3 : Sl w 1 p6 n6 c6 (bs Y)) (h4 : Sl w 1 p7 n7 c7 (bs Z)) :
    PartsAt (w.alloc (.cells #[.slice q m d, .slice p5 n5 c5, .slice p6 n6 c6, .slice p7 n7 c7] T)) (some ⟨w.heap.size, 0, none⟩) 4 4 [(q, m, d, A), (p5, n5, c5, X), (p6, n6, c6, Y), (p7, n7, c7, Z)] :=
  PartsAt.new w [(q, m, d, A), (p5, n5, c5, X), (p6, n6, c6, Y), (p7, n7, c7, Z)] T (by simp [maxLen]) (by
    intro z hz
    simp only [List.mem_cons, List.not_mem_nil, or_false] at hz
    rcases hz with rfl | rfl | rfl | rfl
    · exact h1
    · exact h2
    · exact h3
    · exact h4)
theorem lit_bytes (W : World) (l : List Int) (T : TypeId) (hl : l.length ≤ 1000) : Sl (W.alloc (.cells (bs l).toArray T)) 1 (some ⟨W.heap.size, 0, none⟩) l.length l.length (bs l) :=
  Sl.new W (bs l) T 1 l.length (by rw [bs_len]; omega) (by unfold maxLen; omega) (bs_one _)

def NPayR (l : List Int) (w : World) (v : Value) (w' : World) : Prop := ∃ p n c, v = .slice p n c ∧ n = l.length ∧ (p = none ↔ l = []) ∧ Sl w' 1 p n c (bs l) ∧ Mod [] w w'
end Go.Proofs.YtgimdodbajhpoaaGreatDoor
