/- Slices of the document's Key, appended to. -/
import Derived.Test.YtgimdodbajhpoaaNumRef
import Derived.Test.YtgimdodbajhpoaaTail
namespace Go.Proofs.Ytgimdodbajhpoaa
open Go.RowKit Go.Maps
set_option linter.unusedSimpArgs false
set_option linter.unusedVariables false

theorem Tl.of_key {w w' : World} {p : Option Addr} {n c : Nat} {l : List Int} (h : w'.ownsRow w.heap.size 5 1 (.slice p n c) n (bs l)) : Tl w' w.heap.size 1 p n c (bs l) := Tl.of_own h (bs_one _)
/-- What a call has just made lies in no block that was there. -/
theorem Tl.apart {w w' : World} {b1 s1 s2 n1 c1 n2 c2 : Nat} {q p : Option Addr} {x1 x2 : List Value} (h : Tl w b1 s1 q n1 c1 x1) (h2 : Tl w' w.heap.size s2 p n2 c2 x2) : ∀ a, p = some a → a.block ∉ (q.map (·.block)).toList := by
  intro a ha hm
  have h1 := (h2.own a ha).2.1
  cases q with
  | none => simp at hm
  | some e => simp at hm; have := (h.own e rfl).2.2; omega
theorem Tl.turned {w w' w2 : World} {base s n c : Nat} {q : Option Addr} {x : List Value} (h : Tl w base s q n c x) {w0 : World} (hb : w0.heap.size = base) (hm : Mod (q.map (·.block)).toList w w') (h0 : Mod [] w0 w) : Mod [] w0 w' :=
  h0.trans hm fun b hb2 => Or.inr (by
    cases q with
    | none => simp at hb2
    | some e => simp at hb2; have := (h.own e rfl).2.1; omega)
set_option maxRecDepth 100000 in
theorem Tl.sub_key {w : World} {base : Nat} {p : Option Addr} {c : Nat} {l : List Int} (h : Tl w base 1 p 8 c (bs l)) (lo k : Nat) (hk : lo + k = 8) (hpos : 0 < k) (d : Int) (hd : d = lo) :
    ∃ p', (∀ W, (Instr.slice 23 (.slice p 8 c) (some (.int .i64 d)) none none).run Try.prog W = .ok (.slice p' k (c - lo)) W) ∧ Tl w base 1 p' k (c - lo) (bs (l.drop lo)) ∧ p'.map (·.block) = p.map (·.block) := by
  have hle := h.sl.le
  obtain ⟨p', r, t, e⟩ := h.sub_l Try.underlying23 sizeBytes lo .i64 (by omega) (by omega)
  subst hd
  rw [show 8 - lo = k from by omega] at r t
  refine ⟨p', r, ?_, e⟩
  rw [Nat.mul_one] at t
  simpa [bs, List.map_drop] using t

def PayT (l : List Int) (w : World) (v : Value) (w' : World) : Prop := ∃ p n c, v = .slice p n c ∧ n = l.length ∧ (p = none ↔ l = []) ∧ Tl w' w.heap.size 1 p n c (bs l) ∧ Mod [] w w'
end Go.Proofs.Ytgimdodbajhpoaa
