/- Bytes that are read: a part of them. -/
import Derived.Test.YtgimdodbajhpoaaBe
namespace Go.Proofs.Ytgimdodbajhpoaa
open Go.RowKit Go.Maps
set_option linter.unusedSimpArgs false
set_option linter.unusedVariables false

theorem BytesIn.mod {w w' : World} {S : List Nat} {p : Option Addr} {n c : Nat} {l : List Int} (h : BytesIn w p n c l) (hm : Mod S w w') (hn : ∀ a, p = some a → 0 < n → a.block ∉ S) : BytesIn w' p n c l := ⟨h.sl.mod hm hn, h.wf⟩
/-- 'b[lo:]'. -/
theorem BytesIn.from_ {P : Program} {T : TypeId} {w : World} {p : Option Addr} {n c : Nat} {l : List Int} (hT : P.underlying T = some (.slice (P.elem T))) (hs : ∀ W : World, (sizeOf (P.elem T)).run P W = .ok 1 W) (h : BytesIn w p n c l) (lo : Nat) (h1 : lo ≤ n) :
    ∃ p', (∀ W, (Instr.slice T (.slice p n c) (some (.int .i64 lo)) none none).run P W = .ok (.slice p' (n - lo) (c - lo)) W) ∧ BytesIn w p' (n - lo) (c - lo) (l.drop lo) := by
  obtain ⟨p', r, s, _⟩ := h.sl.sub_l hT hs lo .i64 h1
  refine ⟨p', r, ?_, fun x hx => h.wf x (List.mem_of_mem_drop hx)⟩
  rw [Nat.mul_one] at s
  simpa [bs, List.map_drop] using s
/-- 'b[lo:lo+k]'. -/
theorem BytesIn.sub {P : Program} {T : TypeId} {w : World} {p : Option Addr} {n c : Nat} {l : List Int} (hT : P.underlying T = some (.slice (P.elem T))) (hs : ∀ W : World, (sizeOf (P.elem T)).run P W = .ok 1 W) (h : BytesIn w p n c l) (lo hi k : Nat) (hk : hi = lo + k) (h1 : hi ≤ n) :
    ∃ p', (∀ W, (Instr.slice T (.slice p n c) (some (.int .i64 lo)) (some (.int .i64 hi)) none).run P W = .ok (.slice p' k (c - lo)) W) ∧ BytesIn w p' k (c - lo) ((l.drop lo).take k) := by
  obtain ⟨p', r, s, _⟩ := h.sl.sub hT hs lo hi .i64 .i64 (by omega) h1
  rw [show hi - lo = k from by omega] at r s
  refine ⟨p', r, ?_, fun x hx => h.wf x (List.mem_of_mem_drop (List.mem_of_mem_take hx))⟩
  rw [Nat.mul_one, Nat.mul_one] at s
  simpa [bs, List.map_drop, List.map_take] using s
end Go.Proofs.Ytgimdodbajhpoaa
