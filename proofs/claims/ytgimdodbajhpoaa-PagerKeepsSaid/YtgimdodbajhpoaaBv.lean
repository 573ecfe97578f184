/- Rows of bytes in a list. -/
import Derived.Test.YtgimdodbajhpoaaBin
namespace Go.Proofs.Ytgimdodbajhpoaa
open Go.RowKit Go.Maps
set_option linter.unusedSimpArgs false
set_option linter.unusedVariables false

/-- A slice of bytes, and its bytes. -/
structure Bv where
  p : Option Addr
  n : Nat
  c : Nat
  l : List Int
def Bv.val (k : Bv) : Value := .slice k.p k.n k.c
def Bv.In (w : World) (k : Bv) : Prop := BytesIn w k.p k.n k.c k.l
theorem Bv.In.mod {w w' : World} {S : List Nat} {k : Bv} (h : k.In w) (hm : Mod S w w') (hn : ∀ a, k.p = some a → 0 < k.n → a.block ∉ S) : k.In w' := ⟨BytesIn.sl h |>.mod hm hn, BytesIn.wf h⟩
theorem Bv.In.mod0 {w w' : World} {k : Bv} (h : k.In w) (hm : Mod [] w w') : k.In w' := h.mod hm (by simp)
theorem Bv.In.len {w : World} {k : Bv} (h : k.In w) : k.l.length = k.n := BytesIn.len h
structure KeysIn (w : World) (p : Option Addr) (n c : Nat) (ks : List Bv) : Prop where
  sl : Sl w 1 p n c (ks.map Bv.val)
  io : ∀ k ∈ ks, k.In w
theorem KeysIn.len {w : World} {p : Option Addr} {n c : Nat} {ks : List Bv} (h : KeysIn w p n c ks) : ks.length = n := by have := h.sl.len; simpa using this
theorem KeysIn.mod0 {w w' : World} {p : Option Addr} {n c : Nat} {ks : List Bv} (h : KeysIn w p n c ks) (hm : Mod [] w w') : KeysIn w' p n c ks := ⟨h.sl.mod hm (by simp), fun k hk => (h.io k hk).mod0 hm⟩
end Go.Proofs.Ytgimdodbajhpoaa
