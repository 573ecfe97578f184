/- bytes.Clone. -/
import Derived.Test.YtgimdodbajhpoaaDoorG15
import Derived.Test.YtgimdodbajhpoaaDoorG14
import Derived.Test.YtgimdodbajhpoaaDoorG10
namespace Go.Proofs.YtgimdodbajhpoaaDoor
open Go.RowKit Go.Maps
set_option linter.unusedSimpArgs false
set_option linter.unusedVariables false

set_option maxRecDepth 100000 in
theorem clone_any (p : Option Addr) (n c : Nat) (l : List Int) (w : World) (h : Sl w 1 p n c (bs l)) (hn : n ≤ 1073741824) (hnil : p = none → n = 0 ∧ c = 0) :
    Calls Tryd.prog 32 #[.slice p n c] w (Ret (BytesR l w)) := by
  have hln : l.length = n := by have := h.len; rw [bs_len] at this; omega
  have q22 : ∀ (W : World) (a : Option Addr) (n c n' c' : Nat), (binOp .eql 22 (.slice a n c) (.slice none n' c')).run Tryd.prog W = .ok (.bool a.isNone) W := fun W a n c n' c' => Lib.run_eql_slice_nil W _ _ a n c n' c' Tryd.underlying22
  cases p with
  | none =>
    obtain ⟨rfl, rfl⟩ := hnil rfl
    have HL : Hid (l = []) := List.eq_nil_of_length_eq_zero hln
    go_enter Tryd.func32, Tryd.ntmps32
    go_wp2
    go_ret
    exact .mk ⟨none, 0, 0, rfl, by rw [HL.out]; rfl, by rw [HL.out]; exact World.ownsRow_nil _ _ _ _, Mod.refl _ _⟩
  | some a =>
    obtain ⟨i0, hi0, hz0, hz1, hz2⟩ := info_parts infoU8
    have HS : Hid (Sl (w.alloc (.cells #[] 5)) 1 (some a) n c (bs l)) := h.mod (Mod.of_alloc w _) (by simp)
    have HO : Hid ((w.alloc (.cells #[] 5)).ownsRow w.heap.size 5 1 (.slice (some ⟨w.heap.size, 0, none⟩) 0 0) 0 []) := own_row w [] _ _ (Nat.le_refl _) (by simp)
    have HLN := Lib.hid hln
    have hs : w.heap.size ≤ (w.alloc (.cells #[] 5)).heap.size := (Mod.of_alloc w _).size
    clear h hln hnil
    go_enter Tryd.func32, Tryd.ntmps32
    go_wp2_with (first
      | (at_builtin; (refine wpList_append_src _ rfl _ _ _ rfl w.heap.size 5 i0 _ 1 1 Tryd.underlying22 hi0 hz0 hz1 hz2 rfl (by omega) (.slice (some ⟨w.heap.size, 0, none⟩) 0 0) 0 [] rfl HO.out _ _ _ _ rfl HS.out n (by omega) (by unfold maxLen; omega) (by omega) hs ?_); intro p' c' w1 hown1 hgrow hnil hlie; (have HO1 := Lib.hid hown1); (have HM1 : Hid (Mod [] w w1) := (Mod.of_alloc w _).trans (Mod.of_grown' hgrow) (by simp [Value.ownBlock])); clear hown1 hgrow hnil hlie)
      | go_in)
    go_ret
    exact .mk ⟨p', n, c', rfl, HLN.out.symm, HO1.out, HM1.out⟩
/-- .. whatever a nil slice's capacity is said to be. -/
theorem clone_any2 (p : Option Addr) (n c : Nat) (l : List Int) (w : World) (h : Sl w 1 p n c (bs l)) (hn : n ≤ 1073741824) :
    Calls Tryd.prog 32 #[.slice p n c] w (Ret (BytesR l w)) := by
  cases p with
  | some a => exact clone_any (some a) n c l w h hn (by simp)
  | none =>
    have hn0 : n = 0 := by
      rcases Nat.eq_zero_or_pos n with h0 | h0
      · exact h0
      · obtain ⟨_, _, e, _⟩ := h.addr h0; cases e
    subst hn0
    have HL : Hid (l = []) := List.eq_nil_of_length_eq_zero (by have := h.len; rw [bs_len] at this; omega)
    have q22 : ∀ (W : World) (a : Option Addr) (n c n' c' : Nat), (binOp .eql 22 (.slice a n c) (.slice none n' c')).run Tryd.prog W = .ok (.bool a.isNone) W := fun W a n c n' c' => Lib.run_eql_slice_nil W _ _ a n c n' c' Tryd.underlying22
    clear h
    go_enter Tryd.func32, Tryd.ntmps32
    go_wp2
    go_ret
    exact .mk ⟨none, 0, 0, rfl, by rw [HL.out]; rfl, by rw [HL.out]; exact World.ownsRow_nil _ _ _ _, Mod.refl _ _⟩
end Go.Proofs.YtgimdodbajhpoaaDoor
