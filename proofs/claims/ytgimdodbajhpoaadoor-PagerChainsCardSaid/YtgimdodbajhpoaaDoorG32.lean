/- slices.Backward at rows of bytes. -/
import Derived.Test.YtgimdodbajhpoaaDoorG31
import Derived.Test.YtgimdodbajhpoaaDoorG22
namespace Go.Proofs.YtgimdodbajhpoaaDoor
open Go.RowKit Go.Shelf
set_option linter.unusedSimpArgs false
set_option linter.unusedVariables false
attribute [local go_sem] Oper.semAt_some

/-- Two blocks are as they were. -/
def KpB (B1 b : Nat) (W W' : World) : Prop := W'.heap[B1]? = W.heap[B1]? ∧ W'.heap[b]? = W.heap[b]?
theorem KpB.refl (B1 b : Nat) (W : World) : KpB B1 b W W := ⟨rfl, rfl⟩
theorem KpB.trans {B1 b : Nat} {A B C : World} (h : KpB B1 b A B) (k : KpB B1 b B C) : KpB B1 b A C := ⟨k.1.trans h.1, k.2.trans h.2⟩
theorem KpB.of_mod {B1 b : Nat} {S : List Nat} {A B : World} (h : Mod S A B) (h1 : B1 < A.heap.size ∧ B1 ∉ S) (h2 : b < A.heap.size ∧ b ∉ S) : KpB B1 b A B := ⟨h.block _ h1.1 h1.2, h.block _ h2.1 h2.2⟩
theorem KpB.put {B1 b n : Nat} (h1 : B1 < n) (h2 : b < n) (W : World) (l : Nat) (o o' : Obj) (hl : n ≤ l) (_ : W.heap[l]? = some o) (_ : o.isCells = false) (_ : o.isWalk = false) : KpB B1 b W (W.putObj l o') :=
  ⟨World.putObj_heap_other (by omega), World.putObj_heap_other (by omega)⟩
set_option maxRecDepth 100000 in
set_option maxHeartbeats 4000000 in
theorem backward1_in {α : Type} (num : α → Nat) (val : α → Bv) (f : Nat → α) (F : Fence) (n : Nat) (hF : F.fn 35) (hro : F.round = none) (hn : 1 ≤ n) (l B1 b off len cap : Nat) (ks : List Bv) (hlen : ks.length = len) (hsmall : len ≤ 1000) (hf : ∀ k, k < len → num (f k) = len - 1 - k ∧ ks[len - 1 - k]? = some (val (f k))) (J Jx : List α → World → Prop)
    (hY : ∀ pre x W, J pre W → pre.length < len → YieldAt F (n - 1) Tryd.prog l #[.int .i64 (num x : Int), (val x).val] W fun e W' =>
      (e = .returned (.bool true) ∧ J (pre ++ [x]) W' ∧ KpB B1 b W W') ∨ (e = .returned (.bool false) ∧ Jx (pre ++ [x]) W'))
    (W : World) (hc1 : W.cell? ⟨B1, 0, none⟩ = some (.slice (some ⟨b, off, none⟩) len cap)) (hsl : Sl W 1 (some ⟨b, off, none⟩) len cap (ks.map Bv.val)) (hcs : ∀ i (hi : i < ks.length), W.cell? ⟨b, off + i, none⟩ = some (ks[i]).val) (h0 : J [] W) :
    CallsIn F n Tryd.prog 35 #[.func (.yield l) #[] #[], .pointer (some ⟨B1, 0, none⟩)] W fun e W' => (∃ v, e = .returned v) ∧
      ((∃ ys, ys = upto f len ∧ J ys W') ∨ (∃ pre, (∃ k, k ≤ len ∧ pre = upto f k) ∧ Jx pre W')) := by
  have hidx := fun W => Sl.idx (P := Tryd.prog) (m := len) (cap := cap) (p := some ⟨b, off, none⟩) Tryd.underlying58 sizeSl (fun h => rfl) W .i64
  have hw0 : IntKind.i64.wrap ((len : Int) - 1) = (len : Int) - 1 := IntWalk.i64_in _ (by omega)
  clear hsl
  refine callsIn_of_wp Tryd.func35 rfl hF ?_ hro
  simp only [Tryd.ntmps35, List.size_toArray, List.length_cons, List.length_nil, Nat.reduceAdd, Nat.reduceSub, Array.replicate_succ, Array.replicate_zero, List.push_toArray, List.append_toArray, List.nil_append, List.cons_append]
  gi_wp2
  gi_loopw [3] (fun i wr => ∃ k : Nat, k ≤ len ∧ i = .int .i64 ((len : Int) - 1 - (k : Int)) ∧ J (upto f k) wr ∧ KpB B1 b W wr)
    (fun i _ => (intOf i + 1).toNat)
  case atStart => exact ⟨0, Nat.zero_le _, by simp, h0, KpB.refl _ _ _⟩
  case round =>
    obtain ⟨k, hk, rfl, hJs, hnx⟩ := hrel
    have d1 : wr.cell? ⟨B1, 0, none⟩ = some (.slice (some ⟨b, off, none⟩) len cap) := (World.cell?_of_block (a := ⟨B1, 0, none⟩) hnx.1).trans hc1
    by_cases hlt : k < len
    · obtain ⟨i, hi⟩ : ∃ i, i = len - 1 - k := ⟨_, rfl⟩
      have hie : (len : Int) - 1 - (k : Int) = (i : Int) := by omega
      have hil : i < len := by omega
      obtain ⟨x, hx⟩ : ∃ x, ks[i]? = some x := ⟨_, List.getElem?_eq_getElem (by omega)⟩
      have hxe := (List.getElem?_eq_some_iff.1 hx).2
      have hcx : wr.cell? ⟨b, off + i, none⟩ = some x.val := by
        have := (World.cell?_of_block (a := ⟨b, off + i, none⟩) hnx.2).trans (hcs i (by omega))
        rw [this, hxe]
      obtain ⟨hb1, hb2⟩ := hf k hlt
      rw [← hi] at hb1 hb2
      have hbv : val (f k) = x := by rw [hx] at hb2; injection hb2 with hb2; exact hb2.symm
      obtain ⟨fn, tmps, assign, body, hy, hR⟩ := hY _ (f k) wr hJs (by rw [upto_length]; exact hlt)
      rw [hb1, hbv] at hy
      have hji := fun W => hidx W i hil
      simp only [Nat.mul_one] at hji
      have hge : ¬ ((i : Int) < 0) := by omega
      have hwn : IntKind.i64.wrap ((i : Int) - 1) = (len : Int) - 1 - ((k + 1 : Nat) : Int) := by rw [IntWalk.i64_in _ (by omega)]; omega
      obtain ⟨xp, xn, xc, xl⟩ := x
      simp only [Bv.val] at hcx hy
      rw [hie]
      have HIE := Lib.hid hie
      clear hi hie hx hxe hb1 hb2 hbv hidx
      gi_wp2
      refine hR.mono ?_
      rintro e W3 (⟨rfl, hJ3, hk3⟩ | ⟨rfl, hJx3⟩)
      · gi_wp2
        go_roundw
        case rel => exact ⟨k + 1, by omega, rfl, by rw [upto_succ]; exact hJ3, hnx.trans hk3⟩
        case measure => have := HIE.out; simp [intOf]; omega
      · gi_wp2
        refine bodyPost_ret (results_none rfl _ _ _) rfl ?_
        exact ⟨⟨_, rfl⟩, .inr ⟨_, ⟨k + 1, by omega, (upto_succ _ _).symm⟩, hJx3⟩⟩
    · obtain rfl : k = len := by omega
      have hneg : (k : Int) - 1 - (k : Int) = -1 := by omega
      rw [hneg]
      gi_wp2
      go_end0
      first
        | exact ⟨⟨_, rfl⟩, .inl hJs⟩
        | exact ⟨⟨_, rfl⟩, .inl ⟨_, rfl, hJs⟩⟩
set_option maxHeartbeats 1000000 in
/-- slices.Backward(s). -/
theorem backward_in (F : Fence) (n : Nat) (h : F.fn 22) (hro : F.round = none) (a : Option Addr) (len cap : Nat) (w : World) :
    CallsIn F n Tryd.prog 22 #[.slice a len cap] w fun e w' => e = .returned (.func (.func 35) #[] #[.pointer (some ⟨w.heap.size, 0, none⟩)]) ∧
      w' = w.alloc (.cells #[.slice a len cap] 58) := by
  refine callsIn_of_wp Tryd.func22 rfl h ?_ hro
  simp only [Tryd.ntmps22, List.size_toArray, List.length_cons, List.length_nil, Nat.reduceAdd, Nat.reduceSub, Array.replicate_succ, Array.replicate_zero, List.push_toArray, List.append_toArray, List.nil_append, List.cons_append]
  gi_wp2
  go_ret
  exact ⟨by simp, rfl⟩
/-- slices.Backward(s) hands back a value that gives the rows, the last first. -/
theorem backward_stops {α : Type} (num : α → Nat) (val : α → Bv) (f : Nat → α) (F : Fence) (n : Nat) (hF : F.fn 35) (hro : F.round = none) (hn : 1 ≤ n) (B1 b off len cap : Nat) (ks : List Bv) (hlen : ks.length = len) (hsmall : len ≤ 1000) (hf : ∀ k, k < len → num (f k) = len - 1 - k ∧ ks[len - 1 - k]? = some (val (f k))) (w : World) (hB1 : B1 < w.heap.size) (hb : b < w.heap.size)
    (hc1 : w.cell? ⟨B1, 0, none⟩ = some (.slice (some ⟨b, off, none⟩) len cap)) (hsl : Sl w 1 (some ⟨b, off, none⟩) len cap (ks.map Bv.val)) (hcs : ∀ i (hi : i < ks.length), w.cell? ⟨b, off + i, none⟩ = some (ks[i]).val) :
    SeqStopsK F n Tryd.prog 35 #[.pointer (some ⟨B1, 0, none⟩)] (fun x : α => #[.int .i64 (num x : Int), (val x).val]) (KpB B1 b) (fun ys => ys = upto f len) (fun pre => ∃ k, k ≤ len ∧ pre = upto f k) len w := fun l J Jx W hW hJ hJx hY h0 => by
  refine (backward1_in num val f F n hF hro hn l B1 b off len cap ks hlen hsmall hf J Jx hY W ((hW.cell (p := ⟨B1, 0, none⟩) hB1).trans hc1) (hsl.mod (Mod.of_below hW) (by simp)) (fun i hi => (hW.cell (p := ⟨b, off + i, none⟩) hb).trans (hcs i hi)) h0).mono ?_
  rintro e W' ⟨he, h | h⟩
  · exact ⟨he, .inl h⟩
  · exact ⟨he, .inr h⟩
end Go.Proofs.YtgimdodbajhpoaaDoor
