/- slices.Chunk: its closure hands out the pieces, each of 1010 bytes at most. slices.AppendSeq, slices.Collect at rows of bytes, slices.Backward. -/
import Derived.RangeFuncNested
import Derived.RangeFuncBound
import Derived.RangeFuncCalls
import Derived.RangeFuncLeaves
import Derived.RangeFuncBox
import Derived.Shelf.Abstract
import Derived.Shelf.RegionOpen
import Derived.WalkKit
import Derived.OwnWalkIn
import Derived.TacticsInMore
import Derived.LoopNIn
import Derived.LoopIn
import Derived.RangeFuncWrites
import Derived.Maps.AppendAt
import Derived.Test.YtgimdodbajhpoaaDoorG05
import Derived.Test.YtgimdodbajhpoaaDoorG10
namespace Go.Proofs.YtgimdodbajhpoaaDoor
open Go.RowKit Go.Shelf
set_option linter.unusedSimpArgs false
set_option linter.unusedVariables false
attribute [local go_sem] Oper.semAt_some

def upto {α : Type} (f : Nat → α) (k : Nat) : List α := (List.range k).map f
theorem upto_succ {α : Type} (f : Nat → α) (k : Nat) : upto f (k + 1) = upto f k ++ [f k] := by simp [upto, List.range_succ]
theorem upto_length {α : Type} (f : Nat → α) (k : Nat) : (upto f k).length = k := by simp [upto]
/-- 'x[lo:hi:hi]'. -/
theorem Sl.sub_lhm {w : World} {size : Nat} {p : Option Addr} {m cap : Nat} {cells : List Value} {P : Program} {T : TypeId} (hT : P.underlying T = some (.slice (P.elem T))) (hs : ∀ W : World, (sizeOf (P.elem T)).run P W = .ok size W) (h : Sl w size p m cap cells) (lo hi : Nat) (h1 : lo ≤ hi) (h2 : hi ≤ m) :
    (∀ W, (Instr.slice T (.slice p m cap) (some (.int .i64 lo)) (some (.int .i64 hi)) (some (.int .i64 hi))).run P W = .ok (.slice (if hi = lo then p else p.map (·.add (lo * size))) (hi - lo) (hi - lo)) W) ∧
      Sl w size (if hi = lo then p else p.map (·.add (lo * size))) (hi - lo) (hi - lo) (((cells.take (hi * size)).drop (lo * size)).take ((hi - lo) * size)) := by
  have := h.le; have := h.capm
  obtain ⟨_, h3⟩ := h.sub_h hT hs hi .i64 h2
  have h4 : Sl w size p hi hi (cells.take (hi * size)) := by
    obtain ⟨g1, g2, g3, g4, g5⟩ := h3
    exact ⟨g1, Nat.le_refl _, by omega, g4, g5⟩
  refine ⟨fun W => ?_, h4.sub_at h1 (Nat.le_refl hi) _ (Nat.le_refl _) (by omega) rfl⟩
  rw [run_slice_lhm W T p m cap hT .i64 .i64 .i64 lo hi hi (by omega) (by omega) (by omega) (by omega), hs]
  simp only [Result.andThen, sliced, Int.toNat_natCast]
/-- The j-th piece of a value in block b. -/
def piece (b off : Nat) (zs : List Int) (j : Nat) : Bv := ⟨some ⟨b, off + 1010 * j, none⟩, min 1010 (zs.length - 1010 * j), min 1010 (zs.length - 1010 * j), (zs.drop (1010 * j)).take 1010⟩
def pieces (len : Nat) : Nat := (len + 1009) / 1010
set_option maxRecDepth 100000 in
set_option maxHeartbeats 4000000 in
theorem chunk1_in (F : Fence) (n : Nat) (hF : F.fn 37) (hro : F.round = none) (hn : 1 ≤ n) (l B1 B2 n₀ b off len cap : Nat) (zs : List Int) (hlen : zs.length = len) (hsmall : len ≤ 20000) (hB1 : B1 < n₀) (hB2 : B2 < n₀) (J Jx : List Bv → World → Prop)
    (hY : ∀ pre x W, J pre W → pre.length < pieces len → YieldAt F (n - 1) Tryd.prog l #[x.val] W fun e W' =>
      (e = .returned (.bool true) ∧ J (pre ++ [x]) W' ∧ Below n₀ W W') ∨ (e = .returned (.bool false) ∧ Jx (pre ++ [x]) W'))
    (W : World) (hJ : AbidesFrom W.heap.size J) (hc1 : W.cell? ⟨B1, 0, none⟩ = some (.slice (some ⟨b, off, none⟩) len cap)) (hc2 : W.cell? ⟨B2, 0, none⟩ = some (.int .i64 1010)) (hsl : Sl W 1 (some ⟨b, off, none⟩) len cap (bs zs)) (h0 : J [] W) :
    CallsIn F n Tryd.prog 37 #[.func (.yield l) #[] #[], .pointer (some ⟨B1, 0, none⟩), .pointer (some ⟨B2, 0, none⟩)] W fun e W' => (∃ v, e = .returned v) ∧
      ((∃ ys, ys = upto (piece b off zs) (pieces len) ∧ J ys W') ∨ (∃ pre, (∃ k, k ≤ pieces len ∧ pre = upto (piece b off zs) k) ∧ Jx pre W')) := by
  have HSUB := fun lo hi h1 h2 => Lib.hid (Sl.sub_lhm Tryd.underlying22 sizeBytes hsl lo hi h1 h2)
  have HSL := fun lo h1 => Lib.hid (hsl.sub_l Tryd.underlying22 sizeBytes lo .i64 h1)
  have HLEN := Lib.hid hlen
  clear hsl hlen
  refine callsIn_of_wp Tryd.func37 rfl hF ?_ hro
  simp only [Tryd.ntmps37, List.size_toArray, List.length_cons, List.length_nil, Nat.reduceAdd, Nat.reduceSub, Array.replicate_succ, Array.replicate_zero, List.push_toArray, List.append_toArray, List.nil_append, List.cons_append]
  gi_wp2
  gi_loopw [4] (fun i wr => ∃ k : Nat, k ≤ pieces len ∧ i = .int .i64 ((1010 * k : Nat) : Int) ∧ J (upto (piece b off zs) k) wr ∧ Below n₀ W wr)
    (fun i _ => 20000 + 1010 - (intOf i).toNat)
  case atStart => exact ⟨0, Nat.zero_le _, rfl, h0, Below.refl _ _⟩
  case round =>
    obtain ⟨k, hk, rfl, hJs, hnx⟩ := hrel
    have d1 : wr.cell? ⟨B1, 0, none⟩ = some (.slice (some ⟨b, off, none⟩) len cap) := (hnx.cell (p := ⟨B1, 0, none⟩) hB1).trans hc1
    have d2 : wr.cell? ⟨B2, 0, none⟩ = some (.int .i64 1010) := (hnx.cell (p := ⟨B2, 0, none⟩) hB2).trans hc2
    have HK : Hid (k ≤ pieces len) := hk
    by_cases hlt : 1010 * k < len
    · have hkp : k < pieces len := by unfold pieces; omega
      obtain ⟨lo, hlo⟩ : ∃ lo, lo = 1010 * k := ⟨_, rfl⟩
      obtain ⟨nj, hnj⟩ : ∃ nj, nj = min 1010 (len - lo) := ⟨_, rfl⟩
      obtain ⟨hi, hhi⟩ : ∃ hi, hi = lo + nj := ⟨_, rfl⟩
      obtain ⟨pl, rl, -, -⟩ := (HSL lo (by omega)).out
      have hnj0 : 0 < nj := by omega
      have rs : ∀ W, (Instr.slice 22 (.slice (some ⟨b, off, none⟩) len cap) (some (.int .i64 lo)) (some (.int .i64 hi)) (some (.int .i64 hi))).run Tryd.prog W = .ok (.slice (some ⟨b, off + lo, none⟩) nj nj) W := fun W => by
        have := (HSUB lo hi (by omega) (by omega)).out.1 W
        rw [this, if_neg (by omega), show hi - lo = nj by omega]
        simp only [Option.map_some, Addr.add, Nat.mul_one]
        by_cases hz : lo = 0 <;> simp [hz]
      have hpv : (piece b off zs k).val = .slice (some ⟨b, off + lo, none⟩) nj nj := by
        unfold piece Bv.val
        simp only [HLEN.out, ← hlo, ← hnj]
      have hJd : J (upto (piece b off zs) k) wr.drew := hJ _ _ _ none hJs ⟨rfl, rfl, rfl, Nat.le_refl _, fun _ _ _ => rfl⟩ (fun r e => by cases e)
      obtain ⟨fn, tmps, assign, body, hy, hR⟩ := hY _ (piece b off zs k) wr.drew hJd (by rw [upto_length]; exact hkp)
      have HRD := Lib.hid hR
      have hif : (if ((len - lo : Nat) : Int) < 1010 then ((len - lo : Nat) : Int) else 1010) = (nj : Int) := by split <;> omega
      have hd1 : wr.drew.cell? ⟨B1, 0, none⟩ = some (.slice (some ⟨b, off, none⟩) len cap) := d1
      have HNX := Lib.hid hnx
      rw [hpv] at hy
      have hlz : (lo : Int) < (len : Int) := by omega
      have hmin : min 1010 ((len - lo : Nat) : Int) = (nj : Int) := by omega
      have hmin2 : min 1010 ((len : Int) - (lo : Int)) = (nj : Int) := by omega
      have hwadd : IntKind.i64.wrap ((lo : Int) + (nj : Int)) = (hi : Int) := by rw [IntWalk.i64_in _ (by omega)]; omega
      have hwnext : IntKind.i64.wrap ((lo : Int) + 1010) = ((1010 * (k + 1) : Nat) : Int) := by rw [IntWalk.i64_in _ (by omega)]; omega
      rw [← hlo]
      have HLO := Lib.hid hlo
      have HNJ := Lib.hid hnj
      have HHI := Lib.hid hhi
      clear hpv HSUB HSL hlo hnj hhi hlt hk hnj0 hR hY hJs hJd hJ hnx
      gi_wp2
      gi_region
      all_goals
        gi_wp2
        refine HRD.out.mono ?_
        rintro e W3 (⟨rfl, hJ3, hk3⟩ | ⟨rfl, hJx3⟩)
        · have hnx3 := HNX.out.trans ((Below.refl n₀ wr).drew.trans hk3)
          have d3 : W3.cell? ⟨B2, 0, none⟩ = some (.int .i64 1010) := (hnx3.cell (p := ⟨B2, 0, none⟩) hB2).trans hc2
          gi_wp2
          go_roundw
          case rel => exact ⟨k + 1, by have := HLO.out; unfold pieces; omega, rfl, by rw [upto_succ]; exact hJ3, hnx3⟩
          case measure => have := HLO.out; simp [intOf]; omega
        · gi_wp2
          refine bodyPost_ret (results_none rfl _ _ _) rfl ?_
          exact ⟨⟨_, rfl⟩, .inr ⟨_, ⟨k + 1, by omega, (upto_succ _ _).symm⟩, hJx3⟩⟩
    · have hkl : ¬ (((1010 * k : Nat) : Int) < (len : Int)) := by omega
      obtain rfl : k = pieces len := by unfold pieces at hk ⊢; omega
      gi_wp2
      go_end0
      first
        | exact ⟨⟨_, rfl⟩, .inl hJs⟩
        | exact ⟨⟨_, rfl⟩, .inl ⟨_, rfl, hJs⟩⟩
set_option maxHeartbeats 1000000 in
/-- slices.Chunk(val, 1010). -/
theorem chunk_in (F : Fence) (n : Nat) (h : F.fn 24) (hro : F.round = none) (a : Option Addr) (len cap : Nat) (w : World) :
    CallsIn F n Tryd.prog 24 #[.slice a len cap, .int .i64 1010] w fun e w' => e = .returned (.func (.func 37) #[] #[.pointer (some ⟨w.heap.size, 0, none⟩), .pointer (some ⟨w.heap.size + 1, 0, none⟩)]) ∧
      w' = (w.alloc (.cells #[.slice a len cap] 22)).alloc (.cells #[.int .i64 1010] 3) := by
  refine callsIn_of_wp Tryd.func24 rfl h ?_ hro
  simp only [Tryd.ntmps24, List.size_toArray, List.length_cons, List.length_nil, Nat.reduceAdd, Nat.reduceSub, Array.replicate_succ, Array.replicate_zero, List.push_toArray, List.append_toArray, List.nil_append, List.cons_append]
  gi_wp2
  go_ret
  exact ⟨by simp, rfl⟩
/-- slices.Chunk(val, 1010) hands back a value that gives the pieces, in order. -/
theorem chunk_stops (F : Fence) (n : Nat) (hF : F.fn 37) (hro : F.round = none) (hn : 1 ≤ n) (B1 B2 b off len cap : Nat) (zs : List Int) (hlen : zs.length = len) (hsmall : len ≤ 20000) (w : World) (hB1 : B1 < w.heap.size) (hB2 : B2 < w.heap.size)
    (hc1 : w.cell? ⟨B1, 0, none⟩ = some (.slice (some ⟨b, off, none⟩) len cap)) (hc2 : w.cell? ⟨B2, 0, none⟩ = some (.int .i64 1010)) (hsl : Sl w 1 (some ⟨b, off, none⟩) len cap (bs zs)) :
    SeqStopsK F n Tryd.prog 37 #[.pointer (some ⟨B1, 0, none⟩), .pointer (some ⟨B2, 0, none⟩)] (fun x : Bv => #[x.val]) (Below w.heap.size) (fun ys => ys = upto (piece b off zs) (pieces len)) (fun pre => ∃ k, k ≤ pieces len ∧ pre = upto (piece b off zs) k) (pieces len) w := fun l J Jx W hW hJ hJx hY h0 => by
  refine (chunk1_in F n hF hro hn l B1 B2 w.heap.size b off len cap zs hlen hsmall hB1 hB2 J Jx hY W hJ ((hW.cell (p := ⟨B1, 0, none⟩) hB1).trans hc1) ((hW.cell (p := ⟨B2, 0, none⟩) hB2).trans hc2) (hsl.mod (Mod.of_below hW) (by simp)) h0).mono ?_
  rintro e W' ⟨he, h | h⟩
  · exact ⟨he, .inl h⟩
  · exact ⟨he, .inr h⟩
end Go.Proofs.YtgimdodbajhpoaaDoor
namespace Go.Proofs.YtgimdodbajhpoaaDoor
open Go.RowKit Go.Shelf
set_option linter.unusedSimpArgs false
set_option linter.unusedVariables false
attribute [local go_sem] Oper.semAt_some

theorem infoRow : (Tryd.prog.info? 22).map (fun i => (i.zero, i.size, i.bytes)) = some (some (.slice none 0 0), 1, 24) := by kernel_rfl
set_option maxRecDepth 100000 in
set_option maxHeartbeats 4000000 in
/-- slices.AppendSeq(nil, seq). -/
theorem appendseq_in (F : Fence) (n : Nat) (hA : F.fn 36) (hro : F.round = none) (hn : 3 ≤ n) (gf : Nat) (lb : Array Value) (hFg : F.fn gf) (eg : ∀ args w, (callFunc gf args).run Tryd.prog w = .ok (.enter gf args) w)
    (S Sp : List Bv → Prop) (N : Nat) (hN : N ≤ 1000) (w : World) (hseq : SeqStopsK F (n - 1) Tryd.prog gf lb (fun x : Bv => #[x.val]) (Below w.heap.size) S Sp N w) :
    CallsIn F n Tryd.prog 36 #[.slice none 0 0, .func (.func gf) #[] lb] w fun e W' => ∃ v xs, e = .returned v ∧ S xs ∧ W'.ownsRow w.heap.size 22 1 v xs.length (xs.map Bv.val) ∧ Below w.heap.size w W' := by
  have h1 : 1 ≤ n := by omega
  obtain ⟨i0, hi, hz0, hz1, hz2⟩ := info_parts infoRow
  refine callsIn_of_wp_marks Tryd.func36 rfl hA ?_ hro
  simp only [Tryd.ntmps36, List.size_toArray, List.length_cons, List.length_nil, Nat.reduceAdd, Nat.reduceSub, Array.replicate_succ, Array.replicate_zero, List.push_toArray, List.append_toArray, List.nil_append, List.cons_append]
  gi_wp2
  have bO := Boxed.new w 58 (.slice none 0 0)
  have hB0 : Below w.heap.size w (w.alloc (.cells #[.slice none 0 0] 58)) := (Below.refl _ w).alloc (Nat.le_refl _) _
  refine wpIn_rangeFunc_ownG hro h1 (gf := gf) (lb := lb) rfl hFg eg hseq belowK_t (belowK_b (by simp)) hB0 (fun _ => rfl)
    (fun pre W => (∃ v, Boxed W w.heap.size 58 v ∧ W.ownsRow w.heap.size 22 1 v pre.length (pre.map Bv.val) ∧ (v = .slice none 0 0 ↔ pre = [])) ∧ Below w.heap.size w W)
    (fun _ _ _ => False)
    (OwnFrom.and (Own.from (holdsRow_own w.heap.size w.heap.size 58 22 1 (fun pre => pre.length) (fun pre => pre.map Bv.val) (fun pre v => v = .slice none 0 0 ↔ pre = [])) _) (ownFrom_below (Nat.le_refl _) (by simp)))
    (fun _ _ _ _ _ hs _ _ => hs)
    ⟨⟨_, bO, World.ownsRow_nil _ _ _ _, by simp⟩, hB0⟩
    (fun x => { tmps := #[.slice none 0 0, .func (.func gf) #[] lb, .pointer (some ⟨w.heap.size, 0, none⟩), undef, .slice none 0 0, x.val, .func (.func gf) #[] lb, x.val, undef, undef, undef, undef, undef], defers := [] }) ?assign ?body ?done ?stop
  case assign =>
    intro l x W K hK
    gi_wp2
    exact hK
  case body =>
    rintro l pre x W ⟨⟨v, hv, hrow, hnil⟩, hB⟩ hlt
    have hc := hv.cell
    obtain ⟨xp, xn, xc, xl⟩ := x
    simp only [Bv.val]
    gi_wp2_with (gi_at_builtin; refine wpListIn_append_own _ rfl _ _ 58 rfl w.heap.size 22 i0 (.slice none 0 0) 1 24 Tryd.underlying58 hi hz0 hz1 hz2 rfl (by decide) _ _ _ rfl (hrow.alloc _) ⟨W.heap.size, 0, none⟩ 1 1 [.slice xp xn xc] rfl rfl (cell_one_new _ _ _) (by simp [Value.oneCell']) (by unfold maxLen; omega) (by omega) (by have := hB.size; simp; omega) ?_; intro v' w1 hown' hgrow _; obtain ⟨g', cap', rfl⟩ := ownsRow_succ hown'; obtain ⟨hv1, hv2, hr2, hk2, hb2⟩ := hv.appended (by decide) hrow hB.size (Nat.le_refl _) hown' hgrow; have hc1 := hv1.cell; have hf1 := hv1.frozen)
    exact ⟨hk2.from _, hb2, ⟨_, hv2, by simpa [Bv.val] using hr2, by simp⟩, hB.trans hb2⟩
  case done =>
    rintro D ys W hD hS ⟨⟨v, hv, hrow, hnil⟩, hB⟩ hK
    have hc := hv.cell
    gi_wp2
    refine ⟨by simp, .inl ⟨_, _, rfl, run_takeDeferred hK, ?_⟩⟩
    exact ⟨_, results_tmp rfl _ _ _, v, ys, rfl, hS, ownsRow_putObj hrow _ hK rfl, hB.trans (belowK_b (w := w) (Nat.le_refl _) W D _ _ (by simp at hD; omega) hK rfl rfl)⟩
  case stop =>
    rintro D c pre W _ _ h _
    exact h.elim
set_option maxHeartbeats 1000000 in
/-- slices.Collect(seq). -/
theorem collect_in (F : Fence) (n : Nat) (hC : F.fn 23) (hA : F.fn 36) (hro : F.round = none) (hn : 4 ≤ n) (gf : Nat) (lb : Array Value) (hFg : F.fn gf) (eg : ∀ args w, (callFunc gf args).run Tryd.prog w = .ok (.enter gf args) w)
    (S Sp : List Bv → Prop) (N : Nat) (hN : N ≤ 1000) (w : World) (hseq : SeqStopsK F (n - 1 - 1) Tryd.prog gf lb (fun x : Bv => #[x.val]) (Below w.heap.size) S Sp N w) :
    CallsIn F n Tryd.prog 23 #[.func (.func gf) #[] lb] w fun e W' => ∃ v xs, e = .returned v ∧ S xs ∧ W'.ownsRow w.heap.size 22 1 v xs.length (xs.map Bv.val) ∧ Below w.heap.size w W' := by
  refine callsIn_of_wp Tryd.func23 rfl hC ?_ hro
  simp only [Tryd.ntmps23, List.size_toArray, List.length_cons, List.length_nil, Nat.reduceAdd, Nat.reduceSub, Array.replicate_succ, Array.replicate_zero, List.push_toArray, List.append_toArray, List.nil_append, List.cons_append]
  have h1 : 1 ≤ n := by omega
  gi_wp2_with (gi_at_call 36; refine (appendseq_in F (n - 1) hA hro (by omega) gf lb hFg eg S Sp N hN _ hseq).mono ?_; rintro e w' ⟨v, ss, rfl, hS, hrow, hb⟩)
  go_ret
  exact ⟨v, ss, rfl, hS, hrow, hb⟩
end Go.Proofs.YtgimdodbajhpoaaDoor
