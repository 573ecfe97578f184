/- Full: bytes of a given length, out of a row that goes round. -/
import Derived.Deep.OwnRows
import Derived.Test.YtgimdodbajhpoaaDoorG05
import Derived.Test.YtgimdodbajhpoaaDoorG20
namespace Go.Proofs.YtgimdodbajhpoaaDoor
open Go.RowKit Go.Maps
set_option linter.unusedSimpArgs false
set_option linter.unusedVariables false

def FullR (k : Nat) (w : World) (v : Value) (w' : World) : Prop := ∃ g l, v = .slice (some ⟨g, 0, none⟩) k k ∧ w.heap.size ≤ g ∧ BytesIn w' (some ⟨g, 0, none⟩) k k l ∧ Mod [] w w'
set_option maxRecDepth 100000 in
set_option maxHeartbeats 4000000 in
theorem full2_any (p : Option Addr) (n c sz k : Nat) (l : List Int) (w : World) (h : BytesIn w p n c l) (hsz : sz ≤ 100000) (hkm : k = min sz 17000) :
    Calls Tryd.prog 8 #[.slice p n c, .int .i64 sz] w (Ret (FullR k w)) := by
  have hk : k ≤ 17000 := by omega
  have hln := h.len
  obtain ⟨b, off, hp, hcs⟩ := h.sl.at_
  have hidx := fun W => Sl.idx (P := Tryd.prog) (cap := c) Tryd.underlying22 sizeBytes (fun h => (hp h).1) W .i64
  have hidg := fun W => Sl.idx (P := Tryd.prog) (m := k) (cap := k) (p := some ⟨w.heap.size, 0, none⟩) Tryd.underlying22 sizeBytes (fun h => rfl) W .i64
  have HLT : Hid (0 < n → b < w.heap.size) := fun h => (hp h).2
  have HCE : Hid (∀ i, i < n → ∃ x, w.cell? ⟨b, off + i, none⟩ = some (.int .u8 x) ∧ 0 ≤ x ∧ x < 256) := fun i hi => by
    have hk : i < l.length := by omega
    exact ⟨l[i], hcs i _ (by simp [bs, List.getElem?_eq_getElem hk]), h.wf _ (List.getElem_mem hk)⟩
  have hmk : ∀ W : World, (Instr.makeSlice 22 (.int .i64 (k : Int)) (.int .i64 (k : Int))).run Tryd.prog W = .ok (.slice (some ⟨W.heap.size, 0, none⟩) k k) (W.alloc (.cells (bs (List.replicate k 0)).toArray 5)) := fun W => by
    have h := run_make_row' (P := Tryd.prog) 22 5 (.int .u8 0) 1 Tryd.underlying22 infoU8 rfl .i64 .i64 k (by omega) (by omega) W
    rw [h, madeCells_one, bs_replicate]
  have hk0 : ¬ ((sz : Int) < 0) := by omega
  have hmx : max (sz : Int) 0 = (sz : Int) := by omega
  have hmn : min (sz : Int) 17000 = (k : Int) := by omega
  have hif : (if (17000 : Int) < (sz : Int) then (17000 : Int) else (sz : Int)) = (k : Int) := by split <;> omega
  clear h hp hcs hkm
  go_enter Tryd.func8, Tryd.ntmps8
  go_wp2
  go_loopw [6] (fun jv wx => ∃ (i : Nat) (W0 : World) (L : List Int), i ≤ k ∧ W0 = wx ∧ jv = .int .i64 i ∧ L.length = k ∧ (∀ x ∈ L, 0 ≤ x ∧ x < 256) ∧ W0.heap[w.heap.size]? = some (.cells (bs L).toArray 5 (0, 0)) ∧ Mod [] w W0) (fun jv _ => k - (intOf jv).toNat)
  case atStart => exact ⟨0, _, _, by omega, rfl, rfl, List.length_replicate .., fun x hx => by rw [List.eq_of_mem_replicate hx]; omega, at_alloc _ _, Mod.of_alloc _ _⟩
  case round =>
    obtain ⟨i, W0, L, hi, rfl, rfl, hL, hwf, hat, hmz⟩ := hrel
    have HLN := Lib.hid hL
    have HWF := Lib.hid hwf
    have HA := Lib.hid hat
    have HM := Lib.hid hmz
    clear hL hwf hat hmz hmk
    by_cases hgo : i < k ∧ 0 < n
    · obtain ⟨hlt, hn⟩ := hgo
      have hn0 : (0 : Int) < (n : Int) := by omega
      have hnz : ((n : Int) == 0) = false := by simp; omega
      have hnz2 : ¬ ((n : Int) = 0) := by omega
      obtain ⟨r, hr⟩ : ∃ r, r = i % n := ⟨_, rfl⟩
      have hrn : r < n := by rw [hr]; exact Nat.mod_lt _ hn
      have hri : r ≤ i := by rw [hr]; exact Nat.mod_le _ _
      have hrem : (i : Int).tmod (n : Int) = (r : Int) := by rw [hr]; rfl
      have hrem2 : (i : Int) % (n : Int) = (r : Int) := by rw [hr]; rfl
      have hwr : IntKind.i64.wrap (r : Int) = (r : Int) := IntWalk.i64_in _ (by clear hrem hrem2; omega)
      obtain ⟨x, hcell, hx0, hx1⟩ := HCE.out r hrn
      have hbl := HLT.out hn
      rw [← HM.out.cell (a := ⟨b, _, none⟩) hbl (by simp)] at hcell
      have hjr := fun W => hidx W r hrn
      simp only [Nat.mul_one] at hjr
      have hjg := fun W => hidg W i hlt
      simp only [Nat.mul_one, Nat.zero_add] at hjg
      have hf : W0.frozen? ⟨w.heap.size, i, none⟩ = false := free_of_at HA.out i
      have hc : W0.cell? ⟨w.heap.size, i, none⟩ = some (.int .u8 (L.getD i 0)) := by
        rw [cell_of_at HA.out i, List.getElem?_toArray]; exact bs_get (by rw [HLN.out]; exact hlt)
      have hwi : IntKind.i64.wrap ((i : Int) + 1) = (i : Int) + 1 := IntWalk.i64_in _ (by omega)
      have HFin : Hid (((bs L).toArray.setIfInBounds i (.int .u8 x)) = (bs (L.set i x)).toArray) := by
        unfold Hid
        rw [List.setIfInBounds_toArray]; simp [bs, List.map_set]
      have HWX : Hid (∀ y ∈ L.set i x, 0 ≤ y ∧ y < 256) := fun y hy => by
        rcases List.mem_or_eq_of_mem_set hy with h | h
        · exact HWF.out y h
        · subst h; exact ⟨hx0, hx1⟩
      clear hr
      go_wp2
      go_roundw
      case rel => exact ⟨i + 1, _, L.set i x, by omega, rfl, by go_num, by rw [List.length_set]; exact HLN.out, HWX.out, by rw [← HFin.out]; exact at_setCell HA.out i _, HM.out.trans (Mod.of_setCell W0 _ _ _) (by simp)⟩
      case measure => simp [intOf]; omega
    · have HEND : Hid (BytesIn W0 (some ⟨w.heap.size, 0, none⟩) k k L) := by
        have hat := HA.out
        refine ⟨⟨by rw [bs_len, HLN.out, Nat.mul_one], Nat.le_refl _, by simp [maxLen]; omega, bs_one _, w.heap.size, 0, fun _ => ⟨rfl, lt_of_at hat⟩, fun j u hj => ?_⟩, HWF.out⟩
        rw [cell_of_at hat, Nat.zero_add, List.getElem?_toArray]; exact hj
      by_cases hlt : i < k
      · have hn0 : n = 0 := by omega
        have hn1 : ¬ ((0 : Int) < (n : Int)) := by omega
        have hn2 : decide (0 < n) = false := by simp; omega
        clear hgo
        go_wp2
        go_ret
        exact .mk ⟨_, L, rfl, Nat.le_refl _, HEND.out, HM.out⟩
      · clear hgo
        go_wp2
        go_ret
        exact .mk ⟨_, L, rfl, Nat.le_refl _, HEND.out, HM.out⟩
theorem full_any (p : Option Addr) (n c k : Nat) (l : List Int) (w : World) (h : BytesIn w p n c l) (hk : k ≤ 1000) :
    Calls Tryd.prog 8 #[.slice p n c, .int .i64 k] w (Ret (FullR k w)) :=
  full2_any p n c k k l w h (by omega) (by omega)
end Go.Proofs.YtgimdodbajhpoaaDoor
