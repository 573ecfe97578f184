/- Numbers as bytes: Key. -/
import Derived.Test.YtgimdodbajhpoaaNumRef
namespace Go.Proofs.Ytgimdodbajhpoaa
open Go.RowKit Go.Maps
set_option linter.unusedSimpArgs false
set_option linter.unusedVariables false

theorem bytes_own {w : World} {B base : Nat} {l : List Int} {n : Nat} (h : w.heap[B]? = some (.cells (bs l).toArray 5 (0, 0))) (hn : l.length = n) (hb : base ≤ B) (hm : n ≤ maxLen) : w.ownsRow base 5 1 (.slice (some ⟨B, 0, none⟩) n n) n (bs l) :=
  ⟨by simp [bs, hn], Or.inr ⟨B, n, (bs l).toArray, rfl, hb, h, by omega, hm, by simp [bs, hn], by simp [bs]; exact List.take_of_length_le (by simp [hn])⟩⟩

set_option maxRecDepth 100000 in
set_option maxHeartbeats 1000000 in
theorem key_any (v : Int) (w : World) (h0 : 0 ≤ v) (h1 : v < 2 ^ 64) :
    Calls Try.prog 46 #[.int .u64 v] w (Ret (BytesR (be 8 v) w)) := by
  obtain ⟨i0, hi0, hz0, hz1, hz2⟩ := info_parts infoU8
  have hmk := fun W => run_makeSlice (P := Try.prog) W 23 5 i0 (.int .u8 0) Try.underlying23 hi0 hz0 .i64 .i64 8 8 (by omega) (by omega) (by rw [hz1]; decide) (by rw [hz2]; decide)
  go_enter Try.func46, Try.ntmps46
  go_wp2
  have hmc : madeCells #[.int .u8 0] 8 = (bs (List.replicate 8 0)).toArray := by kernel_rfl
  have hB0 : (w.alloc (.cells (madeCells #[.int .u8 0] 8) 5)).heap[w.heap.size]? = some (.cells (bs (List.replicate 8 0)).toArray 5 (0, 0)) := by rw [hmc]; exact at_alloc w _
  have HB0 := Lib.hid hB0
  have hM0 : Mod [] w (w.alloc (.cells (madeCells #[.int .u8 0] 8) 5)) := Mod.of_alloc w _
  have HM0 := Lib.hid hM0
  clear hmk hB0 hM0 hmc
  have hidx : ∀ (W : World) (j : Nat), j < 8 → (Instr.indexAt 23 (.slice (some ⟨w.heap.size, 0, none⟩) 8 8) (.int .i64 j)).run Try.prog W = .ok (.pointer (some ⟨w.heap.size, 0 + j * 1, none⟩)) W :=
    fun W => Sl.idx (P := Try.prog) (cap := 8) Try.underlying23 sizeBytes (fun _ => rfl) W .i64
  go_loopw [8] (fun i wr => ∃ (k : Nat), k ≤ 8 ∧ i = .int .i64 k ∧ wr.heap[w.heap.size]? = some (.cells (bs (List.replicate (8 - k) 0 ++ be k v)).toArray 5 (0, 0)) ∧ Mod [] w wr) (fun i _ => 8 - (intOf i).toNat)
  case atStart => exact ⟨0, by omega, rfl, by simpa [be] using HB0.out, HM0.out⟩
  case round =>
    obtain ⟨k, hk, rfl, hat, hm⟩ := hrel
    have HA := Lib.hid hat
    have HM := Lib.hid hm
    clear hat hm HB0 HM0
    by_cases hlt : k < 8
    · obtain ⟨j, hj⟩ : ∃ j, j = 7 - k := ⟨_, rfl⟩
      have hjk : (7 : Int) - (k : Int) = (j : Int) := by omega
      have hw1 : IntKind.i64.wrap (7 - (k : Int)) = (j : Int) := by rw [IntWalk.i64_in _ (by omega)]; exact hjk
      have hj8 : j < 8 := by omega
      have hf : wr.frozen? ⟨w.heap.size, j, none⟩ = false := free_of_at HA.out j
      have hll : (List.replicate (8 - k) 0 ++ be k v).length = 8 := by rw [List.length_append, be_len, List.length_replicate]; omega
      have hc : wr.cell? ⟨w.heap.size, j, none⟩ = some (.int .u8 ((List.replicate (8 - k) 0 ++ be k v).getD j 0)) := by
        rw [cell_of_at HA.out j, List.getElem?_toArray]; exact bs_get (by rw [hll]; exact hj8)
      have h256 : (2 : Int) ^ (8 * k) = 256 ^ k := by rw [show 8 * k = k * 8 from by omega, Nat.mul_comm, Int.pow_mul]; rfl
      have HFin : Hid (((bs (List.replicate (8 - k) 0 ++ be k v)).toArray.setIfInBounds j (.int .u8 (v / 2 ^ (8 * k) % 256))) = (bs (List.replicate (8 - (k + 1)) 0 ++ be (k + 1) v)).toArray) := by
        have e8 : 8 - k = (8 - (k + 1)) + 1 := by omega
        have ej : j = 8 - (k + 1) := by omega
        rw [List.setIfInBounds_toArray, h256, be_succ, e8, List.replicate_succ', List.append_assoc]
        congr 1
        simp only [bs, List.map_append, List.map_cons, List.singleton_append, List.cons_append, List.nil_append]
        rw [List.set_append_right _ _ (by simp; omega)]
        simp [ej]
      clear hll h256
      have HJ := Lib.hid hj
      clear hj
      generalize hG : v / 2 ^ (8 * k) % 256 = G at HFin
      go_wp2
      go_roundw
      case rel => exact ⟨k + 1, by omega, by go_num, by rw [← HFin.out]; exact at_setCell HA.out j _, HM.out.trans (Mod.of_setCell wr _ _ _) (by simp)⟩
      case measure => simp [intOf]; omega
    · obtain rfl : k = 8 := by omega
      go_wp2
      go_ret
      exact .mk ⟨_, 8, 8, rfl, by rw [be_len], bytes_own (by simpa using HA.out) (be_len _ _) (Nat.le_refl _) (by unfold maxLen; omega), HM.out⟩

def UnkeyR (n : Nat) (l : List Int) (w : World) (v : Value) (w' : World) : Prop := v = .tuple #[.int .u64 (if n = 8 then un l else 0), .bool (n == 8)] ∧ w' = w
def Get32R (l : List Int) (w : World) (v : Value) (w' : World) : Prop := v = .int .u32 (un4 l 4) ∧ w' = w
end Go.Proofs.Ytgimdodbajhpoaa
