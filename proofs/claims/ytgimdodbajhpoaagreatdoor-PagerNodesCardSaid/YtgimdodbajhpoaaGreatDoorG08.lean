/- Numbers as bytes: Get32. The sum of bytes: whatever it is, it is reckoned from the bytes alone. -/
import Derived.Laws.CopyRow
import Derived.Deep.WholeRow
import Derived.Laws.Rows
import Derived.Laws.Tables
import Derived.Test.YtgimdodbajhpoaaGreatDoorG06
namespace Go.Proofs.YtgimdodbajhpoaaGreatDoor
open Go.RowKit Go.Maps
set_option linter.unusedSimpArgs false
set_option linter.unusedVariables false

theorem or4 (a b c d : Nat) (ha : a < 256) (hb : b < 256) (hc : c < 256) (hd : d < 256) :
    bits .or .u32 (bits .or .u32 (bits .or .u32 ((a : Int) * 16777216) ((b : Int) * 65536)) ((c : Int) * 256)) (d : Int) = (((a : Int) * 256 + b) * 256 + c) * 256 + d := by
  have e1 : bits .or .u32 ((a * 16777216 : Nat) : Int) ((b * 65536 : Nat) : Int) = IntKind.u32.wrap ((a * 16777216 + b * 65536 : Nat) : Int) := or_add .u32 a (b * 65536) 24 (by omega) (by show a * 16777216 + b * 65536 < 4294967296; omega)
  have e2 : bits .or .u32 (((a * 256 + b) * 65536 : Nat) : Int) ((c * 256 : Nat) : Int) = IntKind.u32.wrap (((a * 256 + b) * 65536 + c * 256 : Nat) : Int) := or_add .u32 (a * 256 + b) (c * 256) 16 (by omega) (by show (a * 256 + b) * 65536 + c * 256 < 4294967296; omega)
  have e3 : bits .or .u32 ((((a * 256 + b) * 256 + c) * 256 : Nat) : Int) (d : Int) = IntKind.u32.wrap ((((a * 256 + b) * 256 + c) * 256 + d : Nat) : Int) := or_add .u32 ((a * 256 + b) * 256 + c) d 8 (by omega) (by show ((a * 256 + b) * 256 + c) * 256 + d < 4294967296; omega)
  rw [show (a : Int) * 16777216 = ((a * 16777216 : Nat) : Int) from by omega, show (b : Int) * 65536 = ((b * 65536 : Nat) : Int) from by omega, e1,
    show IntKind.u32.wrap ((a * 16777216 + b * 65536 : Nat) : Int) = (((a * 256 + b) * 65536 : Nat) : Int) from by rw [IntKind.wrap_u32]; omega,
    show (c : Int) * 256 = ((c * 256 : Nat) : Int) from by omega, e2,
    show IntKind.u32.wrap (((a * 256 + b) * 65536 + c * 256 : Nat) : Int) = ((((a * 256 + b) * 256 + c) * 256 : Nat) : Int) from by rw [IntKind.wrap_u32]; omega, e3, IntKind.wrap_u32]
  omega

def Get32M (l : List Int) (w : World) (v : Value) (w' : World) : Prop := v = .int .u32 (un4 l 4) ∧ Mod [] w w'
set_option maxRecDepth 100000 in
set_option maxHeartbeats 1000000 in
theorem get32_any (p : Option Addr) (n c : Nat) (l : List Int) (w : World) (h : BytesIn w p n c l) (hn : 4 ≤ n) :
    Calls Tryz.prog 52 #[.slice p n c] w (Ret (Get32M l w)) := by
  have hln := h.len
  obtain ⟨b, off, hp, hblt, hcs⟩ := h.sl.addr (by omega)
  subst hp
  obtain ⟨i0, hi0, hz0, hz1, hz2⟩ := info_parts infoU8
  have hsz : (Tryz.prog.info? 5).map (·.size) = some 1 := by rw [hi0]; simp [hz1]
  have h4 : l.length ≥ 4 := by omega
  have hlen4 : (bs (l.take 4)).length = 4 := by rw [bs_len, List.length_take]; omega
  have htk : bs (l.take 4) = [.int .u8 (l.getD 0 0), .int .u8 (l.getD 1 0), .int .u8 (l.getD 2 0), .int .u8 (l.getD 3 0)] := by
    match l, h4 with
    | a :: b :: c :: d :: r, _ => simp [bs]
  have hcopy : (Builtin.copy_ #[40, 40] 3 #[.slice (some ⟨w.heap.size, 0, none⟩) 4 4, .slice (some ⟨b, off, none⟩) n c]).run Tryz.prog (w.alloc (.cells #[.int .u8 0, .int .u8 0, .int .u8 0, .int .u8 0] 117))
      = .ok (.int .i64 4) (w.alloc (.cells #[.int .u8 (l.getD 0 0), .int .u8 (l.getD 1 0), .int .u8 (l.getD 2 0), .int .u8 (l.getD 3 0)] 117)) := by
    have hm := Mod.of_alloc w (.cells #[.int .u8 0, .int .u8 0, .int .u8 0, .int .u8 0] 117)
    rw [run_copy_row (P := Tryz.prog) _ 40 40 3 5 w.heap.size 0 4 4 ⟨b, off, none⟩ n c #[.int .u8 0, .int .u8 0, .int .u8 0, .int .u8 0] 117 (bs (l.take 4)) Tryz.underlying40 hsz (at_alloc w _) (by rw [hlen4]; exact (Nat.min_eq_right hn).symm)
      (fun j v hj => by
        have hj4 : j < 4 := by
          rcases Nat.lt_or_ge j 4 with h | h
          · exact h
          · rw [List.getElem?_eq_none (by rw [hlen4]; exact h)] at hj; cases hj
        have e : (bs (l.take 4))[j]? = (bs l)[j]? := by simp only [bs, List.getElem?_map, List.getElem?_take, if_pos hj4]
        rw [e] at hj
        have hadd : Addr.add ⟨b, off, none⟩ j = ⟨b, off + j, none⟩ := by unfold Addr.add; split <;> simp_all
        rw [hadd]
        exact (hm.cell (a := ⟨b, off + j, none⟩) hblt (by simp)).trans (hcs j v hj))
      (by rw [hlen4]; decide) (bs_one _)]
    rw [World.setRow_alloc_new, hlen4, htk]
    rfl
  have hwf : ∀ i, i < 4 → 0 ≤ l.getD i 0 ∧ l.getD i 0 < 256 := fun i hi => h.wf _ (by rw [getD_at (by omega)]; exact List.getElem_mem _)
  have HU : Hid (un4 l 4 = ((l.getD 0 0 * 256 + l.getD 1 0) * 256 + l.getD 2 0) * 256 + l.getD 3 0) := by simp [un4, Hid]
  obtain ⟨x0, y0⟩ := hwf 0 (by omega)
  obtain ⟨x1, y1⟩ := hwf 1 (by omega)
  obtain ⟨x2, y2⟩ := hwf 2 (by omega)
  obtain ⟨x3, y3⟩ := hwf 3 (by omega)
  generalize l.getD 0 0 = f0 at *
  generalize l.getD 1 0 = f1 at *
  generalize l.getD 2 0 = f2 at *
  generalize l.getD 3 0 = f3 at *
  clear hwf htk hlen4 h4 hcs h hln hblt
  go_enter Tryz.func52, Tryz.ntmps52
  go_wp2
  go_ret
  have hor := or4 f0.toNat f1.toNat f2.toNat f3.toNat (by omega) (by omega) (by omega) (by omega)
  rw [Int.toNat_of_nonneg x0, Int.toNat_of_nonneg x1, Int.toNat_of_nonneg x2, Int.toNat_of_nonneg x3] at hor
  exact .mk ⟨by rw [HU.out, ← hor]; rfl, Mod.of_alloc w _⟩
end Go.Proofs.YtgimdodbajhpoaaGreatDoor
namespace Go.Proofs.YtgimdodbajhpoaaGreatDoor
open Go.RowKit Go.Maps
set_option linter.unusedSimpArgs false
set_option linter.unusedVariables false

theorem bits_u32 (op : BinOp) (a b : Int) : 0 ≤ bits op .u32 a b ∧ bits op .u32 a b < 4294967296 := by
  unfold bits
  split <;> (rw [IntKind.wrap_u32]; omega)
/-- What the program reckons, step by step, in the model's own words. -/
def tabStep (v : Int) : Int := bits .xor .u32 (v / 2) (IntKind.u32.wrap (2197175160 * bits .and .u32 v 1))
def tabIter : Nat → Int → Int
  | 0, v => v
  | n + 1, v => tabStep (tabIter n v)
theorem tabStep_range (v : Int) : 0 ≤ tabStep v ∧ tabStep v < 4294967296 := bits_u32 _ _ _
theorem tabIter_range (n : Nat) (i : Nat) (hi : i < 16) : 0 ≤ tabIter n i ∧ tabIter n i < 4294967296 := by
  cases n with
  | zero => simp [tabIter]; omega
  | succ n => exact tabStep_range _
def tab : List Int := (List.range 16).map fun i : Nat => tabIter 4 (i : Int)
def tabK (k : Nat) : List Int := ((List.range k).map fun i : Nat => tabIter 4 (i : Int)) ++ List.replicate (16 - k) 0
def u32s (l : List Int) : List Value := l.map (.int .u32 ·)
theorem Mod.of_setRow (w : World) (b : Nat) (cs : Array Value) : Mod [b] w (w.setRow b cs) := ⟨rfl, rfl, rfl, by simp, fun k _ hn => setRow_other w b k _ (fun e => hn (by simp [e]))⟩
theorem tabK_16 : tabK 16 = tab := by unfold tabK tab; rw [show 16 - 16 = 0 from rfl]; exact List.append_nil _
theorem tabK_succ (k : Nat) (hk : k < 16) : (u32s (tabK k)).toArray.setIfInBounds k (.int .u32 (tabIter 4 k)) = (u32s (tabK (k + 1))).toArray := by
  rw [List.setIfInBounds_toArray]
  congr 1
  unfold u32s tabK
  rw [show 16 - k = (16 - (k + 1)) + 1 from by omega, List.replicate_succ, List.range_succ]
  simp only [List.map_append, List.map_cons, List.map_nil]
  rw [List.set_append_right _ _ (by simp)]
  simp
set_option maxRecDepth 100000 in
set_option maxHeartbeats 4000000 in
theorem table_any (w : World) : Calls Tryz.prog 66 #[] w (Ret fun v w' => v = .agg (u32s tab).toArray ∧ Mod [] w w') := by
  go_enter Tryz.func66, Tryz.ntmps66
  go_wp2
  go_loopw [4] (fun i wr => ∃ k : Nat, k ≤ 16 ∧ i = .int .i64 k ∧ wr.heap[w.heap.size + 1]? = some (Obj.cells (u32s (tabK k)).toArray 121 (0, 0)) ∧ wr.heap[w.heap.size]? = some (Obj.cells (u32s (tabK 0)).toArray 121 (0, 0)) ∧ Mod [] w wr) (fun i _ => 16 - (intOf i).toNat)
  case atStart =>
    refine ⟨0, by omega, rfl, ?_, ?_, (Mod.of_alloc w _).alloc⟩
    · have := at_alloc' (w.alloc (.cells (u32s (tabK 0)).toArray 121)) (.cells (u32s (tabK 0)).toArray 121) (n := w.heap.size + 1) (by simp)
      exact this
    · exact at_alloc_other (at_alloc w (.cells (u32s (tabK 0)).toArray 121)) (.cells (u32s (tabK 0)).toArray 121)
  case round =>
    obtain ⟨k, hk, rfl, hat, hat0, hm⟩ := hrel
    have HA := Lib.hid hat
    have HA0 := Lib.hid hat0
    have HM := Lib.hid hm
    clear hat hat0 hm
    by_cases hlt : k < 16
    · have hwk : IntKind.u32.wrap (k : Int) = (k : Int) := by rw [IntKind.wrap_u32]; omega
      go_wp2
      go_loopw [3, 9] (fun v j wz => ∃ n : Nat, n ≤ 4 ∧ j = .int .i64 n ∧ v = .int .u32 (tabIter n k) ∧ wz = wr) (fun _ j _ => 4 - (intOf j).toNat)
      case atStart => exact ⟨0, by omega, rfl, rfl, rfl⟩
      case round =>
        obtain ⟨n, hn, rfl, rfl, rfl⟩ := hrel
        by_cases hl4 : n < 4
        · have hr := tabIter_range n k hlt
          have HS : Hid (tabIter (n + 1) k = tabStep (tabIter n k)) := rfl
          generalize tabIter n k = V at *
          go_wp2
          go_roundw
          case rel => exact ⟨n + 1, by omega, by go_num, by rw [HS.out]; rfl, by first | rfl | trivial⟩
          case measure => simp [intOf]; omega
        · obtain rfl : n = 4 := by omega
          have hlen : (u32s (tabK k)).length = 16 := by simp [u32s, tabK]; omega
          have hc : wr.cell? ⟨w.heap.size + 1, k, none⟩ = some ((u32s (tabK k))[k]'(by rw [hlen]; exact hlt)) := by
            rw [cell_of_at HA.out, List.getElem?_toArray, List.getElem?_eq_getElem (by rw [hlen]; exact hlt)]
          have hf : wr.frozen? ⟨w.heap.size + 1, k, none⟩ = false := free_of_at HA.out k
          have HSU := Lib.hid (tabK_succ k hlt)
          have HB : Hid (wr.heap.size > w.heap.size + 1) := lt_of_at HA.out
          generalize (u32s (tabK k))[k]'(by rw [hlen]; exact hlt) = z at hc
          generalize tabIter 4 k = V at *
          clear hlen
          go_wp2
          go_roundw
          case rel => exact ⟨k + 1, by omega, by go_num, by rw [← HSU.out]; exact at_setCell HA.out k _, by rw [at_setCell_other (by omega)]; exact HA0.out, HM.out.setCell (Or.inr (by omega))⟩
          case measure => simp [intOf]; omega
    · obtain rfl : k = 16 := by omega
      rw [tabK_16] at HA
      have hs0 : (u32s (tabK 0)).toArray.size = 16 := by simp [u32s, tabK]
      have hst : (u32s tab).toArray.size = 16 := by simp [u32s, tab]
      have hi16 : (Tryz.prog.info? 121).map (·.size) = some 16 := by kernel_rfl
      have h1c : (u32s tab).toArray.all (·.oneCell') = true := by simp [u32s, Value.oneCell']
      go_wp2_with (first
        | (refine wpList_load_row rfl _ _ rfl (w.heap.size + 1) rfl _ _ _ _ HA.out Tryz.underlying121 rfl (by rw [hst]; exact hi16) ?_)
        | (refine wpList_store_row rfl _ _ _ rfl w.heap.size (u32s tab).toArray rfl rfl _ _ HA0.out (by rw [hst]; exact hi16) (by rw [hs0, hst]) h1c ?_)
        | go_in)
      have hat2 : (wr.setRow w.heap.size (u32s tab).toArray).heap[w.heap.size]? = some (Obj.cells (u32s tab).toArray 121 (0, 0)) := setRow_heap wr w.heap.size _ _ _ _ HA0.out
      refine bodyPost_ret (results_cell_row rfl _ _ w.heap.size _ _ _ _ rfl hat2 Tryz.underlying121 rfl (by rw [hst]; exact hi16)) rfl ?_
      exact .mk ⟨rfl, HM.out.trans (Mod.of_setRow wr w.heap.size _) (by simp)⟩

/-! ### More, Sum -/
def crcStep (v c : Int) : Int :=
  let a := bits .xor .u32 v c
  let b := bits .xor .u32 (a / 16) (tab.getD (bits .and .u32 a 15).toNat 0)
  bits .xor .u32 (b / 16) (tab.getD (bits .and .u32 b 15).toNat 0)
def crcFold (v : Int) (l : List Int) : Int := l.foldl crcStep v
/-- The sum of bytes, as the program reckons it. -/
def crcv (l : List Int) : Int := bits .xor .u32 IntKind.u32.max (crcFold (bits .xor .u32 IntKind.u32.max 0) l)
theorem and15 (x : Int) : 0 ≤ bits .and .u32 x 15 ∧ bits .and .u32 x 15 < 16 := by
  have h : ((BitVec.ofInt 32 x &&& BitVec.ofInt 32 15).toNat) ≤ 15 := by
    rw [BitVec.toNat_and]; exact Nat.and_le_right
  unfold bits
  simp only
  rw [IntKind.wrap_u32]
  have e : IntKind.u32.bits = 32 := rfl
  rw [e]
  omega
theorem crcStep_range (v c : Int) : 0 ≤ crcStep v c ∧ crcStep v c < 4294967296 := by unfold crcStep; exact bits_u32 _ _ _
theorem crcFold_range {v : Int} (h : 0 ≤ v ∧ v < 4294967296) : ∀ l : List Int, 0 ≤ crcFold v l ∧ crcFold v l < 4294967296 := by
  intro l
  induction l generalizing v with
  | nil => exact h
  | cons a r ih => exact ih (crcStep_range v a)
theorem crcFold_succ {v : Int} {l : List Int} {k : Nat} (hk : k < l.length) : crcFold v (l.take (k + 1)) = crcStep (crcFold v (l.take k)) (l.getD k 0) := by
  unfold crcFold; rw [List.take_succ_eq_append_getElem hk, List.foldl_append, getD_at hk]; rfl
set_option maxRecDepth 100000 in
set_option maxHeartbeats 4000000 in
theorem more_any (p : Option Addr) (n c : Nat) (l : List Int) (w : World) (h : BytesIn w p n c l) :
    Calls Tryz.prog 57 #[.int .u32 0, .slice p n c] w (Ret fun v w' => v = .int .u32 (crcv l) ∧ Mod [] w w') := by
  have hln := h.len
  have hcm := h.sl.capm; have hle := h.sl.le
  unfold maxLen at hcm
  have H := Lib.hid h
  have HLN := Lib.hid hln
  clear h hln
  have hst : (u32s tab).toArray.size = 16 := by simp [u32s, tab]
  have hi16 : (Tryz.prog.info? 121).map (·.size) = some 16 := by kernel_rfl
  have h1c : (u32s tab).toArray.all (·.oneCell') = true := by simp [u32s, Value.oneCell']
  have HST := Lib.hid hst
  have HI := Lib.hid hi16
  have H1C := Lib.hid h1c
  clear hst hi16 h1c
  go_enter Tryz.func57, Tryz.ntmps57
  go_wp2_with fail
  refine (table_any _).mono ?_
  rintro _ w1 ⟨_, rfl, rfl, m1⟩
  have M1 := Lib.hid m1
  clear m1
  have hz : (w1.alloc (.cells #[.int .u32 0, .int .u32 0, .int .u32 0, .int .u32 0, .int .u32 0, .int .u32 0, .int .u32 0, .int .u32 0, .int .u32 0, .int .u32 0, .int .u32 0, .int .u32 0, .int .u32 0, .int .u32 0, .int .u32 0, .int .u32 0] 121)).heap[w1.heap.size]? = some (Obj.cells #[.int .u32 0, .int .u32 0, .int .u32 0, .int .u32 0, .int .u32 0, .int .u32 0, .int .u32 0, .int .u32 0, .int .u32 0, .int .u32 0, .int .u32 0, .int .u32 0, .int .u32 0, .int .u32 0, .int .u32 0, .int .u32 0] 121 (0, 0)) := at_alloc w1 _
  have HZ := Lib.hid hz
  have hsg : (IntKind.u32.signed = true) = False := by simp [IntKind.signed]
  clear hz
  go_wp2_with (first
    | (refine wpList_store_row rfl _ _ _ rfl w1.heap.size (u32s tab).toArray rfl rfl _ _ HZ.out (by rw [HST.out]; exact HI.out) (by rw [HST.out]; rfl) H1C.out ?_)
    | fail)
  have HB : Hid ((w1.alloc (.cells #[.int .u32 0, .int .u32 0, .int .u32 0, .int .u32 0, .int .u32 0, .int .u32 0, .int .u32 0, .int .u32 0, .int .u32 0, .int .u32 0, .int .u32 0, .int .u32 0, .int .u32 0, .int .u32 0, .int .u32 0, .int .u32 0] 121)).setRow w1.heap.size (u32s tab).toArray |>.heap[w1.heap.size]? = some (Obj.cells (u32s tab).toArray 121 (0, 0))) := setRow_heap _ w1.heap.size _ _ _ _ HZ.out
  have HMW : Hid (Mod [] w1 ((w1.alloc (.cells #[.int .u32 0, .int .u32 0, .int .u32 0, .int .u32 0, .int .u32 0, .int .u32 0, .int .u32 0, .int .u32 0, .int .u32 0, .int .u32 0, .int .u32 0, .int .u32 0, .int .u32 0, .int .u32 0, .int .u32 0, .int .u32 0] 121)).setRow w1.heap.size (u32s tab).toArray)) := (Mod.of_alloc w1 _).trans (Mod.of_setRow _ w1.heap.size _) (by simp)
  generalize ((w1.alloc (.cells #[.int .u32 0, .int .u32 0, .int .u32 0, .int .u32 0, .int .u32 0, .int .u32 0, .int .u32 0, .int .u32 0, .int .u32 0, .int .u32 0, .int .u32 0, .int .u32 0, .int .u32 0, .int .u32 0, .int .u32 0, .int .u32 0] 121)).setRow w1.heap.size (u32s tab).toArray) = W at *
  generalize w1.heap.size = B at *
  have hv0 := bits_u32 .xor IntKind.u32.max 0
  have HV : Hid (crcv l = bits .xor .u32 IntKind.u32.max (crcFold (bits .xor .u32 IntKind.u32.max 0) l)) := rfl
  generalize bits .xor .u32 IntKind.u32.max 0 = V0 at *
  have HTAB : Hid (∀ j : Nat, j < 16 → W.cell? ⟨B, j, none⟩ = some (.int .u32 (tab.getD j 0))) := fun j hj => by
    have hl : tab.length = 16 := by simp [tab]
    rw [cell_of_at HB.out, List.getElem?_toArray, u32s, List.getElem?_map, getD_at (by rw [hl]; exact hj), List.getElem?_eq_getElem (by rw [hl]; exact hj)]; rfl
  have HTR : Hid (∀ j : Nat, 0 ≤ tab.getD j 0 ∧ tab.getD j 0 < 4294967296) := fun j => by
    rcases Nat.lt_or_ge j tab.length with h | h
    · rw [getD_at h]
      have : tab[j] ∈ tab := List.getElem_mem h
      obtain ⟨i, hi, he⟩ := List.mem_map.1 this
      rw [← he]; exact tabIter_range 4 i (List.mem_range.1 hi)
    · have e : tab.getD j 0 = 0 := by simp [List.getD, List.getElem?_eq_none h]
      rw [e]; omega
  obtain ⟨b, off, hp, hcs⟩ := H.out.sl.at_
  have hidx := fun W => Sl.idx (P := Tryz.prog) (cap := c) Tryz.underlying40 sizeBytes (fun h => (hp h).1) W .i64
  have HLT : Hid (0 < n → b < w.heap.size) := fun h => (hp h).2
  have HCS := Lib.hid hcs
  have HMA : Hid (Mod [] w W) := M1.out.same HMW.out
  clear hp hcs HZ HB HMW
  go_loopw [6, 14] (fun v i wr => ∃ k : Nat, k ≤ n ∧ i = .int .i64 k ∧ v = .int .u32 (crcFold V0 (l.take k)) ∧ wr = W) (fun _ i _ => n - (intOf i).toNat)
  case atStart => exact ⟨0, by omega, rfl, rfl, rfl⟩
  case round =>
    obtain ⟨k, hk, rfl, rfl, rfl⟩ := hrel
    by_cases hlt : k < n
    · have hkl : k < l.length := by rw [HLN.out]; exact hlt
      have d0 := HCS.out k _ (bs_get hkl)
      rw [← HMA.out.cell (a := ⟨b, off + k, none⟩) (HLT.out (by omega)) (by simp)] at d0
      have hx := H.out.wf (l.getD k 0) (by rw [getD_at hkl]; exact List.getElem_mem _)
      have HS := Lib.hid (crcFold_succ (v := V0) hkl)
      have hr := crcFold_range hv0 (l.take k)
      generalize crcFold V0 (l.take k) = V at *
      generalize l.getD k 0 = x at *
      have hwx : IntKind.u32.wrap x = x := by rw [IntKind.wrap_u32]; omega
      have HST2 : Hid (crcStep V x = bits .xor .u32 (bits .xor .u32 (bits .xor .u32 V x / 16) (tab.getD (bits .and .u32 (bits .xor .u32 V x) 15).toNat 0) / 16) (tab.getD (bits .and .u32 (bits .xor .u32 (bits .xor .u32 V x / 16) (tab.getD (bits .and .u32 (bits .xor .u32 V x) 15).toNat 0)) 15).toNat 0)) := rfl
      have ra := bits_u32 .xor V x
      have i1 := and15 (bits .xor .u32 V x)
      have t1 := HTAB.out (bits .and .u32 (bits .xor .u32 V x) 15).toNat (by omega)
      have q1 := HTR.out (bits .and .u32 (bits .xor .u32 V x) 15).toNat
      generalize tab.getD (bits .and .u32 (bits .xor .u32 V x) 15).toNat 0 = T1 at *
      have rb := bits_u32 .xor (bits .xor .u32 V x / 16) T1
      have i2 := and15 (bits .xor .u32 (bits .xor .u32 V x / 16) T1)
      have t2 := HTAB.out (bits .and .u32 (bits .xor .u32 (bits .xor .u32 V x / 16) T1) 15).toNat (by omega)
      have q2 := HTR.out (bits .and .u32 (bits .xor .u32 (bits .xor .u32 V x / 16) T1) 15).toNat
      generalize tab.getD (bits .and .u32 (bits .xor .u32 (bits .xor .u32 V x / 16) T1) 15).toNat 0 = T2 at *
      clear hkl
      go_wp2
      go_roundw
      case rel => exact ⟨k + 1, by omega, by go_num, by rw [HS.out, HST2.out], by first | rfl | trivial⟩
      case measure => simp [intOf]; omega
    · obtain rfl : k = n := by omega
      have hT : l.take k = l := List.take_of_length_le (by rw [HLN.out]; omega)
      rw [hT]
      clear hT
      go_wp2
      go_ret
      exact .mk ⟨by rw [HV.out]; rfl, HMA.out⟩
theorem crcv_range (l : List Int) : 0 ≤ crcv l ∧ crcv l < 4294967296 := by unfold crcv; exact bits_u32 _ _ _
set_option maxRecDepth 100000 in
theorem sum_any (p : Option Addr) (n c : Nat) (l : List Int) (w : World) (h : BytesIn w p n c l) :
    Calls Tryz.prog 42 #[.slice p n c] w (Ret fun v w' => v = .int .u32 (crcv l) ∧ Mod [] w w') := by
  have H := Lib.hid h
  obtain ⟨V, hV⟩ : ∃ V, V = crcv l := ⟨_, rfl⟩
  have HVV := Lib.hid hV
  clear h
  go_enter Tryz.func42, Tryz.ntmps42
  go_wp2_with fail
  refine (more_any p n c l _ H.out).mono ?_
  rintro _ w1 ⟨_, rfl, rfl, m1⟩
  have M1 := Lib.hid m1
  rw [← hV]
  clear m1 hV
  go_wp2
  go_ret
  exact .mk ⟨by rw [← HVV.out]; rfl, M1.out⟩
end Go.Proofs.YtgimdodbajhpoaaGreatDoor
