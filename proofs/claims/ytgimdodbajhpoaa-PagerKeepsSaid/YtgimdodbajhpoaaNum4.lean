/- Numbers as bytes: Get32. -/
import Derived.Test.YtgimdodbajhpoaaNum3
import Derived.Laws.CopyRow
import Derived.Deep.WholeRow
namespace Go.Proofs.Ytgimdodbajhpoaa
open Go.RowKit Go.Maps
set_option linter.unusedSimpArgs false
set_option linter.unusedVariables false

theorem or4 (a b c d : Nat) (ha : a < 256) (hb : b < 256) (hc : c < 256) (hd : d < 256) :
    bits .or .u32 (bits .or .u32 (bits .or .u32 ((a : Int) * 16777216) ((b : Int) * 65536)) ((c : Int) * 256)) (d : Int) = (((a : Int) * 256 + b) * 256 + c) * 256 + d := by
  have e1 : bits .or .u32 ((a * 16777216 : Nat) : Int) ((b * 65536 : Nat) : Int) = IntKind.u32.wrap ((a * 16777216 + b * 65536 : Nat) : Int) := or_add .u32 a (b * 65536) 24 (by omega) (by show a * 16777216 + b * 65536 < 4294967296; omega)
  have e2 : bits .or .u32 (((a * 256 + b) * 65536 : Nat) : Int) ((c * 256 : Nat) : Int) = IntKind.u32.wrap (((a * 256 + b) * 65536 + c * 256 : Nat) : Int) := or_add .u32 (a * 256 + b) (c * 256) 16 (by omega) (by show (a * 256 + b) * 65536 + c * 256 < 4294967296; omega)
  have e3 : bits .or .u32 ((((a * 256 + b) * 256 + c) * 256 : Nat) : Int) (d : Int) = IntKind.u32.wrap ((((a * 256 + b) * 256 + c) * 256 + d : Nat) : Int) := or_add .u32 ((a * 256 + b) * 256 + c) d 8 (by omega) (by show ((a * 256 + b) * 256 + c) * 256 + d < 4294967296; omega)
  rw [show (a : Int) * 16777216 = ((a * 16777216 : Nat) : Int) from by omega, show (b : Int) * 65536 = ((b * 65536 : Nat) : Int) from by omega, e1,
    show IntKind.u32.wrap ((a * 16777216 + b * 65536 : Nat) : Int) = (((a * 256 + b) * 65536 : Nat) : Int) from by rw [IntKind.wrap_u32]; omega,
    show (c : Int) * 256 = ((c * 256 : Nat) : Int) from by omega, e2,
    show IntKind.u32.wrap (((a * 256 + b) * 65536 + c * 256 : Nat) : Int) = ((((a * 256 + b) * 256 + c) * 256 : Nat) : Int) from by rw [IntKind.wrap_u32]; omega, e3, IntKind.wrap_u32]
  omega

def Get32M (l : List Int) (w : World) (v : Value) (w' : World) : Prop := v = .int .u32 (un4 l 4) ∧ Mod [] w w'
set_option maxRecDepth 100000 in
set_option maxHeartbeats 1000000 in
theorem get32_any (p : Option Addr) (n c : Nat) (l : List Int) (w : World) (h : BytesIn w p n c l) (hn : 4 ≤ n) :
    Calls Try.prog 42 #[.slice p n c] w (Ret (Get32M l w)) := by
  have hln := h.len
  obtain ⟨b, off, hp, hblt, hcs⟩ := h.sl.addr (by omega)
  subst hp
  obtain ⟨i0, hi0, hz0, hz1, hz2⟩ := info_parts infoU8
  have hsz : (Try.prog.info? 5).map (·.size) = some 1 := by rw [hi0]; simp [hz1]
  have h4 : l.length ≥ 4 := by omega
  have hlen4 : (bs (l.take 4)).length = 4 := by rw [bs_len, List.length_take]; omega
  have htk : bs (l.take 4) = [.int .u8 (l.getD 0 0), .int .u8 (l.getD 1 0), .int .u8 (l.getD 2 0), .int .u8 (l.getD 3 0)] := by
    match l, h4 with
    | a :: b :: c :: d :: r, _ => simp [bs]
  have hcopy : (Builtin.copy_ #[23, 23] 3 #[.slice (some ⟨w.heap.size, 0, none⟩) 4 4, .slice (some ⟨b, off, none⟩) n c]).run Try.prog (w.alloc (.cells #[.int .u8 0, .int .u8 0, .int .u8 0, .int .u8 0] 87))
      = .ok (.int .i64 4) (w.alloc (.cells #[.int .u8 (l.getD 0 0), .int .u8 (l.getD 1 0), .int .u8 (l.getD 2 0), .int .u8 (l.getD 3 0)] 87)) := by
    have hm := Mod.of_alloc w (.cells #[.int .u8 0, .int .u8 0, .int .u8 0, .int .u8 0] 87)
    rw [run_copy_row (P := Try.prog) _ 23 23 3 5 w.heap.size 0 4 4 ⟨b, off, none⟩ n c #[.int .u8 0, .int .u8 0, .int .u8 0, .int .u8 0] 87 (bs (l.take 4)) Try.underlying23 hsz (at_alloc w _) (by rw [hlen4]; exact (Nat.min_eq_right hn).symm)
      (fun j v hj => by
        have hj4 : j < 4 := by
          rcases Nat.lt_or_ge j 4 with h | h
          · exact h
          · rw [List.getElem?_eq_none (by rw [hlen4]; exact h)] at hj; cases hj
        have e : (bs (l.take 4))[j]? = (bs l)[j]? := by simp only [bs, List.getElem?_map, List.getElem?_take, if_pos hj4]
        rw [e] at hj
        have hadd : Addr.add ⟨b, off, none⟩ j = ⟨b, off + j, none⟩ := by unfold Addr.add; split <;> simp_all
        rw [hadd]
        exact (hm.cell (a := ⟨b, off + j, none⟩) hblt (by simp)).trans (hcs j v hj))
      (by rw [hlen4]; decide) (bs_one _)]
    rw [World.setRow_alloc_new, hlen4, htk]
    rfl
  have hwf : ∀ i, i < 4 → 0 ≤ l.getD i 0 ∧ l.getD i 0 < 256 := fun i hi => h.wf _ (by rw [getD_at (by omega)]; exact List.getElem_mem _)
  have HU : Hid (un4 l 4 = ((l.getD 0 0 * 256 + l.getD 1 0) * 256 + l.getD 2 0) * 256 + l.getD 3 0) := by simp [un4, Hid]
  obtain ⟨x0, y0⟩ := hwf 0 (by omega)
  obtain ⟨x1, y1⟩ := hwf 1 (by omega)
  obtain ⟨x2, y2⟩ := hwf 2 (by omega)
  obtain ⟨x3, y3⟩ := hwf 3 (by omega)
  generalize l.getD 0 0 = f0 at *
  generalize l.getD 1 0 = f1 at *
  generalize l.getD 2 0 = f2 at *
  generalize l.getD 3 0 = f3 at *
  clear hwf htk hlen4 h4 hcs h hln hblt
  go_enter Try.func42, Try.ntmps42
  go_wp2
  go_ret
  have hor := or4 f0.toNat f1.toNat f2.toNat f3.toNat (by omega) (by omega) (by omega) (by omega)
  rw [Int.toNat_of_nonneg x0, Int.toNat_of_nonneg x1, Int.toNat_of_nonneg x2, Int.toNat_of_nonneg x3] at hor
  exact .mk ⟨by rw [HU.out, ← hor]; rfl, Mod.of_alloc w _⟩
end Go.Proofs.Ytgimdodbajhpoaa
