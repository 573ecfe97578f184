/- Waiting: the numbers of the pages that were written and not yet synced. -/
import Derived.Test.YtgimdodbajhpoaaDiskSync
import Derived.Test.YtgimdodbajhpoaaPagerDrop
namespace Go.Proofs.Ytgimdodbajhpoaa
open Go.RowKit Go.Maps
set_option linter.unusedSimpArgs false
set_option linter.unusedVariables false

theorem wcells_at {ws : List (Int × Pg)} : ∀ {i : Nat} (hi : i < ws.length), (wcells ws)[i * 2]? = some (.int .i64 (ws[i]).1) ∧ (wcells ws)[i * 2 + 1]? = some (ws[i]).2.val := by
  induction ws with
  | nil => intro i hi; simp at hi
  | cons a r ih =>
    intro i hi
    have e : wcells (a :: r) = .int .i64 a.1 :: a.2.val :: wcells r := rfl
    rw [e]
    cases i with
    | zero => exact ⟨rfl, rfl⟩
    | succ i =>
      rw [show (i + 1) * 2 = i * 2 + 1 + 1 from by omega]
      have := ih (i := i) (by simpa using hi)
      simpa using this
theorem sizeWr (W : World) : (sizeOf (Try.prog.elem 56)).run Try.prog W = .ok 2 W := by kernel_rfl
theorem infoInt : (Try.prog.info? 3).map (fun i => (i.zero, i.size, i.bytes)) = some (some (.int .i64 0), 1, 8) := by kernel_rfl
set_option maxRecDepth 100000 in
set_option maxHeartbeats 4000000 in
theorem wait_any (D : Nat) (T : List Nat) (k : Ck) (w : World) (h : DiskAt w D T k) (hfew : k.wait.length ≤ 1000000) :
    Calls Try.prog 19 #[.pointer (some ⟨D, 0, none⟩)] w (Ret (IntsR (k.wait.map (·.1)) w)) := by
  obtain ⟨i0, hi0, hz0, hz1, hz2⟩ := info_parts infoInt
  obtain ⟨gs, ws, vs, vw, M, DM, S, h⟩ := h
  obtain ⟨n, hn⟩ : ∃ n, n = ws.length := ⟨_, rfl⟩
  obtain ⟨p, c, e, hnil⟩ := own_shape h.wait
  have c1 : w.cell? ⟨D, 1, none⟩ = some (.slice p n c) := by
    rw [cell_of_at h.at_ 1, hn, ← e]; rfl
  have hrow : w.ownsRow 0 71 2 (.slice p n c) n (wcells ws) := by
    have := h.wait
    rw [e, ← hn] at this; exact this
  have HW : Hid (ws.map (·.1) = k.wait.map (·.1)) := by unfold Hid; rw [← h.wsl]; simp
  have hfn : n ≤ 1000000 := by rw [hn, h.len.2]; exact hfew
  have hS := (Sl.of_own hrow (wcells_one _)).1
  obtain ⟨b, off, hp, hcs⟩ := hS.at_
  have hidx := fun W => Sl.idx (P := Try.prog) (cap := c) Try.underlying56 sizeWr (fun h => (hp h).1) W .i64
  have HLT : Hid (0 < n → b < w.heap.size) := fun h => (hp h).2
  have HCE : Hid (∀ i (hi : i < ws.length), w.cell? ⟨b, off + i * 2, none⟩ = some (.int .i64 (ws[i]).1) ∧ w.cell? ⟨b, off + i * 2 + 1, none⟩ = some (ws[i]).2.val) := fun i hi => by
    obtain ⟨h1, h2⟩ := wcells_at hi
    exact ⟨hcs _ _ h1, by rw [Nat.add_assoc]; exact hcs _ _ h2⟩
  have HN := Lib.hid hn
  have hDlt : D < w.heap.size := lt_of_at h.at_
  clear h hfew hrow hS hp hcs hn e hnil
  go_enter Try.func19, Try.ntmps19
  go_wp2
  go_loopw [3, 11] (fun ov jv wx => ∃ (i : Nat) (W0 : World) (q : Option Addr) (d : Nat), i ≤ n ∧ W0 = wx ∧ jv = .int .i64 i ∧ ov = .slice q i d ∧ W0.ownsRow w.heap.size 3 1 (.slice q i d) i (ints ((ws.take i).map (·.1))) ∧ Mod [] w W0) (fun _ jv _ => n - (intOf jv).toNat)
  case atStart => exact ⟨0, _, none, 0, by omega, rfl, rfl, rfl, ⟨by simp [ints], Or.inl ⟨rfl, rfl⟩⟩, Mod.refl _ _⟩
  case round =>
    obtain ⟨i, W0, q, d, hi, rfl, rfl, rfl, hown, hm⟩ := hrel
    have HO := Lib.hid hown
    have HM := Lib.hid hm
    have hsz := hm.size
    clear hown hm
    by_cases hlt : i < n
    · have hil : i < ws.length := by have := HN.out; omega
      obtain ⟨d0, d1⟩ := HCE.out i hil
      have hbl := HLT.out (by omega)
      rw [← HM.out.cell (a := ⟨b, _, none⟩) hbl (by simp)] at d0 d1
      obtain ⟨x, hx⟩ : ∃ x, ws[i] = x := ⟨_, rfl⟩
      rw [hx] at d0 d1
      have HG : Hid (ints ((ws.take i).map (·.1)) ++ [.int .i64 x.1] = ints ((ws.take (i + 1)).map (·.1))) := by
        unfold Hid
        rw [List.take_add_one, List.getElem?_eq_getElem hil, hx]
        simp [ints]
      obtain ⟨no, g⟩ := x
      simp only [Pg.val] at d0 d1 HG
      have hji := fun W => hidx W i hlt
      have hwi : IntKind.i64.wrap ((i : Int) + 1) = (i : Int) + 1 := IntWalk.i64_in _ (by omega)
      clear hx
      go_wp2_with (first
        | (at_builtin; go_must (refine wpList_append_src _ rfl _ _ _ rfl w.heap.size 3 i0 _ 1 8 Try.underlying40 hi0 hz0 hz1 hz2 rfl (by omega) (.slice q i d) _ _ rfl (ownsRow_mod HO.out ((Mod.of_alloc W0 _).same (Mod.of_alloc _ _)) (by simp)) _ _ _ [.int .i64 no] rfl (by have := Sl.one_new (W0.alloc (.cells #[.int .i64 no, .slice g.p 1024 g.c] 71)) (.int .i64 no) 3 rfl; rw [show (W0.alloc (.cells #[.int .i64 no, .slice g.p 1024 g.c] 71)).heap.size = W0.heap.size + 1 by simp] at this; exact this) (i + 1) (by omega) (by unfold maxLen; omega) (by omega) (by simp; omega) ?_); intro p' c' w1 hown1 hgrow hnil hlie; (have HO1 := Lib.hid hown1); (have HG1 := Lib.hid hgrow); clear hown1 hgrow hnil hlie)
        | fail)
      go_roundw
      case rel => exact ⟨i + 1, _, _, _, by omega, rfl, by go_num, rfl, by rw [← HG.out]; exact HO1.out, (HM.out.same ((Mod.of_alloc W0 _).same (Mod.of_alloc _ _))).trans (Mod.of_grown' HG1.out) (fun b hb => Or.inr (own_base HO.out b (by simpa using hb)))⟩
      case measure => simp [intOf]; omega
    · obtain rfl : i = n := by omega
      have HFIN : Hid (ws.take i = ws) := by unfold Hid; rw [HN.out, List.take_length]
      go_wp2
      go_ret
      have hO := HO.out
      rw [HFIN.out, HW.out] at hO
      exact .mk ⟨q, i, d, rfl, by have := hO.1; simp [ints] at this ⊢; omega, hO, HM.out⟩
end Go.Proofs.Ytgimdodbajhpoaa
