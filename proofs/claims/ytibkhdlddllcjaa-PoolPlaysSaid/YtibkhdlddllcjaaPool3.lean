/- The pool, more: New, List, Trim. -/
import Derived.Test.YtibkhdlddllcjaaPool2
import Derived.Test.YtibkhdlddllcjaaKeys
namespace Go.Proofs.Ytibkhdlddllcjaa
open Go.RowKit Go.Maps
set_option linter.unusedSimpArgs false
set_option linter.unusedVariables false

def fcells (m : List (Int × Int)) : List Value := m.flatMap fun p => [.int .i64 p.1, .int .u64 p.2]
theorem fcells_len (m : List (Int × Int)) : (fcells m).length = m.length * 2 := by
  induction m with
  | nil => rfl
  | cons a r ih => simp [fcells] at ih ⊢; omega
theorem fcells_append (a b : List (Int × Int)) : fcells (a ++ b) = fcells a ++ fcells b := by simp [fcells]
theorem fcells_one (m : List (Int × Int)) : ∀ u ∈ fcells m, u.oneCell' = true := by
  intro u hu; simp [fcells] at hu; obtain ⟨a, b, _, rfl | rfl⟩ := hu <;> rfl
theorem fcells_take (m : List (Int × Int)) (i : Nat) : (fcells m).take (i * 2) = fcells (m.take i) := by
  induction m generalizing i with
  | nil => simp [fcells]
  | cons a r ih =>
    cases i with
    | zero => simp [fcells]
    | succ i => have := ih i; simp only [fcells, List.flatMap_cons, List.take_succ_cons, Nat.succ_mul] at this ⊢; simp [List.take_append, this]
theorem fcells_drop (m : List (Int × Int)) (i : Nat) : (fcells m).drop (i * 2) = fcells (m.drop i) := by
  induction m generalizing i with
  | nil => simp [fcells]
  | cons a r ih =>
    cases i with
    | zero => simp [fcells]
    | succ i => have := ih i; simp only [fcells, List.flatMap_cons, List.drop_succ_cons, Nat.succ_mul] at this ⊢; simp [List.drop_append, this]
theorem fcells_get (m : List (Int × Int)) (i : Nat) (hi : i < m.length) : (fcells m)[i * 2]? = some (.int .i64 (m.getD i (0, 0)).1) ∧ (fcells m)[i * 2 + 1]? = some (.int .u64 (m.getD i (0, 0)).2) := by
  induction m generalizing i with
  | nil => simp at hi
  | cons a r ih =>
    cases i with
    | zero => simp [fcells]
    | succ i =>
      obtain ⟨h1, h2⟩ := ih i (by simpa using hi)
      simp only [fcells, List.flatMap_cons] at h1 h2 ⊢
      constructor
      · rw [show (i + 1) * 2 = i * 2 + 2 by omega, List.getElem?_append_right (by simp)]; simpa using h1
      · rw [show (i + 1) * 2 + 1 = (i * 2 + 1) + 2 by omega, List.getElem?_append_right (by simp)]; simpa using h2

theorem sizeInts (W : World) : (sizeOf (Try.prog.elem 43)).run Try.prog W = .ok 1 W := by kernel_rfl
theorem sizeFreed (W : World) : (sizeOf (Try.prog.elem 22)).run Try.prog W = .ok 2 W := by kernel_rfl
theorem infoFreed : (Try.prog.info? 37).map (fun i => (i.zero, i.size, i.bytes)) = some (some (.agg #[.int .i64 0, .int .u64 0]), 2, 16) := by kernel_rfl

/-- A new slice that holds these freed pages. -/
def ListR (m : List (Int × Int)) (w : World) (v : Value) (w' : World) : Prop := ∃ p n c, v = .slice p n c ∧ n = m.length ∧ w'.ownsRow w.heap.size 37 2 (.slice p n c) n (fcells m) ∧ Mod [] w w'

theorem ints_get {l : List Int} {k : Nat} (hk : k < l.length) : (ints l)[k]? = some (.int .i64 (l.getD k 0)) := by
  rw [getD_at hk, ints, List.getElem?_map, List.getElem?_eq_getElem hk]; rfl
theorem fcells_take_succ (m : List (Int × Int)) (k : Nat) (hk : k < m.length) : fcells (m.take (k + 1)) = fcells (m.take k) ++ [.int .i64 (m.getD k (0, 0)).1, .int .u64 (m.getD k (0, 0)).2] := by
  rw [List.take_succ_eq_append_getElem hk, fcells_append, getD_at hk]; simp [fcells]

set_option maxRecDepth 100000 in
set_option maxHeartbeats 400000 in
theorem list_any (sb bm : Nat) (s : PS) (w : World) (hr : PoolAt w sb bm s) :
    Calls Try.prog 12 #[.pointer (some ⟨sb, 0, none⟩)] w (Ret (ListR s.m w)) := by
  obtain ⟨i0, hi0, hz0, hz1, hz2⟩ := info_parts infoFreed
  have c2 : w.cell? ⟨sb, 2, none⟩ = some (.map (some bm)) := cell_of_at hr.at_ 2
  have hsm := hr.ok.small
  have HR := Lib.hid hr
  clear hr
  go_enter Try.func12, Try.ntmps12
  go_wp2_with fail
  refine (keys_calls (some bm) w).mono ?_
  rintro _ w1 ⟨rfl, hw1⟩
  have HW := Lib.hid hw1
  clear hw1
  go_wp2_with fail
  refine (keys_sorted HR.out.map HW.out (by omega)).mono ?_
  rintro _ w2 ⟨p, c, rfl, hrow, hnil, hm⟩
  have hk := (Sl.of_own hrow (ints_one _)).1
  obtain ⟨b, off, hp, hkc⟩ := hk.at_
  have hidx := fun W => Sl.idx (P := Try.prog) (cap := c) Try.underlying43 sizeInts (fun h => (hp h).1) W .i64
  have HP := Lib.hid hp
  have HK := Lib.hid hkc
  have HM := Lib.hid hm
  have hsz := hm.size
  have h2 : PoolAt w2 sb bm s := HR.out.mod hm (by simp) (by simp)
  have H2 := Lib.hid h2
  clear h2 hrow hnil hm hk hp hkc c2
  go_wp2_with fail
  go_loopw [3, 5, 13] (fun o _ i wr => ∃ (k : Nat) (q : Option Addr) (d : Nat), k ≤ s.m.length ∧ i = .int .i64 k ∧ o = .slice q k d ∧ wr.ownsRow w.heap.size 37 2 (.slice q k d) k (fcells (s.m.take k)) ∧ Mod [] w2 wr ∧ (∀ b ∈ (Value.slice q k d).ownBlock, w2.heap.size ≤ b)) (fun _ _ i _ => s.m.length - (intOf i).toNat)
  case atStart => exact ⟨0, none, 0, by omega, rfl, rfl, ⟨by simp [fcells], Or.inl ⟨rfl, rfl⟩⟩, Mod.refl _ _, by simp [Value.ownBlock]⟩
  case round =>
    obtain ⟨k, q, d, hk, rfl, rfl, hown, hmd, hlie⟩ := hrel
    have HO := Lib.hid hown
    have HMD := Lib.hid hmd
    have HLI := Lib.hid hlie
    have hsz2 := hmd.size
    clear hown hmd hlie
    by_cases hlt : k < s.m.length
    · have hr2 : PoolAt wr sb bm s := H2.out.mod HMD.out (by simp) (by simp)
      have c2 : wr.cell? ⟨sb, 2, none⟩ = some (.map (some bm)) := cell_of_at hr2.at_ 2
      have hmo := hr2.map.own
      have d0 := HK.out k _ (ints_get (l := s.m.map (·.1)) (by simpa using hlt))
      rw [← HMD.out.cell (a := ⟨b, off + k, none⟩) (World.block_lt_of_cell? w2 _ d0) (by simp)] at d0
      obtain ⟨x, hx⟩ : ∃ x, x = (s.m.getD k (0, 0)).1 := ⟨_, rfl⟩
      have hx2 : (s.m.map (·.1)).getD k 0 = x := by rw [hx, getD_at (by simpa using hlt), getD_at hlt, List.getElem_map]
      rw [hx2] at d0
      have hmem : (x, (s.m.getD k (0, 0)).2) ∈ s.m := by rw [hx, getD_at hlt]; exact List.getElem_mem hlt
      have hwx := HR.out.ok.at_ _ hmem
      simp only at hwx
      have hcap := HR.out.ok.cap
      have hhigh := HR.out.ok.high
      have hkey := keyOf_int_mk (P := Try.prog) Try.underlying3 (wf_i64 (x := x) (by omega) (by omega))
      have HX := Lib.hid hx
      have HME := Lib.hid hmem
      clear hx hx2 hmem hr2
      go_wp2_with (first
        | (at_lookup; go_must (refine wpList_lookup_own_int _ rfl _ _ 54 rfl 3 25 .u64 law3 Try.underlying54 Try.underlying25 (zero22 _) bm _ _ rfl hmo _ _ rfl hkey ?_); intro g hat hwg; (have HA := Lib.hid hat); clear hat)
        | (at_builtin; go_must (refine wpList_append_src _ rfl _ _ _ rfl w.heap.size 37 i0 _ 2 16 Try.underlying22 hi0 hz0 hz1 hz2 rfl (by omega) (.slice q k d) _ _ rfl (ownsRow_mod HO.out (Mod.of_alloc wr _) (by simp)) _ _ _ [.int .i64 x, .int .u64 g] rfl (Sl.new _ [.int .i64 x, .int .u64 g] _ 2 1 rfl (by unfold maxLen; omega) (by simp [Value.oneCell'])) (k + 1) (by omega) (by unfold maxLen; omega) (by omega) (by simp; omega) ?_); intro p' c' w3 hown1 hgrow hnil hlie; (have HO1 := Lib.hid hown1); (have HG1 := Lib.hid hgrow); (have HL1 := Lib.hid hlie); clear hown1 hgrow hnil hlie)
        | go_in)
      go_roundw
      case rel =>
        have hat := HA.out
        rw [atKey_dmap, look_of_mem HR.out.map.srt HME.out] at hat
        simp only [DataW.lit.injEq, Lit.int.injEq, true_and, Option.getD_some] at hat
        refine ⟨k + 1, _, _, by omega, by go_num, rfl, by rw [fcells_take_succ _ _ hlt, ← HX.out, hat]; exact HO1.out, (HMD.out.alloc).trans (Mod.of_grown' HG1.out) (fun b hb => Or.inr (HLI.out b (by simpa using hb))), fun b hb => ?_⟩
        rcases HL1.out with h | h
        · rw [h] at hb; exact HLI.out b hb
        · rw [h] at hb; simp at hb; omega
      case measure => simp [intOf]; omega
    · have e : k = s.m.length := by omega
      subst e
      go_wp2
      go_ret
      have hO := HO.out
      rw [List.take_of_length_le (by omega)] at hO
      exact .mk ⟨q, _, d, rfl, rfl, hO, HM.out.same HMD.out⟩
end Go.Proofs.Ytibkhdlddllcjaa
