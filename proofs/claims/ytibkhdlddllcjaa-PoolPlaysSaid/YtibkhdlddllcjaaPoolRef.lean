/- The document's pool: what each of its functions does, as the same pure functions. -/
import Derived.Test.YtibkhdlddllcjaaPool3
import Derived.Test.YtibkhdlddllcjaaReg
namespace Go.Proofs.Ytibkhdlddllcjaa
open Go.RowKit Go.Maps
set_option linter.unusedSimpArgs false
set_option linter.unusedVariables false

/-- Block qb is the document's pool, its list the slice v. -/
structure QPoolAt (w : World) (qb : Nat) (v : Value) (s : PS) : Prop where
  at_ : w.heap[qb]? = some (.cells #[.int .i64 s.cap, .int .i64 s.high, v] 35 (0, 0))
  row : w.ownsRow 0 37 2 v s.m.length (fcells s.m)
  ok : s.Ok

/-- What a call on the document's pool leaves: the new list's slice lies where the old one lay, or in new memory. -/
structure QPTurn (qb : Nat) (v : Value) (s' : PS) (w w' : World) (v' : Value) : Prop where
  at_ : QPoolAt w' qb v' s'
  mod : Mod (qb :: v.ownBlock.toList) w w'
  lies : ∀ b, v'.ownBlock = some b → v.ownBlock = some b ∨ w.heap.size ≤ b

namespace QPoolAt
variable {w w' : World} {qb : Nat} {v : Value} {s : PS}
theorem apart (h : QPoolAt w qb v s) : some qb ≠ v.ownBlock := by
  rcases h.row.2 with ⟨rfl, _⟩ | ⟨g, cap, cur, rfl, _, hb, _⟩
  · simp [Value.ownBlock]
  · intro e; simp [Value.ownBlock] at e; subst e; rw [h.at_] at hb; simp at hb
theorem mod {S : List Nat} (h : QPoolAt w qb v s) (hm : Mod S w w') (h1 : qb ∉ S) (h2 : ∀ b, v.ownBlock = some b → b ∉ S) : QPoolAt w' qb v s :=
  ⟨hm.at h.at_ h1, ownsRow_mod h.row hm h2, h.ok⟩
/-- The list's slice. -/
theorem slice (h : QPoolAt w qb v s) : ∃ g cap, v = .slice g s.m.length cap ∧ Sl w 2 g s.m.length cap (fcells s.m) := by
  obtain ⟨p, c, rfl, _⟩ := own_shape h.row
  exact ⟨p, c, rfl, (Sl.of_own h.row (fcells_one _)).1⟩
end QPoolAt


theorem srt_erase {m : List (Int × Int)} (h : Srt m) (i : Nat) : Srt (m.take i ++ m.drop (i + 1)) := by
  have hs : List.Sublist (m.take i ++ m.drop (i + 1)) m := by
    conv => rhs; rw [← List.take_append_drop i m]
    exact List.Sublist.append (List.Sublist.refl _) (by rw [← List.drop_drop]; exact List.drop_sublist _ _)
  exact List.Pairwise.sublist hs h

def QCutR (qb : Nat) (v : Value) (s : PS) (i : Nat) (w w' : World) : Prop := ∃ v', QPTurn qb v ⟨s.cap, s.high, s.m.take i ++ s.m.drop (i + 1)⟩ w w' v'
set_option maxRecDepth 100000 in
set_option maxHeartbeats 1000000 in
theorem qcut_any (qb : Nat) (v : Value) (s : PS) (i : Nat) (w : World) (hr : QPoolAt w qb v s) (hi : i < s.m.length) :
    Calls Try.prog 25 #[.pointer (some ⟨qb, 0, none⟩), .int .i64 i] w (EndR (QCutR qb v s i w)) := by
  obtain ⟨i0, hi0, hz0, hz1, hz2⟩ := info_parts infoFreed
  have hne' := hr.apart
  have hsm := hr.ok.small
  have h0 := cell_of_at hr.at_ 2
  obtain ⟨g, cap, rfl, hsl⟩ := hr.slice
  have c0 : w.cell? ⟨qb, 2, none⟩ = some (.slice g s.m.length cap) := h0
  have f0 : w.frozen? ⟨qb, 2, none⟩ = false := free_of_at hr.at_ 2
  have hqb := lt_of_at hr.at_
  obtain ⟨r1, s1⟩ := hsl.sub_h Try.underlying22 sizeFreed i .i64 (by omega)
  obtain ⟨p2, r2, s2, _⟩ := hsl.sub_l Try.underlying22 sizeFreed (i + 1) .i64 (by omega)
  rw [fcells_take] at s1
  rw [fcells_drop] at s2
  have hwr : IntKind.i64.wrap ((i : Int) + 1) = (i : Int) + 1 := IntWalk.i64_in _ (by omega)
  rw [show (((i + 1 : Nat) : Int)) = (i : Int) + 1 from by omega] at r2
  have HR := Lib.hid hr
  have HS1 := Lib.hid s1
  have HS2 := Lib.hid s2
  clear hr s1 s2 hsl h0
  go_enter Try.func25, Try.ntmps25
  go_wp2_with fail
  refine AnyT.start (S := fun w' => w'.cell? ⟨qb, 2, none⟩ = some (.slice g s.m.length cap) ∧ w'.frozen? ⟨qb, 2, none⟩ = false) (by kernel_rfl) ⟨c0, f0⟩ (fun hS => ?_)
  refine AnyT.take (i := 0) (k := 17) (v := ?_) rfl (by kernel_rfl) (fun _ _ _ h => h) hS (Or.inl ⟨by rfl, fun w' hw' => ?_⟩) ?_
  rotate_left
  · go_simp
    try rfl
  simp only [Act.put, List.setIfInBounds_toArray, List.set_cons_zero, List.set_cons_succ]
  refine AnyT.take (i := 2) (k := 3) (v := ?_) rfl (by kernel_rfl) (fun _ _ _ h => h) hS (Or.inl ⟨by rfl, fun w' hw' => ?_⟩) ?_
  rotate_left
  · go_simp
    try rfl
  simp only [Act.put, List.setIfInBounds_toArray, List.set_cons_zero, List.set_cons_succ]
  refine AnyT.take (i := 3) (k := 4) (v := ?_) rfl (by kernel_rfl) (fun _ _ _ h => h) hS (Or.inl ⟨by rfl, fun w' hw' => ?_⟩) ?_
  rotate_left
  · go_simp
    try rfl
  simp only [Act.put, List.setIfInBounds_toArray, List.set_cons_zero, List.set_cons_succ]
  refine AnyT.take (i := 4) (k := 5) (v := ?_) rfl (by kernel_rfl) (fun _ _ _ h => h) hS (Or.inl ⟨by rfl, fun w' hw' => ?_⟩) ?_
  rotate_left
  · go_simp
    try rfl
  simp only [Act.put, List.setIfInBounds_toArray, List.set_cons_zero, List.set_cons_succ]
  refine AnyT.take (i := 5) (k := 7) (v := ?_) rfl (by kernel_rfl) (fun _ _ _ h => h) hS (Or.inl ⟨by rfl, fun w' hw' => ?_⟩) ?_
  rotate_left
  · go_simp
    try rfl
  simp only [Act.put, List.setIfInBounds_toArray, List.set_cons_zero, List.set_cons_succ]
  refine AnyT.take (i := 6) (k := 7) (v := ?_) rfl (by kernel_rfl) (fun _ _ _ h => h) hS (Or.inl ⟨by rfl, fun w' hw' => ?_⟩) ?_
  rotate_left
  · go_simp
    try rfl
  simp only [Act.put, List.setIfInBounds_toArray, List.set_cons_zero, List.set_cons_succ]
  refine AnyT.take (i := 7) (k := 8) (v := ?_) rfl (by kernel_rfl) (fun _ _ _ h => h) hS (Or.inl ⟨by rfl, fun w' hw' => ?_⟩) ?_
  rotate_left
  · go_simp
    try rfl
  simp only [Act.put, List.setIfInBounds_toArray, List.set_cons_zero, List.set_cons_succ]
  refine AnyT.take (i := 9) (k := 10) (v := ?_) rfl (by kernel_rfl) (fun _ _ _ h => h) hS (Or.inl ⟨by rfl, fun w' hw' => ?_⟩) ?_
  rotate_left
  · go_simp
    try rfl
  simp only [Act.put, List.setIfInBounds_toArray, List.set_cons_zero, List.set_cons_succ]
  refine AnyT.take (i := 10) (k := 11) (v := ?_) rfl (by kernel_rfl) (fun _ _ _ h => h) hS (Or.inl ⟨by rfl, fun w' hw' => ?_⟩) ?_
  rotate_left
  · go_simp
    try rfl
  simp only [Act.put, List.setIfInBounds_toArray, List.set_cons_zero, List.set_cons_succ]
  refine AnyT.take (i := 11) (k := 12) (v := ?_) rfl (by kernel_rfl) (fun _ _ _ h => h) hS (Or.inl ⟨by rfl, fun w' hw' => ?_⟩) ?_
  rotate_left
  · go_simp
    try rfl
  simp only [Act.put, List.setIfInBounds_toArray, List.set_cons_zero, List.set_cons_succ]
  refine AnyT.take (i := 12) (k := 15) (v := ?_) rfl (by kernel_rfl) (fun _ _ _ h => h) hS (Or.inl ⟨by rfl, fun w' hw' => ?_⟩) ?_
  rotate_left
  · go_simp
    try rfl
  simp only [Act.put, List.setIfInBounds_toArray, List.set_cons_zero, List.set_cons_succ]
  refine AnyT.take (i := 13) (k := 14) (v := ?_) rfl (by kernel_rfl) (fun _ _ _ h => h) hS (Or.inl ⟨by rfl, fun w' hw' => ?_⟩) ?_
  rotate_left
  · go_simp
    try rfl
  simp only [Act.put, List.setIfInBounds_toArray, List.set_cons_zero, List.set_cons_succ]
  refine AnyT.take (i := 14) (k := 15) (v := ?_) rfl (by kernel_rfl) (fun _ _ _ h => h) hS (Or.inl ⟨by rfl, fun w' hw' => ?_⟩) ?_
  rotate_left
  · go_simp
    try rfl
  simp only [Act.put, List.setIfInBounds_toArray, List.set_cons_zero, List.set_cons_succ]
  refine AnyT.take (i := 15) (k := 16) (v := ?_) rfl (by kernel_rfl) (fun _ _ _ h => h) hS (Or.inl ⟨by rfl, fun w' hw' => ?_⟩) ?_
  rotate_left
  · go_simp
    try rfl
  simp only [Act.put, List.setIfInBounds_toArray, List.set_cons_zero, List.set_cons_succ]
  have HMK : Hid ((w.drew.alloc (.cells #[] 37)).ownsRow 0 37 2 (.slice (some ⟨w.heap.size, 0, none⟩) 0 0) 0 []) :=
    ⟨by simp, Or.inr ⟨w.heap.size, 0, #[], rfl, by omega, (MapKept.heap_alloc w.drew _).1, by omega, by unfold maxLen; omega, by simp, by simp⟩⟩
  have hm1 : Mod [] w (w.drew.alloc (.cells #[] 37)) := (Mod.refl [] w).drew.alloc
  have HM1 := Lib.hid hm1
  clear hm1
  refine AnyT.run (i := 1) (by kernel_rfl) rfl rfl (fun K hK => ?_)
  go_simp
  refine hK _ _ (fun _ => ?_) ?_
  · exact ⟨(HM1.out.cell (a := ⟨qb, 2, none⟩) hqb (by simp)).trans c0, (HM1.out.frozen (a := ⟨qb, 2, none⟩) hqb (by simp)).trans f0⟩
  clear hK K
  refine AnyT.one (i := 8) (by kernel_rfl) rfl (fun K hK => ?_)
  refine step_append_src _ rfl _ _ _ rfl 0 37 i0 _ 2 16 Try.underlying22 hi0 hz0 hz1 hz2 rfl (by omega) (.slice (some ⟨w.heap.size, 0, none⟩) 0 0) 0 [] rfl HMK.out _ _ _ _ rfl (HS1.out.mod HM1.out (by simp)) i (by omega) (by unfold maxLen; omega) (by omega) (by omega) ?_
  intro p1 c1 w2 hown1 hgrow1 _ hlie1
  have hm2 : Mod [] w w2 := HM1.out.trans (Mod.of_grown' hgrow1) (by simp [Value.ownBlock])
  have hn1 : ∀ b ∈ (Value.slice p1 i c1).ownBlock, w.heap.size ≤ b := by rcases hlie1 with h | h <;> rw [h] <;> simp [Value.ownBlock]
  refine hK _ _ (fun _ => ⟨(hm2.cell (a := ⟨qb, 2, none⟩) hqb (by simp)).trans c0, (hm2.frozen (a := ⟨qb, 2, none⟩) hqb (by simp)).trans f0⟩) ?_
  clear hK K
  refine AnyT.one (i := 16) (by kernel_rfl) rfl (fun K hK => ?_)
  refine step_append_src _ rfl _ _ _ rfl 0 37 i0 _ 2 16 Try.underlying22 hi0 hz0 hz1 hz2 rfl (by omega) (.slice p1 i c1) _ _ rfl hown1 _ _ _ _ rfl (HS2.out.mod hm2 (by simp)) (s.m.length - 1) (by omega) (by unfold maxLen; omega) (by omega) (by omega) ?_
  intro p3 c3 w3 hown2 hgrow2 _ hlie2
  have hm3 : Mod [] w w3 := hm2.trans (Mod.of_grown' hgrow2) (fun b hb => Or.inr (hn1 b (by simpa using hb)))
  have hn2 : ∀ b ∈ (Value.slice p3 (s.m.length - 1) c3).ownBlock, w.heap.size ≤ b := by
    rcases hlie2 with h | h <;> rw [h]
    · exact hn1
    · intro b hb; simp at hb; have := hm2.size; omega
  have hS3 : w3.cell? ⟨qb, 2, none⟩ = some (.slice g s.m.length cap) ∧ w3.frozen? ⟨qb, 2, none⟩ = false := ⟨(hm3.cell (a := ⟨qb, 2, none⟩) hqb (by simp)).trans c0, (hm3.frozen (a := ⟨qb, 2, none⟩) hqb (by simp)).trans f0⟩
  refine hK _ _ (fun _ => hS3) ?_
  clear hK K hS
  have hS := hS3
  have HO2 := Lib.hid hown2
  have HM3 := Lib.hid hm3
  have HN2 := Lib.hid hn2
  clear hown2 hm3 hn2 hown1 hgrow1 hgrow2 hlie1 hlie2 hm2 hn1
  refine AnyT.take (i := 17) (k := 18) (v := ?_) rfl (by kernel_rfl) (fun _ _ _ h => h) hS (Or.inl ⟨by rfl, fun w' hw' => ?_⟩) ?_
  rotate_left
  · go_simp
    try rfl
  simp only [Act.put, List.setIfInBounds_toArray, List.set_cons_zero, List.set_cons_succ]
  refine AnyT.take (i := 18) (k := 19) (v := ?_) rfl (by kernel_rfl) (fun _ _ _ h => h) hS (Or.inl ⟨by rfl, fun w' hw' => ?_⟩) ?_
  rotate_left
  · go_simp
    try rfl
  simp only [Act.put, List.setIfInBounds_toArray, List.set_cons_zero, List.set_cons_succ]
  obtain ⟨hS0, hS1⟩ := hS3
  clear hS
  refine AnyT.run (i := 19) (by kernel_rfl) rfl rfl (fun K hK => ?_)
  go_simp
  refine hK _ _ (fun h => absurd h (by rw [show more _ _ = false from by kernel_rfl]; decide)) ?_
  clear hK K
  refine AnyT.done (by kernel_rfl) ?_ _
  go_end0
  have hR := HR.out
  have hm3 := HM3.out
  have hq3 : w3.heap[qb]? = some (.cells #[.int .i64 s.cap, .int .i64 s.high, .slice g s.m.length cap] 35 (0, 0)) := hm3.at hR.at_ (by simp)
  have hlc : (s.m.take i ++ s.m.drop (i + 1)).length = s.m.length - 1 := by rw [List.length_append, List.length_take, List.length_drop]; omega
  have hsub : ∀ p ∈ s.m.take i ++ s.m.drop (i + 1), p ∈ s.m := fun p hp => (List.mem_append.1 hp).elim List.mem_of_mem_take List.mem_of_mem_drop
  refine ⟨rfl, .slice p3 (s.m.length - 1) c3, ⟨at_setCell hq3 2 _, ?_, ⟨hR.ok.cap, hR.ok.low, hR.ok.high, fun p hp => hR.ok.at_ p (hsub p hp), fun p hp => hR.ok.wf p (hsub p hp), srt_erase hR.ok.srt i⟩⟩, (hm3.mono (by simp)).setCell (Or.inl (by simp)), fun b hb => Or.inr (HN2.out b hb)⟩
  have h1 := ownsRow_mod HO2.out (Mod.of_setCell w3 qb 2 (.slice p3 (s.m.length - 1) c3)) (fun b hb => by have := HN2.out b hb; simp; omega)
  rw [List.nil_append, ← fcells_append] at h1
  rw [hlc]; exact h1

/-- Where a number stands, or belongs. -/
def pos (m : List (Int × Int)) (no : Int) : Nat := (m.takeWhile fun p => decide (p.1 < no)).length
theorem pos_le (m : List (Int × Int)) (no : Int) : pos m no ≤ m.length := by
  induction m with
  | nil => simp [pos]
  | cons a r ih => simp only [pos, List.takeWhile_cons] at ih ⊢; split <;> simp <;> omega
theorem pos_eq {m : List (Int × Int)} {no : Int} {k : Nat} (h1 : ∀ j, j < k → (m.getD j (0, 0)).1 < no) (hk : k ≤ m.length) (h2 : k < m.length → ¬ (m.getD k (0, 0)).1 < no) : pos m no = k := by
  induction m generalizing k with
  | nil => simp at hk; subst hk; rfl
  | cons a r ih =>
    cases k with
    | zero =>
      have := h2 (by simp)
      simp only [pos, List.takeWhile_cons]; rw [if_neg (by simpa using this)]; rfl
    | succ k =>
      have h0 := h1 0 (by omega)
      have := ih (k := k) (fun j hj => by have := h1 (j + 1) (by omega); simpa using this) (by simpa using hk) (fun h => by have := h2 (by simpa using h); simpa using this)
      simp only [pos, List.takeWhile_cons] at this ⊢
      rw [if_pos (by simpa using h0)]; simp [this]
theorem pos_facts {m : List (Int × Int)} (hs : Srt m) (no gen : Int) :
    ((look m no).isSome = true ↔ pos m no < m.length ∧ (m.getD (pos m no) (0, 0)).1 = no) ∧
    ((look m no).isSome = false → ins no gen m = m.take (pos m no) ++ (no, gen) :: m.drop (pos m no)) := by
  induction m with
  | nil => simp [look, pos, ins]
  | cons a r ih =>
    obtain ⟨h1, h2⟩ := List.pairwise_cons.1 hs
    obtain ⟨i1, i2⟩ := ih h2
    by_cases c : a.1 < no
    · have hp : pos (a :: r) no = pos r no + 1 := by simp only [pos, List.takeWhile_cons]; rw [if_pos (by simpa using c)]; rfl
      have hl : look (a :: r) no = look r no := by
        have e : (a.1 == no) = false := by simp; omega
        simp only [look, List.find?_cons, e]
      rw [hp, hl]
      refine ⟨by rw [i1]; simp, fun h => ?_⟩
      unfold ins
      rw [if_neg (by omega), if_neg (by omega), i2 h]; rfl
    · have hp : pos (a :: r) no = 0 := by simp only [pos, List.takeWhile_cons]; rw [if_neg (by simpa using c)]; rfl
      rw [hp]
      by_cases e : a.1 = no
      · have hl : (look (a :: r) no).isSome = true := by simp [look, e]
        rw [hl]; simp [e]
      · have hl : (look (a :: r) no).isSome = false := by
          cases h : (look (a :: r) no).isSome with
          | false => rfl
          | true =>
            obtain ⟨v, hv⟩ := Option.isSome_iff_exists.1 h
            rcases List.mem_cons.1 (mem_of_look hv) with h' | h'
            · rw [← h'] at e; exact absurd rfl e
            · have := h1 _ h'; simp at this; omega
        rw [hl]
        refine ⟨by simp [e], fun _ => ?_⟩
        unfold ins
        rw [if_pos (by omega)]; rfl

theorem one_pair (no gen : Int) (w : World) (T : TypeId) : Sl (w.alloc (.cells #[.int .i64 no, .int .u64 gen] T)) 2 (some ⟨w.heap.size, 0, none⟩) 1 1 [.int .i64 no, .int .u64 gen] :=
  Sl.new w [.int .i64 no, .int .u64 gen] T 2 1 rfl (by unfold maxLen; omega) (by simp [Value.oneCell'])

def QFreeR (qb : Nat) (v : Value) (s : PS) (no gen : Int) (w : World) (r : Value) (w' : World) : Prop := r = .int .i64 (s.free no gen).1 ∧ ∃ v', QPTurn qb v (s.free no gen).2 w w' v'
set_option maxRecDepth 100000 in
set_option maxHeartbeats 1000000 in
theorem qfree_any (qb : Nat) (v : Value) (s : PS) (no gen : Int) (w : World) (hr : QPoolAt w qb v s) (hg0 : 0 ≤ gen) (hg1 : gen < 2 ^ 64) :
    Calls Try.prog 18 #[.pointer (some ⟨qb, 0, none⟩), .int .i64 no, .int .u64 gen] w (Ret (QFreeR qb v s no gen w)) := by
  obtain ⟨i0, hi0, hz0, hz1, hz2⟩ := info_parts infoFreed
  have hne' := hr.apart
  have hsm := hr.ok.small
  have h0 := cell_of_at hr.at_ 2
  obtain ⟨g, cap, rfl, hsl⟩ := hr.slice
  have c0 : w.cell? ⟨qb, 2, none⟩ = some (.slice g s.m.length cap) := h0
  have c1 : w.cell? ⟨qb, 1, none⟩ = some (.int .i64 s.high) := cell_of_at hr.at_ 1
  have f0 : w.frozen? ⟨qb, 2, none⟩ = false := free_of_at hr.at_ 2
  have hqb := lt_of_at hr.at_
  have HR := Lib.hid hr
  obtain ⟨b, off, hp, hcs⟩ := hsl.at_
  have hidx := fun W => Sl.idx (P := Try.prog) (cap := cap) Try.underlying22 sizeFreed (fun h => (hp h).1) W .i64
  have HSL := Lib.hid hsl
  clear hr hsl h0 hp
  by_cases e1 : no < 2
  · have HF : Hid (s.free no gen = (1, s)) := by unfold PS.free; rw [if_pos (Or.inl e1)]; exact rfl
    clear hcs hidx
    go_enter Try.func18, Try.ntmps18
    go_wp2
    go_ret
    exact .mk ⟨by rw [HF.out]; rfl, _, by rw [HF.out]; exact HR.out, Mod.refl _ _, fun b hb => Or.inl hb⟩
  · by_cases e2 : s.high ≤ no
    · have HF : Hid (s.free no gen = (1, s)) := by unfold PS.free; rw [if_pos (Or.inr e2)]; exact rfl
      clear hcs hidx
      go_enter Try.func18, Try.ntmps18
      go_wp2
      go_ret
      exact .mk ⟨by rw [HF.out]; rfl, _, by rw [HF.out]; exact HR.out, Mod.refl _ _, fun b hb => Or.inl hb⟩
    · have HF : Hid (s.free no gen = if (look s.m no).isSome then (8, s) else (0, ⟨s.cap, s.high, ins no gen s.m⟩)) := by unfold PS.free; rw [if_neg (by omega)]; exact rfl
      go_enter Try.func18, Try.ntmps18
      go_wp2
      go_loop [7] (fun i => ∃ k : Nat, k ≤ s.m.length ∧ i = .int .i64 k ∧ ∀ j, j < k → (s.m.getD j (0, 0)).1 < no) (fun i => s.m.length - (intOf i).toNat)
      case atStart => exact ⟨0, by omega, rfl, by omega⟩
      case round =>
        obtain ⟨k, hk, rfl, hall⟩ := hrel
        have HA := Lib.hid hall
        clear hall
        by_cases hlt : k < s.m.length
        · have d0 := hcs _ _ (fcells_get s.m k hlt).1
          obtain ⟨x, hx⟩ : ∃ x, x = (s.m.getD k (0, 0)).1 := ⟨_, rfl⟩
          rw [← hx] at d0
          have HX := Lib.hid hx
          clear hx hcs
          by_cases hlx : x < no
          · go_wp2
            go_round
            case rel => exact ⟨k + 1, by omega, by go_num, fun j hj => by
              rcases Nat.lt_succ_iff_lt_or_eq.1 hj with h | rfl
              · exact HA.out j h
              · rw [← HX.out]; exact hlx⟩
            case measure => simp [intOf]; omega
          · have hpos := pos_eq (no := no) HA.out hk (fun _ => by rw [← HX.out]; exact hlx)
            obtain ⟨hf1, hf2⟩ := pos_facts HR.out.ok.srt no gen
            rw [hpos] at hf1 hf2
            by_cases hxe : x = no
            · have hls : (look s.m no).isSome = true := hf1.2 ⟨hlt, by rw [← HX.out]; exact hxe⟩
              have HF2 : Hid (s.free no gen = (8, s)) := by rw [HF.out, hls]; exact rfl
              have hb1 : (x == no) = true := by simp [hxe]
              clear hpos hf1 hf2 hls HF hxe
              go_wp2
              go_ret
              exact .mk ⟨by rw [HF2.out]; rfl, _, by rw [HF2.out]; exact HR.out, Mod.refl _ _, fun b hb => Or.inl hb⟩
            · have hls : (look s.m no).isSome = false := by
                cases h : (look s.m no).isSome with
                | false => rfl
                | true => exact absurd (by rw [HX.out]; exact (hf1.1 h).2) hxe
              have hb1 : (x == no) = false := by simp [hxe]
              have HF2 : Hid (s.free no gen = (0, ⟨s.cap, s.high, s.m.take k ++ (no, gen) :: s.m.drop k⟩)) := by rw [HF.out, hls, hf2 hls]; exact rfl
              have HI := Lib.hid (hf2 hls)
              clear hpos hf1 hf2 hls HF hxe
              obtain ⟨r1, s1⟩ := HSL.out.sub_h Try.underlying22 sizeFreed k .i64 hk
              obtain ⟨p2, r2, s2, _⟩ := HSL.out.sub_l Try.underlying22 sizeFreed k .i64 hk
              rw [fcells_take] at s1
              rw [fcells_drop] at s2
              have HS1 := Lib.hid s1
              have HS2 := Lib.hid s2
              clear s1 s2
              go_wp2
              refine AnyT.start (S := fun w' => w'.cell? ⟨qb, 2, none⟩ = some (.slice g s.m.length cap) ∧ w'.frozen? ⟨qb, 2, none⟩ = false) (by kernel_rfl) ⟨c0, f0⟩ (fun hS => ?_)
              refine AnyT.take (i := 0) (k := 21) (v := ?_) rfl (by kernel_rfl) (fun _ _ _ h => h) hS (Or.inl ⟨by rfl, fun w' hw' => ?_⟩) ?_
              rotate_left
              · go_simp
                try rfl
              simp only [Act.put, List.setIfInBounds_toArray, List.set_cons_zero, List.set_cons_succ]
              refine AnyT.take (i := 2) (k := 3) (v := ?_) rfl (by kernel_rfl) (fun _ _ _ h => h) hS (Or.inl ⟨by rfl, fun w' hw' => ?_⟩) ?_
              rotate_left
              · go_simp
                try rfl
              simp only [Act.put, List.setIfInBounds_toArray, List.set_cons_zero, List.set_cons_succ]
              refine AnyT.take (i := 3) (k := 4) (v := ?_) rfl (by kernel_rfl) (fun _ _ _ h => h) hS (Or.inl ⟨by rfl, fun w' hw' => ?_⟩) ?_
              rotate_left
              · go_simp
                try rfl
              simp only [Act.put, List.setIfInBounds_toArray, List.set_cons_zero, List.set_cons_succ]
              refine AnyT.take (i := 4) (k := 5) (v := ?_) rfl (by kernel_rfl) (fun _ _ _ h => h) hS (Or.inl ⟨by rfl, fun w' hw' => ?_⟩) ?_
              rotate_left
              · go_simp
                try rfl
              simp only [Act.put, List.setIfInBounds_toArray, List.set_cons_zero, List.set_cons_succ]
              refine AnyT.take (i := 5) (k := 7) (v := ?_) rfl (by kernel_rfl) (fun _ _ _ h => h) hS (Or.inl ⟨by rfl, fun w' hw' => ?_⟩) ?_
              rotate_left
              · go_simp
                try rfl
              simp only [Act.put, List.setIfInBounds_toArray, List.set_cons_zero, List.set_cons_succ]
              refine AnyT.take (i := 6) (k := 7) (v := ?_) rfl (by kernel_rfl) (fun _ _ _ h => h) hS (Or.inl ⟨by rfl, fun w' hw' => ?_⟩) ?_
              rotate_left
              · go_simp
                try rfl
              simp only [Act.put, List.setIfInBounds_toArray, List.set_cons_zero, List.set_cons_succ]
              refine AnyT.take (i := 7) (k := 8) (v := ?_) rfl (by kernel_rfl) (fun _ _ _ h => h) hS (Or.inl ⟨by rfl, fun w' hw' => ?_⟩) ?_
              rotate_left
              · go_simp
                try rfl
              simp only [Act.put, List.setIfInBounds_toArray, List.set_cons_zero, List.set_cons_succ]
              refine AnyT.take (i := 9) (k := 11) (v := ?_) rfl (by kernel_rfl) (fun _ _ _ h => h) hS (Or.inl ⟨by rfl, fun w' hw' => ?_⟩) ?_
              rotate_left
              · go_simp
                try rfl
              simp only [Act.put, List.setIfInBounds_toArray, List.set_cons_zero, List.set_cons_succ]
              refine AnyT.take (i := 10) (k := 11) (v := ?_) rfl (by kernel_rfl) (fun _ _ _ h => h) hS (Or.inl ⟨by rfl, fun w' hw' => ?_⟩) ?_
              rotate_left
              · go_simp
                try rfl
              simp only [Act.put, List.setIfInBounds_toArray, List.set_cons_zero, List.set_cons_succ]
              refine AnyT.take (i := 11) (k := 12) (v := ?_) rfl (by kernel_rfl) (fun _ _ _ h => h) hS (Or.inl ⟨by rfl, fun w' hw' => ?_⟩) ?_
              rotate_left
              · go_simp
                try rfl
              simp only [Act.put, List.setIfInBounds_toArray, List.set_cons_zero, List.set_cons_succ]
              refine AnyT.take (i := 14) (k := 15) (v := ?_) rfl (by kernel_rfl) (fun _ _ _ h => h) hS (Or.inl ⟨by rfl, fun w' hw' => ?_⟩) ?_
              rotate_left
              · go_simp
                try rfl
              simp only [Act.put, List.setIfInBounds_toArray, List.set_cons_zero, List.set_cons_succ]
              refine AnyT.take (i := 15) (k := 16) (v := ?_) rfl (by kernel_rfl) (fun _ _ _ h => h) hS (Or.inl ⟨by rfl, fun w' hw' => ?_⟩) ?_
              rotate_left
              · go_simp
                try rfl
              simp only [Act.put, List.setIfInBounds_toArray, List.set_cons_zero, List.set_cons_succ]
              refine AnyT.take (i := 16) (k := 17) (v := ?_) rfl (by kernel_rfl) (fun _ _ _ h => h) hS (Or.inl ⟨by rfl, fun w' hw' => ?_⟩) ?_
              rotate_left
              · go_simp
                try rfl
              simp only [Act.put, List.setIfInBounds_toArray, List.set_cons_zero, List.set_cons_succ]
              refine AnyT.take (i := 17) (k := 19) (v := ?_) rfl (by kernel_rfl) (fun _ _ _ h => h) hS (Or.inl ⟨by rfl, fun w' hw' => ?_⟩) ?_
              rotate_left
              · go_simp
                try rfl
              simp only [Act.put, List.setIfInBounds_toArray, List.set_cons_zero, List.set_cons_succ]
              refine AnyT.take (i := 18) (k := 19) (v := ?_) rfl (by kernel_rfl) (fun _ _ _ h => h) hS (Or.inl ⟨by rfl, fun w' hw' => ?_⟩) ?_
              rotate_left
              · go_simp
                try rfl
              simp only [Act.put, List.setIfInBounds_toArray, List.set_cons_zero, List.set_cons_succ]
              refine AnyT.take (i := 19) (k := 20) (v := ?_) rfl (by kernel_rfl) (fun _ _ _ h => h) hS (Or.inl ⟨by rfl, fun w' hw' => ?_⟩) ?_
              rotate_left
              · go_simp
                try rfl
              simp only [Act.put, List.setIfInBounds_toArray, List.set_cons_zero, List.set_cons_succ]
              refine AnyT.two (i := 1) (j := 12) (by kernel_rfl) rfl rfl (fun K hK => run_step rfl ?_) (fun K hK => run_step rfl ?_)
              · have HE : Hid ((w.drew.alloc (.cells #[] 37)).ownsRow 0 37 2 (.slice (some ⟨w.heap.size, 0, none⟩) 0 0) 0 []) := own_empty w.drew _ _
                have HM1 : Hid (Mod [] w (w.drew.alloc (.cells #[] 37))) := (Mod.refl [] w).drew.alloc
                go_simp
                refine hK _ _ (fun _ => ⟨(HM1.out.cell (a := ⟨qb, 2, none⟩) hqb (by simp)).trans c0, (HM1.out.frozen (a := ⟨qb, 2, none⟩) hqb (by simp)).trans f0⟩) ?_
                clear hK K
                refine AnyT.two (i := 8) (j := 12) (by kernel_rfl) rfl rfl (fun K hK => ?_) (fun K hK => run_step rfl ?_)
                · refine step_append_src _ rfl _ _ _ rfl 0 37 i0 _ 2 16 Try.underlying22 hi0 hz0 hz1 hz2 rfl (by omega) (.slice (some ⟨w.heap.size, 0, none⟩) 0 0) 0 [] rfl HE.out _ _ _ _ rfl (HS1.out.mod HM1.out (by simp)) k (by omega) (by unfold maxLen; omega) (by omega) (by omega) ?_
                  intro p1 c1 w2 hown1 hgrow1 _ hlie1
                  have hm2 : Mod [] w w2 := HM1.out.trans (Mod.of_grown' hgrow1) (by simp [Value.ownBlock])
                  have hn1 : ∀ b ∈ (Value.slice p1 k c1).ownBlock, w.heap.size ≤ b := by rcases hlie1 with h | h <;> rw [h] <;> simp [Value.ownBlock]
                  refine hK _ _ (fun _ => ⟨(hm2.cell (a := ⟨qb, 2, none⟩) hqb (by simp)).trans c0, (hm2.frozen (a := ⟨qb, 2, none⟩) hqb (by simp)).trans f0⟩) ?_
                  clear hK K
                  have hmX : Mod [] w (w2.alloc (.cells #[.int .i64 no, .int .u64 gen] 37)) := hm2.alloc
                  have hownX := ownsRow_mod hown1 (Mod.of_alloc w2 (.cells #[.int .i64 no, .int .u64 gen] 37)) (by simp)
                  have hel := one_pair no gen w2 37
                  have HX1 := Lib.hid hmX
                  have HX2 := Lib.hid hownX
                  have HX3 := Lib.hid hel
                  have HX4 := Lib.hid hn1
                  clear hmX hownX hel hn1 hown1 hgrow1 hlie1 hm2
                  refine AnyT.run (i := 12) (by kernel_rfl) rfl rfl (fun K hK => ?_)
                  go_simp
                  refine hK _ _ (fun _ => ⟨(HX1.out.cell (a := ⟨qb, 2, none⟩) hqb (by simp)).trans c0, (HX1.out.frozen (a := ⟨qb, 2, none⟩) hqb (by simp)).trans f0⟩) ?_
                  clear hK K
                  have hmX := HX1.out
                  have hownX := HX2.out
                  have hel := HX3.out
                  have hn1 := HX4.out
                  clear HX1 HX2 HX3 HX4
                  refine AnyT.one (i := 13) (by kernel_rfl) rfl (fun K hK => ?_)
                  refine step_append_src _ rfl _ _ _ rfl 0 37 i0 _ 2 16 Try.underlying22 hi0 hz0 hz1 hz2 rfl (by omega) (.slice p1 k c1) _ _ rfl hownX _ _ _ _ rfl hel (k + 1) (by omega) (by unfold maxLen; omega) (by omega) (by omega) ?_
                  intro p3 c3 w3 hown2 hgrow2 _ hlie2
                  have hm3 : Mod [] w w3 := hmX.trans (Mod.of_grown' hgrow2) (fun b hb => Or.inr (hn1 b (by simpa using hb)))
                  have hn2 : ∀ b ∈ (Value.slice p3 (k + 1) c3).ownBlock, w.heap.size ≤ b := by
                    rcases hlie2 with h | h <;> rw [h]
                    · exact hn1
                    · intro b hb; simp at hb; have := hmX.size; (try simp at this); omega
                  refine hK _ _ (fun _ => ⟨(hm3.cell (a := ⟨qb, 2, none⟩) hqb (by simp)).trans c0, (hm3.frozen (a := ⟨qb, 2, none⟩) hqb (by simp)).trans f0⟩) ?_
                  clear hK K
                  refine AnyT.one (i := 20) (by kernel_rfl) rfl (fun K hK => ?_)
                  refine step_append_src _ rfl _ _ _ rfl 0 37 i0 _ 2 16 Try.underlying22 hi0 hz0 hz1 hz2 rfl (by omega) (.slice p3 (k + 1) c3) _ _ rfl hown2 _ _ _ _ rfl (HS2.out.mod hm3 (by simp)) (s.m.length + 1) (by omega) (by unfold maxLen; omega) (by omega) (by omega) ?_
                  intro p4 c4 w4 hown3 hgrow3 _ hlie3
                  have hm4 : Mod [] w w4 := hm3.trans (Mod.of_grown' hgrow3) (fun b hb => Or.inr (hn2 b (by simpa using hb)))
                  have hn3 : ∀ b ∈ (Value.slice p4 (s.m.length + 1) c4).ownBlock, w.heap.size ≤ b := by
                    rcases hlie3 with h | h <;> rw [h]
                    · exact hn2
                    · intro b hb; simp at hb; have := hm3.size; omega
                  have hS4 : w4.cell? ⟨qb, 2, none⟩ = some (.slice g s.m.length cap) ∧ w4.frozen? ⟨qb, 2, none⟩ = false := ⟨(hm4.cell (a := ⟨qb, 2, none⟩) hqb (by simp)).trans c0, (hm4.frozen (a := ⟨qb, 2, none⟩) hqb (by simp)).trans f0⟩
                  refine hK _ _ (fun _ => hS4) ?_
                  clear hK K hS
                  have hS := hS4
                  have HO := Lib.hid hown3
                  have HM := Lib.hid hm4
                  have HN := Lib.hid hn3
                  clear hown3 hm4 hn3 hown2 hm3 hn2 hgrow2 hlie2 hgrow3 hlie3 hownX hel hmX hn1
                  refine AnyT.take (i := 21) (k := 22) (v := ?_) rfl (by kernel_rfl) (fun _ _ _ h => h) hS (Or.inl ⟨by rfl, fun w' hw' => ?_⟩) ?_
                  rotate_left
                  · go_simp
                    try rfl
                  simp only [Act.put, List.setIfInBounds_toArray, List.set_cons_zero, List.set_cons_succ]
                  refine AnyT.take (i := 22) (k := 23) (v := ?_) rfl (by kernel_rfl) (fun _ _ _ h => h) hS (Or.inl ⟨by rfl, fun w' hw' => ?_⟩) ?_
                  rotate_left
                  · go_simp
                    try rfl
                  simp only [Act.put, List.setIfInBounds_toArray, List.set_cons_zero, List.set_cons_succ]
                  obtain ⟨hS0, hS1⟩ := hS4
                  clear hS
                  refine AnyT.run (i := 23) (by kernel_rfl) rfl rfl (fun K hK => ?_)
                  go_simp
                  refine hK _ _ (fun h => absurd h (by rw [show more _ _ = false from by kernel_rfl]; decide)) ?_
                  clear hK K
                  refine AnyT.done (by kernel_rfl) ?_ _
                  go_wp2
                  go_ret
                  have hR := HR.out
                  have hm := HM.out
                  have hq : w4.heap[qb]? = some (.cells #[.int .i64 s.cap, .int .i64 s.high, .slice g s.m.length cap] 35 (0, 0)) := hm.at hR.at_ (by simp)
                  have hlc : (ins no gen s.m).length = s.m.length + 1 := by rw [HI.out, List.length_append, List.length_cons, List.length_take, List.length_drop]; omega
                  refine .mk ⟨by rw [HF2.out]; rfl, .slice p4 (s.m.length + 1) c4, ?_, (hm.mono (by simp)).setCell (Or.inl (by simp)), fun b hb => Or.inr (HN.out b hb)⟩
                  rw [HF2.out, ← HI.out]
                  refine ⟨at_setCell hq 2 _, ?_, ⟨hR.ok.cap, hR.ok.low, hR.ok.high, fun p hp => ?_, fun p hp => ?_, hR.ok.srt.ins⟩⟩
                  · have h1 := ownsRow_mod HO.out (Mod.of_setCell w4 qb 2 (.slice p4 (s.m.length + 1) c4)) (fun b hb => by have := HN.out b hb; simp; omega)
                    rw [hlc, HI.out, show s.m.take k ++ (no, gen) :: s.m.drop k = s.m.take k ++ [(no, gen)] ++ s.m.drop k by simp, fcells_append, fcells_append]
                    simpa [fcells] using h1
                  · rcases mem_ins hp with rfl | hp
                    · exact ⟨show 2 ≤ no by omega, show no < s.high by omega⟩
                    · exact hR.ok.at_ p hp
                  · rcases mem_ins hp with rfl | hp
                    · exact ⟨hg0, hg1⟩
                    · exact hR.ok.wf p hp
                · have HM2 : Hid (Mod [] w ((w.drew.alloc (.cells #[] 37)).alloc (.cells #[.int .i64 no, .int .u64 gen] 37))) := HM1.out.alloc
                  have HE2 : Hid (((w.drew.alloc (.cells #[] 37)).alloc (.cells #[.int .i64 no, .int .u64 gen] 37)).ownsRow 0 37 2 (.slice (some ⟨w.heap.size, 0, none⟩) 0 0) 0 []) := ownsRow_mod HE.out (Mod.of_alloc _ _) (by simp)
                  have HL := Lib.hid (one_pair no gen (w.drew.alloc (.cells #[] 37)) 37)
                  go_simp
                  refine hK _ _ (fun _ => ⟨(HM2.out.cell (a := ⟨qb, 2, none⟩) hqb (by simp)).trans c0, (HM2.out.frozen (a := ⟨qb, 2, none⟩) hqb (by simp)).trans f0⟩) ?_
                  clear hK K
                  refine AnyT.one (i := 8) (by kernel_rfl) rfl (fun K hK => ?_)
                  refine step_append_src _ rfl _ _ _ rfl 0 37 i0 _ 2 16 Try.underlying22 hi0 hz0 hz1 hz2 rfl (by omega) (.slice (some ⟨w.heap.size, 0, none⟩) 0 0) 0 [] rfl HE2.out _ _ _ _ rfl (HS1.out.mod HM2.out (by simp)) k (by omega) (by unfold maxLen; omega) (by omega) (by omega) ?_
                  intro p1 c1 w2 hown1 hgrow1 _ hlie1
                  have hmX : Mod [] w w2 := HM2.out.trans (Mod.of_grown' hgrow1) (by simp [Value.ownBlock])
                  have hn1 : ∀ b ∈ (Value.slice p1 k c1).ownBlock, w.heap.size ≤ b := by rcases hlie1 with h | h <;> rw [h] <;> simp [Value.ownBlock] <;> omega
                  refine hK _ _ (fun _ => ⟨(hmX.cell (a := ⟨qb, 2, none⟩) hqb (by simp)).trans c0, (hmX.frozen (a := ⟨qb, 2, none⟩) hqb (by simp)).trans f0⟩) ?_
                  clear hK K
                  have hel : Sl w2 2 (some ⟨w.heap.size + 1, 0, none⟩) 1 1 [.int .i64 no, .int .u64 gen] := by
                    have := HL.out.mod (Mod.of_grown' hgrow1) (by simp [Value.ownBlock])
                    simpa using this
                  have hownX := hown1
                  clear hown1 hgrow1 hlie1
                  refine AnyT.one (i := 13) (by kernel_rfl) rfl (fun K hK => ?_)
                  refine step_append_src _ rfl _ _ _ rfl 0 37 i0 _ 2 16 Try.underlying22 hi0 hz0 hz1 hz2 rfl (by omega) (.slice p1 k c1) _ _ rfl hownX _ _ _ _ rfl hel (k + 1) (by omega) (by unfold maxLen; omega) (by omega) (by omega) ?_
                  intro p3 c3 w3 hown2 hgrow2 _ hlie2
                  have hm3 : Mod [] w w3 := hmX.trans (Mod.of_grown' hgrow2) (fun b hb => Or.inr (hn1 b (by simpa using hb)))
                  have hn2 : ∀ b ∈ (Value.slice p3 (k + 1) c3).ownBlock, w.heap.size ≤ b := by
                    rcases hlie2 with h | h <;> rw [h]
                    · exact hn1
                    · intro b hb; simp at hb; have := hmX.size; (try simp at this); omega
                  refine hK _ _ (fun _ => ⟨(hm3.cell (a := ⟨qb, 2, none⟩) hqb (by simp)).trans c0, (hm3.frozen (a := ⟨qb, 2, none⟩) hqb (by simp)).trans f0⟩) ?_
                  clear hK K
                  refine AnyT.one (i := 20) (by kernel_rfl) rfl (fun K hK => ?_)
                  refine step_append_src _ rfl _ _ _ rfl 0 37 i0 _ 2 16 Try.underlying22 hi0 hz0 hz1 hz2 rfl (by omega) (.slice p3 (k + 1) c3) _ _ rfl hown2 _ _ _ _ rfl (HS2.out.mod hm3 (by simp)) (s.m.length + 1) (by omega) (by unfold maxLen; omega) (by omega) (by omega) ?_
                  intro p4 c4 w4 hown3 hgrow3 _ hlie3
                  have hm4 : Mod [] w w4 := hm3.trans (Mod.of_grown' hgrow3) (fun b hb => Or.inr (hn2 b (by simpa using hb)))
                  have hn3 : ∀ b ∈ (Value.slice p4 (s.m.length + 1) c4).ownBlock, w.heap.size ≤ b := by
                    rcases hlie3 with h | h <;> rw [h]
                    · exact hn2
                    · intro b hb; simp at hb; have := hm3.size; omega
                  have hS4 : w4.cell? ⟨qb, 2, none⟩ = some (.slice g s.m.length cap) ∧ w4.frozen? ⟨qb, 2, none⟩ = false := ⟨(hm4.cell (a := ⟨qb, 2, none⟩) hqb (by simp)).trans c0, (hm4.frozen (a := ⟨qb, 2, none⟩) hqb (by simp)).trans f0⟩
                  refine hK _ _ (fun _ => hS4) ?_
                  clear hK K hS
                  have hS := hS4
                  have HO := Lib.hid hown3
                  have HM := Lib.hid hm4
                  have HN := Lib.hid hn3
                  clear hown3 hm4 hn3 hown2 hm3 hn2 hgrow2 hlie2 hgrow3 hlie3 hownX hel hmX hn1
                  refine AnyT.take (i := 21) (k := 22) (v := ?_) rfl (by kernel_rfl) (fun _ _ _ h => h) hS (Or.inl ⟨by rfl, fun w' hw' => ?_⟩) ?_
                  rotate_left
                  · go_simp
                    try rfl
                  simp only [Act.put, List.setIfInBounds_toArray, List.set_cons_zero, List.set_cons_succ]
                  refine AnyT.take (i := 22) (k := 23) (v := ?_) rfl (by kernel_rfl) (fun _ _ _ h => h) hS (Or.inl ⟨by rfl, fun w' hw' => ?_⟩) ?_
                  rotate_left
                  · go_simp
                    try rfl
                  simp only [Act.put, List.setIfInBounds_toArray, List.set_cons_zero, List.set_cons_succ]
                  obtain ⟨hS0, hS1⟩ := hS4
                  clear hS
                  refine AnyT.run (i := 23) (by kernel_rfl) rfl rfl (fun K hK => ?_)
                  go_simp
                  refine hK _ _ (fun h => absurd h (by rw [show more _ _ = false from by kernel_rfl]; decide)) ?_
                  clear hK K
                  refine AnyT.done (by kernel_rfl) ?_ _
                  go_wp2
                  go_ret
                  have hR := HR.out
                  have hm := HM.out
                  have hq : w4.heap[qb]? = some (.cells #[.int .i64 s.cap, .int .i64 s.high, .slice g s.m.length cap] 35 (0, 0)) := hm.at hR.at_ (by simp)
                  have hlc : (ins no gen s.m).length = s.m.length + 1 := by rw [HI.out, List.length_append, List.length_cons, List.length_take, List.length_drop]; omega
                  refine .mk ⟨by rw [HF2.out]; rfl, .slice p4 (s.m.length + 1) c4, ?_, (hm.mono (by simp)).setCell (Or.inl (by simp)), fun b hb => Or.inr (HN.out b hb)⟩
                  rw [HF2.out, ← HI.out]
                  refine ⟨at_setCell hq 2 _, ?_, ⟨hR.ok.cap, hR.ok.low, hR.ok.high, fun p hp => ?_, fun p hp => ?_, hR.ok.srt.ins⟩⟩
                  · have h1 := ownsRow_mod HO.out (Mod.of_setCell w4 qb 2 (.slice p4 (s.m.length + 1) c4)) (fun b hb => by have := HN.out b hb; simp; omega)
                    rw [hlc, HI.out, show s.m.take k ++ (no, gen) :: s.m.drop k = s.m.take k ++ [(no, gen)] ++ s.m.drop k by simp, fcells_append, fcells_append]
                    simpa [fcells] using h1
                  · rcases mem_ins hp with rfl | hp
                    · exact ⟨show 2 ≤ no by omega, show no < s.high by omega⟩
                    · exact hR.ok.at_ p hp
                  · rcases mem_ins hp with rfl | hp
                    · exact ⟨hg0, hg1⟩
                    · exact hR.ok.wf p hp
              · have HM1 : Hid (Mod [] w (w.drew.alloc (.cells #[.int .i64 no, .int .u64 gen] 37))) := (Mod.refl [] w).drew.alloc
                have HL := Lib.hid (one_pair no gen w.drew 37)
                go_simp
                refine hK _ _ (fun _ => ⟨(HM1.out.cell (a := ⟨qb, 2, none⟩) hqb (by simp)).trans c0, (HM1.out.frozen (a := ⟨qb, 2, none⟩) hqb (by simp)).trans f0⟩) ?_
                clear hK K
                have HM2 : Hid (Mod [] w ((w.drew.alloc (.cells #[.int .i64 no, .int .u64 gen] 37)).alloc (.cells #[] 37))) := HM1.out.alloc
                have HE2 : Hid (((w.drew.alloc (.cells #[.int .i64 no, .int .u64 gen] 37)).alloc (.cells #[] 37)).ownsRow 0 37 2 (.slice (some ⟨w.heap.size + 1, 0, none⟩) 0 0) 0 []) := by
                  have := own_empty (w.drew.alloc (.cells #[.int .i64 no, .int .u64 gen] 37)) 37 2
                  simpa [Hid] using this
                have HL2 := Lib.hid (HL.out.mod (Mod.of_alloc _ (.cells #[] 37)) (by simp))
                refine AnyT.run (i := 1) (by kernel_rfl) rfl rfl (fun K hK => ?_)
                go_simp
                refine hK _ _ (fun _ => ⟨(HM2.out.cell (a := ⟨qb, 2, none⟩) hqb (by simp)).trans c0, (HM2.out.frozen (a := ⟨qb, 2, none⟩) hqb (by simp)).trans f0⟩) ?_
                clear hK K
                refine AnyT.one (i := 8) (by kernel_rfl) rfl (fun K hK => ?_)
                refine step_append_src _ rfl _ _ _ rfl 0 37 i0 _ 2 16 Try.underlying22 hi0 hz0 hz1 hz2 rfl (by omega) (.slice (some ⟨w.heap.size + 1, 0, none⟩) 0 0) 0 [] rfl HE2.out _ _ _ _ rfl (HS1.out.mod HM2.out (by simp)) k (by omega) (by unfold maxLen; omega) (by omega) (by omega) ?_
                intro p1 c1 w2 hown1 hgrow1 _ hlie1
                have hmX : Mod [] w w2 := HM2.out.trans (Mod.of_grown' hgrow1) (by simp [Value.ownBlock])
                have hn1 : ∀ b ∈ (Value.slice p1 k c1).ownBlock, w.heap.size ≤ b := by rcases hlie1 with h | h <;> rw [h] <;> simp [Value.ownBlock] <;> omega
                refine hK _ _ (fun _ => ⟨(hmX.cell (a := ⟨qb, 2, none⟩) hqb (by simp)).trans c0, (hmX.frozen (a := ⟨qb, 2, none⟩) hqb (by simp)).trans f0⟩) ?_
                clear hK K
                have hel : Sl w2 2 (some ⟨w.heap.size, 0, none⟩) 1 1 [.int .i64 no, .int .u64 gen] := HL2.out.mod (Mod.of_grown' hgrow1) (by simp [Value.ownBlock])
                have hownX := hown1
                clear hown1 hgrow1 hlie1
                refine AnyT.one (i := 13) (by kernel_rfl) rfl (fun K hK => ?_)
                refine step_append_src _ rfl _ _ _ rfl 0 37 i0 _ 2 16 Try.underlying22 hi0 hz0 hz1 hz2 rfl (by omega) (.slice p1 k c1) _ _ rfl hownX _ _ _ _ rfl hel (k + 1) (by omega) (by unfold maxLen; omega) (by omega) (by omega) ?_
                intro p3 c3 w3 hown2 hgrow2 _ hlie2
                have hm3 : Mod [] w w3 := hmX.trans (Mod.of_grown' hgrow2) (fun b hb => Or.inr (hn1 b (by simpa using hb)))
                have hn2 : ∀ b ∈ (Value.slice p3 (k + 1) c3).ownBlock, w.heap.size ≤ b := by
                  rcases hlie2 with h | h <;> rw [h]
                  · exact hn1
                  · intro b hb; simp at hb; have := hmX.size; (try simp at this); omega
                refine hK _ _ (fun _ => ⟨(hm3.cell (a := ⟨qb, 2, none⟩) hqb (by simp)).trans c0, (hm3.frozen (a := ⟨qb, 2, none⟩) hqb (by simp)).trans f0⟩) ?_
                clear hK K
                refine AnyT.one (i := 20) (by kernel_rfl) rfl (fun K hK => ?_)
                refine step_append_src _ rfl _ _ _ rfl 0 37 i0 _ 2 16 Try.underlying22 hi0 hz0 hz1 hz2 rfl (by omega) (.slice p3 (k + 1) c3) _ _ rfl hown2 _ _ _ _ rfl (HS2.out.mod hm3 (by simp)) (s.m.length + 1) (by omega) (by unfold maxLen; omega) (by omega) (by omega) ?_
                intro p4 c4 w4 hown3 hgrow3 _ hlie3
                have hm4 : Mod [] w w4 := hm3.trans (Mod.of_grown' hgrow3) (fun b hb => Or.inr (hn2 b (by simpa using hb)))
                have hn3 : ∀ b ∈ (Value.slice p4 (s.m.length + 1) c4).ownBlock, w.heap.size ≤ b := by
                  rcases hlie3 with h | h <;> rw [h]
                  · exact hn2
                  · intro b hb; simp at hb; have := hm3.size; omega
                have hS4 : w4.cell? ⟨qb, 2, none⟩ = some (.slice g s.m.length cap) ∧ w4.frozen? ⟨qb, 2, none⟩ = false := ⟨(hm4.cell (a := ⟨qb, 2, none⟩) hqb (by simp)).trans c0, (hm4.frozen (a := ⟨qb, 2, none⟩) hqb (by simp)).trans f0⟩
                refine hK _ _ (fun _ => hS4) ?_
                clear hK K hS
                have hS := hS4
                have HO := Lib.hid hown3
                have HM := Lib.hid hm4
                have HN := Lib.hid hn3
                clear hown3 hm4 hn3 hown2 hm3 hn2 hgrow2 hlie2 hgrow3 hlie3 hownX hel hmX hn1
                refine AnyT.take (i := 21) (k := 22) (v := ?_) rfl (by kernel_rfl) (fun _ _ _ h => h) hS (Or.inl ⟨by rfl, fun w' hw' => ?_⟩) ?_
                rotate_left
                · go_simp
                  try rfl
                simp only [Act.put, List.setIfInBounds_toArray, List.set_cons_zero, List.set_cons_succ]
                refine AnyT.take (i := 22) (k := 23) (v := ?_) rfl (by kernel_rfl) (fun _ _ _ h => h) hS (Or.inl ⟨by rfl, fun w' hw' => ?_⟩) ?_
                rotate_left
                · go_simp
                  try rfl
                simp only [Act.put, List.setIfInBounds_toArray, List.set_cons_zero, List.set_cons_succ]
                obtain ⟨hS0, hS1⟩ := hS4
                clear hS
                refine AnyT.run (i := 23) (by kernel_rfl) rfl rfl (fun K hK => ?_)
                go_simp
                refine hK _ _ (fun h => absurd h (by rw [show more _ _ = false from by kernel_rfl]; decide)) ?_
                clear hK K
                refine AnyT.done (by kernel_rfl) ?_ _
                go_wp2
                go_ret
                have hR := HR.out
                have hm := HM.out
                have hq : w4.heap[qb]? = some (.cells #[.int .i64 s.cap, .int .i64 s.high, .slice g s.m.length cap] 35 (0, 0)) := hm.at hR.at_ (by simp)
                have hlc : (ins no gen s.m).length = s.m.length + 1 := by rw [HI.out, List.length_append, List.length_cons, List.length_take, List.length_drop]; omega
                refine .mk ⟨by rw [HF2.out]; rfl, .slice p4 (s.m.length + 1) c4, ?_, (hm.mono (by simp)).setCell (Or.inl (by simp)), fun b hb => Or.inr (HN.out b hb)⟩
                rw [HF2.out, ← HI.out]
                refine ⟨at_setCell hq 2 _, ?_, ⟨hR.ok.cap, hR.ok.low, hR.ok.high, fun p hp => ?_, fun p hp => ?_, hR.ok.srt.ins⟩⟩
                · have h1 := ownsRow_mod HO.out (Mod.of_setCell w4 qb 2 (.slice p4 (s.m.length + 1) c4)) (fun b hb => by have := HN.out b hb; simp; omega)
                  rw [hlc, HI.out, show s.m.take k ++ (no, gen) :: s.m.drop k = s.m.take k ++ [(no, gen)] ++ s.m.drop k by simp, fcells_append, fcells_append]
                  simpa [fcells] using h1
                · rcases mem_ins hp with rfl | hp
                  · exact ⟨show 2 ≤ no by omega, show no < s.high by omega⟩
                  · exact hR.ok.at_ p hp
                · rcases mem_ins hp with rfl | hp
                  · exact ⟨hg0, hg1⟩
                  · exact hR.ok.wf p hp
        · have hke : k = s.m.length := by omega
          have hpos := pos_eq (no := no) HA.out hk (fun h => absurd h hlt)
          obtain ⟨hf1, hf2⟩ := pos_facts HR.out.ok.srt no gen
          rw [hpos] at hf1 hf2
          have hls : (look s.m no).isSome = false := by
            cases h : (look s.m no).isSome with
            | false => rfl
            | true => exact absurd (hf1.1 h).1 hlt
          have HF2 : Hid (s.free no gen = (0, ⟨s.cap, s.high, s.m.take k ++ (no, gen) :: s.m.drop k⟩)) := by rw [HF.out, hls, hf2 hls]; exact rfl
          have HI := Lib.hid (hf2 hls)
          clear hpos hf1 hf2 hls HF hke hcs
          obtain ⟨r1, s1⟩ := HSL.out.sub_h Try.underlying22 sizeFreed k .i64 hk
          obtain ⟨p2, r2, s2, _⟩ := HSL.out.sub_l Try.underlying22 sizeFreed k .i64 hk
          rw [fcells_take] at s1
          rw [fcells_drop] at s2
          have HS1 := Lib.hid s1
          have HS2 := Lib.hid s2
          clear s1 s2
          go_wp2
          refine AnyT.start (S := fun w' => w'.cell? ⟨qb, 2, none⟩ = some (.slice g s.m.length cap) ∧ w'.frozen? ⟨qb, 2, none⟩ = false) (by kernel_rfl) ⟨c0, f0⟩ (fun hS => ?_)
          refine AnyT.take (i := 0) (k := 21) (v := ?_) rfl (by kernel_rfl) (fun _ _ _ h => h) hS (Or.inl ⟨by rfl, fun w' hw' => ?_⟩) ?_
          rotate_left
          · go_simp
            try rfl
          simp only [Act.put, List.setIfInBounds_toArray, List.set_cons_zero, List.set_cons_succ]
          refine AnyT.take (i := 2) (k := 3) (v := ?_) rfl (by kernel_rfl) (fun _ _ _ h => h) hS (Or.inl ⟨by rfl, fun w' hw' => ?_⟩) ?_
          rotate_left
          · go_simp
            try rfl
          simp only [Act.put, List.setIfInBounds_toArray, List.set_cons_zero, List.set_cons_succ]
          refine AnyT.take (i := 3) (k := 4) (v := ?_) rfl (by kernel_rfl) (fun _ _ _ h => h) hS (Or.inl ⟨by rfl, fun w' hw' => ?_⟩) ?_
          rotate_left
          · go_simp
            try rfl
          simp only [Act.put, List.setIfInBounds_toArray, List.set_cons_zero, List.set_cons_succ]
          refine AnyT.take (i := 4) (k := 5) (v := ?_) rfl (by kernel_rfl) (fun _ _ _ h => h) hS (Or.inl ⟨by rfl, fun w' hw' => ?_⟩) ?_
          rotate_left
          · go_simp
            try rfl
          simp only [Act.put, List.setIfInBounds_toArray, List.set_cons_zero, List.set_cons_succ]
          refine AnyT.take (i := 5) (k := 7) (v := ?_) rfl (by kernel_rfl) (fun _ _ _ h => h) hS (Or.inl ⟨by rfl, fun w' hw' => ?_⟩) ?_
          rotate_left
          · go_simp
            try rfl
          simp only [Act.put, List.setIfInBounds_toArray, List.set_cons_zero, List.set_cons_succ]
          refine AnyT.take (i := 6) (k := 7) (v := ?_) rfl (by kernel_rfl) (fun _ _ _ h => h) hS (Or.inl ⟨by rfl, fun w' hw' => ?_⟩) ?_
          rotate_left
          · go_simp
            try rfl
          simp only [Act.put, List.setIfInBounds_toArray, List.set_cons_zero, List.set_cons_succ]
          refine AnyT.take (i := 7) (k := 8) (v := ?_) rfl (by kernel_rfl) (fun _ _ _ h => h) hS (Or.inl ⟨by rfl, fun w' hw' => ?_⟩) ?_
          rotate_left
          · go_simp
            try rfl
          simp only [Act.put, List.setIfInBounds_toArray, List.set_cons_zero, List.set_cons_succ]
          refine AnyT.take (i := 9) (k := 11) (v := ?_) rfl (by kernel_rfl) (fun _ _ _ h => h) hS (Or.inl ⟨by rfl, fun w' hw' => ?_⟩) ?_
          rotate_left
          · go_simp
            try rfl
          simp only [Act.put, List.setIfInBounds_toArray, List.set_cons_zero, List.set_cons_succ]
          refine AnyT.take (i := 10) (k := 11) (v := ?_) rfl (by kernel_rfl) (fun _ _ _ h => h) hS (Or.inl ⟨by rfl, fun w' hw' => ?_⟩) ?_
          rotate_left
          · go_simp
            try rfl
          simp only [Act.put, List.setIfInBounds_toArray, List.set_cons_zero, List.set_cons_succ]
          refine AnyT.take (i := 11) (k := 12) (v := ?_) rfl (by kernel_rfl) (fun _ _ _ h => h) hS (Or.inl ⟨by rfl, fun w' hw' => ?_⟩) ?_
          rotate_left
          · go_simp
            try rfl
          simp only [Act.put, List.setIfInBounds_toArray, List.set_cons_zero, List.set_cons_succ]
          refine AnyT.take (i := 14) (k := 15) (v := ?_) rfl (by kernel_rfl) (fun _ _ _ h => h) hS (Or.inl ⟨by rfl, fun w' hw' => ?_⟩) ?_
          rotate_left
          · go_simp
            try rfl
          simp only [Act.put, List.setIfInBounds_toArray, List.set_cons_zero, List.set_cons_succ]
          refine AnyT.take (i := 15) (k := 16) (v := ?_) rfl (by kernel_rfl) (fun _ _ _ h => h) hS (Or.inl ⟨by rfl, fun w' hw' => ?_⟩) ?_
          rotate_left
          · go_simp
            try rfl
          simp only [Act.put, List.setIfInBounds_toArray, List.set_cons_zero, List.set_cons_succ]
          refine AnyT.take (i := 16) (k := 17) (v := ?_) rfl (by kernel_rfl) (fun _ _ _ h => h) hS (Or.inl ⟨by rfl, fun w' hw' => ?_⟩) ?_
          rotate_left
          · go_simp
            try rfl
          simp only [Act.put, List.setIfInBounds_toArray, List.set_cons_zero, List.set_cons_succ]
          refine AnyT.take (i := 17) (k := 19) (v := ?_) rfl (by kernel_rfl) (fun _ _ _ h => h) hS (Or.inl ⟨by rfl, fun w' hw' => ?_⟩) ?_
          rotate_left
          · go_simp
            try rfl
          simp only [Act.put, List.setIfInBounds_toArray, List.set_cons_zero, List.set_cons_succ]
          refine AnyT.take (i := 18) (k := 19) (v := ?_) rfl (by kernel_rfl) (fun _ _ _ h => h) hS (Or.inl ⟨by rfl, fun w' hw' => ?_⟩) ?_
          rotate_left
          · go_simp
            try rfl
          simp only [Act.put, List.setIfInBounds_toArray, List.set_cons_zero, List.set_cons_succ]
          refine AnyT.take (i := 19) (k := 20) (v := ?_) rfl (by kernel_rfl) (fun _ _ _ h => h) hS (Or.inl ⟨by rfl, fun w' hw' => ?_⟩) ?_
          rotate_left
          · go_simp
            try rfl
          simp only [Act.put, List.setIfInBounds_toArray, List.set_cons_zero, List.set_cons_succ]
          refine AnyT.two (i := 1) (j := 12) (by kernel_rfl) rfl rfl (fun K hK => run_step rfl ?_) (fun K hK => run_step rfl ?_)
          · have HE : Hid ((w.drew.alloc (.cells #[] 37)).ownsRow 0 37 2 (.slice (some ⟨w.heap.size, 0, none⟩) 0 0) 0 []) := own_empty w.drew _ _
            have HM1 : Hid (Mod [] w (w.drew.alloc (.cells #[] 37))) := (Mod.refl [] w).drew.alloc
            go_simp
            refine hK _ _ (fun _ => ⟨(HM1.out.cell (a := ⟨qb, 2, none⟩) hqb (by simp)).trans c0, (HM1.out.frozen (a := ⟨qb, 2, none⟩) hqb (by simp)).trans f0⟩) ?_
            clear hK K
            refine AnyT.two (i := 8) (j := 12) (by kernel_rfl) rfl rfl (fun K hK => ?_) (fun K hK => run_step rfl ?_)
            · refine step_append_src _ rfl _ _ _ rfl 0 37 i0 _ 2 16 Try.underlying22 hi0 hz0 hz1 hz2 rfl (by omega) (.slice (some ⟨w.heap.size, 0, none⟩) 0 0) 0 [] rfl HE.out _ _ _ _ rfl (HS1.out.mod HM1.out (by simp)) k (by omega) (by unfold maxLen; omega) (by omega) (by omega) ?_
              intro p1 c1 w2 hown1 hgrow1 _ hlie1
              have hm2 : Mod [] w w2 := HM1.out.trans (Mod.of_grown' hgrow1) (by simp [Value.ownBlock])
              have hn1 : ∀ b ∈ (Value.slice p1 k c1).ownBlock, w.heap.size ≤ b := by rcases hlie1 with h | h <;> rw [h] <;> simp [Value.ownBlock]
              refine hK _ _ (fun _ => ⟨(hm2.cell (a := ⟨qb, 2, none⟩) hqb (by simp)).trans c0, (hm2.frozen (a := ⟨qb, 2, none⟩) hqb (by simp)).trans f0⟩) ?_
              clear hK K
              have hmX : Mod [] w (w2.alloc (.cells #[.int .i64 no, .int .u64 gen] 37)) := hm2.alloc
              have hownX := ownsRow_mod hown1 (Mod.of_alloc w2 (.cells #[.int .i64 no, .int .u64 gen] 37)) (by simp)
              have hel := one_pair no gen w2 37
              have HX1 := Lib.hid hmX
              have HX2 := Lib.hid hownX
              have HX3 := Lib.hid hel
              have HX4 := Lib.hid hn1
              clear hmX hownX hel hn1 hown1 hgrow1 hlie1 hm2
              refine AnyT.run (i := 12) (by kernel_rfl) rfl rfl (fun K hK => ?_)
              go_simp
              refine hK _ _ (fun _ => ⟨(HX1.out.cell (a := ⟨qb, 2, none⟩) hqb (by simp)).trans c0, (HX1.out.frozen (a := ⟨qb, 2, none⟩) hqb (by simp)).trans f0⟩) ?_
              clear hK K
              have hmX := HX1.out
              have hownX := HX2.out
              have hel := HX3.out
              have hn1 := HX4.out
              clear HX1 HX2 HX3 HX4
              refine AnyT.one (i := 13) (by kernel_rfl) rfl (fun K hK => ?_)
              refine step_append_src _ rfl _ _ _ rfl 0 37 i0 _ 2 16 Try.underlying22 hi0 hz0 hz1 hz2 rfl (by omega) (.slice p1 k c1) _ _ rfl hownX _ _ _ _ rfl hel (k + 1) (by omega) (by unfold maxLen; omega) (by omega) (by omega) ?_
              intro p3 c3 w3 hown2 hgrow2 _ hlie2
              have hm3 : Mod [] w w3 := hmX.trans (Mod.of_grown' hgrow2) (fun b hb => Or.inr (hn1 b (by simpa using hb)))
              have hn2 : ∀ b ∈ (Value.slice p3 (k + 1) c3).ownBlock, w.heap.size ≤ b := by
                rcases hlie2 with h | h <;> rw [h]
                · exact hn1
                · intro b hb; simp at hb; have := hmX.size; (try simp at this); omega
              refine hK _ _ (fun _ => ⟨(hm3.cell (a := ⟨qb, 2, none⟩) hqb (by simp)).trans c0, (hm3.frozen (a := ⟨qb, 2, none⟩) hqb (by simp)).trans f0⟩) ?_
              clear hK K
              refine AnyT.one (i := 20) (by kernel_rfl) rfl (fun K hK => ?_)
              refine step_append_src _ rfl _ _ _ rfl 0 37 i0 _ 2 16 Try.underlying22 hi0 hz0 hz1 hz2 rfl (by omega) (.slice p3 (k + 1) c3) _ _ rfl hown2 _ _ _ _ rfl (HS2.out.mod hm3 (by simp)) (s.m.length + 1) (by omega) (by unfold maxLen; omega) (by omega) (by omega) ?_
              intro p4 c4 w4 hown3 hgrow3 _ hlie3
              have hm4 : Mod [] w w4 := hm3.trans (Mod.of_grown' hgrow3) (fun b hb => Or.inr (hn2 b (by simpa using hb)))
              have hn3 : ∀ b ∈ (Value.slice p4 (s.m.length + 1) c4).ownBlock, w.heap.size ≤ b := by
                rcases hlie3 with h | h <;> rw [h]
                · exact hn2
                · intro b hb; simp at hb; have := hm3.size; omega
              have hS4 : w4.cell? ⟨qb, 2, none⟩ = some (.slice g s.m.length cap) ∧ w4.frozen? ⟨qb, 2, none⟩ = false := ⟨(hm4.cell (a := ⟨qb, 2, none⟩) hqb (by simp)).trans c0, (hm4.frozen (a := ⟨qb, 2, none⟩) hqb (by simp)).trans f0⟩
              refine hK _ _ (fun _ => hS4) ?_
              clear hK K hS
              have hS := hS4
              have HO := Lib.hid hown3
              have HM := Lib.hid hm4
              have HN := Lib.hid hn3
              clear hown3 hm4 hn3 hown2 hm3 hn2 hgrow2 hlie2 hgrow3 hlie3 hownX hel hmX hn1
              refine AnyT.take (i := 21) (k := 22) (v := ?_) rfl (by kernel_rfl) (fun _ _ _ h => h) hS (Or.inl ⟨by rfl, fun w' hw' => ?_⟩) ?_
              rotate_left
              · go_simp
                try rfl
              simp only [Act.put, List.setIfInBounds_toArray, List.set_cons_zero, List.set_cons_succ]
              refine AnyT.take (i := 22) (k := 23) (v := ?_) rfl (by kernel_rfl) (fun _ _ _ h => h) hS (Or.inl ⟨by rfl, fun w' hw' => ?_⟩) ?_
              rotate_left
              · go_simp
                try rfl
              simp only [Act.put, List.setIfInBounds_toArray, List.set_cons_zero, List.set_cons_succ]
              obtain ⟨hS0, hS1⟩ := hS4
              clear hS
              refine AnyT.run (i := 23) (by kernel_rfl) rfl rfl (fun K hK => ?_)
              go_simp
              refine hK _ _ (fun h => absurd h (by rw [show more _ _ = false from by kernel_rfl]; decide)) ?_
              clear hK K
              refine AnyT.done (by kernel_rfl) ?_ _
              go_wp2
              go_ret
              have hR := HR.out
              have hm := HM.out
              have hq : w4.heap[qb]? = some (.cells #[.int .i64 s.cap, .int .i64 s.high, .slice g s.m.length cap] 35 (0, 0)) := hm.at hR.at_ (by simp)
              have hlc : (ins no gen s.m).length = s.m.length + 1 := by rw [HI.out, List.length_append, List.length_cons, List.length_take, List.length_drop]; omega
              refine .mk ⟨by rw [HF2.out]; rfl, .slice p4 (s.m.length + 1) c4, ?_, (hm.mono (by simp)).setCell (Or.inl (by simp)), fun b hb => Or.inr (HN.out b hb)⟩
              rw [HF2.out, ← HI.out]
              refine ⟨at_setCell hq 2 _, ?_, ⟨hR.ok.cap, hR.ok.low, hR.ok.high, fun p hp => ?_, fun p hp => ?_, hR.ok.srt.ins⟩⟩
              · have h1 := ownsRow_mod HO.out (Mod.of_setCell w4 qb 2 (.slice p4 (s.m.length + 1) c4)) (fun b hb => by have := HN.out b hb; simp; omega)
                rw [hlc, HI.out, show s.m.take k ++ (no, gen) :: s.m.drop k = s.m.take k ++ [(no, gen)] ++ s.m.drop k by simp, fcells_append, fcells_append]
                simpa [fcells] using h1
              · rcases mem_ins hp with rfl | hp
                · exact ⟨show 2 ≤ no by omega, show no < s.high by omega⟩
                · exact hR.ok.at_ p hp
              · rcases mem_ins hp with rfl | hp
                · exact ⟨hg0, hg1⟩
                · exact hR.ok.wf p hp
            · have HM2 : Hid (Mod [] w ((w.drew.alloc (.cells #[] 37)).alloc (.cells #[.int .i64 no, .int .u64 gen] 37))) := HM1.out.alloc
              have HE2 : Hid (((w.drew.alloc (.cells #[] 37)).alloc (.cells #[.int .i64 no, .int .u64 gen] 37)).ownsRow 0 37 2 (.slice (some ⟨w.heap.size, 0, none⟩) 0 0) 0 []) := ownsRow_mod HE.out (Mod.of_alloc _ _) (by simp)
              have HL := Lib.hid (one_pair no gen (w.drew.alloc (.cells #[] 37)) 37)
              go_simp
              refine hK _ _ (fun _ => ⟨(HM2.out.cell (a := ⟨qb, 2, none⟩) hqb (by simp)).trans c0, (HM2.out.frozen (a := ⟨qb, 2, none⟩) hqb (by simp)).trans f0⟩) ?_
              clear hK K
              refine AnyT.one (i := 8) (by kernel_rfl) rfl (fun K hK => ?_)
              refine step_append_src _ rfl _ _ _ rfl 0 37 i0 _ 2 16 Try.underlying22 hi0 hz0 hz1 hz2 rfl (by omega) (.slice (some ⟨w.heap.size, 0, none⟩) 0 0) 0 [] rfl HE2.out _ _ _ _ rfl (HS1.out.mod HM2.out (by simp)) k (by omega) (by unfold maxLen; omega) (by omega) (by omega) ?_
              intro p1 c1 w2 hown1 hgrow1 _ hlie1
              have hmX : Mod [] w w2 := HM2.out.trans (Mod.of_grown' hgrow1) (by simp [Value.ownBlock])
              have hn1 : ∀ b ∈ (Value.slice p1 k c1).ownBlock, w.heap.size ≤ b := by rcases hlie1 with h | h <;> rw [h] <;> simp [Value.ownBlock] <;> omega
              refine hK _ _ (fun _ => ⟨(hmX.cell (a := ⟨qb, 2, none⟩) hqb (by simp)).trans c0, (hmX.frozen (a := ⟨qb, 2, none⟩) hqb (by simp)).trans f0⟩) ?_
              clear hK K
              have hel : Sl w2 2 (some ⟨w.heap.size + 1, 0, none⟩) 1 1 [.int .i64 no, .int .u64 gen] := by
                have := HL.out.mod (Mod.of_grown' hgrow1) (by simp [Value.ownBlock])
                simpa using this
              have hownX := hown1
              clear hown1 hgrow1 hlie1
              refine AnyT.one (i := 13) (by kernel_rfl) rfl (fun K hK => ?_)
              refine step_append_src _ rfl _ _ _ rfl 0 37 i0 _ 2 16 Try.underlying22 hi0 hz0 hz1 hz2 rfl (by omega) (.slice p1 k c1) _ _ rfl hownX _ _ _ _ rfl hel (k + 1) (by omega) (by unfold maxLen; omega) (by omega) (by omega) ?_
              intro p3 c3 w3 hown2 hgrow2 _ hlie2
              have hm3 : Mod [] w w3 := hmX.trans (Mod.of_grown' hgrow2) (fun b hb => Or.inr (hn1 b (by simpa using hb)))
              have hn2 : ∀ b ∈ (Value.slice p3 (k + 1) c3).ownBlock, w.heap.size ≤ b := by
                rcases hlie2 with h | h <;> rw [h]
                · exact hn1
                · intro b hb; simp at hb; have := hmX.size; (try simp at this); omega
              refine hK _ _ (fun _ => ⟨(hm3.cell (a := ⟨qb, 2, none⟩) hqb (by simp)).trans c0, (hm3.frozen (a := ⟨qb, 2, none⟩) hqb (by simp)).trans f0⟩) ?_
              clear hK K
              refine AnyT.one (i := 20) (by kernel_rfl) rfl (fun K hK => ?_)
              refine step_append_src _ rfl _ _ _ rfl 0 37 i0 _ 2 16 Try.underlying22 hi0 hz0 hz1 hz2 rfl (by omega) (.slice p3 (k + 1) c3) _ _ rfl hown2 _ _ _ _ rfl (HS2.out.mod hm3 (by simp)) (s.m.length + 1) (by omega) (by unfold maxLen; omega) (by omega) (by omega) ?_
              intro p4 c4 w4 hown3 hgrow3 _ hlie3
              have hm4 : Mod [] w w4 := hm3.trans (Mod.of_grown' hgrow3) (fun b hb => Or.inr (hn2 b (by simpa using hb)))
              have hn3 : ∀ b ∈ (Value.slice p4 (s.m.length + 1) c4).ownBlock, w.heap.size ≤ b := by
                rcases hlie3 with h | h <;> rw [h]
                · exact hn2
                · intro b hb; simp at hb; have := hm3.size; omega
              have hS4 : w4.cell? ⟨qb, 2, none⟩ = some (.slice g s.m.length cap) ∧ w4.frozen? ⟨qb, 2, none⟩ = false := ⟨(hm4.cell (a := ⟨qb, 2, none⟩) hqb (by simp)).trans c0, (hm4.frozen (a := ⟨qb, 2, none⟩) hqb (by simp)).trans f0⟩
              refine hK _ _ (fun _ => hS4) ?_
              clear hK K hS
              have hS := hS4
              have HO := Lib.hid hown3
              have HM := Lib.hid hm4
              have HN := Lib.hid hn3
              clear hown3 hm4 hn3 hown2 hm3 hn2 hgrow2 hlie2 hgrow3 hlie3 hownX hel hmX hn1
              refine AnyT.take (i := 21) (k := 22) (v := ?_) rfl (by kernel_rfl) (fun _ _ _ h => h) hS (Or.inl ⟨by rfl, fun w' hw' => ?_⟩) ?_
              rotate_left
              · go_simp
                try rfl
              simp only [Act.put, List.setIfInBounds_toArray, List.set_cons_zero, List.set_cons_succ]
              refine AnyT.take (i := 22) (k := 23) (v := ?_) rfl (by kernel_rfl) (fun _ _ _ h => h) hS (Or.inl ⟨by rfl, fun w' hw' => ?_⟩) ?_
              rotate_left
              · go_simp
                try rfl
              simp only [Act.put, List.setIfInBounds_toArray, List.set_cons_zero, List.set_cons_succ]
              obtain ⟨hS0, hS1⟩ := hS4
              clear hS
              refine AnyT.run (i := 23) (by kernel_rfl) rfl rfl (fun K hK => ?_)
              go_simp
              refine hK _ _ (fun h => absurd h (by rw [show more _ _ = false from by kernel_rfl]; decide)) ?_
              clear hK K
              refine AnyT.done (by kernel_rfl) ?_ _
              go_wp2
              go_ret
              have hR := HR.out
              have hm := HM.out
              have hq : w4.heap[qb]? = some (.cells #[.int .i64 s.cap, .int .i64 s.high, .slice g s.m.length cap] 35 (0, 0)) := hm.at hR.at_ (by simp)
              have hlc : (ins no gen s.m).length = s.m.length + 1 := by rw [HI.out, List.length_append, List.length_cons, List.length_take, List.length_drop]; omega
              refine .mk ⟨by rw [HF2.out]; rfl, .slice p4 (s.m.length + 1) c4, ?_, (hm.mono (by simp)).setCell (Or.inl (by simp)), fun b hb => Or.inr (HN.out b hb)⟩
              rw [HF2.out, ← HI.out]
              refine ⟨at_setCell hq 2 _, ?_, ⟨hR.ok.cap, hR.ok.low, hR.ok.high, fun p hp => ?_, fun p hp => ?_, hR.ok.srt.ins⟩⟩
              · have h1 := ownsRow_mod HO.out (Mod.of_setCell w4 qb 2 (.slice p4 (s.m.length + 1) c4)) (fun b hb => by have := HN.out b hb; simp; omega)
                rw [hlc, HI.out, show s.m.take k ++ (no, gen) :: s.m.drop k = s.m.take k ++ [(no, gen)] ++ s.m.drop k by simp, fcells_append, fcells_append]
                simpa [fcells] using h1
              · rcases mem_ins hp with rfl | hp
                · exact ⟨show 2 ≤ no by omega, show no < s.high by omega⟩
                · exact hR.ok.at_ p hp
              · rcases mem_ins hp with rfl | hp
                · exact ⟨hg0, hg1⟩
                · exact hR.ok.wf p hp
          · have HM1 : Hid (Mod [] w (w.drew.alloc (.cells #[.int .i64 no, .int .u64 gen] 37))) := (Mod.refl [] w).drew.alloc
            have HL := Lib.hid (one_pair no gen w.drew 37)
            go_simp
            refine hK _ _ (fun _ => ⟨(HM1.out.cell (a := ⟨qb, 2, none⟩) hqb (by simp)).trans c0, (HM1.out.frozen (a := ⟨qb, 2, none⟩) hqb (by simp)).trans f0⟩) ?_
            clear hK K
            have HM2 : Hid (Mod [] w ((w.drew.alloc (.cells #[.int .i64 no, .int .u64 gen] 37)).alloc (.cells #[] 37))) := HM1.out.alloc
            have HE2 : Hid (((w.drew.alloc (.cells #[.int .i64 no, .int .u64 gen] 37)).alloc (.cells #[] 37)).ownsRow 0 37 2 (.slice (some ⟨w.heap.size + 1, 0, none⟩) 0 0) 0 []) := by
              have := own_empty (w.drew.alloc (.cells #[.int .i64 no, .int .u64 gen] 37)) 37 2
              simpa [Hid] using this
            have HL2 := Lib.hid (HL.out.mod (Mod.of_alloc _ (.cells #[] 37)) (by simp))
            refine AnyT.run (i := 1) (by kernel_rfl) rfl rfl (fun K hK => ?_)
            go_simp
            refine hK _ _ (fun _ => ⟨(HM2.out.cell (a := ⟨qb, 2, none⟩) hqb (by simp)).trans c0, (HM2.out.frozen (a := ⟨qb, 2, none⟩) hqb (by simp)).trans f0⟩) ?_
            clear hK K
            refine AnyT.one (i := 8) (by kernel_rfl) rfl (fun K hK => ?_)
            refine step_append_src _ rfl _ _ _ rfl 0 37 i0 _ 2 16 Try.underlying22 hi0 hz0 hz1 hz2 rfl (by omega) (.slice (some ⟨w.heap.size + 1, 0, none⟩) 0 0) 0 [] rfl HE2.out _ _ _ _ rfl (HS1.out.mod HM2.out (by simp)) k (by omega) (by unfold maxLen; omega) (by omega) (by omega) ?_
            intro p1 c1 w2 hown1 hgrow1 _ hlie1
            have hmX : Mod [] w w2 := HM2.out.trans (Mod.of_grown' hgrow1) (by simp [Value.ownBlock])
            have hn1 : ∀ b ∈ (Value.slice p1 k c1).ownBlock, w.heap.size ≤ b := by rcases hlie1 with h | h <;> rw [h] <;> simp [Value.ownBlock] <;> omega
            refine hK _ _ (fun _ => ⟨(hmX.cell (a := ⟨qb, 2, none⟩) hqb (by simp)).trans c0, (hmX.frozen (a := ⟨qb, 2, none⟩) hqb (by simp)).trans f0⟩) ?_
            clear hK K
            have hel : Sl w2 2 (some ⟨w.heap.size, 0, none⟩) 1 1 [.int .i64 no, .int .u64 gen] := HL2.out.mod (Mod.of_grown' hgrow1) (by simp [Value.ownBlock])
            have hownX := hown1
            clear hown1 hgrow1 hlie1
            refine AnyT.one (i := 13) (by kernel_rfl) rfl (fun K hK => ?_)
            refine step_append_src _ rfl _ _ _ rfl 0 37 i0 _ 2 16 Try.underlying22 hi0 hz0 hz1 hz2 rfl (by omega) (.slice p1 k c1) _ _ rfl hownX _ _ _ _ rfl hel (k + 1) (by omega) (by unfold maxLen; omega) (by omega) (by omega) ?_
            intro p3 c3 w3 hown2 hgrow2 _ hlie2
            have hm3 : Mod [] w w3 := hmX.trans (Mod.of_grown' hgrow2) (fun b hb => Or.inr (hn1 b (by simpa using hb)))
            have hn2 : ∀ b ∈ (Value.slice p3 (k + 1) c3).ownBlock, w.heap.size ≤ b := by
              rcases hlie2 with h | h <;> rw [h]
              · exact hn1
              · intro b hb; simp at hb; have := hmX.size; (try simp at this); omega
            refine hK _ _ (fun _ => ⟨(hm3.cell (a := ⟨qb, 2, none⟩) hqb (by simp)).trans c0, (hm3.frozen (a := ⟨qb, 2, none⟩) hqb (by simp)).trans f0⟩) ?_
            clear hK K
            refine AnyT.one (i := 20) (by kernel_rfl) rfl (fun K hK => ?_)
            refine step_append_src _ rfl _ _ _ rfl 0 37 i0 _ 2 16 Try.underlying22 hi0 hz0 hz1 hz2 rfl (by omega) (.slice p3 (k + 1) c3) _ _ rfl hown2 _ _ _ _ rfl (HS2.out.mod hm3 (by simp)) (s.m.length + 1) (by omega) (by unfold maxLen; omega) (by omega) (by omega) ?_
            intro p4 c4 w4 hown3 hgrow3 _ hlie3
            have hm4 : Mod [] w w4 := hm3.trans (Mod.of_grown' hgrow3) (fun b hb => Or.inr (hn2 b (by simpa using hb)))
            have hn3 : ∀ b ∈ (Value.slice p4 (s.m.length + 1) c4).ownBlock, w.heap.size ≤ b := by
              rcases hlie3 with h | h <;> rw [h]
              · exact hn2
              · intro b hb; simp at hb; have := hm3.size; omega
            have hS4 : w4.cell? ⟨qb, 2, none⟩ = some (.slice g s.m.length cap) ∧ w4.frozen? ⟨qb, 2, none⟩ = false := ⟨(hm4.cell (a := ⟨qb, 2, none⟩) hqb (by simp)).trans c0, (hm4.frozen (a := ⟨qb, 2, none⟩) hqb (by simp)).trans f0⟩
            refine hK _ _ (fun _ => hS4) ?_
            clear hK K hS
            have hS := hS4
            have HO := Lib.hid hown3
            have HM := Lib.hid hm4
            have HN := Lib.hid hn3
            clear hown3 hm4 hn3 hown2 hm3 hn2 hgrow2 hlie2 hgrow3 hlie3 hownX hel hmX hn1
            refine AnyT.take (i := 21) (k := 22) (v := ?_) rfl (by kernel_rfl) (fun _ _ _ h => h) hS (Or.inl ⟨by rfl, fun w' hw' => ?_⟩) ?_
            rotate_left
            · go_simp
              try rfl
            simp only [Act.put, List.setIfInBounds_toArray, List.set_cons_zero, List.set_cons_succ]
            refine AnyT.take (i := 22) (k := 23) (v := ?_) rfl (by kernel_rfl) (fun _ _ _ h => h) hS (Or.inl ⟨by rfl, fun w' hw' => ?_⟩) ?_
            rotate_left
            · go_simp
              try rfl
            simp only [Act.put, List.setIfInBounds_toArray, List.set_cons_zero, List.set_cons_succ]
            obtain ⟨hS0, hS1⟩ := hS4
            clear hS
            refine AnyT.run (i := 23) (by kernel_rfl) rfl rfl (fun K hK => ?_)
            go_simp
            refine hK _ _ (fun h => absurd h (by rw [show more _ _ = false from by kernel_rfl]; decide)) ?_
            clear hK K
            refine AnyT.done (by kernel_rfl) ?_ _
            go_wp2
            go_ret
            have hR := HR.out
            have hm := HM.out
            have hq : w4.heap[qb]? = some (.cells #[.int .i64 s.cap, .int .i64 s.high, .slice g s.m.length cap] 35 (0, 0)) := hm.at hR.at_ (by simp)
            have hlc : (ins no gen s.m).length = s.m.length + 1 := by rw [HI.out, List.length_append, List.length_cons, List.length_take, List.length_drop]; omega
            refine .mk ⟨by rw [HF2.out]; rfl, .slice p4 (s.m.length + 1) c4, ?_, (hm.mono (by simp)).setCell (Or.inl (by simp)), fun b hb => Or.inr (HN.out b hb)⟩
            rw [HF2.out, ← HI.out]
            refine ⟨at_setCell hq 2 _, ?_, ⟨hR.ok.cap, hR.ok.low, hR.ok.high, fun p hp => ?_, fun p hp => ?_, hR.ok.srt.ins⟩⟩
            · have h1 := ownsRow_mod HO.out (Mod.of_setCell w4 qb 2 (.slice p4 (s.m.length + 1) c4)) (fun b hb => by have := HN.out b hb; simp; omega)
              rw [hlc, HI.out, show s.m.take k ++ (no, gen) :: s.m.drop k = s.m.take k ++ [(no, gen)] ++ s.m.drop k by simp, fcells_append, fcells_append]
              simpa [fcells] using h1
            · rcases mem_ins hp with rfl | hp
              · exact ⟨show 2 ≤ no by omega, show no < s.high by omega⟩
              · exact hR.ok.at_ p hp
            · rcases mem_ins hp with rfl | hp
              · exact ⟨hg0, hg1⟩
              · exact hR.ok.wf p hp
end Go.Proofs.Ytibkhdlddllcjaa
