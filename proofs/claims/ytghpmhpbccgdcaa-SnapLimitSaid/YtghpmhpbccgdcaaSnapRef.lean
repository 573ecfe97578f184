/- The document's registry: what each of its functions does, as the same pure functions. -/
import Derived.Test.YtghpmhpbccgdcaaSnap
import Derived.Test.YtghpmhpbccgdcaaSl
namespace Go.Proofs.Ytghpmhpbccgdcaa
open Go.RowKit Go.Maps

def snapCells (m : List (Int × Int)) : List Value := m.flatMap fun p => [.int .i64 p.1, .int .u64 p.2]
theorem snapCells_len (m : List (Int × Int)) : (snapCells m).length = m.length * 2 := by
  induction m with
  | nil => rfl
  | cons a r ih => simp [snapCells] at ih ⊢; omega
theorem snapCells_append (a b : List (Int × Int)) : snapCells (a ++ b) = snapCells a ++ snapCells b := by simp [snapCells]

/-- Block qb is the document's registry, its list the slice v. -/
structure RefAt (w : World) (qb : Nat) (v : Value) (s : RS) : Prop where
  at_ : w.heap[qb]? = some (.cells #[v, .int .i64 s.last] 44 (0, 0))
  row : w.ownsRow 0 57 2 v s.m.length (snapCells s.m)
  ok : s.Ok
  srt : Srt s.m
  small : s.m.length ≤ 64

theorem infoSnap : (Try.prog.info? 57).map (fun i => (i.zero, i.size, i.bytes)) = some (some (.agg #[.int .i64 0, .int .u64 0]), 2, 16) := by kernel_rfl

/-- What a call on the document's registry leaves: the new list's slice lies where the old one lay, or in new memory. -/
structure QTurn (qb : Nat) (v : Value) (s' : RS) (w w' : World) (v' : Value) : Prop where
  at_ : RefAt w' qb v' s'
  mod : Mod (qb :: v.ownBlock.toList) w w'
  lies : ∀ b, v'.ownBlock = some b → v.ownBlock = some b ∨ w.heap.size ≤ b

namespace RefAt
variable {w w' : World} {qb : Nat} {v : Value} {s : RS}
theorem apart (h : RefAt w qb v s) : some qb ≠ v.ownBlock := by
  rcases h.row.2 with ⟨rfl, _⟩ | ⟨g, cap, cur, rfl, _, hb, _⟩
  · simp [Value.ownBlock]
  · intro e; simp [Value.ownBlock] at e; subst e; rw [h.at_] at hb; simp at hb
theorem mod {S : List Nat} (h : RefAt w qb v s) (hm : Mod S w w') (h1 : qb ∉ S) (h2 : ∀ b, v.ownBlock = some b → b ∉ S) : RefAt w' qb v s :=
  ⟨hm.at h.at_ h1, ownsRow_mod h.row hm h2, h.ok, h.srt, h.small⟩
/-- The list's slice, and its cells. -/
theorem slice (h : RefAt w qb v s) : ∃ g cap, v = .slice g s.m.length cap ∧ ∃ b off, (0 < s.m.length → g = some ⟨b, off, none⟩ ∧ b < w.heap.size) ∧ s.m.length ≤ cap ∧ cap ≤ maxLen ∧ ∀ i, i < s.m.length →
    w.cell? ⟨b, off + i * 2, none⟩ = some (.int .i64 (s.m.getD i (0, 0)).1) ∧ w.cell? ⟨b, off + i * 2 + 1, none⟩ = some (.int .u64 (s.m.getD i (0, 0)).2) := by
  rcases h.row.2 with ⟨rfl, h0⟩ | ⟨g, cap, cur, rfl, _, hb, h1, h2, h3, h4⟩
  · exact ⟨none, 0, by rw [h0], 0, 0, by omega, by omega, by unfold maxLen; omega, by omega⟩
  · refine ⟨_, cap, rfl, g, 0, fun _ => ⟨rfl, lt_of_at hb⟩, h1, h2, fun i hi => ?_⟩
    have key : ∀ j, j < 2 → w.cell? ⟨g, 0 + i * 2 + j, none⟩ = (snapCells s.m)[i * 2 + j]? := by
      intro j hj
      rw [cell_of_at hb, ← h4, List.getElem?_take_of_lt (by omega), Array.getElem?_toList]
      congr 1; omega
    have e : ∀ (m : List (Int × Int)) i j, i < m.length → j < 2 → (snapCells m)[i * 2 + j]? = [Value.int .i64 (m.getD i (0, 0)).1, .int .u64 (m.getD i (0, 0)).2][j]? := by
      intro m
      induction m with
      | nil => intro i j hi; simp at hi
      | cons a r ih =>
        intro i j hi hj
        cases i with
        | zero => simp only [snapCells, List.flatMap_cons]; rw [List.getElem?_append_left (by simp; omega)]; simp
        | succ i =>
          have := ih i j (by simpa using hi) hj
          simp only [snapCells, List.flatMap_cons] at this ⊢
          rw [List.getElem?_append_right (by simp; omega)]
          simp only [List.length_cons, List.length_nil]
          rw [show (i + 1) * 2 + j - (0 + 1 + 1) = i * 2 + j by omega, this]; simp
    exact ⟨by have k0 := key 0 (by omega); rw [e _ _ _ hi (by omega), Nat.add_zero] at k0; rw [k0]; rfl, by rw [key 1 (by omega), e _ _ _ hi (by omega)]; rfl⟩
end RefAt

/-- Where a number stands. -/
def qat (m : List (Int × Int)) (no : Int) : Int := match m.findIdx? (fun p => p.1 == no) with | some i => i | none => -1

def QOpenR (qb : Nat) (v : Value) (s : RS) (x : Int) (w : World) (r : Value) (w' : World) : Prop :=
  r = .tuple #[.int .i64 (s.open_ x).1.1, .int .i64 (s.open_ x).1.2] ∧ ∃ v', QTurn qb v (s.open_ x).2 w w' v'

set_option maxRecDepth 100000 in
set_option maxHeartbeats 1000000 in
theorem qopen_any (qb : Nat) (v : Value) (s : RS) (x : Int) (w : World) (hr : RefAt w qb v s) (hx0 : 0 ≤ x) (hx1 : x < 2 ^ 64) (hl : s.last < 2 ^ 62) :
    Calls Try.prog 14 #[.pointer (some ⟨qb, 0, none⟩), .int .u64 x] w (Ret (QOpenR qb v s x w)) := by
  obtain ⟨i0, hi0, hz0, hz1, hz2⟩ := info_parts infoSnap
  have hne' := hr.apart
  obtain ⟨g, cap, rfl, _⟩ := hr.slice
  have c0 : w.cell? ⟨qb, 0, none⟩ = some (.slice g s.m.length cap) := cell_of_at hr.at_ 0
  have hlow := hr.ok.low
  have hsm := hr.small
  by_cases hf : 64 ≤ s.m.length
  · have HO : Hid (s.open_ x = ((0, 6), s)) := by unfold RS.open_; rw [if_pos hf]; exact rfl
    have hlen64 : ((s.m.length : Int) == 64) = true := by simp; omega
    go_enter Try.func14, Try.ntmps14
    go_wp2
    go_ret2
    exact .mk ⟨by rw [HO.out]; rfl, _, by rw [HO.out]; exact hr, Mod.refl _ _, fun b hb => Or.inl hb⟩
  · have HO : Hid (s.open_ x = ((s.last + 1, 0), ⟨s.m ++ [(s.last + 1, x)], s.last + 1⟩)) := by unfold RS.open_; rw [if_neg hf]; exact rfl
    have c1 : w.cell? ⟨qb, 1, none⟩ = some (.int .i64 s.last) := cell_of_at hr.at_ 1
    have f1 : w.frozen? ⟨qb, 1, none⟩ = false := free_of_at hr.at_ 1
    have hlen64 : ((s.m.length : Int) == 64) = false := by simp; omega
    have hown := hr.row
    go_enter Try.func14, Try.ntmps14
    go_wp2
    have hb1 := at_setCell hr.at_ 1 (.int .i64 (s.last + 1))
    have hown1 : (w.setCell ⟨qb, 1, none⟩ (.int .i64 (s.last + 1))).ownsRow 0 57 2 (.slice g s.m.length cap) s.m.length (snapCells s.m) := ownsRow_mod hown (Mod.of_setCell w qb 1 _) (fun b hb => by simp; rintro rfl; exact hne' hb.symm)
    have hsz : (w.setCell ⟨qb, 1, none⟩ (.int .i64 (s.last + 1))).heap.size = w.heap.size := by simp
    have hmd := Mod.of_setCell w qb 1 (.int .i64 (s.last + 1))
    generalize w.setCell ⟨qb, 1, none⟩ (.int .i64 (s.last + 1)) = W at hb1 hown1 hsz hmd ⊢
    have g0 : W.cell? ⟨qb, 0, none⟩ = some (.slice g s.m.length cap) := cell_of_at hb1 0
    have g1 : W.cell? ⟨qb, 1, none⟩ = some (.int .i64 (s.last + 1)) := cell_of_at hb1 1
    have gf : W.frozen? ⟨qb, 0, none⟩ = false := free_of_at hb1 0
    have hqb := lt_of_at hb1
    have HB1 := Lib.hid hb1
    have HSZ := Lib.hid hsz
    clear hb1 hsz c0 c1 f1 hown
    go_region_law (refine step_append_lies _ (by rfl) _ _ _ (by rfl) 0 57 i0 _ 2 16 Try.underlying42 hi0 hz0 hz1 hz2 rfl (by omega) (.slice g s.m.length cap) _ _ (by rfl) ((hown1.alloc _).drew) ⟨W.heap.size, 0, none⟩ 1 1 [.int .i64 (s.last + 1), .int .u64 x] (by rfl) (by rfl) (World.news_of_block (cs := #[.int .i64 (s.last + 1), .int .u64 x]) (t := 57) (fr := (0, 0)) (heap_alloc_new W _)) (by simp [Value.oneCell']) (by omega) (by unfold maxLen; omega) (by omega) (by simp) (W.heap.size + 1) (by simp) ?_; intro gg cp w1 hown2 hgrow hat hlt; (have k0 := (hgrow.cell_far ⟨qb, 0, none⟩ (by simp; omega) hne')); (have k1 := (hgrow.cell_far ⟨qb, 1, none⟩ (by simp; omega) hne')); (have k2 := (hgrow.frozen_far ⟨qb, 0, none⟩ (by simp; omega) hne')))
    all_goals
      have hq1 : w1.heap[qb]? = some (.cells #[.slice g s.m.length cap, .int .i64 (s.last + 1)] 44 (0, 0)) := by
        rw [hgrow.block qb (by simp; omega) hne']
        exact (Below.heap_alloc _ _ _ hqb).trans HB1.out
      have hgm := World.grownBy.size hgrow
      have hm1 : Mod (qb :: (Value.slice g s.m.length cap).ownBlock.toList) w w1 := (hmd.mono (by simp)).trans ((Mod.of_alloc W _).same (Mod.of_drew _)) (by simp) |>.trans (Mod.of_grown' hgrow) (by intro i hi; left; simp at hi ⊢; exact Or.inr hi)
      have hcell1 : (w1.setCell ⟨qb, 0, none⟩ (.slice (some ⟨gg, 0, none⟩) (s.m.length + 1) cp)).cell? ⟨qb, 1, none⟩ = some (.int .i64 (s.last + 1)) := cell_of_at (at_setCell hq1 0 _) 1
      have hgq : gg ≠ qb := by
        rcases hat with h | h
        · rintro rfl; exact hne' h.symm
        · omega
      have H : Hid (QTurn qb (.slice g s.m.length cap) ⟨s.m ++ [(s.last + 1, x)], s.last + 1⟩ w (w1.setCell ⟨qb, 0, none⟩ (.slice (some ⟨gg, 0, none⟩) (s.m.length + 1) cp)) (.slice (some ⟨gg, 0, none⟩) (s.m.length + 1) cp)) := by
        refine ⟨⟨at_setCell hq1 0 _, ?_, ?_, ?_, ?_⟩, hm1.trans (Mod.of_setCell w1 qb 0 _) (by simp), ?_⟩
        · have := ownsRow_mod hown2 (Mod.of_setCell w1 qb 0 (.slice (some ⟨gg, 0, none⟩) (s.m.length + 1) cp)) (fun b hb => by simp [Value.ownBlock] at hb; simp; omega)
          simpa [snapCells_append, snapCells] using this
        · refine ⟨by simp; omega, ?_, ?_⟩
          · intro p hp; simp at hp; rcases hp with hp | rfl
            · have := hr.ok.le p hp; simp; omega
            · simp
          · intro p hp; simp at hp; rcases hp with hp | rfl
            · exact hr.ok.wf p hp
            · exact ⟨hx0, hx1⟩
        · have := (Srt.ins (x := s.last + 1) (v := x) hr.srt); rwa [ins_last (fun p hp => by have := hr.ok.le p hp; omega)] at this
        · simp; omega
        · intro b hb; simp [Value.ownBlock] at hb; subst hb
          rcases hat with h | h
          · exact Or.inl h
          · right; have := HSZ.out; omega
      clear hm1 hgm hq1 hgrow hown2 hown1 hmd HB1 k0 k1 k2
      go_wp2
      go_ret2
      exact .mk ⟨by rw [HO.out]; rfl, _, by rw [HO.out]; exact H.out⟩

def QAtR (m : List (Int × Int)) (no : Int) (w : World) (r : Value) (w' : World) : Prop := r = .int .i64 (qat m no) ∧ w' = w
theorem qat_none {m : List (Int × Int)} {no : Int} (h : ∀ j, j < m.length → ((m.getD j (0, 0)).1 == no) = false) : qat m no = -1 := by
  unfold qat
  rw [List.findIdx?_eq_none_iff.2 (fun p hp => by
    obtain ⟨j, hj, rfl⟩ := List.mem_iff_getElem.1 hp
    have := h j hj
    rwa [getD_at hj] at this)]
theorem qat_some {m : List (Int × Int)} {no : Int} {k : Nat} (hk : k < m.length) (hp : ((m.getD k (0, 0)).1 == no) = true) (h : ∀ j, j < k → ((m.getD j (0, 0)).1 == no) = false) : qat m no = k := by
  unfold qat
  rw [List.findIdx?_eq_some_iff_getElem.2 ⟨hk, by rwa [getD_at hk] at hp, fun j hj => by
    have := h j hj
    rw [getD_at (by omega)] at this; simpa using this⟩]
theorem sizeSnap (W : World) : (sizeOf (Try.prog.elem 42)).run Try.prog W = .ok 2 W := by kernel_rfl

set_option maxRecDepth 100000 in
theorem qat_any (qb : Nat) (v : Value) (s : RS) (no : Int) (w : World) (hr : RefAt w qb v s) :
    Calls Try.prog 22 #[.pointer (some ⟨qb, 0, none⟩), .int .i64 no] w (Ret (QAtR s.m no w)) := by
  have h0 := cell_of_at hr.at_ 0
  obtain ⟨g, cap, rfl, b, off, hb, _, _, hc⟩ := hr.slice
  have c0 : w.cell? ⟨qb, 0, none⟩ = some (.slice g s.m.length cap) := h0
  have hsm := hr.small
  have hidx := fun W => Sl.idx (P := Try.prog) (cap := cap) Try.underlying42 sizeSnap (fun h => (hb h).1) W .i64
  clear h0 hb hr
  generalize s.m = m at *
  go_enter Try.func22, Try.ntmps22
  go_wp2
  go_loop [5] (fun i => ∃ k : Nat, k ≤ m.length ∧ i = .int .i64 k ∧ ∀ j, j < k → ((m.getD j (0, 0)).1 == no) = false) (fun i => m.length - (intOf i).toNat)
  case atStart => exact ⟨0, by omega, rfl, by omega⟩
  case round =>
    obtain ⟨k, hk, rfl, hall⟩ := hrel
    have HA := Lib.hid hall
    clear hall
    by_cases hlt : k < m.length
    · obtain ⟨d0, d1⟩ := hc k hlt
      clear d1
      obtain ⟨x, hx⟩ : ∃ x, x = (m.getD k (0, 0)).1 := ⟨_, rfl⟩
      rw [← hx] at d0
      have HX := Lib.hid hx
      clear hx hc
      cases hd : (x == no)
      · have HD := Lib.hid hd
        go_wp2
        go_round
        case rel => exact ⟨k + 1, by omega, by go_num, fun j hj => by
          rcases Nat.lt_succ_iff_lt_or_eq.1 hj with h | rfl
          · exact HA.out j h
          · rw [← HX.out]; exact HD.out⟩
        case measure => simp [intOf]; omega
      · have HD := Lib.hid hd
        go_wp2
        go_ret
        exact .mk ⟨by rw [qat_some hlt (by rw [← HX.out]; exact HD.out) HA.out]; rfl, rfl⟩
    · go_wp2
      go_ret
      exact .mk ⟨by rw [qat_none (fun j hj => HA.out j (by omega))]; rfl, rfl⟩

/-- A registry without the element at place i. -/
theorem qat_facts {m : List (Int × Int)} {no : Int} (h : Srt m) : ((look m no).isSome = false → qat m no = -1) ∧ ((look m no).isSome = true → ∃ i : Nat, i < m.length ∧ qat m no = i ∧ m.getD i (0, 0) = (no, (look m no).getD 0) ∧ m.take i ++ m.drop (i + 1) = cut m no) := by
  constructor
  · intro hl
    refine qat_none fun j hj => ?_
    have := look_of_mem h (List.getElem_mem hj)
    rw [getD_at hj]
    cases hb : (m[j].1 == no)
    · rfl
    · have e : m[j].1 = no := by simpa using hb
      rw [e] at this; rw [this] at hl; cases hl
  · intro hl
    obtain ⟨v, hv⟩ := Option.isSome_iff_exists.1 hl
    obtain ⟨i, hi, he⟩ := List.mem_iff_getElem.1 (mem_of_look hv)
    have hlt : ∀ j, j < m.length → ((m.getD j (0, 0)).1 == no) = decide (j = i) := by
      intro j hj
      rw [getD_at hj, Bool.eq_iff_iff]
      simp only [beq_iff_eq, decide_eq_true_eq]
      have hp := List.pairwise_iff_getElem.1 h
      constructor
      · intro e
        rcases Nat.lt_trichotomy j i with c | c | c
        · have := hp j i hj hi c; rw [he] at this; simp only at this; omega
        · exact c
        · have := hp i j hi hj c; rw [he] at this; simp only at this; omega
      · rintro rfl; rw [he]
    refine ⟨i, hi, qat_some hi (by rw [hlt i hi]; simp) (fun j hj => by rw [hlt j (by omega)]; simp; omega), by rw [getD_at hi, he, hv]; rfl, ?_⟩
    have hsplit : m = m.take i ++ m[i] :: m.drop (i + 1) := by rw [List.getElem_cons_drop, List.take_append_drop]
    have hp := List.pairwise_iff_getElem.1 h
    conv => rhs; rw [hsplit]
    unfold cut
    rw [List.filter_append, List.filter_cons, if_neg (by rw [he]; simp)]
    rw [List.filter_eq_self.2, List.filter_eq_self.2]
    · intro p hp'
      obtain ⟨j, hj, rfl⟩ := List.mem_iff_getElem.1 hp'
      rw [List.length_drop] at hj
      rw [List.getElem_drop]
      have := hp i (i + 1 + j) hi (by omega) (by omega)
      rw [he] at this; simp only at this; simp; omega
    · intro p hp'
      obtain ⟨j, hj, rfl⟩ := List.mem_iff_getElem.1 hp'
      rw [List.length_take] at hj
      rw [List.getElem_take]
      have := hp j i (by omega) hi (by omega)
      rw [he] at this; simp only at this; simp; omega

theorem qversion_any (qb : Nat) (v : Value) (s : RS) (no : Int) (w : World) (hr : RefAt w qb v s) :
    Calls Try.prog 16 #[.pointer (some ⟨qb, 0, none⟩), .int .i64 no] w (Ret (VersionR s no w)) := by
  have hat := qat_any qb v s no w hr
  have h0 := cell_of_at hr.at_ 0
  obtain ⟨g, cap, rfl, b, off, hb, _, _, hc⟩ := hr.slice
  have c0 : w.cell? ⟨qb, 0, none⟩ = some (.slice g s.m.length cap) := h0
  have hidx := fun W => Sl.idx (P := Try.prog) (cap := cap) Try.underlying42 sizeSnap (fun h => (hb h).1) W .i64
  obtain ⟨f1, f2⟩ := qat_facts (no := no) hr.srt
  clear h0 hb
  cases hl : (look s.m no).isSome
  · have e := f1 hl
    have HV : Hid (s.version no = (0, 9)) := by unfold RS.version; rw [hl]; cases h : look s.m no <;> simp_all [Hid]
    clear f1 f2 hl hr hc
    go_enter Try.func16, Try.ntmps16
    go_wp2_with fail
    refine hat.mono ?_
    rintro _ w1 ⟨_, rfl, rfl, rfl⟩
    rw [e]
    go_wp2
    go_ret2
    exact .mk ⟨by rw [HV.out]; rfl, rfl⟩
  · obtain ⟨i, hi, e, hget, _⟩ := f2 hl
    obtain ⟨x, hx⟩ : ∃ x, x = (look s.m no).getD 0 := ⟨_, rfl⟩
    have HV : Hid (s.version no = (x, 0)) := by unfold RS.version; rw [hl, hx]; exact rfl
    have d1 := (hc i hi).2
    rw [hget] at d1
    simp only at d1
    rw [← hx] at d1
    clear f1 f2 hl hr hc hget hx
    go_enter Try.func16, Try.ntmps16
    go_wp2_with fail
    refine hat.mono ?_
    rintro _ w1 ⟨_, rfl, rfl, rfl⟩
    rw [e]
    clear e hat
    go_wp2
    go_ret2
    exact .mk ⟨by rw [HV.out]; rfl, rfl⟩

def QCloseR (qb : Nat) (v : Value) (s : RS) (no : Int) (w : World) (r : Value) (w' : World) : Prop :=
  r = .int .i64 (s.close no).1 ∧ ∃ v', QTurn qb v (s.close no).2 w w' v'

theorem snapCells_one (m : List (Int × Int)) : ∀ u ∈ snapCells m, u.oneCell' = true := by
  intro u hu; simp [snapCells] at hu; obtain ⟨a, b, _, rfl | rfl⟩ := hu <;> rfl
theorem snapCells_take (m : List (Int × Int)) (i : Nat) : (snapCells m).take (i * 2) = snapCells (m.take i) := by
  induction m generalizing i with
  | nil => simp [snapCells]
  | cons a r ih =>
    cases i with
    | zero => simp [snapCells]
    | succ i => have := ih i; simp only [snapCells, List.flatMap_cons, List.take_succ_cons, Nat.succ_mul] at this ⊢; simp [List.take_append, this]
theorem snapCells_drop (m : List (Int × Int)) (i : Nat) : (snapCells m).drop (i * 2) = snapCells (m.drop i) := by
  induction m generalizing i with
  | nil => simp [snapCells]
  | cons a r ih =>
    cases i with
    | zero => simp [snapCells]
    | succ i => have := ih i; simp only [snapCells, List.flatMap_cons, List.drop_succ_cons, Nat.succ_mul] at this ⊢; simp [List.drop_append, this]

set_option maxRecDepth 100000 in
set_option maxHeartbeats 1000000 in
theorem qclose_any (qb : Nat) (v : Value) (s : RS) (no : Int) (w : World) (hr : RefAt w qb v s) :
    Calls Try.prog 15 #[.pointer (some ⟨qb, 0, none⟩), .int .i64 no] w (Ret (QCloseR qb v s no w)) := by
  obtain ⟨i0, hi0, hz0, hz1, hz2⟩ := info_parts infoSnap
  have hat := qat_any qb v s no w hr
  have hne' := hr.apart
  have h0 := cell_of_at hr.at_ 0
  obtain ⟨g, cap, rfl, _⟩ := hr.slice
  have c0 : w.cell? ⟨qb, 0, none⟩ = some (.slice g s.m.length cap) := h0
  have f0 : w.frozen? ⟨qb, 0, none⟩ = false := free_of_at hr.at_ 0
  obtain ⟨hsl, _⟩ := Sl.of_own hr.row (snapCells_one _)
  obtain ⟨f1, f2⟩ := qat_facts (no := no) hr.srt
  have hqb := lt_of_at hr.at_
  have hsm := hr.small
  clear h0
  cases hl : (look s.m no).isSome
  · have e := f1 hl
    have HC : Hid (s.close no = (9, s)) := by unfold RS.close; rw [hl]; exact rfl
    clear f1 f2 hl
    go_enter Try.func15, Try.ntmps15
    go_wp2_with fail
    refine hat.mono ?_
    rintro _ w1 ⟨_, rfl, rfl, rfl⟩
    rw [e]
    go_wp2
    go_ret
    exact .mk ⟨by rw [HC.out]; rfl, _, by rw [HC.out]; exact hr, Mod.refl _ _, fun b hb => Or.inl hb⟩
  · obtain ⟨i, hi, e, hget, hcut⟩ := f2 hl
    have HC : Hid (s.close no = (0, ⟨cut s.m no, s.last⟩)) := by unfold RS.close; rw [hl]; exact rfl
    obtain ⟨r1, s1⟩ := hsl.sub_h Try.underlying42 sizeSnap i .i64 (by omega)
    obtain ⟨p2, r2, s2, _⟩ := hsl.sub_l Try.underlying42 sizeSnap (i + 1) .i64 (by omega)
    rw [snapCells_take] at s1
    rw [snapCells_drop] at s2
    have HCUT := Lib.hid hcut
    have hlt : ¬ (i : Int) < 0 := by omega
    clear f1 f2 hl hget hcut
    go_enter Try.func15, Try.ntmps15
    go_wp2_with fail
    refine hat.mono ?_
    rintro _ w1 ⟨_, rfl, rfl, rfl⟩
    rw [e]
    clear e hat
    go_wp2
    have hb0 := hr.at_
    have HR := Lib.hid hr
    have HS1 := Lib.hid s1
    have HS2 := Lib.hid s2
    have HSL := Lib.hid hsl
    have HMK : Hid ((w1.alloc (.cells #[] 57)).drew.ownsRow 0 57 2 (.slice (some ⟨w1.heap.size, 0, none⟩) 0 0) 0 []) :=
      ⟨by simp, Or.inr ⟨w1.heap.size, 0, #[], rfl, by omega, (MapKept.heap_alloc w1 _).1, by omega, by unfold maxLen; omega, by simp, by simp⟩⟩
    have hmA : Mod [] w1 (w1.alloc (.cells #[] 57)).drew := (Mod.of_alloc _ _).same (Mod.of_drew _)
    have HMA := Lib.hid hmA
    have hwr : IntKind.i64.wrap ((i : Int) + 1) = (i : Int) + 1 := IntWalk.i64_in _ (by omega)
    rw [show (((i + 1 : Nat) : Int)) = (i : Int) + 1 from by omega] at r2
    clear hr s1 s2 hsl hb0 hmA
    go_region_law (first
      | (refine step_append_src _ (by rfl) (.tmp 12) (.tmp 18) _ (by rfl) 0 57 i0 _ 2 16 Try.underlying42 hi0 hz0 hz1 hz2 rfl (by omega) (.slice (some ⟨w1.heap.size, 0, none⟩) 0 0) 0 [] (by rfl) HMK.out _ _ _ _ (by rfl) (HS1.out.mod HMA.out (by simp)) i (by omega) (by unfold maxLen; omega) (by omega) (by omega) ?_; intro p1 c1 w2 hown1 hgrow1 hnil1 hlie1; (have hm2 : Mod [] w1 w2 := HMA.out.trans (Mod.of_grown' hgrow1) (by simp [Value.ownBlock])); (have k0 := hm2.cell (a := ⟨qb, 0, none⟩) hqb (by simp)); (have k2 := hm2.frozen (a := ⟨qb, 0, none⟩) hqb (by simp)); (have hn1 : ∀ b ∈ (Value.slice p1 i c1).ownBlock, w1.heap.size ≤ b := (by rcases hlie1 with h | h <;> rw [h] <;> simp [Value.ownBlock])); (have HO1 := Lib.hid hown1); (have HM2 := Lib.hid hm2); (have HN1 := Lib.hid hn1); clear hown1 hgrow1 hnil1 hlie1 hm2 hn1)
      | (refine step_append_src _ (by rfl) (.tmp 19) (.tmp 26) _ (by rfl) 0 57 i0 _ 2 16 Try.underlying42 hi0 hz0 hz1 hz2 rfl (by omega) _ _ _ (by rfl) HO1.out _ _ _ _ (by rfl) (HS2.out.mod HM2.out (by simp)) (s.m.length - 1) (by omega) (by unfold maxLen; omega) (by omega) (by omega) ?_; intro p3 c3 w3 hown2 hgrow2 hnil2 hlie2; (have hm3 : Mod [] w1 w3 := HM2.out.trans (Mod.of_grown' hgrow2) (fun b hb => Or.inr (HN1.out b (by simpa using hb)))); (have j0 := hm3.cell (a := ⟨qb, 0, none⟩) hqb (by simp)); (have j2 := hm3.frozen (a := ⟨qb, 0, none⟩) hqb (by simp)); (have hn2 : ∀ b ∈ (Value.slice p3 (s.m.length - 1) c3).ownBlock, w1.heap.size ≤ b := (by rcases hlie2 with h | h <;> rw [h]; exact HN1.out; intro b hb; simp at hb; have := HM2.out.size; omega)); (have HO2 := Lib.hid hown2); (have HM3 := Lib.hid hm3); (have HN2 := Lib.hid hn2); clear hown2 hgrow2 hnil2 hlie2 hm3 hn2))
    all_goals
      have hm3 := HM3.out
      have hR := HR.out
      have hq3 : w3.heap[qb]? = some (.cells #[.slice g s.m.length cap, .int .i64 s.last] 44 (0, 0)) := hm3.at hR.at_ (by simp)
      have hlc : (cut s.m no).length = s.m.length - 1 := by
        rw [← HCUT.out, List.length_append, List.length_take, List.length_drop]; omega
      have H : Hid (QTurn qb (.slice g s.m.length cap) ⟨cut s.m no, s.last⟩ w1 (w3.setCell ⟨qb, 0, none⟩ (.slice p3 (s.m.length - 1) c3)) (.slice p3 (s.m.length - 1) c3)) := by
        refine ⟨⟨at_setCell hq3 0 _, ?_, ?_, hR.srt.cut no, ?_⟩, (hm3.mono (by simp)).same ((Mod.of_setCell w3 qb 0 _).mono (by simp)), ?_⟩
        · have h1 := ownsRow_mod HO2.out (Mod.of_setCell w3 qb 0 (.slice p3 (s.m.length - 1) c3)) (fun b hb => by have := HN2.out b hb; simp; omega)
          rw [List.nil_append, ← snapCells_append, HCUT.out] at h1
          rw [hlc]; exact h1
        · exact ⟨hR.ok.low, fun p hp => hR.ok.le p (List.mem_filter.1 hp).1, fun p hp => hR.ok.wf p (List.mem_filter.1 hp).1⟩
        · rw [hlc]; omega
        · exact fun b hb => Or.inr (HN2.out b hb)
      clear hm3 hR hq3 k0 k2 j0 j2
      go_wp2
      go_ret
      exact .mk ⟨by rw [HC.out]; rfl, _, by rw [HC.out]; exact H.out⟩
end Go.Proofs.Ytghpmhpbccgdcaa
