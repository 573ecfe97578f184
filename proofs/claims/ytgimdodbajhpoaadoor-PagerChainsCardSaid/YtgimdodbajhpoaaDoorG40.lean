/- Chains, plainly: what PutChain puts Chain reads again; dropped, all its pages are freed. -/
import Derived.Test.YtgimdodbajhpoaaDoorG39
namespace Go.Proofs.YtgimdodbajhpoaaDoor
open Go.RowKit Go.Maps
set_option linter.unusedSimpArgs false
set_option linter.unusedVariables false

/-- The pager behind i puts. -/
def chAt (ls : List (List Int)) (i : Nat) : Pm := ⟨⟨40, 2 + i, []⟩, 1, 0, (List.range i).map fun j : Nat => (2 + (j : Int), ls.getD j [])⟩
theorem insG_end {α : Type} {x : Int} {v : α} : ∀ {m : List (Int × α)}, (∀ p ∈ m, p.1 < x) → insG x v m = m ++ [(x, v)]
  | [], _ => rfl
  | a :: r, h => by
    have h1 := h a (by simp)
    unfold insG
    rw [if_neg (by omega), if_neg (by omega), insG_end (fun p hp => h p (by simp [hp]))]; rfl
theorem chAt_put {ls : List (List Int)} {i : Nat} (hi : i < 38) {l : List Int} (hl : l = ls.getD i []) (hs : l.length ≤ 1016) : (chAt ls i).put l = ((2 + (i : Int), 0), chAt ls (i + 1)) := by
  have ha : (chAt ls i).s.alloc (chAt ls i).hor = ((2 + (i : Int), 0), ⟨40, 2 + (i : Int) + 1, []⟩) := by
    show (PS.alloc ⟨40, 2 + i, []⟩ 0) = _
    unfold PS.alloc
    simp only [List.find?_nil]
    rw [if_neg (by omega)]
  unfold Pm.put
  rw [if_neg (by omega), ha]
  simp only [if_pos]
  have hf : insG (2 + (i : Int)) l (chAt ls i).f = (chAt ls (i + 1)).f := by
    rw [insG_end]
    · unfold chAt; simp only [List.range_succ, List.map_append, List.map_cons, List.map_nil, hl]
    · intro p hp
      unfold chAt at hp
      simp only [List.mem_map, List.mem_range] at hp
      obtain ⟨j, hj, rfl⟩ := hp
      simp; omega
  rw [hf]
  have e : (2 + (i : Int) + 1) = 2 + ((i + 1 : Nat) : Int) := by omega
  rw [e]; rfl
theorem chAt_srt (ls : List (List Int)) (n : Nat) : SrtG (chAt ls n).f := by
  unfold SrtG chAt
  rw [List.pairwise_map]
  exact List.pairwise_lt_range.imp (fun h => by simp; omega)
theorem chAt_look {ls : List (List Int)} {n j : Nat} (hj : j < n) : lookG (chAt ls n).f (2 + (j : Int)) = some (ls.getD j []) := by
  have hm : (2 + (j : Int), ls.getD j []) ∈ (chAt ls n).f := by
    unfold chAt
    simp only [List.mem_map, List.mem_range]
    exact ⟨j, hj, rfl⟩
  exact lookG_of_mem (chAt_srt ls n) hm
/-- The page that is put behind i others; none at the end. -/
def nx (i : Nat) : Int := if i = 0 then 0 else (i : Int) + 1
theorem nx_succ (i : Nat) : nx (i + 1) = 2 + (i : Int) := by unfold nx; rw [if_neg (by omega)]; omega
theorem nx_range {i : Nat} (h : i ≤ 100) : 0 ≤ nx i ∧ nx i ≤ 2147483647 := by unfold nx; split <;> omega
/-- What the pages say. -/
def lkL (ps : List (List Int)) : List (List Int) := upto (fun j => linkL (nx j) (ps.getD j [])) ps.length
theorem lkL_get (ps : List (List Int)) {j : Nat} (hj : j < ps.length) : (lkL ps).getD j [] = linkL (nx j) (ps.getD j []) := by
  unfold lkL upto
  rw [List.getD_eq_getElem?_getD, List.getElem?_map, List.getElem?_range hj]; rfl
theorem pcL_run {ps : List (List Int)} (hps : ps.length ≤ 38) : ∀ (r : List (List Int)) (i : Nat) (put : List Int), ps.drop i = r → i ≤ ps.length → pcL (chAt (lkL ps) i) (nx i) put r = ((nx ps.length, 0), chAt (lkL ps) ps.length)
  | [], i, put, hr, hi => by
    have : ps.length ≤ i := by simpa using hr
    obtain rfl : i = ps.length := by omega
    rfl
  | part :: r, i, put, hr, hi => by
    have hlt : i < ps.length := by
      rcases Nat.lt_or_ge i ps.length with h | h
      · exact h
      · rw [List.drop_of_length_le h] at hr; cases hr
    have hg : ps.getD i [] = part := by
      rw [List.drop_eq_getElem_cons hlt] at hr
      injection hr with h1 _
      rw [getD_at hlt, h1]
    have hr2 : ps.drop (i + 1) = r := by
      rw [List.drop_eq_getElem_cons hlt] at hr
      injection hr with _ h2
    rw [pcL_yes (chAt_put (by omega) (by rw [lkL_get ps hlt, hg]) (linkL_len _ _)), ← nx_succ]
    exact pcL_run hps r (i + 1) _ hr2 (by omega)
theorem pieces_pos {n : Nat} (h : 1 ≤ n) : 1 ≤ pieces n := by unfold pieces; omega
theorem partsL_len (l : List Int) : (partsL l).length = pieces l.length := upto_length _ _
theorem partsL_get (l : List Int) {j : Nat} (hj : j < pieces l.length) : (partsL l).getD j [] = (l.drop (1010 * (pieces l.length - 1 - j))).take 1010 := by
  unfold partsL upto
  rw [List.getD_eq_getElem?_getD, List.getElem?_map, List.getElem?_range hj]; rfl
theorem partsL_ok (l : List Int) {j : Nat} (hj : j < pieces l.length) : 1 ≤ ((partsL l).getD j []).length ∧ ((partsL l).getD j []).length ≤ 1010 := by
  rw [partsL_get l hj, List.length_take, List.length_drop]
  unfold pieces at hj ⊢
  omega
/-- The pager that holds the chain of l. -/
def chM (l : List Int) : Pm := chAt (lkL (partsL l)) (pieces l.length)
theorem put_chain {l : List Int} (h : l.length ≤ 16384) : pcL (chAt [] 0) 0 [] (partsL l) = ((nx (pieces l.length), 0), chM l) := by
  have h1 := pcL_run (ps := partsL l) (by rw [partsL_len]; unfold pieces; omega) (partsL l) 0 [] rfl (by omega)
  rw [partsL_len] at h1
  exact h1
theorem chM_read {l : List Int} {k : Ck} {j : Nat} (hj : j < pieces l.length) (hp : pieces l.length ≤ 100) : ((chM l).read k (2 + (j : Int))).2 = 0 ∧ fromLinkL ((chM l).read k (2 + (j : Int))).1 = (nx j, (partsL l).getD j [], 0) := by
  have hl : lookG (chM l).f (2 + (j : Int)) = some (linkL (nx j) ((partsL l).getD j [])) := by
    unfold chM
    rw [chAt_look hj, lkL_get _ (by rw [partsL_len]; exact hj)]
  have hr : (chM l).read k (2 + (j : Int)) = (pad 1016 (linkL (nx j) ((partsL l).getD j [])), 0) := by unfold Pm.read; rw [hl]
  rw [hr]
  refine ⟨rfl, ?_⟩
  obtain ⟨h1, h2⟩ := partsL_ok l hj
  obtain ⟨h3, h4⟩ := nx_range (i := j) (by omega)
  exact fromLink_link ⟨h1, h2, h3, h4⟩
theorem take_part {l : List Int} {j : Nat} (hj : j < pieces l.length) : l.take (1010 * (pieces l.length - (j + 1))) ++ (partsL l).getD j [] = l.take (1010 * (pieces l.length - j)) := by
  rw [partsL_get l hj]
  obtain ⟨a, ha⟩ : ∃ a, a = pieces l.length - (j + 1) := ⟨_, rfl⟩
  have e1 : pieces l.length - 1 - j = a := by omega
  have e2 : 1010 * (pieces l.length - j) = 1010 * a + 1010 := by omega
  rw [e1, e2, ← ha, List.take_add]
/-- The pages of the first j puts, the last first. -/
def pgs : Nat → List Int
  | 0 => []
  | j + 1 => nx (j + 1) :: pgs j
theorem pgs_len : ∀ j, (pgs j).length = j
  | 0 => rfl
  | j + 1 => by simp [pgs, pgs_len j]
theorem pgs_range : ∀ {j : Nat}, ∀ x ∈ pgs j, 2 ≤ x ∧ x < 2 + (j : Int)
  | 0, x, h => by simp [pgs] at h
  | j + 1, x, h => by
    simp only [pgs, List.mem_cons] at h
    rcases h with rfl | h
    · rw [nx_succ]; omega
    · have := pgs_range x h; omega
theorem chain_run {l : List Int} {k : Ck} (hp : pieces l.length ≤ 100) (h1 : 1 ≤ l.length) : ∀ (j : Nat) (pages : List Int), j ≤ pieces l.length → pages.length + j = pieces l.length →
    chainL ((chM l).read k) (l.length : Int) (pieces l.length : Int) (j + 1) (nx j) (l.take (1010 * (pieces l.length - j))) pages = (l, pages ++ pgs j, 0)
  | 0, pages, hj, hl => by
    have e : l.take (1010 * (pieces l.length - 0)) = l := List.take_of_length_le (by unfold pieces; omega)
    rw [e]
    unfold chainL nx
    simp [pgs]
  | j + 1, pages, hj, hl => by
    have hlt : (l.take (1010 * (pieces l.length - (j + 1)))).length < l.length := by rw [List.length_take]; unfold pieces at hj ⊢; omega
    obtain ⟨r1, r2⟩ := chM_read (k := k) (l := l) (j := j) (by omega) hp
    unfold chainL
    rw [nx_succ, if_neg (by omega), if_neg (by omega), if_neg (by rw [r1]; simp), r2, if_neg (by simp)]
    simp only
    rw [take_part (by omega), chain_run hp h1 j _ (by omega) (by simp; omega)]
    simp [pgs, nx_succ]
theorem chain_other {l : List Int} {k : Ck} (hp : pieces l.length ≤ 100) {size nd : Int} : ∀ (f j : Nat) (pages : List Int), j ≤ pieces l.length →
    (chainL ((chM l).read k) size nd f (nx j) (l.take (1010 * (pieces l.length - j))) pages).2.2 = 0 → size = l.length
  | 0, j, pages, hj, h => by unfold chainL at h; simp at h
  | f + 1, 0, pages, hj, h => by
    have e : l.take (1010 * (pieces l.length - 0)) = l := List.take_of_length_le (by unfold pieces; omega)
    rw [e] at h
    unfold chainL nx at h
    simp only [if_true] at h
    split at h
    · rename_i h2; exact h2.symm
    · simp at h
  | f + 1, j + 1, pages, hj, h => by
    obtain ⟨r1, r2⟩ := chM_read (k := k) (l := l) (j := j) (by omega) hp
    unfold chainL at h
    rw [nx_succ, if_neg (by omega)] at h
    split at h
    · simp at h
    · rw [if_neg (by rw [r1]; simp), r2, if_neg (by simp)] at h
      simp only at h
      rw [take_part (by omega)] at h
      exact chain_other hp f j _ (by omega) h
theorem needL_of {n : Nat} (h : 1 ≤ n) : needL n = (pieces n : Int) := by unfold needL pieces; rw [if_neg (by omega)]; omega
theorem chain_told {l : List Int} {k : Ck} (h1 : 1 ≤ l.length) (h2 : l.length ≤ 16384) : chainL ((chM l).read k) (l.length : Int) (needL l.length) ((needL l.length).toNat + 1) (nx (pieces l.length)) [] [] = (l, pgs (pieces l.length), 0) := by
  have hp : pieces l.length ≤ 100 := by unfold pieces; omega
  have := chain_run (k := k) hp h1 (pieces l.length) [] (Nat.le_refl _) (by simp)
  rw [needL_of h1, Int.toNat_natCast]
  simpa using this
/-- The code of a Chain of any size. -/
theorem chain_code {l : List Int} {k : Ck} (h1 : 1 ≤ l.length) (h2 : l.length ≤ 16384) {size : Int} :
    ((chainL ((chM l).read k) size (needL size) ((needL size).toNat + 1) (nx (pieces l.length)) [] []).2.2 = 0) ↔ size = l.length := by
  have hp : pieces l.length ≤ 100 := by unfold pieces; omega
  constructor
  · intro h
    refine chain_other (k := k) hp ((needL size).toNat + 1) (pieces l.length) [] (Nat.le_refl _) (size := size) (nd := needL size) ?_
    simpa using h
  · rintro rfl
    rw [chain_told h1 h2]
/-- The pager of whose chain j pages are left. -/
def drAt (ls : List (List Int)) (N j : Nat) : Pm := ⟨⟨40, 2 + N, ((List.range (N - j)).map fun i : Nat => (2 + ((j + i : Nat) : Int), (0 : Int)))⟩, 1, 0, (List.range j).map fun i : Nat => (2 + (i : Int), ls.getD i [])⟩
theorem drAt_drop {ls : List (List Int)} {N j : Nat} (hj : j < N) : (drAt ls N (j + 1)).drop (2 + (j : Int)) = drAt ls N j := by
  have hlook : (lookG (drAt ls N (j + 1)).f (2 + (j : Int))).isSome = true := by
    have := chAt_look (ls := ls) (n := j + 1) (j := j) (by omega)
    show (lookG (chAt ls (j + 1)).f (2 + (j : Int))).isSome = true
    rw [this]; rfl
  have hno : look (drAt ls N (j + 1)).s.m (2 + (j : Int)) = none := by
    cases hl : look (drAt ls N (j + 1)).s.m (2 + (j : Int)) with
    | none => rfl
    | some v =>
      exfalso
      have := mem_of_look hl
      unfold drAt at this
      simp only [List.mem_map, List.mem_range] at this
      obtain ⟨i, hi, he⟩ := this
      injection he with e1 e2
      omega
  have hfree : ((drAt ls N (j + 1)).s.free (2 + (j : Int)) 0) = (0, (drAt ls N j).s) := by
    unfold PS.free
    rw [if_neg (by unfold drAt; simp; omega), hno]
    simp only [Option.isSome_none, Bool.false_eq_true, if_false]
    have e : ins (2 + (j : Int)) 0 (drAt ls N (j + 1)).s.m = (drAt ls N j).s.m := by
      have e1 : (drAt ls N j).s.m = (2 + (j : Int), 0) :: (drAt ls N (j + 1)).s.m := by
        unfold drAt
        simp only
        obtain ⟨d, hd⟩ : ∃ d, N - j = d + 1 := ⟨N - j - 1, by omega⟩
        rw [hd, show N - (j + 1) = d by omega, List.range_succ_eq_map, List.map_cons, List.map_map]
        congr 1
        apply List.map_congr_left
        intro i _
        simp only [Function.comp, Prod.mk.injEq, and_true]; omega
      rw [e1]
      cases hm : (drAt ls N (j + 1)).s.m with
      | nil => rfl
      | cons a r =>
        have ha : a ∈ (drAt ls N (j + 1)).s.m := by rw [hm]; simp
        unfold drAt at ha
        simp only [List.mem_map, List.mem_range] at ha
        obtain ⟨i, hi, rfl⟩ := ha
        unfold ins
        rw [if_pos (by simp; omega)]
    rw [e]; rfl
  have hcut : cutG (drAt ls N (j + 1)).f (2 + (j : Int)) = (drAt ls N j).f := by
    unfold cutG drAt
    simp only [List.range_succ, List.map_append, List.map_cons, List.map_nil, List.filter_append]
    rw [List.filter_eq_self.2 (fun p hp => by
      simp only [List.mem_map, List.mem_range] at hp
      obtain ⟨i, hi, rfl⟩ := hp
      simp; omega)]
    simp
  unfold Pm.drop
  rw [if_pos hlook, hfree, hcut]
  rfl
theorem drops_run {ls : List (List Int)} {N : Nat} : ∀ j, j ≤ N → dropsL (drAt ls N j) (pgs j) = drAt ls N 0
  | 0, _ => rfl
  | j + 1, h => by
    show dropsL ((drAt ls N (j + 1)).drop (nx (j + 1))) (pgs j) = _
    rw [nx_succ, drAt_drop (by omega)]
    exact drops_run j (by omega)
theorem chM_drops (l : List Int) : dropsL (chM l) (pgs (pieces l.length)) = drAt (lkL (partsL l)) (pieces l.length) 0 := by
  rw [← drops_run (pieces l.length) (Nat.le_refl _)]
  congr 1
  unfold chM chAt drAt
  simp
theorem drAt_len (ls : List (List Int)) (N : Nat) : (drAt ls N 0).s.m.length = N ∧ (drAt ls N 0).f = [] ∧ (drAt ls N 0).s.high = 2 + (N : Int) := by
  unfold drAt; simp
theorem chM_len (l : List Int) : ((chM l).f.map (·.1)).length = pieces l.length := by unfold chM chAt; simp
end Go.Proofs.YtgimdodbajhpoaaDoor
