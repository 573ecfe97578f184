/- PagerKeeps, without the program: what is read behind the second Flush is what the first put. -/
import Derived.Test.YtgimdodbajhpoaaPagerFlush
import Derived.Test.YtgimdodbajhpoaaPagerSets
import Derived.Test.YtgimdodbajhpoaaPageFr
namespace Go.Proofs.Ytgimdodbajhpoaa
open Go.RowKit Go.Maps
set_option linter.unusedSimpArgs false
set_option linter.unusedVariables false

/-- The first pager behind i puts. -/
def pmK (ls : List (List Int)) (i : Nat) : Pm := ⟨⟨30, 2 + i, []⟩, 1, 0, (List.range i).map fun j : Nat => (2 + (j : Int), ls.getD j [])⟩
theorem pmK_put {ls : List (List Int)} {i : Nat} (hi : i < 28) {l : List Int} (hl : l = ls.getD i []) (hs : l.length ≤ 1016) : (pmK ls i).put l = ((2 + (i : Int), 0), pmK ls (i + 1)) := by
  have ha : (pmK ls i).s.alloc (pmK ls i).hor = ((2 + (i : Int), 0), ⟨30, 2 + (i : Int) + 1, []⟩) := by
    show (PS.alloc ⟨30, 2 + i, []⟩ 0) = _
    unfold PS.alloc
    simp only [List.find?_nil]
    rw [if_neg (by omega)]
  unfold Pm.put
  rw [if_neg (by omega), ha]
  simp only [if_pos]
  have hf : insG (2 + (i : Int)) l (pmK ls i).f = (pmK ls (i + 1)).f := by
    rw [insG_last]
    · unfold pmK; simp only [List.range_succ, List.map_append, List.map_cons, List.map_nil, hl]
    · intro p hp
      unfold pmK at hp
      simp only [List.mem_map, List.mem_range] at hp
      obtain ⟨j, hj, rfl⟩ := hp
      simp; omega
  rw [hf]
  have e : (2 + (i : Int) + 1) = 2 + ((i + 1 : Nat) : Int) := by omega
  rw [e]; rfl
theorem pmK_mem {ls : List (List Int)} {n : Nat} {p : Int × List Int} : p ∈ (pmK ls n).f ↔ ∃ j, j < n ∧ p = (2 + (j : Int), ls.getD j []) := by
  unfold pmK
  simp only [List.mem_map, List.mem_range]
  constructor
  · rintro ⟨j, hj, rfl⟩; exact ⟨j, hj, rfl⟩
  · rintro ⟨j, hj, rfl⟩; exact ⟨j, hj, rfl⟩
theorem pmK_len {ls : List (List Int)} {n : Nat} : (pmK ls n).f.length = n := by unfold pmK; simp
theorem ck0_there' {c : Nat} {x : Int} (h0 : 0 ≤ x) (h : x < c) : (ck0 c).there x = true := by
  have hl : (ck0 c).safe.length = c := List.length_replicate ..
  unfold Ck.there; rw [hl]; simp; omega

/-- The second pager: its new pages are behind the first's. -/
structure Kp (n : Nat) (h : Int) (m : Pm) : Prop where
  cap : m.s.cap = 30
  hi : m.s.high = h
  gen : m.gen = 2
  hor : m.hor = 1
  ver : ∀ p ∈ m.s.m, p.2 = 2
  f : ∀ p ∈ m.f, 2 + (n : Int) ≤ p.1 ∧ p.1 < h
theorem Kp.drop {n : Nat} {m : Pm} (k : Kp n (2 + n) m) (no : Int) : Kp n (2 + n) (m.drop no) := by
  have hf : lookG m.f no = none := by
    cases hl : lookG m.f no with
    | none => rfl
    | some v => have := k.f _ (lookG_mem hl); omega
  unfold Pm.drop
  rw [hf, if_neg (by simp), k.gen]
  unfold PS.free
  split
  · exact ⟨k.cap, k.hi, rfl, k.hor, k.ver, k.f⟩
  · split
    · exact ⟨k.cap, k.hi, rfl, k.hor, k.ver, k.f⟩
    · refine ⟨k.cap, k.hi, rfl, k.hor, fun p hp => ?_, k.f⟩
      rcases mem_ins hp with rfl | h
      · rfl
      · exact k.ver p h
theorem Kp.put {n : Nat} {h : Int} {m : Pm} (k : Kp n h m) (hh : h < 30) (hn : 2 + (n : Int) ≤ h) {l : List Int} (hl : l.length ≤ 1016) : Kp n (h + 1) (m.put l).2 := by
  have ha : m.s.alloc m.hor = ((h, 0), ⟨30, h + 1, m.s.m⟩) := by
    unfold PS.alloc
    have : m.s.m.find? (fun p => decide (p.2 ≤ m.hor)) = none := by
      rw [List.find?_eq_none]
      intro p hp
      have := k.ver p hp
      simp [k.hor, this]
    rw [this]
    simp only
    rw [k.hi, k.cap, if_neg (by omega)]
  unfold Pm.put
  rw [if_neg (by omega), ha]
  simp only [if_pos]
  refine ⟨rfl, rfl, k.gen, k.hor, k.ver, fun p hp => ?_⟩
  rcases mem_insG hp with rfl | h2
  · exact ⟨hn, by simp only; omega⟩
  · have := k.f p h2; omega

theorem lastOf_none {α : Type} {ws : List (Int × α)} {x : Int} (h : ∀ p ∈ ws, p.1 ≠ x) : Ck.lastOf ws x = none := by
  cases hl : Ck.lastOf ws x with
  | none => rfl
  | some g => exact absurd rfl (h _ (Ck.lastOf_mem hl))
theorem lastOf_some {α : Type} {ws : List (Int × α)} {x : Int} {g : α} (h : (x, g) ∈ ws) (hu : ∀ p ∈ ws, p.1 = x → p.2 = g) : Ck.lastOf ws x = some g := by
  cases hl : Ck.lastOf ws x with
  | none =>
    exfalso
    simp only [Ck.lastOf, Option.map_eq_none_iff, List.find?_eq_none, List.mem_reverse] at hl
    have := hl _ h
    simp at this
  | some v => have := hu _ (Ck.lastOf_mem hl) rfl; simp only at this; rw [this]
/-- The disk behind the first Flush and Sync. -/
def ckK (ls : List (List Int)) (n : Nat) : Ck := ((ck0 30).pushes (pmK ls n).f).settle.rest
theorem ckK_sync {ls : List (List Int)} {n : Nat} : ((ck0 30).pushes (pmK ls n).f).sync = (0, ckK ls n) := by
  unfold Ck.sync
  rw [if_neg (show ¬ ((ck0 30).pushes (pmK ls n).f).down = true from Bool.false_ne_true)]
  have e : ((ck0 30).pushes (pmK ls n).f).tick = ((ck0 30).pushes (pmK ls n).f, false) := by
    unfold Ck.tick
    rw [if_pos (show ((ck0 30).pushes (pmK ls n).f).left = 0 from rfl)]
  rw [e, if_neg (by simp)]; rfl
theorem ckK_len {ls : List (List Int)} {n : Nat} : (ckK ls n).safe.length = 30 := by
  show (((List.range ((ck0 30).pushes (pmK ls n).f).safe.length).map _) : List (List Int)).length = 30
  rw [List.length_map, List.length_range]
  exact List.length_replicate ..
theorem ckK_there {ls : List (List Int)} {n : Nat} {x : Int} (h0 : 0 ≤ x) (h : x < 30) : (ckK ls n).there x = true := by
  unfold Ck.there; rw [ckK_len]; simp; omega
/-- What is read behind the second Flush. -/
theorem keeps_read {ls : List (List Int)} {n : Nat} {h : Int} {m : Pm} (k : Kp n h m) (hn : n ≤ 8) {i : Nat} (hi : i < n) (hs : (ls.getD i []).length ≤ 1016) :
    m.read ((ckK ls n).pushes m.f) (2 + (i : Int)) = (pad 1016 (ls.getD i []), 0) := by
  have hf : lookG m.f (2 + (i : Int)) = none := by
    cases hl : lookG m.f (2 + (i : Int)) with
    | none => rfl
    | some v => have := k.f _ (lookG_mem hl); simp only at this; omega
  unfold Pm.read
  rw [hf]
  simp only
  have hth : ((ckK ls n).pushes m.f).there (2 + (i : Int)) = true := ckK_there (ls := ls) (n := n) (by omega) (by omega)
  have hseen : ((ckK ls n).pushes m.f).seen (2 + (i : Int)) = fr (2 + (i : Int)) (ls.getD i []) := by
    unfold Ck.seen
    have h1 : Ck.lastOf ((ckK ls n).pushes m.f).wait (2 + (i : Int)) = none := by
      apply lastOf_none
      intro p hp
      have hp2 : p ∈ m.f.map (fun p => (p.1, fr p.1 p.2)) := hp
      obtain ⟨q, hq, rfl⟩ := List.mem_map.1 hp2
      have := k.f q hq
      simp only
      omega
    rw [h1, Option.getD_none]
    have h2 : ((ckK ls n).pushes m.f).safe = (List.range 30).map fun j : Nat => ((ck0 30).pushes (pmK ls n).f).seen j := by
      have hl : ((ck0 30).pushes (pmK ls n).f).safe.length = 30 := List.length_replicate ..
      show (List.range ((ck0 30).pushes (pmK ls n).f).safe.length).map (fun j : Nat => ((ck0 30).pushes (pmK ls n).f).seen j) = _
      rw [hl]
    rw [h2, show (2 + (i : Int)).toNat = 2 + i by omega, List.getD_eq_getElem?_getD, List.getElem?_map, List.getElem?_range (by omega)]
    simp only [Option.map_some, Option.getD_some]
    unfold Ck.seen
    have h3 : Ck.lastOf ((ck0 30).pushes (pmK ls n).f).wait ((2 + i : Nat) : Int) = some (fr (2 + (i : Int)) (ls.getD i [])) := by
      apply lastOf_some
      · have : ((2 + (i : Int)), fr (2 + (i : Int)) (ls.getD i [])) ∈ (pmK ls n).f.map (fun p => (p.1, fr p.1 p.2)) := List.mem_map.2 ⟨_, pmK_mem.2 ⟨i, hi, rfl⟩, rfl⟩
        have e : ((2 + i : Nat) : Int) = 2 + (i : Int) := by omega
        rw [e]
        exact this
      · intro p hp he
        have hp2 : p ∈ (pmK ls n).f.map (fun p => (p.1, fr p.1 p.2)) := hp
        obtain ⟨q, hq, rfl⟩ := List.mem_map.1 hp2
        obtain ⟨j, hj, rfl⟩ := pmK_mem.1 hq
        simp only at he ⊢
        obtain rfl : j = i := by omega
        rfl
    rw [h3, Option.getD_some]
  unfold Ck.load
  rw [hseen, if_pos ⟨hth, okPage_fr hs (by omega) (by omega)⟩, fr_take hs]
end Go.Proofs.Ytgimdodbajhpoaa
