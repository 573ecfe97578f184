/- Maps from whole numbers to whatever, as sorted lists. -/
import Derived.Test.YtgimdodbajhpoaaSl
namespace Go.Proofs.Ytgimdodbajhpoaa
open Go.RowKit Go.Maps
set_option linter.unusedSimpArgs false
set_option linter.unusedVariables false

section
variable {α β H : Type}
def SrtG (m : List (Int × α)) : Prop := m.Pairwise fun a b => a.1 < b.1
def mapG (f : α → DataW H) (m : List (Int × α)) : DataW H := .map (m.map fun p => (.int .i64 p.1, f p.2))
def lookG (m : List (Int × α)) (x : Int) : Option α := (m.find? fun p => p.1 == x).map (·.2)
def insG (x : Int) (v : α) : List (Int × α) → List (Int × α)
  | [] => [(x, v)]
  | a :: r => if x < a.1 then (x, v) :: a :: r else if x = a.1 then (x, v) :: r else a :: insG x v r
def cutG (m : List (Int × α)) (x : Int) : List (Int × α) := m.filter fun p => p.1 != x
theorem has_mapG (f : α → DataW H) (m : List (Int × α)) (x : Int) : Maps.has (mapG f m) (.int .i64 x) = (lookG m x).isSome := by
  induction m with
  | nil => rfl
  | cons a r ih =>
    simp only [Maps.has, mapG, List.map_cons, List.any_cons, sameKey_int, lookG, List.find?_cons] at ih ⊢
    cases h : (a.1 == x)
    · simpa using ih
    · simp
theorem atKey_mapG (f : α → DataW H) (m : List (Int × α)) (x : Int) (zd : DataW H) : (mapG f m).atKey (.int .i64 x) zd = ((lookG m x).map f).getD zd := by
  induction m with
  | nil => rfl
  | cons a r ih =>
    simp only [mapG, DataW.atKey, List.map_cons, List.find?_cons, sameKey_int, lookG] at ih ⊢
    cases h : (a.1 == x)
    · simpa using ih
    · simp
theorem size_mapG (f : α → DataW H) (m : List (Int × α)) : Maps.size (mapG f m) = m.length := by simp [Maps.size, mapG]
theorem del_mapG (f : α → DataW H) (m : List (Int × α)) (x : Int) : (mapG f m).del (.int .i64 x) = mapG f (cutG m x) := by
  simp only [DataW.del, mapG, cutG, List.filter_map]
  congr 2
  apply List.filter_congr
  intro p _
  simp [Function.comp, sameKey_int, bne]
theorem insert_mapG (f : α → DataW H) (x : Int) (v : α) : ∀ m : List (Int × α), SrtG m →
    DataW.insert (.int .i64 x, f v) ((m.map fun p => (Lit.int .i64 p.1, f p.2)).filter fun p => !p.1.sameKey (.int .i64 x)) = (insG x v m).map fun p => (Lit.int .i64 p.1, f p.2)
  | [], _ => rfl
  | a :: r, h => by
    obtain ⟨h1, h2⟩ := List.pairwise_cons.1 h
    have ih := insert_mapG f x v r h2
    have hall : ∀ y : Int, (∀ p ∈ r, y < p.1) → x ≤ y → ((r.map fun p => (Lit.int .i64 p.1, f p.2)).filter fun p => !p.1.sameKey (.int .i64 x)) = r.map fun p => (Lit.int .i64 p.1, f p.2) := by
      intro y hy hxy
      rw [List.filter_eq_self]
      intro p hp
      obtain ⟨p0, hp0, rfl⟩ := List.mem_map.1 hp
      have := hy p0 hp0
      simp [sameKey_int]; omega
    unfold insG
    by_cases c1 : x < a.1
    · rw [if_pos c1]
      simp only [List.map_cons, List.filter_cons, sameKey_int]
      have c2 : (a.1 == x) = false := by simp; omega
      rw [c2, hall a.1 h1 (by omega)]
      simp [DataW.insert, Lit.before, c1]
    · rw [if_neg c1]
      by_cases c2 : x = a.1
      · rw [if_pos c2]
        simp only [List.map_cons, List.filter_cons, sameKey_int]
        have c3 : (a.1 == x) = true := by simp; omega
        rw [c3, hall a.1 h1 (by omega)]
        simp only [Bool.not_true, Bool.false_eq_true, if_false]
        cases r with
        | nil => rfl
        | cons b r =>
          have := h1 b (by simp)
          simp [DataW.insert, Lit.before]; omega
      · rw [if_neg c2]
        simp only [List.map_cons, List.filter_cons, sameKey_int]
        have c3 : (a.1 == x) = false := by simp; omega
        rw [c3]
        have c4 : (Lit.int .i64 x).before (.int .i64 a.1) = false := by simp [Lit.before]; omega
        simp only [Bool.not_false, if_true, DataW.insert, c4, ih, Bool.false_eq_true, if_false]
theorem put_mapG (f : α → DataW H) {m : List (Int × α)} (h : SrtG m) (x : Int) (v : α) : (mapG f m).put (.int .i64 x) (f v) = mapG f (insG x v m) := by
  show DataW.map _ = DataW.map _
  rw [insert_mapG f x v m h]
theorem mem_insG {x : Int} {v : α} {p : Int × α} : ∀ {m : List (Int × α)}, p ∈ insG x v m → p = (x, v) ∨ p ∈ m
  | [], h => by simp [insG] at h; exact Or.inl h
  | a :: r, h => by
    unfold insG at h
    split at h
    · simp at h ⊢; exact h
    · split at h
      · simp at h ⊢; rcases h with h | h
        · exact Or.inl h
        · exact Or.inr (Or.inr h)
      · simp at h ⊢
        rcases h with h | h
        · exact Or.inr (Or.inl h)
        · rcases mem_insG h with h | h
          · exact Or.inl h
          · exact Or.inr (Or.inr h)
theorem SrtG.ins {x : Int} {v : α} : ∀ {m : List (Int × α)}, SrtG m → SrtG (insG x v m)
  | [], _ => by simp [insG, SrtG]
  | a :: r, h => by
    obtain ⟨h1, h2⟩ := List.pairwise_cons.1 h
    unfold insG
    split
    · rename_i c; exact List.pairwise_cons.2 ⟨fun p hp => by rcases List.mem_cons.1 hp with rfl | hp; exact c; have := h1 p hp; simp; omega, h⟩
    · split
      · rename_i c; exact List.pairwise_cons.2 ⟨fun p hp => by have := h1 p hp; simp; omega, h2⟩
      · rename_i c1 c2
        refine List.pairwise_cons.2 ⟨fun p hp => ?_, SrtG.ins h2⟩
        rcases mem_insG hp with rfl | hp
        · simp; omega
        · exact h1 p hp
theorem SrtG.cut {m : List (Int × α)} (h : SrtG m) (x : Int) : SrtG (cutG m x) := h.filter _
theorem insG_len (x : Int) (v : α) : ∀ m : List (Int × α), (insG x v m).length ≤ m.length + 1
  | [] => by simp [insG]
  | a :: r => by
    unfold insG
    split
    · simp
    · split
      · simp
      · have := insG_len x v r; simp; omega
theorem lookG_mem {m : List (Int × α)} {x : Int} {v : α} (h : lookG m x = some v) : (x, v) ∈ m := by
  simp only [lookG, Option.map_eq_some_iff] at h
  obtain ⟨p, hp, rfl⟩ := h
  have h1 := List.find?_some hp
  simp at h1
  have h2 := List.mem_of_find?_eq_some hp
  rw [← h1]; exact h2
theorem lookG_of_mem {m : List (Int × α)} (h : SrtG m) {p : Int × α} (hp : p ∈ m) : lookG m p.1 = some p.2 := by
  induction m with
  | nil => simp at hp
  | cons a r ih =>
    obtain ⟨h1, h2⟩ := List.pairwise_cons.1 h
    rcases List.mem_cons.1 hp with rfl | hp'
    · simp [lookG]
    · have := h1 p hp'
      have e : (a.1 == p.1) = false := by simp; omega
      have := ih h2 hp'
      simp only [lookG, List.find?_cons, e] at this ⊢
      exact this
theorem SrtG.small : ∀ {m : List (Int × α)} {lo hi : Int}, SrtG m → (∀ x ∈ m, lo ≤ x.1 ∧ x.1 < hi) → lo ≤ hi → (m.length : Int) ≤ hi - lo
  | [], lo, hi, _, _, h => by simp; omega
  | a :: r, lo, hi, hs, hb, h => by
    obtain ⟨h1, h2⟩ := List.pairwise_cons.1 hs
    have ha := hb a (by simp)
    have := SrtG.small (lo := a.1 + 1) (hi := hi) h2 (fun x hx => ⟨by have := h1 x hx; omega, (hb x (by simp [hx])).2⟩) (by omega)
    simp; omega
/-- The elements changed. -/
def mapV (f : α → β) (m : List (Int × α)) : List (Int × β) := m.map fun p => (p.1, f p.2)
theorem mapV_len (f : α → β) (m : List (Int × α)) : (mapV f m).length = m.length := by simp [mapV]
theorem mapV_look (f : α → β) (m : List (Int × α)) (x : Int) : lookG (mapV f m) x = (lookG m x).map f := by
  induction m with
  | nil => rfl
  | cons a r ih =>
    simp only [lookG, mapV, List.map_cons, List.find?_cons] at ih ⊢
    cases h : (a.1 == x)
    · simpa using ih
    · simp
theorem mapV_ins (f : α → β) (x : Int) (v : α) : ∀ m : List (Int × α), mapV f (insG x v m) = insG x (f v) (mapV f m)
  | [] => rfl
  | a :: r => by
    unfold insG mapV
    simp only [List.map_cons]
    by_cases c1 : x < a.1
    · rw [if_pos c1, if_pos c1]; rfl
    · rw [if_neg c1, if_neg c1]
      by_cases c2 : x = a.1
      · rw [if_pos c2, if_pos c2]; rfl
      · rw [if_neg c2, if_neg c2]
        have := mapV_ins f x v r
        unfold mapV at this
        rw [List.map_cons, this]
theorem mapV_cut (f : α → β) (m : List (Int × α)) (x : Int) : mapV f (cutG m x) = cutG (mapV f m) x := by
  unfold mapV cutG
  rw [List.filter_map]; rfl
theorem mapV_srt {f : α → β} {m : List (Int × α)} (h : SrtG m) : SrtG (mapV f m) := by
  unfold SrtG mapV at *; rw [List.pairwise_map]; exact h
theorem lookG_ins {x y : Int} {v : α} {m : List (Int × α)} (h : SrtG m) : lookG (insG x v m) y = if y = x then some v else lookG m y := by
  induction m with
  | nil =>
    simp only [insG, lookG, List.find?_cons, List.find?_nil]
    by_cases e : y = x
    · simp [e]
    · have : (x == y) = false := by simp; omega
      simp [this, e]
  | cons a r ih =>
    obtain ⟨h1, h2⟩ := List.pairwise_cons.1 h
    have ih := ih h2
    unfold insG
    by_cases c1 : x < a.1
    · rw [if_pos c1]
      simp only [lookG, List.find?_cons]
      by_cases e : y = x
      · simp [e]
      · have : (x == y) = false := by simp; omega
        simp [this, e]
    · rw [if_neg c1]
      by_cases c2 : x = a.1
      · rw [if_pos c2]
        simp only [lookG, List.find?_cons]
        by_cases e : y = x
        · simp [e]
        · have e1 : (x == y) = false := by simp; omega
          have e2 : (a.1 == y) = false := by simp; omega
          simp [e1, e2, e]
      · rw [if_neg c2]
        simp only [lookG, List.find?_cons] at ih ⊢
        by_cases e : a.1 = y
        · have e1 : (a.1 == y) = true := by simp [e]
          have e2 : ¬ y = x := by omega
          simp [e1, e2]
        · have e1 : (a.1 == y) = false := by simp [e]
          rw [e1]; exact ih
theorem lookG_cut {x y : Int} (m : List (Int × α)) : lookG (cutG m x) y = if y = x then none else lookG m y := by
  induction m with
  | nil => simp [cutG, lookG]
  | cons a r ih =>
    simp only [cutG, lookG, List.filter_cons] at ih ⊢
    by_cases e : a.1 = x
    · have e1 : (a.1 != x) = false := by simp [e]
      rw [e1]
      simp only [Bool.false_eq_true, if_false]
      rw [ih]
      by_cases e2 : y = x
      · rw [if_pos e2, if_pos e2]
      · have e3 : (a.1 == y) = false := by simp; omega
        rw [if_neg e2, if_neg e2, List.find?_cons, e3]
    · have e1 : (a.1 != x) = true := by simp [e]
      rw [e1, if_pos rfl, List.find?_cons, List.find?_cons]
      by_cases e2 : a.1 = y
      · have e3 : (a.1 == y) = true := by simp [e2]
        have e4 : ¬ y = x := by omega
        simp [e3, e4]
      · have e3 : (a.1 == y) = false := by simp [e2]
        rw [e3]; exact ih
end
end Go.Proofs.Ytgimdodbajhpoaa
