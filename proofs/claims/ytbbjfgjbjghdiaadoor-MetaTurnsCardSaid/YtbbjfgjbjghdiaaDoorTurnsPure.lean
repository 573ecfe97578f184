/- Versions one behind the other, the power going: what is told behind each turn. -/
import Derived.Test.YtbbjfgjbjghdiaaDoorCrash
import Derived.Test.YtbbjfgjbjghdiaaDoorMetaPure
namespace Go.Proofs.YtbbjfgjbjghdiaaDoor
open Go.RowKit Go.Maps
set_option linter.unusedSimpArgs false
set_option linter.unusedVariables false

theorem okPage_torn {no : Int} {l : List Int} (h : l.length ≤ 1016) : okPage no (tornP (fr no l)) = false := by
  have hl := fr0_len (no := no) h
  have hc := crcv_range (fr0 no l)
  obtain ⟨b0, b1, b2, b3, hb⟩ : ∃ b0 b1 b2 b3, be 4 (crcv (fr0 no l)) = [b0, b1, b2, b3] := ⟨_, _, _, _, rfl⟩
  have hfr : fr no l = fr0 no l ++ [b0, b1, b2, b3] := by unfold fr; rw [hb]
  have ht : tornP (fr no l) = fr0 no l ++ [b0, b1, b2, 255 - b3] := by
    unfold tornP
    rw [hfr]
    have hg : (fr0 no l ++ [b0, b1, b2, b3]).getD 1023 0 = b3 := by
      rw [List.getD_eq_getElem?_getD, List.getElem?_append_right (by rw [hl]; omega), hl]; rfl
    rw [hg, List.set_append_right _ _ (by rw [hl]; omega), hl]; rfl
  have e1 : (tornP (fr no l)).drop 1020 = [b0, b1, b2, 255 - b3] := by rw [ht, List.drop_append, List.drop_of_length_le (by rw [hl]; omega), hl]; rfl
  have e2 : (tornP (fr no l)).take 1020 = fr0 no l := by rw [ht, List.take_append_of_le_length (by rw [hl]; omega), List.take_of_length_le (by rw [hl]; omega)]
  have u1 := un4_be [] (v := crcv (fr0 no l)) (by omega) (by omega)
  rw [List.append_nil, hb] at u1
  have u2 : un4 [b0, b1, b2, b3] 4 = ((b0 * 256 + b1) * 256 + b2) * 256 + b3 := by simp [un4]
  have u3 : un4 [b0, b1, b2, 255 - b3] 4 = ((b0 * 256 + b1) * 256 + b2) * 256 + (255 - b3) := by simp [un4]
  unfold okPage
  rw [e1, e2, u3]
  rw [u2] at u1
  have : (((b0 * 256 + b1) * 256 + b2) * 256 + (255 - b3) != crcv (fr0 no l)) = true := by simp; omega
  rw [this]; rfl

def mg (g : Int) : Mt := ⟨g, 2, 0, 0⟩
theorem mg_may {g : Int} (h1 : 1 ≤ g) (h2 : g ≤ 1152921504606846976) : (mg g).may = true := by
  simp [Mt.may, mg, mayPgM, h1, h2]
namespace Ck
/-- Behind a turn the newest is of number g. -/
structure Turn (k : Ck) (g : Int) : Prop where
  on : k.On
  idle : k.wait = []
  here : k.told (g % 2) = (mg g, true)
  other : (k.told ((g + 1) % 2)).2 = true → (k.told ((g + 1) % 2)).1.gen < g
theorem told_newest {k : Ck} {g : Int} (hg : 1 ≤ g) (here : k.told (g % 2) = (mg g, true)) (other : (k.told ((g + 1) % 2)).2 = true → (k.told ((g + 1) % 2)).1.gen < g) : k.newest = (mg g, 0) := by
  have hn0 : newer mt0 (mg g, true) = mg g := by unfold newer; rw [if_pos ⟨rfl, by simp [mt0, mg]; omega⟩]
  have hm : (mg g).gen = g := rfl
  have hb : k.best 2 = mg g := by
    show newer (newer mt0 (k.told 0)) (k.told 1) = mg g
    have p : g % 2 = 0 ∨ g % 2 = 1 := by omega
    rcases p with p | p
    · have q : (g + 1) % 2 = 1 := by omega
      rw [p] at here; rw [q] at other
      rw [here, hn0]
      unfold newer
      rw [if_neg (fun h => by have := other h.1; rw [hm] at h; omega)]
    · have q : (g + 1) % 2 = 0 := by omega
      rw [p] at here; rw [q] at other
      rw [here]
      by_cases h : (k.told 0).2 = true
      · have h1 := other h
        unfold newer
        rw [if_pos]
        refine ⟨rfl, ?_⟩
        split
        · exact h1
        · simp [mg, mt0]; omega
      · rw [newer_false (b := mt0) (by simpa using h), hn0]
  unfold newest
  rw [hb, if_neg (by rw [hm]; omega)]
theorem Turn.newest {k : Ck} {g : Int} (h : k.Turn g) (hg : 1 ≤ g) : k.newest = (mg g, 0) := told_newest hg h.here h.other
theorem idle_eq {k : Ck} (h : k.On) (hw : k.wait = []) : k = ⟨k.safe, [], 0, false⟩ := by
  obtain ⟨s, w, l, d⟩ := k
  obtain ⟨h1, h2, h3⟩ := h
  simp only at h1 h2 h3 hw
  subst h2; subst h3; subst hw; rfl
theorem told_safe (s : List (List Int)) (n : Int) (l : Int) (d : Bool) : (⟨s, [], l, d⟩ : Ck).told n = (⟨s, [], 0, false⟩ : Ck).told n := rfl
theorem seen_idle (s : List (List Int)) (n l : Int) (d : Bool) : (⟨s, [], l, d⟩ : Ck).seen n = s.getD n.toNat [] := rfl
/-- A page of two is set. -/
theorem told_set_other {s : List (List Int)} {p n : Int} (X : List Int) (hp : 0 ≤ p) (hn : 0 ≤ n) (h : p ≠ n) : (⟨s.set p.toNat X, [], 0, false⟩ : Ck).told n = (⟨s, [], 0, false⟩ : Ck).told n := by
  have h1 : (⟨s.set p.toNat X, [], 0, false⟩ : Ck).there n = (⟨s, [], 0, false⟩ : Ck).there n := by unfold there; simp
  have h2 : (⟨s.set p.toNat X, [], 0, false⟩ : Ck).seen n = (⟨s, [], 0, false⟩ : Ck).seen n := by
    rw [seen_idle, seen_idle, List.getD_eq_getElem?_getD, List.getD_eq_getElem?_getD, List.getElem?_set_ne (by omega)]
  unfold told
  rw [h1, h2]
theorem seen_set {s : List (List Int)} {p : Int} (X : List Int) (hp : 0 ≤ p) (hl : p < s.length) : (⟨s.set p.toNat X, [], 0, false⟩ : Ck).seen p = X := by
  rw [seen_idle, List.getD_eq_getElem?_getD, List.getElem?_set_self (by omega)]; rfl
theorem there_two {s : List (List Int)} (hs : s.length = 2) {n : Int} (hn : n = 0 ∨ n = 1) : (⟨s, [], 0, false⟩ : Ck).there n = true := by
  unfold there; rw [hs]; rcases hn with rfl | rfl <;> rfl
theorem set_new {s : List (List Int)} {g : Int} (h : (⟨s, [], 0, false⟩ : Ck).Turn g) (h1 : 1 ≤ g) (h2 : g + 1 ≤ 1152921504606846976) :
    (⟨s.set ((g + 1) % 2).toNat (fr ((g + 1) % 2) (payM (mg (g + 1)))), [], 0, false⟩ : Ck).Turn (g + 1) := by
  have hs : s.length = 2 := h.on.two
  have p : (g + 1) % 2 = 0 ∨ (g + 1) % 2 = 1 := by omega
  refine ⟨⟨by simp [hs], rfl, rfl⟩, rfl, ?_, ?_⟩
  · refine told_fr (m := mg (g + 1)) (there_two (by simp [hs]) p) (seen_set _ (by omega) (by rw [hs]; omega)) (mg_may (by omega) h2) rfl
  · rw [show (g + 1 + 1) % 2 = g % 2 from by omega, told_set_other _ (by omega) (by omega) (by omega), h.here]
    intro _; simp [mg]; omega
theorem set_torn {s : List (List Int)} {g : Int} (h : (⟨s, [], 0, false⟩ : Ck).Turn g) (l : List Int) (hl : l.length ≤ 1016) :
    (⟨s.set ((g + 1) % 2).toNat (tornP (fr ((g + 1) % 2) l)), [], 0, false⟩ : Ck).Turn g := by
  have hs : s.length = 2 := h.on.two
  have p : (g + 1) % 2 = 0 ∨ (g + 1) % 2 = 1 := by omega
  refine ⟨⟨by simp [hs], rfl, rfl⟩, rfl, ?_, ?_⟩
  · rw [told_set_other _ (by omega) (by omega) (by omega), h.here]
  · intro h1
    unfold told at h1
    rw [seen_set _ (by omega) (by rw [hs]; omega), okPage_torn hl] at h1
    simp at h1
/-- One turn. -/
def turnE (k : Ck) (n g : Int) : Int × Ck := (k.arm n).mwrite (mg (g + 1))
def turnF (k : Ck) (n g : Int) : Int × Ck := (k.turnE n g).2.sync
def turnC (k : Ck) (n g : Int) (keep : List Bool) (torn : Int) : Ck := (k.turnF n g).2.crash keep torn
theorem turn_spec {k : Ck} {g : Int} (h : k.Turn g) (h1 : 1 ≤ g) (h2 : g + 1 ≤ 1152921504606846976) (n : Int) (keep : List Bool) (torn : Int) :
    ((k.turnC n g keep torn).Turn g ∧ ¬ ((k.turnE n g).1 = 0 ∧ (k.turnF n g).1 = 0)) ∨ (k.turnC n g keep torn).Turn (g + 1) := by
  obtain ⟨s, hk⟩ : ∃ s, k = ⟨s, [], 0, false⟩ := ⟨_, idle_eq h.on h.idle⟩
  subst hk
  have hs : s.length = 2 := h.on.two
  have hp : (g + 1) % 2 = 0 ∨ (g + 1) % 2 = 1 := by omega
  obtain ⟨p, hpd⟩ : ∃ p, p = (g + 1) % 2 := ⟨_, rfl⟩
  obtain ⟨F, hF⟩ : ∃ F, F = fr p (payM (mg (g + 1))) := ⟨_, rfl⟩
  have hFl : F.length = 1024 := by rw [hF]; exact fr_len (by have := payM_len (mg (g + 1)); omega)
  have hE : (⟨s, [], 0, false⟩ : Ck).turnE n g = (⟨s, [], max n 0, false⟩ : Ck).write p F := by
    unfold turnE mwrite
    rw [if_neg (by rw [mg_may (by omega) h2]; simp), hF, hpd]; rfl
  have hth : (⟨s, [], max n 0, false⟩ : Ck).there p = true := by unfold there; rw [hs]; rw [← hpd] at hp; rcases hp with rfl | rfl <;> rfl
  have hE2 : (⟨s, [], 0, false⟩ : Ck).turnE n g = (if ((⟨s, [], max n 0, false⟩ : Ck).push p F).tick.2 = true then 3 else 0, ((⟨s, [], max n 0, false⟩ : Ck).push p F).tick.1) := by
    rw [hE]; unfold write; rw [if_neg (by rw [hth, hFl]; simp), if_neg (by simp)]
  have hpush : (⟨s, [], max n 0, false⟩ : Ck).push p F = ⟨s, [(p, F)], max n 0, false⟩ := rfl
  rw [hpush] at hE2
  -- what the crash leaves where the write waits
  have hc1 : ∀ (l : Int) (d : Bool), ((⟨s, [(p, F)], l, d⟩ : Ck).crash keep torn).Turn g ∨ ((⟨s, [(p, F)], l, d⟩ : Ck).crash keep torn).Turn (g + 1) := by
    intro l d
    have e : (⟨s, [(p, F)], l, d⟩ : Ck).crash keep torn = ⟨if keep.getD 0 false = true then s.set p.toNat (if (0 : Int) = torn then tornP F else F) else s, [], 0, false⟩ := rfl
    rw [e]
    by_cases c1 : keep.getD 0 false = true
    · rw [if_pos c1]
      by_cases c2 : (0 : Int) = torn
      · rw [if_pos c2, hF, hpd]; exact Or.inl (set_torn h _ (by have := payM_len (mg (g + 1)); omega))
      · rw [if_neg c2, hF, hpd]; exact Or.inr (set_new h h1 h2)
    · rw [if_neg c1]; exact Or.inl h
  -- what it leaves where all was safe
  have hc2 : ∀ (l : Int) (d : Bool), (((⟨s, [(p, F)], l, d⟩ : Ck).settle.rest).crash keep torn).Turn (g + 1) := by
    intro l d
    have hset : (⟨s, [(p, F)], l, d⟩ : Ck).settle.rest = ⟨s.set p.toNat F, [], l, d⟩ := by
      obtain ⟨a, b, rfl⟩ : ∃ a b, s = [a, b] := by
        match s, hs with
        | [a, b], _ => exact ⟨a, b, rfl⟩
      rw [← hpd] at hp
      rcases hp with rfl | rfl <;> rfl
    rw [hset]
    have e : (⟨s.set p.toNat F, [], l, d⟩ : Ck).crash keep torn = ⟨s.set p.toNat F, [], 0, false⟩ := rfl
    rw [e, hF, hpd]; exact set_new h h1 h2
  have hm : 0 ≤ max n 0 := by omega
  generalize max n 0 = m at *
  by_cases m0 : m = 0
  · subst m0
    right
    have t1 : (⟨s, [(p, F)], 0, false⟩ : Ck).tick = (⟨s, [(p, F)], 0, false⟩, false) := by unfold tick; rw [if_pos rfl]
    have hF2 : (⟨s, [], 0, false⟩ : Ck).turnF n g = (0, (⟨s, [(p, F)], 0, false⟩ : Ck).settle.rest) := by
      unfold turnF; rw [hE2, t1]; simp only; unfold sync; rw [if_neg (by simp), t1]; rfl
    unfold turnC; rw [hF2]; exact hc2 0 false
  · have t1 : (⟨s, [(p, F)], m, false⟩ : Ck).tick = (⟨s, [(p, F)], m - 1, m - 1 == 0⟩, m - 1 == 0) := by unfold tick; rw [if_neg m0]
    rw [t1] at hE2
    simp only at hE2
    by_cases m1 : m - 1 = 0
    · have hb : (m - 1 == 0) = true := by simpa using m1
      rw [hb] at hE2
      have hF2 : (⟨s, [], 0, false⟩ : Ck).turnF n g = (3, ⟨s, [(p, F)], m - 1, true⟩) := by
        unfold turnF; rw [hE2]; unfold sync; rw [if_pos rfl]
      have hC : (⟨s, [], 0, false⟩ : Ck).turnC n g keep torn = (⟨s, [(p, F)], m - 1, true⟩ : Ck).crash keep torn := by unfold turnC; rw [hF2]
      rw [hC, hF2]
      rcases hc1 (m - 1) true with h3 | h3
      · exact Or.inl ⟨h3, fun h => by simp at h⟩
      · exact Or.inr h3
    · have hb : (m - 1 == 0) = false := by simpa using m1
      rw [hb] at hE2
      have t2 : (⟨s, [(p, F)], m - 1, false⟩ : Ck).tick = (⟨s, [(p, F)], m - 1 - 1, m - 1 - 1 == 0⟩, m - 1 - 1 == 0) := by unfold tick; rw [if_neg m1]
      by_cases m2 : m - 1 - 1 = 0
      · have hb2 : (m - 1 - 1 == 0) = true := by simpa using m2
        rw [hb2] at t2
        have hF2 : (⟨s, [], 0, false⟩ : Ck).turnF n g = (3, ⟨s, [(p, F)], m - 1 - 1, true⟩) := by
          unfold turnF; rw [hE2]; unfold sync; rw [if_neg (by simp)]; simp only [t2]; rfl
        have hC : (⟨s, [], 0, false⟩ : Ck).turnC n g keep torn = (⟨s, [(p, F)], m - 1 - 1, true⟩ : Ck).crash keep torn := by unfold turnC; rw [hF2]
        rw [hC, hF2]
        rcases hc1 (m - 1 - 1) true with h3 | h3
        · exact Or.inl ⟨h3, fun h => by simp at h⟩
        · exact Or.inr h3
      · have hb2 : (m - 1 - 1 == 0) = false := by simpa using m2
        rw [hb2] at t2
        have hF2 : (⟨s, [], 0, false⟩ : Ck).turnF n g = (0, (⟨s, [(p, F)], m - 1 - 1, false⟩ : Ck).settle.rest) := by
          unfold turnF; rw [hE2]; unfold sync; rw [if_neg (by simp)]; simp only [t2]; rfl
        right
        unfold turnC; rw [hF2]; exact hc2 _ false
end Ck
end Go.Proofs.YtbbjfgjbjghdiaaDoor
