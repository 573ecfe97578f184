/- What is written to a place is told from it. -/
import Derived.Test.YtbbjfgjbjghdiaaDoorMetaNewest
namespace Go.Proofs.YtbbjfgjbjghdiaaDoor
open Go.RowKit Go.Maps
set_option linter.unusedSimpArgs false
set_option linter.unusedVariables false

theorem fr_take {no : Int} {l : List Int} (h : l.length ≤ 1016) : (fr no l).take 1016 = pad 1016 l := by
  unfold fr fr0
  rw [List.append_assoc, List.take_append_of_le_length (by rw [pad_len h]; omega), List.take_of_length_le (by rw [pad_len h]; omega)]
theorem okPage_fr {no : Int} {l : List Int} (h : l.length ≤ 1016) (h0 : 0 ≤ no) (h1 : no ≤ 2147483647) : okPage no (fr no l) = true := by
  have hl := fr0_len (no := no) h
  have hc := crcv_range (fr0 no l)
  have e1 : (fr no l).drop 1020 = be 4 (crcv (fr0 no l)) := by
    unfold fr; rw [List.drop_append, List.drop_of_length_le (by rw [hl]; omega), hl]; rfl
  have e2 : (fr no l).take 1020 = fr0 no l := by
    unfold fr; rw [List.take_append_of_le_length (by rw [hl]; omega), List.take_of_length_le (by rw [hl]; omega)]
  have e3 : ((fr no l).drop 1016).take 4 = be 4 no := by
    unfold fr fr0
    rw [List.append_assoc, List.drop_append, List.drop_of_length_le (by rw [pad_len h]; omega), pad_len h]
    simp only [Nat.sub_self, List.drop_zero, List.nil_append]
    rw [List.take_append_of_le_length (by rw [be_len]; omega), List.take_of_length_le (by rw [be_len]; omega)]
  have u1 := un4_be [] (v := crcv (fr0 no l)) (by omega) (by omega)
  have u2 := un4_be [] (v := no) (by omega) (by omega)
  rw [List.append_nil] at u1 u2
  unfold okPage
  rw [e1, e2, e3, u1, u2]
  simp
theorem told_fr {k : Ck} {n : Int} {m : Mt} (ht : k.there n = true) (hs : k.seen n = fr n (payM m)) (hm : m.may = true) (hg : m.gen % 2 = n) : k.told n = (m, true) := by
  have hl := payM_len m
  have h01 : n = 0 ∨ n = 1 := by omega
  unfold Ck.told
  rw [if_neg (by rw [ht]; simp), hs, if_neg (by rw [okPage_fr (by omega) (by omega) (by omega)]; simp), fr_take (by omega), fromM_pay hm]
  simp [hg]
theorem fromM_zeros : fromM (List.replicate 1016 0) = (⟨0, 0, 0, 0⟩, 5) := by
  apply fromM_bad
  rintro ⟨_, h⟩
  unfold goodM at h
  rw [Bool.and_eq_true] at h
  have h1 := ((rdM (List.replicate 1016 0)).may_spec h.1).1.1
  have : (rdM (List.replicate 1016 0)).gen = 0 := by
    unfold rdM
    simp only [List.drop_replicate, List.take_replicate]
    rfl
  omega
theorem told_zeros {k : Ck} {n : Int} (hs : k.seen n = List.replicate 1024 0) : (k.told n).2 = false := by
  unfold Ck.told
  split
  · rfl
  · split
    · rfl
    · rw [hs, List.take_replicate]
      rw [show min 1016 1024 = 1016 from rfl, fromM_zeros]; rfl
theorem newer_false {b : Mt} {r : Mt × Bool} (h : r.2 = false) : newer b r = b := by unfold newer; rw [if_neg (by rw [h]; simp)]

namespace Ck
/-- A disk of two pages whose power is on. -/
structure On (k : Ck) : Prop where
  two : k.safe.length = 2
  left : k.left = 0
  down : k.down = false
theorem On.there {k : Ck} (h : k.On) {n : Int} (hn : n = 0 ∨ n = 1) : k.there n = true := by unfold Ck.there; rw [h.two]; rcases hn with rfl | rfl <;> rfl
theorem On.write {k : Ck} (h : k.On) {n : Int} (hn : n = 0 ∨ n = 1) {l : List Int} (hl : l.length = 1024) : k.write n l = (0, k.push n l) := by
  have ht : (k.push n l).tick = (k.push n l, false) := by unfold Ck.tick; rw [if_pos (show (k.push n l).left = 0 from h.left)]
  unfold Ck.write
  rw [if_neg (by rw [h.there hn, hl]; simp), if_neg (by rw [h.down]; simp), ht]
  rfl
theorem On.push {k : Ck} (h : k.On) (n : Int) (l : List Int) : (k.push n l).On := ⟨h.two, h.left, h.down⟩
theorem On.mwrite {k : Ck} (h : k.On) {m : Mt} (hm : m.may = true) : k.mwrite m = (0, k.push (m.gen % 2) (fr (m.gen % 2) (payM m))) := by
  unfold Ck.mwrite
  rw [if_neg (by rw [hm]; simp)]
  exact h.write (by omega) (fr_len (by have := payM_len m; omega))
theorem seen_push (k : Ck) (n : Int) (l : List Int) (x : Int) : (k.push n l).seen x = if n = x then l else k.seen x := by
  unfold Ck.seen Ck.push
  simp only [lastOf_push]
  by_cases h : n = x
  · simp [h]
  · simp [h]
end Ck
theorem ck0_on : (ck0 2).On := ⟨rfl, rfl, rfl⟩
theorem ck0_seen (n : Int) (h : n = 0 ∨ n = 1) : (ck0 2).seen n = List.replicate 1024 0 := by rcases h with rfl | rfl <;> rfl
end Go.Proofs.YtbbjfgjbjghdiaaDoor
