/- A meta: what it is, what its page says, plainly; whether one may be. -/
import Derived.Test.YtbbjfgjbjghdiaaDoorZeros
import Derived.Test.YtbbjfgjbjghdiaaDoorPayPure
import Derived.Test.YtbbjfgjbjghdiaaDoorTrim
import Derived.Test.YtbbjfgjbjghdiaaDoorNum4
import Derived.Laws.ResultCell
namespace Go.Proofs.YtbbjfgjbjghdiaaDoor
open Go.RowKit Go.Maps
set_option linter.unusedSimpArgs false
set_option linter.unusedVariables false

structure Mt where
  gen : Int
  high : Int
  root : Int
  free : Int
deriving DecidableEq
def Mt.cells (m : Mt) : Array Value := #[.int .u64 m.gen, .int .i64 m.high, .int .i64 m.root, .int .i64 m.free]
def mayPgM (no high : Int) : Bool := decide (no = 0) || (decide (2 ≤ no) && decide (no < high))
def Mt.may (m : Mt) : Bool := decide (1 ≤ m.gen) && decide (m.gen ≤ 1152921504606846976) && decide (2 ≤ m.high) && decide (m.high ≤ 2048) && mayPgM m.root m.high && mayPgM m.free m.high
def Mt.bytes (m : Mt) : List Int := [67, 65, 77, 66] ++ be 8 m.gen ++ be 4 m.high ++ be 4 m.root ++ be 4 m.free
def payM (m : Mt) : List Int := if m.may = true then m.bytes else []
theorem Mt.bytes_len (m : Mt) : m.bytes.length = 24 := by simp [Mt.bytes, be_len]
def rdM (b : List Int) : Mt := ⟨un ((b.drop 4).take 8), un4 (b.drop 12) 4, un4 (b.drop 16) 4, un4 (b.drop 20) 4⟩
def goodM (b : List Int) : Bool := (rdM b).may && decide (pad 1016 (rdM b).bytes = b)
def fromM (b : List Int) : Mt × Int := if b.length = 1016 ∧ goodM b = true then (rdM b, 0) else (⟨0, 0, 0, 0⟩, 5)
theorem fromM_bad {b : List Int} (h : ¬ (b.length = 1016 ∧ goodM b = true)) : fromM b = (⟨0, 0, 0, 0⟩, 5) := if_neg h
theorem fromM_good {b : List Int} (h1 : b.length = 1016) (h : goodM b = true) : fromM b = (rdM b, 0) := if_pos ⟨h1, h⟩
theorem Mt.may_spec {m : Mt} (h : m.may = true) : (1 ≤ m.gen ∧ m.gen ≤ 1152921504606846976) ∧ (2 ≤ m.high ∧ m.high ≤ 2048) ∧ (0 ≤ m.root ∧ m.root < 2048) ∧ (0 ≤ m.free ∧ m.free < 2048) := by
  simp only [Mt.may, mayPgM, Bool.and_eq_true, Bool.or_eq_true, decide_eq_true_eq] at h
  omega
theorem payM_len (m : Mt) : (payM m).length ≤ 24 := by unfold payM; split <;> simp [Mt.bytes_len]
theorem payM_nil {m : Mt} : payM m = [] ↔ m.may = false := by
  unfold payM; split
  · rename_i h; rw [h]
    have := m.bytes_len
    constructor
    · intro e; rw [e] at this; simp at this
    · simp
  · rename_i h; simpa using h
theorem Mt.bytes_wf (m : Mt) : ∀ x ∈ m.bytes, 0 ≤ x ∧ x < 256 := by
  intro x hx
  simp only [Mt.bytes, List.mem_append] at hx
  rcases hx with (((h | h) | h) | h) | h
  · simp at h; omega
  all_goals exact be_wf _ _ _ h
theorem payM_wf (m : Mt) : ∀ x ∈ payM m, 0 ≤ x ∧ x < 256 := by
  intro x hx; unfold payM at hx; split at hx
  · exact m.bytes_wf x hx
  · simp at hx
theorem rdM_bytes {m : Mt} (h : m.may = true) (z : List Int) : rdM (m.bytes ++ z) = m := by
  obtain ⟨h1, h2, h3, h4⟩ := m.may_spec h
  have b8 : ∃ a0 a1 a2 a3 a4 a5 a6 a7, be 8 m.gen = [a0, a1, a2, a3, a4, a5, a6, a7] := ⟨_, _, _, _, _, _, _, _, rfl⟩
  have e4 : (m.bytes ++ z).drop 4 = be 8 m.gen ++ (be 4 m.high ++ (be 4 m.root ++ (be 4 m.free ++ z))) := by simp [Mt.bytes]
  have e12 : (m.bytes ++ z).drop 12 = be 4 m.high ++ (be 4 m.root ++ (be 4 m.free ++ z)) := by
    rw [show 12 = 4 + 8 from rfl, ← List.drop_drop, e4, List.drop_append, List.drop_of_length_le (by rw [be_len]; omega), be_len]; rfl
  have e16 : (m.bytes ++ z).drop 16 = be 4 m.root ++ (be 4 m.free ++ z) := by
    rw [show 16 = 12 + 4 from rfl, ← List.drop_drop, e12, List.drop_append, List.drop_of_length_le (by rw [be_len]; omega), be_len]; rfl
  have e20 : (m.bytes ++ z).drop 20 = be 4 m.free ++ z := by
    rw [show 20 = 16 + 4 from rfl, ← List.drop_drop, e16, List.drop_append, List.drop_of_length_le (by rw [be_len]; omega), be_len]; rfl
  unfold rdM
  rw [e4, e12, e16, e20, un8_be _ (by omega) (by omega), un4_be _ (by omega) (by omega), un4_be _ (by omega) (by omega), un4_be _ (by omega) (by omega)]
theorem fromM_pay {m : Mt} (h : m.may = true) : fromM (pad 1016 (payM m)) = (m, 0) := by
  have e : pad 1016 (payM m) = m.bytes ++ List.replicate (1016 - m.bytes.length) 0 := by rw [payM, if_pos h]; rfl
  have hr : rdM (pad 1016 (payM m)) = m := by rw [e]; exact rdM_bytes h _
  have hg : goodM (pad 1016 (payM m)) = true := by
    unfold goodM; rw [hr, h, payM, if_pos h]; simp
  rw [fromM_good (pad_len (by have := payM_len m; omega)) hg, hr]

def BoolEq (b : Bool) (w : World) (v : Value) (w' : World) : Prop := v = .bool b ∧ w' = w
set_option maxRecDepth 100000 in
theorem maypgm_any (no high : Int) (w : World) : Calls Tryd.prog 33 #[.int .i64 no, .int .i64 high] w (Ret (BoolEq (mayPgM no high) w)) := by
  have HD : Hid (mayPgM no high = (decide (no = 0) || (decide (2 ≤ no) && decide (no < high)))) := rfl
  obtain ⟨B, hB⟩ : ∃ B, B = mayPgM no high := ⟨_, rfl⟩
  rw [← hB] at HD ⊢
  clear hB
  go_enter Tryd.func33, Tryd.ntmps33
  go_wp2
  all_goals
    go_ret
    refine .mk ⟨congrArg Value.bool ?_, rfl⟩
    rw [HD.out, Bool.eq_iff_iff]
    simp only [Bool.or_eq_true, Bool.and_eq_true, decide_eq_true_eq, beq_iff_eq]
    first | omega | (simp; omega)
def BoolMd (b : Bool) (w : World) (v : Value) (w' : World) : Prop := v = .bool b ∧ Mod [] w w'
set_option maxRecDepth 100000 in
set_option maxHeartbeats 1000000 in
theorem may_any (m : Mt) (w : World) : Calls Tryd.prog 10 #[.agg m.cells] w (Ret (BoolMd m.may w)) := by
  obtain ⟨g, h, r, f⟩ := m
  have HD : Hid (Mt.may ⟨g, h, r, f⟩ = (decide (1 ≤ g) && decide (g ≤ 1152921504606846976) && decide (2 ≤ h) && decide (h ≤ 2048) && mayPgM r h && mayPgM f h)) := rfl
  obtain ⟨B, hB⟩ : ∃ B, B = Mt.may ⟨g, h, r, f⟩ := ⟨_, rfl⟩
  rw [← hB] at HD ⊢
  have HM : Hid (Mod [] w (w.alloc (.cells #[.int .u64 g, .int .i64 h, .int .i64 r, .int .i64 f] 24))) := Mod.of_alloc w _
  have c0 : (w.alloc (.cells #[.int .u64 g, .int .i64 h, .int .i64 r, .int .i64 f] 24)).cell? ⟨w.heap.size, 0, none⟩ = some (.int .u64 g) := cell_of_at (at_alloc w _) 0
  have c1 : (w.alloc (.cells #[.int .u64 g, .int .i64 h, .int .i64 r, .int .i64 f] 24)).cell? ⟨w.heap.size, 1, none⟩ = some (.int .i64 h) := cell_of_at (at_alloc w _) 1
  have c2 : (w.alloc (.cells #[.int .u64 g, .int .i64 h, .int .i64 r, .int .i64 f] 24)).cell? ⟨w.heap.size, 2, none⟩ = some (.int .i64 r) := cell_of_at (at_alloc w _) 2
  have c3 : (w.alloc (.cells #[.int .u64 g, .int .i64 h, .int .i64 r, .int .i64 f] 24)).cell? ⟨w.heap.size, 3, none⟩ = some (.int .i64 f) := cell_of_at (at_alloc w _) 3
  clear hB
  unfold Mt.cells
  go_enter Tryd.func10, Tryd.ntmps10
  go_wp2_with fail
  rotate_left
  all_goals first
    | (go_ret
       refine .mk ⟨congrArg Value.bool ?_, HM.out⟩
       rw [HD.out, Bool.eq_iff_iff]
       simp only [Bool.and_eq_true, decide_eq_true_eq]
       constructor
       · intro hx; simp at hx
       · rintro ⟨⟨⟨⟨⟨_, _⟩, _⟩, _⟩, _⟩, _⟩; omega)
    | skip
  refine (maypgm_any r h _).mono ?_
  rintro _ w1 ⟨_, rfl, rfl, rfl⟩
  generalize mayPgM r h = R at *
  have HD2 : Hid (B = (R && mayPgM f h)) := by
    rw [HD.out]; unfold Hid
    rw [decide_eq_true (by assumption : 1 ≤ g), decide_eq_true (by assumption : g ≤ 1152921504606846976), decide_eq_true (by assumption : 2 ≤ h), decide_eq_true (by assumption : h ≤ 2048)]; simp
  cases R with
  | false =>
    go_wp2
    go_ret
    exact .mk ⟨by rw [HD2.out]; rfl, HM.out⟩
  | true =>
    go_wp2_with fail
    refine (maypgm_any f h _).mono ?_
    rintro _ w1 ⟨_, rfl, rfl, rfl⟩
    generalize mayPgM f h = R at *
    go_wp2
    go_ret
    exact .mk ⟨by rw [HD2.out]; cases R <;> rfl, HM.out⟩

set_option maxRecDepth 100000 in
set_option maxHeartbeats 1000000 in
theorem qmay_any (m : Mt) (w : World) : Calls Tryd.prog 11 #[.agg m.cells] w (Ret (BoolMd m.may w)) := by
  obtain ⟨g, h, r, f⟩ := m
  have HD : Hid (Mt.may ⟨g, h, r, f⟩ = (decide (1 ≤ g) && decide (g ≤ 1152921504606846976) && decide (2 ≤ h) && decide (h ≤ 2048) && (decide (r = 0) || (decide (2 ≤ r) && decide (r < h))) && (decide (f = 0) || (decide (2 ≤ f) && decide (f < h))))) := rfl
  obtain ⟨B, hB⟩ : ∃ B, B = Mt.may ⟨g, h, r, f⟩ := ⟨_, rfl⟩
  rw [← hB] at HD ⊢
  have HM : Hid (Mod [] w (w.alloc (.cells #[.int .u64 g, .int .i64 h, .int .i64 r, .int .i64 f] 24))) := Mod.of_alloc w _
  have c0 : (w.alloc (.cells #[.int .u64 g, .int .i64 h, .int .i64 r, .int .i64 f] 24)).cell? ⟨w.heap.size, 0, none⟩ = some (.int .u64 g) := cell_of_at (at_alloc w _) 0
  have c1 : (w.alloc (.cells #[.int .u64 g, .int .i64 h, .int .i64 r, .int .i64 f] 24)).cell? ⟨w.heap.size, 1, none⟩ = some (.int .i64 h) := cell_of_at (at_alloc w _) 1
  have c2 : (w.alloc (.cells #[.int .u64 g, .int .i64 h, .int .i64 r, .int .i64 f] 24)).cell? ⟨w.heap.size, 2, none⟩ = some (.int .i64 r) := cell_of_at (at_alloc w _) 2
  have c3 : (w.alloc (.cells #[.int .u64 g, .int .i64 h, .int .i64 r, .int .i64 f] 24)).cell? ⟨w.heap.size, 3, none⟩ = some (.int .i64 f) := cell_of_at (at_alloc w _) 3
  clear hB
  unfold Mt.cells
  go_enter Tryd.func11, Tryd.ntmps11
  go_wp2
  all_goals
    go_ret
    refine .mk ⟨congrArg Value.bool ?_, Mod.of_alloc w _⟩
    rw [HD.out, Bool.eq_iff_iff]
    simp only [Bool.and_eq_true, Bool.or_eq_true, decide_eq_true_eq, beq_iff_eq]
    first | omega | (simp; omega)
end Go.Proofs.YtbbjfgjbjghdiaaDoor
