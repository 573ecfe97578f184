/- What a piece's page says, plainly: bytes, and back. Slices of the document's Key, appended to. Freed pages in memory. (program's side alone) New pools, the program's one and the document's one. Appends whose run is known; bytes appended to bytes in an own block. -/
import Derived.Test.YtgimdodbajhpoaaGreatDoorG05
import Derived.Test.YtgimdodbajhpoaaGreatDoorG04
import Derived.Test.YtgimdodbajhpoaaGreatDoorG03
import Derived.Test.YtgimdodbajhpoaaGreatDoorRows
import Derived.Test.YtgimdodbajhpoaaGreatDoorG07
namespace Go.Proofs.YtgimdodbajhpoaaGreatDoor
open Go.RowKit Go.Maps
set_option linter.unusedSimpArgs false
set_option linter.unusedVariables false

/-- Bytes, filled up with zeros. -/
def pad (n : Nat) (p : List Int) : List Int := p ++ List.replicate (n - p.length) 0
theorem pad_len {n : Nat} {p : List Int} (h : p.length ≤ n) : (pad n p).length = n := by rw [pad, List.length_append, List.length_replicate]; omega
theorem pad_iff {n : Nat} {b p : List Int} (hb : b.length = n) (hp : p.length ≤ n) : (b.take p.length = p ∧ ∀ x ∈ b.drop p.length, x = 0) ↔ pad n p = b := by
  constructor
  · rintro ⟨h1, h2⟩
    rw [← List.take_append_drop p.length b, h1, pad]
    congr 1
    symm
    rw [List.eq_replicate_iff]
    exact ⟨by rw [List.length_drop, hb], h2⟩
  · intro h
    rw [← h, pad]
    simp
def cell12 (p : Int × Int) : List Int := be 4 p.1 ++ be 8 p.2
def body (l : List (Int × Int)) : List Int := l.flatMap cell12
def payl (l : List (Int × Int)) (next : Int) : List Int := be 2 l.length ++ be 4 next ++ body l
def mayPg (n : Int) : Bool := decide (0 ≤ n ∧ n ≤ 2147483647)
def mayL (l : List (Int × Int)) : Bool := l.all fun p => mayPg p.1
def mayPay (l : List (Int × Int)) (next : Int) : Bool := decide (l.length ≤ 84) && mayPg next && mayL l
def payO (l : List (Int × Int)) (next : Int) : List Int := if mayPay l next = true then payl l next else []
def rdAt (b : List Int) (i : Nat) : Int × Int := (un4 (b.drop (6 + 12 * i)) 4, un ((b.drop (10 + 12 * i)).take 8))
def rd (b : List Int) (n : Nat) : List (Int × Int) := (List.range n).map (rdAt b)
theorem rd_zero (b : List Int) : rd b 0 = [] := rfl
theorem rd_succ (b : List Int) (k : Nat) : rd b (k + 1) = rd b k ++ [rdAt b k] := by simp [rd, List.range_succ]
theorem rd_len (b : List Int) (k : Nat) : (rd b k).length = k := by simp [rd]
theorem cell12_len (p : Int × Int) : (cell12 p).length = 12 := by simp [cell12, be_len]
theorem body_len : ∀ l : List (Int × Int), (body l).length = 12 * l.length
  | [] => rfl
  | a :: r => by have := body_len r; simp only [body, List.flatMap_cons, List.length_append, cell12_len, List.length_cons] at this ⊢; omega
theorem body_append (a b : List (Int × Int)) : body (a ++ b) = body a ++ body b := by simp [body]
theorem body_one (a : Int × Int) : body [a] = cell12 a := by simp [body]
theorem body_take_succ {l : List (Int × Int)} {k : Nat} (hk : k < l.length) : body (l.take (k + 1)) = body (l.take k) ++ cell12 (l.getD k (0, 0)) := by
  rw [List.take_succ_eq_append_getElem hk, body_append, body_one, getD_at hk]
theorem body_drop : ∀ (l : List (Int × Int)) (i : Nat), i < l.length → (body l).drop (12 * i) = cell12 (l.getD i (0, 0)) ++ body (l.drop (i + 1))
  | a :: r, 0, _ => by simp [body]
  | a :: r, i + 1, h => by
    have e : body (a :: r) = cell12 a ++ body r := by simp [body]
    rw [e, show 12 * (i + 1) = (cell12 a).length + 12 * i from by rw [cell12_len]; omega, List.drop_append, List.drop_of_length_le (by omega), show (cell12 a).length + 12 * i - (cell12 a).length = 12 * i from by omega]
    have := body_drop r i (by simpa using h)
    simpa using this
theorem payl_len (l : List (Int × Int)) (next : Int) : (payl l next).length = 6 + 12 * l.length := by simp [payl, be_len, body_len]; omega
theorem payO_len (l : List (Int × Int)) (next : Int) : (payO l next).length ≤ 1014 := by
  unfold payO; split
  · rename_i h
    simp [mayPay] at h
    rw [payl_len]; omega
  · simp
theorem payO_nil {l : List (Int × Int)} {next : Int} : payO l next = [] ↔ mayPay l next = false := by
  unfold payO; split
  · rename_i h; rw [h]
    have := payl_len l next
    constructor
    · intro e; rw [e] at this; simp at this; omega
    · simp
  · rename_i h; simpa using h
theorem be_small (v : Nat) (h : v < 65536) : (be 2 (v : Int)).getD 0 0 * 256 + (be 2 (v : Int)).getD 1 0 = v := by
  have h0 : be 2 (v : Int) = [(v : Int) / 256 % 256, (v : Int) % 256] := by simp [be]
  rw [h0]; simp; omega

theorem payO_wf (l : List (Int × Int)) (next : Int) : ∀ x ∈ payO l next, 0 ≤ x ∧ x < 256 := by
  intro x hx
  unfold payO at hx
  split at hx
  · simp only [payl, body, List.mem_append, List.mem_flatMap, cell12] at hx
    rcases hx with (h | h) | ⟨a, _, h | h⟩ <;> exact be_wf _ _ _ h
  · simp at hx
/-- The code, the pieces and the next page that bytes say. -/
def nOf (b : List Int) : Nat := (b.getD 0 0 * 256 + b.getD 1 0).toNat
def nextOf (b : List Int) : Int := un4 (b.drop 2) 4
def goodP (b : List Int) : Bool := decide (nOf b ≤ 84) && mayPay (rd b (nOf b)) (nextOf b) && decide (pad 1016 (payO (rd b (nOf b)) (nextOf b)) = b)
def fromP (b : List Int) : List (Int × Int) × Int × Int := if b.length = 1016 ∧ goodP b = true then (rd b (nOf b), nextOf b, 0) else ([], 0, 5)

theorem nOf_payl (l : List (Int × Int)) (next : Int) (z : List Int) (h : l.length ≤ 84) : nOf (payl l next ++ z) = l.length := by
  have h0 : be 2 (l.length : Int) = [(l.length : Int) / 256 % 256, (l.length : Int) % 256] := by simp [be]
  unfold nOf payl
  rw [h0]; simp; omega
theorem nextOf_payl (l : List (Int × Int)) (next : Int) (z : List Int) (h0 : 0 ≤ next) (h1 : next ≤ 2147483647) : nextOf (payl l next ++ z) = next := by
  unfold nextOf payl
  rw [List.append_assoc, List.append_assoc, List.drop_append, List.drop_of_length_le (by rw [be_len]; omega), be_len, List.nil_append]
  simpa using un4_be (v := next) (body l ++ z) h0 (by omega)
theorem rd_payl (l : List (Int × Int)) (next : Int) (z : List Int) (hw : ∀ p ∈ l, (0 ≤ p.1 ∧ p.1 ≤ 2147483647) ∧ 0 ≤ p.2 ∧ p.2 < 18446744073709551616) : rd (payl l next ++ z) l.length = l := by
  apply List.ext_getElem (rd_len _ _)
  intro i h1 h2
  have hp := hw l[i] (List.getElem_mem _)
  have hd : ∀ k, k ≤ 12 → (payl l next ++ z).drop (6 + 12 * i + k) = (cell12 l[i]).drop k ++ (body (l.drop (i + 1)) ++ z) := by
    intro k hk
    have e : (payl l next ++ z) = (be 2 (l.length : Int) ++ be 4 next) ++ (body l ++ z) := by simp [payl]
    have e6 : (be 2 (l.length : Int) ++ be 4 next).length = 6 := by simp [be_len]
    have d6 : ((be 2 (l.length : Int) ++ be 4 next) ++ (body l ++ z)).drop 6 = body l ++ z := by
      rw [List.drop_append, List.drop_of_length_le (Nat.le_of_eq e6), e6]; rfl
    rw [e, show 6 + 12 * i + k = 6 + (12 * i + k) from by omega, ← List.drop_drop, d6, ← List.drop_drop,
      List.drop_append, show 12 * i - (body l).length = 0 from by rw [body_len]; omega, List.drop_zero, body_drop l i h2, getD_at h2, List.append_assoc, List.drop_append, cell12_len, show k - 12 = 0 from by omega, List.drop_zero]
  simp only [rd, List.getElem_map, List.getElem_range, rdAt]
  have d0 := hd 0 (by omega)
  have d4 := hd 4 (by omega)
  rw [show 6 + 12 * i + 0 = 6 + 12 * i from by omega, List.drop_zero] at d0
  rw [show 6 + 12 * i + 4 = 10 + 12 * i from by omega] at d4
  rw [d0, d4]
  have c4 : (cell12 l[i]).drop 4 = be 8 l[i].2 := by
    unfold cell12
    rw [List.drop_append, List.drop_of_length_le (by rw [be_len]; omega), be_len]; rfl
  rw [c4, un8_be _ hp.2.1 hp.2.2]
  unfold cell12
  rw [List.append_assoc, un4_be _ hp.1.1 (by omega)]
theorem mayPay_spec {l : List (Int × Int)} {next : Int} (h : mayPay l next = true) : l.length ≤ 84 ∧ (0 ≤ next ∧ next ≤ 2147483647) ∧ ∀ p ∈ l, 0 ≤ p.1 ∧ p.1 ≤ 2147483647 := by
  simp only [mayPay, Bool.and_eq_true, mayPg, decide_eq_true_eq, mayL, List.all_eq_true] at h
  exact ⟨h.1.1, h.1.2, fun p hp => h.2 p hp⟩
theorem fromP_payO {l : List (Int × Int)} {next : Int} (h : mayPay l next = true) (hw : ∀ p ∈ l, 0 ≤ p.2 ∧ p.2 < 18446744073709551616) : fromP (pad 1016 (payO l next)) = (l, next, 0) := by
  obtain ⟨h1, h2, h3⟩ := mayPay_spec h
  have hlen : (pad 1016 (payO l next)).length = 1016 := pad_len (by have := payO_len l next; omega)
  have e : pad 1016 (payO l next) = payl l next ++ List.replicate (1016 - (payl l next).length) 0 := by rw [payO, if_pos h]; rfl
  have n1 : nOf (pad 1016 (payO l next)) = l.length := by rw [e]; exact nOf_payl _ _ _ h1
  have n2 : nextOf (pad 1016 (payO l next)) = next := by rw [e]; exact nextOf_payl _ _ _ h2.1 h2.2
  have n3 : rd (pad 1016 (payO l next)) l.length = l := by rw [e]; exact rd_payl _ _ _ fun p hp => ⟨h3 p hp, hw p hp⟩
  have g : goodP (pad 1016 (payO l next)) = true := by
    unfold goodP
    rw [n1, n2, n3, h, decide_eq_true h1]; simp
  unfold fromP
  rw [if_pos ⟨hlen, g⟩, n1, n2, n3]
end Go.Proofs.YtgimdodbajhpoaaGreatDoor
namespace Go.Proofs.YtgimdodbajhpoaaGreatDoor
open Go.RowKit Go.Maps
set_option linter.unusedSimpArgs false
set_option linter.unusedVariables false

theorem Tl.of_key {w w' : World} {p : Option Addr} {n c : Nat} {l : List Int} (h : w'.ownsRow w.heap.size 5 1 (.slice p n c) n (bs l)) : Tl w' w.heap.size 1 p n c (bs l) := Tl.of_own h (bs_one _)
/-- What a call has just made lies in no block that was there. -/
theorem Tl.apart {w w' : World} {b1 s1 s2 n1 c1 n2 c2 : Nat} {q p : Option Addr} {x1 x2 : List Value} (h : Tl w b1 s1 q n1 c1 x1) (h2 : Tl w' w.heap.size s2 p n2 c2 x2) : ∀ a, p = some a → a.block ∉ (q.map (·.block)).toList := by
  intro a ha hm
  have h1 := (h2.own a ha).2.1
  cases q with
  | none => simp at hm
  | some e => simp at hm; have := (h.own e rfl).2.2; omega
theorem Tl.turned {w w' w2 : World} {base s n c : Nat} {q : Option Addr} {x : List Value} (h : Tl w base s q n c x) {w0 : World} (hb : w0.heap.size = base) (hm : Mod (q.map (·.block)).toList w w') (h0 : Mod [] w0 w) : Mod [] w0 w' :=
  h0.trans hm fun b hb2 => Or.inr (by
    cases q with
    | none => simp at hb2
    | some e => simp at hb2; have := (h.own e rfl).2.1; omega)
set_option maxRecDepth 100000 in
theorem Tl.sub_key {w : World} {base : Nat} {p : Option Addr} {c : Nat} {l : List Int} (h : Tl w base 1 p 8 c (bs l)) (lo k : Nat) (hk : lo + k = 8) (hpos : 0 < k) (d : Int) (hd : d = lo) :
    ∃ p', (∀ W, (Instr.slice 40 (.slice p 8 c) (some (.int .i64 d)) none none).run Tryz.prog W = .ok (.slice p' k (c - lo)) W) ∧ Tl w base 1 p' k (c - lo) (bs (l.drop lo)) ∧ p'.map (·.block) = p.map (·.block) := by
  have hle := h.sl.le
  obtain ⟨p', r, t, e⟩ := h.sub_l Tryz.underlying40 sizeBytes lo .i64 (by omega) (by omega)
  subst hd
  rw [show 8 - lo = k from by omega] at r t
  refine ⟨p', r, ?_, e⟩
  rw [Nat.mul_one] at t
  simpa [bs, List.map_drop] using t

def PayT (l : List Int) (w : World) (v : Value) (w' : World) : Prop := ∃ p n c, v = .slice p n c ∧ n = l.length ∧ (p = none ↔ l = []) ∧ Tl w' w.heap.size 1 p n c (bs l) ∧ Mod [] w w'
end Go.Proofs.YtgimdodbajhpoaaGreatDoor
namespace Go.Proofs.YtgimdodbajhpoaaGreatDoor
open Go.RowKit Go.Maps
set_option linter.unusedSimpArgs false
set_option linter.unusedVariables false

def fcells (m : List (Int × Int)) : List Value := m.flatMap fun p => [.int .i64 p.1, .int .u64 p.2]
theorem fcells_len (m : List (Int × Int)) : (fcells m).length = m.length * 2 := by
  induction m with
  | nil => rfl
  | cons a r ih => simp [fcells] at ih ⊢; omega
theorem fcells_append (a b : List (Int × Int)) : fcells (a ++ b) = fcells a ++ fcells b := by simp [fcells]
theorem fcells_one (m : List (Int × Int)) : ∀ u ∈ fcells m, u.oneCell' = true := by
  intro u hu; simp [fcells] at hu; obtain ⟨a, b, _, rfl | rfl⟩ := hu <;> rfl
theorem fcells_take (m : List (Int × Int)) (i : Nat) : (fcells m).take (i * 2) = fcells (m.take i) := by
  induction m generalizing i with
  | nil => simp [fcells]
  | cons a r ih =>
    cases i with
    | zero => simp [fcells]
    | succ i => have := ih i; simp only [fcells, List.flatMap_cons, List.take_succ_cons, Nat.succ_mul] at this ⊢; simp [List.take_append, this]
theorem fcells_drop (m : List (Int × Int)) (i : Nat) : (fcells m).drop (i * 2) = fcells (m.drop i) := by
  induction m generalizing i with
  | nil => simp [fcells]
  | cons a r ih =>
    cases i with
    | zero => simp [fcells]
    | succ i => have := ih i; simp only [fcells, List.flatMap_cons, List.drop_succ_cons, Nat.succ_mul] at this ⊢; simp [List.drop_append, this]
theorem fcells_get (m : List (Int × Int)) (i : Nat) (hi : i < m.length) : (fcells m)[i * 2]? = some (.int .i64 (m.getD i (0, 0)).1) ∧ (fcells m)[i * 2 + 1]? = some (.int .u64 (m.getD i (0, 0)).2) := by
  induction m generalizing i with
  | nil => simp at hi
  | cons a r ih =>
    cases i with
    | zero => simp [fcells]
    | succ i =>
      obtain ⟨h1, h2⟩ := ih i (by simpa using hi)
      simp only [fcells, List.flatMap_cons] at h1 h2 ⊢
      constructor
      · rw [show (i + 1) * 2 = i * 2 + 2 by omega, List.getElem?_append_right (by simp)]; simpa using h1
      · rw [show (i + 1) * 2 + 1 = (i * 2 + 1) + 2 by omega, List.getElem?_append_right (by simp)]; simpa using h2

theorem sizeFreed (W : World) : (sizeOf (Tryz.prog.elem 61)).run Tryz.prog W = .ok 2 W := by kernel_rfl
end Go.Proofs.YtgimdodbajhpoaaGreatDoor
namespace Go.Proofs.YtgimdodbajhpoaaGreatDoor
open Go.RowKit Go.Maps
set_option linter.unusedSimpArgs false
set_option linter.unusedVariables false

namespace PS
def freeAll : PS → List (Int × Int) → Option PS
  | s, [] => some s
  | s, p :: r => if (s.free p.1 p.2).1 = 0 then freeAll (s.free p.1 p.2).2 r else none
def new (cap high : Int) (l : List (Int × Int)) : Option PS := if 2048 < cap ∨ high < 2 ∨ cap < high then none else freeAll ⟨cap, high, []⟩ l
theorem freeAll_append (s : PS) (a b : List (Int × Int)) : s.freeAll (a ++ b) = (s.freeAll a).bind fun s' => s'.freeAll b := by
  induction a generalizing s with
  | nil => rfl
  | cons p r ih => simp only [List.cons_append, freeAll]; split <;> simp [ih]
theorem freeAll_take {s s' : PS} {l : List (Int × Int)} {k : Nat} (hk : k < l.length) (h : s.freeAll (l.take k) = some s') :
    s.freeAll (l.take (k + 1)) = if (s'.free (l.getD k (0, 0)).1 (l.getD k (0, 0)).2).1 = 0 then some (s'.free (l.getD k (0, 0)).1 (l.getD k (0, 0)).2).2 else none := by
  rw [List.take_succ_eq_append_getElem hk, freeAll_append, h, getD_at hk]; rfl
theorem freeAll_fall {s : PS} {l : List (Int × Int)} {k : Nat} (h : s.freeAll (l.take k) = none) : s.freeAll l = none := by
  rw [← List.take_append_drop k l, freeAll_append, h]; rfl
end PS

/-- Freed pages that came in. -/
structure FreedIn (w : World) (p : Option Addr) (n c : Nat) (l : List (Int × Int)) : Prop where
  sl : Sl w 2 p n c (fcells l)
  wf : ∀ x ∈ l, (-9223372036854775808 ≤ x.1 ∧ x.1 ≤ 9223372036854775807) ∧ 0 ≤ x.2 ∧ x.2 < 2 ^ 64
theorem FreedIn.len {w : World} {p : Option Addr} {n c : Nat} {l : List (Int × Int)} (h : FreedIn w p n c l) : l.length = n := by have := h.sl.len; rw [fcells_len] at this; omega

def NewR (o : Option PS) (w : World) (v : Value) (w' : World) : Prop := Mod [] w w' ∧ match o with
  | none => v = .tuple #[.pointer none, .int .i64 1]
  | some s => ∃ sb bm, v = .tuple #[.pointer (some ⟨sb, 0, none⟩), .int .i64 0] ∧ PoolAt w' sb bm s ∧ w.heap.size ≤ sb ∧ w.heap.size ≤ bm
set_option maxRecDepth 100000 in
set_option maxHeartbeats 1000000 in
theorem pnew_any (cap high : Int) (p : Option Addr) (n c : Nat) (l : List (Int × Int)) (w : World) (hl : FreedIn w p n c l) :
    Calls Tryz.prog 7 #[.int .i64 cap, .int .i64 high, .slice p n c] w (Ret (NewR (PS.new cap high l) w)) := by
  have hmm := @run_makeMap Tryz.prog
  have hn := hl.sl.capm
  have hn2 := hl.sl.le
  unfold maxLen at hn
  by_cases hbad : 2048 < cap ∨ high < 2 ∨ cap < high
  · have HN : Hid (PS.new cap high l = none) := by unfold PS.new; rw [if_pos hbad]; exact rfl
    clear hl
    by_cases e1 : 2048 < cap
    · go_enter Tryz.func7, Tryz.ntmps7
      go_wp2
      go_ret2
      exact .mk ⟨Mod.refl _ _, by rw [HN.out]; rfl⟩
    · by_cases e2 : high < 2
      · go_enter Tryz.func7, Tryz.ntmps7
        go_wp2
        go_ret2
        exact .mk ⟨Mod.refl _ _, by rw [HN.out]; rfl⟩
      · have e3 : cap < high := by omega
        go_enter Tryz.func7, Tryz.ntmps7
        go_wp2
        go_ret2
        exact .mk ⟨Mod.refl _ _, by rw [HN.out]; rfl⟩
  · have HN : Hid (PS.new cap high l = PS.freeAll ⟨cap, high, []⟩ l) := by unfold PS.new; rw [if_neg hbad]; exact rfl
    have e1 : ¬ 2048 < cap := by omega
    have e2 : ¬ high < 2 := by omega
    have e3 : ¬ cap < high := by omega
    have HL := Lib.hid hl
    obtain ⟨b, off, hp, hcs⟩ := hl.sl.at_
    have hidx := fun W => Sl.idx (P := Tryz.prog) (cap := c) Tryz.underlying61 sizeFreed (fun h => (hp h).1) W .i64
    have HP := Lib.hid hp
    clear hbad hl hp
    go_enter Tryz.func7, Tryz.ntmps7
    go_wp2_with fail
    have hm0 : Mod [] w ((w.alloc (.map #[] 0)).alloc (.cells #[.int .i64 cap, .int .i64 high, .map (some w.heap.size)] 64)) := (Mod.refl [] w).alloc.alloc
    have hp0 : PoolAt ((w.alloc (.map #[] 0)).alloc (.cells #[.int .i64 cap, .int .i64 high, .map (some w.heap.size)] 64)) (w.heap.size + 1) w.heap.size ⟨cap, high, []⟩ :=
      ⟨at_alloc' _ _ (by simp), (MapI.made w).of_block (Below.heap_alloc _ _ _ (by simp)), ⟨by simp only; omega, by simp only; omega, by simp only; omega, by simp, by simp, by simp [Srt]⟩⟩
    have HM0 := Lib.hid hm0
    have HP0 := Lib.hid hp0
    clear hm0 hp0
    go_loopw [29] (fun i wr => ∃ (k : Nat) (s : PS), k ≤ n ∧ i = .int .i64 k ∧ PS.freeAll ⟨cap, high, []⟩ (l.take k) = some s ∧ PoolAt wr (w.heap.size + 1) w.heap.size s ∧ Mod [] w wr) (fun i _ => n - (intOf i).toNat)
    case atStart => exact ⟨0, _, by omega, rfl, rfl, HP0.out, HM0.out⟩
    case round =>
      obtain ⟨k, s, hk, rfl, hfa, hr, hmd⟩ := hrel
      have HFA := Lib.hid hfa
      have HR := Lib.hid hr
      have HMD := Lib.hid hmd
      clear hfa hr hmd HM0 HP0
      by_cases hlt : k < n
      · have hlen := HL.out.len
        obtain ⟨g1, g2⟩ := fcells_get l k (by omega)
        have d0 := hcs _ _ g1
        have d1 := hcs _ _ g2
        rw [← Nat.add_assoc] at d1
        have hblt := (HP.out (by omega)).2
        rw [← HMD.out.cell (a := ⟨b, _, none⟩) hblt (by simp)] at d0 d1
        obtain ⟨x, hx⟩ : ∃ x, x = (l.getD k (0, 0)).1 := ⟨_, rfl⟩
        obtain ⟨y, hy⟩ : ∃ y, y = (l.getD k (0, 0)).2 := ⟨_, rfl⟩
        have hwf : (-9223372036854775808 ≤ x ∧ x ≤ 9223372036854775807) ∧ 0 ≤ y ∧ y < 2 ^ 64 := by
          rw [hx, hy, getD_at (by omega)]; exact HL.out.wf _ (List.getElem_mem (by omega))
        rw [← hx] at d0
        rw [← hy] at d1
        have HST : Hid (PS.freeAll ⟨cap, high, []⟩ (l.take (k + 1)) = if (s.free x y).1 = 0 then some (s.free x y).2 else none) := by
          have := PS.freeAll_take (by omega) HFA.out; rw [← hx, ← hy] at this; exact this
        clear hx hy hcs g1 g2 hmm hlen
        go_wp2_with fail
        refine (free_any (w.heap.size + 1) w.heap.size s x y _ (HR.out.mod (Mod.refl [] wr).alloc (by simp) (by simp)) hwf.2.1 hwf.2.2 hwf.1.1 hwf.1.2).mono ?_
        rintro _ w1 ⟨_, rfl, rfl, h1, m1⟩
        have H1 := Lib.hid h1
        have hm1 : Mod [] w w1 := (HMD.out.alloc).trans m1 (by simp)
        have HM1 := Lib.hid hm1
        clear h1 m1 hm1
        by_cases hz : (s.free x y).1 = 0
        · have hz1 : ((s.free x y).1 != 0) = false := by simp [hz]
          have HST1 : Hid (PS.freeAll ⟨cap, high, []⟩ (l.take (k + 1)) = some (s.free x y).2) := by rw [HST.out, if_pos hz]; exact rfl
          clear hz HST
          go_wp2
          go_roundw
          case rel => exact ⟨k + 1, _, by omega, by go_num, HST1.out, H1.out, HM1.out⟩
          case measure => simp [intOf]; omega
        · have hz1 : ((s.free x y).1 != 0) = true := by simp [hz]
          have HST1 : Hid (PS.new cap high l = none) := by rw [HN.out]; exact PS.freeAll_fall (by rw [HST.out, if_neg hz])
          clear hz HST
          go_wp2
          go_ret2
          exact .mk ⟨HM1.out, by rw [HST1.out]; rfl⟩
      · have HST : Hid (PS.new cap high l = some s) := by
          have h1 := HFA.out
          rw [List.take_of_length_le (by have := HL.out.len; omega)] at h1
          rw [HN.out]; exact h1
        clear hcs
        go_wp2
        go_ret2
        exact .mk ⟨HMD.out, by rw [HST.out]; exact ⟨_, _, rfl, HR.out, by omega, by omega⟩⟩

end Go.Proofs.YtgimdodbajhpoaaGreatDoor
namespace Go.Proofs.YtgimdodbajhpoaaGreatDoor
open Go.RowKit Go.Maps
set_option linter.unusedSimpArgs false
set_option linter.unusedVariables false

theorem wpList_append_run {P : Program} {ops : Array Oper} {rest : List Oper} {o : Oper} {a : Act} {w : World} {Q : Exit → Act → World → Prop} (hgd : o.guard = none) (s x : Operand) (t tn : TypeId)
    (ho : o.op = .call { callee := .builtin .append, args := #[s, x], argTypes := #[t, tn] }) (v1 v2 r : Value) (w' : World) (hs : a.eval s = v1) (hx : a.eval x = v2)
    (hr : (Builtin.append_ #[t, tn] o.type #[v1, v2]).run P w = .ok r w') (h : wpList P ops Q rest (a.put o.dst r) w') : wpList P ops Q (o :: rest) a w := by
  refine wpList_plain hgd fun K hK => ?_
  unfold Oper.wp execOp
  simp only [ho, resolve, invoke, builtin, Sem.run_bind, Sem.run_pure, Result.andThen_ok, List.map_toArray, List.map_cons, List.map_nil, hs, hx, hr]
  exact hK _ _ h
section
variable {P : Program} {w : World}
theorem step_append_run {ops : Array Oper} {o : Oper} {a : Act} {K : Act → World → Prop} {Q : Exit → Act → World → Prop} {E : Prop} (hgd : o.guard = none) (s x : Operand) (t tn : TypeId)
    (ho : o.op = .call { callee := .builtin .append, args := #[s, x], argTypes := #[t, tn] }) (v1 v2 r : Value) (w' : World) (hs : a.eval s = v1) (hx : a.eval x = v2)
    (hr : (Builtin.append_ #[t, tn] o.type #[v1, v2]).run P w = .ok r w') (h : K (a.put o.dst r) w') :
    if Region.wanted o (yielded ops a.tmps) = true then Oper.wp P o a w K Q else E := by
  have hw : Region.wanted o (yielded ops a.tmps) = true := by simp [Region.wanted, hgd]
  rw [if_pos hw]
  unfold Oper.wp execOp
  simp only [ho, resolve, invoke, builtin, Sem.run_bind, Sem.run_pure, Result.andThen_ok, List.map_toArray, List.map_cons, List.map_nil, hs, hx, hr]
  exact h
end
/-- Bytes appended to a slice of bytes in an own block. -/
theorem app_bytes (w : World) (base : Nat) (p : Option Addr) (n c : Nat) (l : List Int) (h : Tl w base 1 p n c (bs l)) (q : Option Addr) (m d : Nat) (k : List Int) (hs : Sl w 1 q m d (bs k)) (hb : n + m ≤ 1000000) (hbase : base ≤ w.heap.size) :
    ∃ p' c' w', (Builtin.append_ #[40, 40] 40 #[.slice p n c, .slice q m d]).run Tryz.prog w = .ok (.slice p' (n + m) c') w' ∧ Tl w' base 1 p' (n + m) c' (bs (l ++ k)) ∧ Mod (p.map (·.block)).toList w w' ∧ (p' = none ↔ p = none ∧ m = 0) ∧ (p'.map (·.block) = p.map (·.block) ∨ p'.map (·.block) = some w.heap.size) := by
  obtain ⟨i0, hi0, hz0, hz1, hz2⟩ := info_parts infoU8
  obtain ⟨p', c', w', hr, h2, h3, h4, h5⟩ := run_append_tl (P := Tryz.prog) w base 40 40 5 i0 _ 1 1 Tryz.underlying40 hi0 hz0 hz1 hz2 rfl (by omega) p n c (bs l) h q m d (bs k) hs (by unfold maxLen; omega) (by omega) hbase
  exact ⟨p', c', w', hr, by rw [bs_append]; exact h2, h3, h4, h5⟩
end Go.Proofs.YtgimdodbajhpoaaGreatDoor
