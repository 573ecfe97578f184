/- Numbers as bytes: Unkey. Bytes that are read: a part of them. Rows of bytes in a list. Maps from whole numbers to whatever, as sorted lists. -/
import Derived.Test.YtgimdodbajhpoaaGreatDoorG05
import Derived.Test.YtgimdodbajhpoaaGreatDoorG03
namespace Go.Proofs.YtgimdodbajhpoaaGreatDoor
open Go.RowKit Go.Maps
set_option linter.unusedSimpArgs false
set_option linter.unusedVariables false

def AtR (x : Int) (j : Nat) (w : World) (v : Value) (w' : World) : Prop := v = .int .u64 (x * 2 ^ (8 * (7 - j))) ∧ w' = w
/-- One step: the next byte is set below those that are there. -/
theorem unkey_step {l : List Int} (hwf : ∀ x ∈ l, 0 ≤ x ∧ x < 256) (hl : l.length = 8) {k : Nat} (hk : k < 8) :
    bits .or .u64 (un (l.take k) * 2 ^ (8 * (8 - k))) (l.getD k 0 * 2 ^ (8 * (7 - k))) = un (l.take (k + 1)) * 2 ^ (8 * (8 - (k + 1))) := by
  obtain ⟨h1, h2⟩ := un_range hwf k (by omega)
  obtain ⟨h3, h4⟩ := un_range hwf (k + 1) (by omega)
  have hx := hwf (l.getD k 0) (by rw [getD_at (by omega)]; exact List.getElem_mem _)
  have hs := un_succ (l := l) (k := k) (by omega)
  obtain ⟨a, ha⟩ : ∃ a : Nat, un (l.take k) = a := ⟨(un (l.take k)).toNat, by omega⟩
  obtain ⟨x, hxx⟩ : ∃ x : Nat, l.getD k 0 = x := ⟨(l.getD k 0).toNat, by omega⟩
  obtain ⟨m, hm⟩ : ∃ m, m = 7 - k := ⟨_, rfl⟩
  rw [show 8 - k = m + 1 from by omega, ← hm, show 8 - (k + 1) = m from by omega, hs, ha, hxx]
  rw [hs, ha, hxx] at h4
  rw [hxx] at hx
  have hx2 : x < 256 := by omega
  have h5 : a * 256 + x < 256 ^ (k + 1) := by
    have : ((a * 256 + x : Nat) : Int) < ((256 ^ (k + 1) : Nat) : Int) := by rw [Int.natCast_add, Int.natCast_mul, Int.natCast_pow]; exact h4
    omega
  have e1 : a * 2 ^ (8 * (m + 1)) = a * 256 * 2 ^ (8 * m) := by rw [show 8 * (m + 1) = 8 + 8 * m from by omega, Nat.pow_add, Nat.mul_assoc]
  have hp : 0 < 2 ^ (8 * m) := Nat.pow_pos (by omega)
  have hb : x * 2 ^ (8 * m) < 2 ^ (8 * (m + 1)) := by
    rw [show 8 * (m + 1) = 8 + 8 * m from by omega, Nat.pow_add]
    exact Nat.mul_lt_mul_of_pos_right hx2 hp
  have e2 : a * 2 ^ (8 * (m + 1)) + x * 2 ^ (8 * m) = (a * 256 + x) * 2 ^ (8 * m) := by rw [e1, Nat.add_mul]
  have h6 : (a * 256 + x) * 2 ^ (8 * m) < 2 ^ 64 := by
    have h7 := Nat.mul_lt_mul_of_pos_right h5 hp
    have h8 : 256 ^ (k + 1) * 2 ^ (8 * m) = 2 ^ 64 := by
      rw [show (256 : Nat) = 2 ^ 8 from rfl, ← Nat.pow_mul, ← Nat.pow_add]; congr 1; omega
    omega
  have h9 := or_add .u64 a (x * 2 ^ (8 * m)) (8 * (m + 1)) hb (by rw [e2]; exact h6)
  rw [e2] at h9
  have hc1 : ((a * 2 ^ (8 * (m + 1)) : Nat) : Int) = (a : Int) * 2 ^ (8 * (m + 1)) := by rw [Int.natCast_mul, Int.natCast_pow]; rfl
  have hc2 : ((x * 2 ^ (8 * m) : Nat) : Int) = (x : Int) * 2 ^ (8 * m) := by rw [Int.natCast_mul, Int.natCast_pow]; rfl
  have hc3 : (((a * 256 + x) * 2 ^ (8 * m) : Nat) : Int) = ((a : Int) * 256 + x) * 2 ^ (8 * m) := by rw [Int.natCast_mul, Int.natCast_add, Int.natCast_mul, Int.natCast_pow]; rfl
  rw [hc1, hc2] at h9
  rw [h9, ← hc3, IntKind.wrap_u64, Int.emod_eq_of_lt (by omega) (by omega)]

def UnkeyM (n : Nat) (l : List Int) (w : World) (v : Value) (w' : World) : Prop := v = .tuple #[.int .u64 (if n = 8 then un l else 0), .bool (n == 8)] ∧ Mod [] w w'
end Go.Proofs.YtgimdodbajhpoaaGreatDoor
namespace Go.Proofs.YtgimdodbajhpoaaGreatDoor
open Go.RowKit Go.Maps
set_option linter.unusedSimpArgs false
set_option linter.unusedVariables false

theorem BytesIn.mod {w w' : World} {S : List Nat} {p : Option Addr} {n c : Nat} {l : List Int} (h : BytesIn w p n c l) (hm : Mod S w w') (hn : ∀ a, p = some a → 0 < n → a.block ∉ S) : BytesIn w' p n c l := ⟨h.sl.mod hm hn, h.wf⟩
/-- 'b[lo:]'. -/
theorem BytesIn.from_ {P : Program} {T : TypeId} {w : World} {p : Option Addr} {n c : Nat} {l : List Int} (hT : P.underlying T = some (.slice (P.elem T))) (hs : ∀ W : World, (sizeOf (P.elem T)).run P W = .ok 1 W) (h : BytesIn w p n c l) (lo : Nat) (h1 : lo ≤ n) :
    ∃ p', (∀ W, (Instr.slice T (.slice p n c) (some (.int .i64 lo)) none none).run P W = .ok (.slice p' (n - lo) (c - lo)) W) ∧ BytesIn w p' (n - lo) (c - lo) (l.drop lo) := by
  obtain ⟨p', r, s, _⟩ := h.sl.sub_l hT hs lo .i64 h1
  refine ⟨p', r, ?_, fun x hx => h.wf x (List.mem_of_mem_drop hx)⟩
  rw [Nat.mul_one] at s
  simpa [bs, List.map_drop] using s
/-- 'b[lo:lo+k]'. -/
theorem BytesIn.sub {P : Program} {T : TypeId} {w : World} {p : Option Addr} {n c : Nat} {l : List Int} (hT : P.underlying T = some (.slice (P.elem T))) (hs : ∀ W : World, (sizeOf (P.elem T)).run P W = .ok 1 W) (h : BytesIn w p n c l) (lo hi k : Nat) (hk : hi = lo + k) (h1 : hi ≤ n) :
    ∃ p', (∀ W, (Instr.slice T (.slice p n c) (some (.int .i64 lo)) (some (.int .i64 hi)) none).run P W = .ok (.slice p' k (c - lo)) W) ∧ BytesIn w p' k (c - lo) ((l.drop lo).take k) := by
  obtain ⟨p', r, s, _⟩ := h.sl.sub hT hs lo hi .i64 .i64 (by omega) h1
  rw [show hi - lo = k from by omega] at r s
  refine ⟨p', r, ?_, fun x hx => h.wf x (List.mem_of_mem_drop (List.mem_of_mem_take hx))⟩
  rw [Nat.mul_one, Nat.mul_one] at s
  simpa [bs, List.map_drop, List.map_take] using s
end Go.Proofs.YtgimdodbajhpoaaGreatDoor
namespace Go.Proofs.YtgimdodbajhpoaaGreatDoor
open Go.RowKit Go.Maps
set_option linter.unusedSimpArgs false
set_option linter.unusedVariables false

/-- A slice of bytes, and its bytes. -/
structure Bv where
  p : Option Addr
  n : Nat
  c : Nat
  l : List Int
def Bv.val (k : Bv) : Value := .slice k.p k.n k.c
def Bv.In (w : World) (k : Bv) : Prop := BytesIn w k.p k.n k.c k.l
theorem Bv.In.mod {w w' : World} {S : List Nat} {k : Bv} (h : k.In w) (hm : Mod S w w') (hn : ∀ a, k.p = some a → 0 < k.n → a.block ∉ S) : k.In w' := ⟨BytesIn.sl h |>.mod hm hn, BytesIn.wf h⟩
theorem Bv.In.mod0 {w w' : World} {k : Bv} (h : k.In w) (hm : Mod [] w w') : k.In w' := h.mod hm (by simp)
theorem Bv.In.len {w : World} {k : Bv} (h : k.In w) : k.l.length = k.n := BytesIn.len h
structure KeysIn (w : World) (p : Option Addr) (n c : Nat) (ks : List Bv) : Prop where
  sl : Sl w 1 p n c (ks.map Bv.val)
  io : ∀ k ∈ ks, k.In w
theorem KeysIn.len {w : World} {p : Option Addr} {n c : Nat} {ks : List Bv} (h : KeysIn w p n c ks) : ks.length = n := by have := h.sl.len; simpa using this
theorem KeysIn.mod0 {w w' : World} {p : Option Addr} {n c : Nat} {ks : List Bv} (h : KeysIn w p n c ks) (hm : Mod [] w w') : KeysIn w' p n c ks := ⟨h.sl.mod hm (by simp), fun k hk => (h.io k hk).mod0 hm⟩
end Go.Proofs.YtgimdodbajhpoaaGreatDoor
namespace Go.Proofs.YtgimdodbajhpoaaGreatDoor
open Go.RowKit Go.Maps
set_option linter.unusedSimpArgs false
set_option linter.unusedVariables false

section
variable {α β H : Type}
def SrtG (m : List (Int × α)) : Prop := m.Pairwise fun a b => a.1 < b.1
def mapG (f : α → DataW H) (m : List (Int × α)) : DataW H := .map (m.map fun p => (.int .i64 p.1, f p.2))
def lookG (m : List (Int × α)) (x : Int) : Option α := (m.find? fun p => p.1 == x).map (·.2)
def insG (x : Int) (v : α) : List (Int × α) → List (Int × α)
  | [] => [(x, v)]
  | a :: r => if x < a.1 then (x, v) :: a :: r else if x = a.1 then (x, v) :: r else a :: insG x v r
def cutG (m : List (Int × α)) (x : Int) : List (Int × α) := m.filter fun p => p.1 != x
theorem has_mapG (f : α → DataW H) (m : List (Int × α)) (x : Int) : Maps.has (mapG f m) (.int .i64 x) = (lookG m x).isSome := by
  induction m with
  | nil => rfl
  | cons a r ih =>
    simp only [Maps.has, mapG, List.map_cons, List.any_cons, sameKey_int, lookG, List.find?_cons] at ih ⊢
    cases h : (a.1 == x)
    · simpa using ih
    · simp
theorem atKey_mapG (f : α → DataW H) (m : List (Int × α)) (x : Int) (zd : DataW H) : (mapG f m).atKey (.int .i64 x) zd = ((lookG m x).map f).getD zd := by
  induction m with
  | nil => rfl
  | cons a r ih =>
    simp only [mapG, DataW.atKey, List.map_cons, List.find?_cons, sameKey_int, lookG] at ih ⊢
    cases h : (a.1 == x)
    · simpa using ih
    · simp
theorem size_mapG (f : α → DataW H) (m : List (Int × α)) : Maps.size (mapG f m) = m.length := by simp [Maps.size, mapG]
theorem del_mapG (f : α → DataW H) (m : List (Int × α)) (x : Int) : (mapG f m).del (.int .i64 x) = mapG f (cutG m x) := by
  simp only [DataW.del, mapG, cutG, List.filter_map]
  congr 2
  apply List.filter_congr
  intro p _
  simp [Function.comp, sameKey_int, bne]
theorem insert_mapG (f : α → DataW H) (x : Int) (v : α) : ∀ m : List (Int × α), SrtG m →
    DataW.insert (.int .i64 x, f v) ((m.map fun p => (Lit.int .i64 p.1, f p.2)).filter fun p => !p.1.sameKey (.int .i64 x)) = (insG x v m).map fun p => (Lit.int .i64 p.1, f p.2)
  | [], _ => rfl
  | a :: r, h => by
    obtain ⟨h1, h2⟩ := List.pairwise_cons.1 h
    have ih := insert_mapG f x v r h2
    have hall : ∀ y : Int, (∀ p ∈ r, y < p.1) → x ≤ y → ((r.map fun p => (Lit.int .i64 p.1, f p.2)).filter fun p => !p.1.sameKey (.int .i64 x)) = r.map fun p => (Lit.int .i64 p.1, f p.2) := by
      intro y hy hxy
      rw [List.filter_eq_self]
      intro p hp
      obtain ⟨p0, hp0, rfl⟩ := List.mem_map.1 hp
      have := hy p0 hp0
      simp [sameKey_int]; omega
    unfold insG
    by_cases c1 : x < a.1
    · rw [if_pos c1]
      simp only [List.map_cons, List.filter_cons, sameKey_int]
      have c2 : (a.1 == x) = false := by simp; omega
      rw [c2, hall a.1 h1 (by omega)]
      simp [DataW.insert, Lit.before, c1]
    · rw [if_neg c1]
      by_cases c2 : x = a.1
      · rw [if_pos c2]
        simp only [List.map_cons, List.filter_cons, sameKey_int]
        have c3 : (a.1 == x) = true := by simp; omega
        rw [c3, hall a.1 h1 (by omega)]
        simp only [Bool.not_true, Bool.false_eq_true, if_false]
        cases r with
        | nil => rfl
        | cons b r =>
          have := h1 b (by simp)
          simp [DataW.insert, Lit.before]; omega
      · rw [if_neg c2]
        simp only [List.map_cons, List.filter_cons, sameKey_int]
        have c3 : (a.1 == x) = false := by simp; omega
        rw [c3]
        have c4 : (Lit.int .i64 x).before (.int .i64 a.1) = false := by simp [Lit.before]; omega
        simp only [Bool.not_false, if_true, DataW.insert, c4, ih, Bool.false_eq_true, if_false]
theorem put_mapG (f : α → DataW H) {m : List (Int × α)} (h : SrtG m) (x : Int) (v : α) : (mapG f m).put (.int .i64 x) (f v) = mapG f (insG x v m) := by
  show DataW.map _ = DataW.map _
  rw [insert_mapG f x v m h]
theorem mem_insG {x : Int} {v : α} {p : Int × α} : ∀ {m : List (Int × α)}, p ∈ insG x v m → p = (x, v) ∨ p ∈ m
  | [], h => by simp [insG] at h; exact Or.inl h
  | a :: r, h => by
    unfold insG at h
    split at h
    · simp at h ⊢; exact h
    · split at h
      · simp at h ⊢; rcases h with h | h
        · exact Or.inl h
        · exact Or.inr (Or.inr h)
      · simp at h ⊢
        rcases h with h | h
        · exact Or.inr (Or.inl h)
        · rcases mem_insG h with h | h
          · exact Or.inl h
          · exact Or.inr (Or.inr h)
theorem SrtG.ins {x : Int} {v : α} : ∀ {m : List (Int × α)}, SrtG m → SrtG (insG x v m)
  | [], _ => by simp [insG, SrtG]
  | a :: r, h => by
    obtain ⟨h1, h2⟩ := List.pairwise_cons.1 h
    unfold insG
    split
    · rename_i c; exact List.pairwise_cons.2 ⟨fun p hp => by rcases List.mem_cons.1 hp with rfl | hp; exact c; have := h1 p hp; simp; omega, h⟩
    · split
      · rename_i c; exact List.pairwise_cons.2 ⟨fun p hp => by have := h1 p hp; simp; omega, h2⟩
      · rename_i c1 c2
        refine List.pairwise_cons.2 ⟨fun p hp => ?_, SrtG.ins h2⟩
        rcases mem_insG hp with rfl | hp
        · simp; omega
        · exact h1 p hp
theorem SrtG.cut {m : List (Int × α)} (h : SrtG m) (x : Int) : SrtG (cutG m x) := h.filter _
theorem insG_len (x : Int) (v : α) : ∀ m : List (Int × α), (insG x v m).length ≤ m.length + 1
  | [] => by simp [insG]
  | a :: r => by
    unfold insG
    split
    · simp
    · split
      · simp
      · have := insG_len x v r; simp; omega
theorem lookG_mem {m : List (Int × α)} {x : Int} {v : α} (h : lookG m x = some v) : (x, v) ∈ m := by
  simp only [lookG, Option.map_eq_some_iff] at h
  obtain ⟨p, hp, rfl⟩ := h
  have h1 := List.find?_some hp
  simp at h1
  have h2 := List.mem_of_find?_eq_some hp
  rw [← h1]; exact h2
theorem lookG_of_mem {m : List (Int × α)} (h : SrtG m) {p : Int × α} (hp : p ∈ m) : lookG m p.1 = some p.2 := by
  induction m with
  | nil => simp at hp
  | cons a r ih =>
    obtain ⟨h1, h2⟩ := List.pairwise_cons.1 h
    rcases List.mem_cons.1 hp with rfl | hp'
    · simp [lookG]
    · have := h1 p hp'
      have e : (a.1 == p.1) = false := by simp; omega
      have := ih h2 hp'
      simp only [lookG, List.find?_cons, e] at this ⊢
      exact this
theorem SrtG.small : ∀ {m : List (Int × α)} {lo hi : Int}, SrtG m → (∀ x ∈ m, lo ≤ x.1 ∧ x.1 < hi) → lo ≤ hi → (m.length : Int) ≤ hi - lo
  | [], lo, hi, _, _, h => by simp; omega
  | a :: r, lo, hi, hs, hb, h => by
    obtain ⟨h1, h2⟩ := List.pairwise_cons.1 hs
    have ha := hb a (by simp)
    have := SrtG.small (lo := a.1 + 1) (hi := hi) h2 (fun x hx => ⟨by have := h1 x hx; omega, (hb x (by simp [hx])).2⟩) (by omega)
    simp; omega
/-- The elements changed. -/
def mapV (f : α → β) (m : List (Int × α)) : List (Int × β) := m.map fun p => (p.1, f p.2)
theorem mapV_len (f : α → β) (m : List (Int × α)) : (mapV f m).length = m.length := by simp [mapV]
theorem mapV_look (f : α → β) (m : List (Int × α)) (x : Int) : lookG (mapV f m) x = (lookG m x).map f := by
  induction m with
  | nil => rfl
  | cons a r ih =>
    simp only [lookG, mapV, List.map_cons, List.find?_cons] at ih ⊢
    cases h : (a.1 == x)
    · simpa using ih
    · simp
theorem mapV_ins (f : α → β) (x : Int) (v : α) : ∀ m : List (Int × α), mapV f (insG x v m) = insG x (f v) (mapV f m)
  | [] => rfl
  | a :: r => by
    unfold insG mapV
    simp only [List.map_cons]
    by_cases c1 : x < a.1
    · rw [if_pos c1, if_pos c1]; rfl
    · rw [if_neg c1, if_neg c1]
      by_cases c2 : x = a.1
      · rw [if_pos c2, if_pos c2]; rfl
      · rw [if_neg c2, if_neg c2]
        have := mapV_ins f x v r
        unfold mapV at this
        rw [List.map_cons, this]
theorem mapV_cut (f : α → β) (m : List (Int × α)) (x : Int) : mapV f (cutG m x) = cutG (mapV f m) x := by
  unfold mapV cutG
  rw [List.filter_map]; rfl
theorem mapV_srt {f : α → β} {m : List (Int × α)} (h : SrtG m) : SrtG (mapV f m) := by
  unfold SrtG mapV at *; rw [List.pairwise_map]; exact h
theorem lookG_ins {x y : Int} {v : α} {m : List (Int × α)} (h : SrtG m) : lookG (insG x v m) y = if y = x then some v else lookG m y := by
  induction m with
  | nil =>
    simp only [insG, lookG, List.find?_cons, List.find?_nil]
    by_cases e : y = x
    · simp [e]
    · have : (x == y) = false := by simp; omega
      simp [this, e]
  | cons a r ih =>
    obtain ⟨h1, h2⟩ := List.pairwise_cons.1 h
    have ih := ih h2
    unfold insG
    by_cases c1 : x < a.1
    · rw [if_pos c1]
      simp only [lookG, List.find?_cons]
      by_cases e : y = x
      · simp [e]
      · have : (x == y) = false := by simp; omega
        simp [this, e]
    · rw [if_neg c1]
      by_cases c2 : x = a.1
      · rw [if_pos c2]
        simp only [lookG, List.find?_cons]
        by_cases e : y = x
        · simp [e]
        · have e1 : (x == y) = false := by simp; omega
          have e2 : (a.1 == y) = false := by simp; omega
          simp [e1, e2, e]
      · rw [if_neg c2]
        simp only [lookG, List.find?_cons] at ih ⊢
        by_cases e : a.1 = y
        · have e1 : (a.1 == y) = true := by simp [e]
          have e2 : ¬ y = x := by omega
          simp [e1, e2]
        · have e1 : (a.1 == y) = false := by simp [e]
          rw [e1]; exact ih
theorem lookG_cut {x y : Int} (m : List (Int × α)) : lookG (cutG m x) y = if y = x then none else lookG m y := by
  induction m with
  | nil => simp [cutG, lookG]
  | cons a r ih =>
    simp only [cutG, lookG, List.filter_cons] at ih ⊢
    by_cases e : a.1 = x
    · have e1 : (a.1 != x) = false := by simp [e]
      rw [e1]
      simp only [Bool.false_eq_true, if_false]
      rw [ih]
      by_cases e2 : y = x
      · rw [if_pos e2, if_pos e2]
      · have e3 : (a.1 == y) = false := by simp; omega
        rw [if_neg e2, if_neg e2, List.find?_cons, e3]
    · have e1 : (a.1 != x) = true := by simp [e]
      rw [e1, if_pos rfl, List.find?_cons, List.find?_cons]
      by_cases e2 : a.1 = y
      · have e3 : (a.1 == y) = true := by simp [e2]
        have e4 : ¬ y = x := by omega
        simp [e3, e4]
      · have e3 : (a.1 == y) = false := by simp [e2]
        rw [e3]; exact ih
end
end Go.Proofs.YtgimdodbajhpoaaGreatDoor
