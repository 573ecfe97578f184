/- Own lemmas on slices: a slice that is read, cut, appended from. -/
import Derived.Maps.AppendAt
import Derived.Deep.AppendLies
import Derived.Deep.RegionLaw
import Derived.Deep.RegionHeld3
import Derived.BigQuiet
import Derived.Deep.QuietTactic
import Derived.Test.YtgimdodbajhpoaaGreatDoorG02
namespace Go.Proofs.YtgimdodbajhpoaaGreatDoor
open Go.RowKit

/-- The slice '.slice p m cap', of elements of size cells each, reads as these cells. -/
structure Sl (w : World) (size : Nat) (p : Option Addr) (m cap : Nat) (cells : List Value) : Prop where
  len : cells.length = m * size
  le : m ≤ cap
  capm : cap ≤ maxLen
  one : ∀ u ∈ cells, u.oneCell' = true
  at_ : ∃ b off, (0 < m → p = some ⟨b, off, none⟩ ∧ b < w.heap.size) ∧ ∀ j u, cells[j]? = some u → w.cell? ⟨b, off + j, none⟩ = some u

namespace Sl
variable {w w' : World} {size m cap : Nat} {p : Option Addr} {cells : List Value}

theorem nil (w : World) (size : Nat) : Sl w size none 0 0 [] := ⟨by simp, by omega, by unfold maxLen; omega, by simp, 0, 0, by omega, by simp⟩

theorem addr (h : Sl w size p m cap cells) (hm : 0 < m) : ∃ b off, p = some ⟨b, off, none⟩ ∧ b < w.heap.size ∧ ∀ j u, cells[j]? = some u → w.cell? ⟨b, off + j, none⟩ = some u := by
  obtain ⟨b, off, h1, h2⟩ := h.at_
  exact ⟨b, off, (h1 hm).1, (h1 hm).2, h2⟩

theorem mod {S : List Nat} (h : Sl w size p m cap cells) (hm : Mod S w w') (hn : ∀ a, p = some a → 0 < m → a.block ∉ S) : Sl w' size p m cap cells := by
  obtain ⟨h1, h2, h3, h4, b, off, h5, h6⟩ := h
  refine ⟨h1, h2, h3, h4, b, off, fun h => ⟨(h5 h).1, Nat.lt_of_lt_of_le (h5 h).2 hm.size⟩, fun j u hj => ?_⟩
  have hpos : 0 < m := by
    rcases Nat.eq_zero_or_pos m with rfl | h
    · have := (List.getElem?_eq_some_iff.1 hj).1; omega
    · exact h
  obtain ⟨e, hlt⟩ := h5 hpos
  have := hm.block b hlt (hn _ e hpos)
  rw [World.cell?_of_block (w := w) (a := ⟨b, off + j, none⟩) this]
  exact h6 j u hj
theorem below {B : Nat} (h : Sl w size p m cap cells) (hb : Below w.heap.size w w') : Sl w' size p m cap cells := h.mod (Mod.of_below hb) (by simp)

theorem of_own {base : Nat} {e : TypeId} {n : Nat} (h : w.ownsRow base e size (.slice p m cap) n cells) (h1 : ∀ u ∈ cells, u.oneCell' = true) : Sl w size p m cap cells ∧ n = m := by
  rcases h with ⟨hl, ⟨hv, rfl⟩ | ⟨g, cap', cur, hv, hg, hb, h2, h3, h4, h5⟩⟩
  · cases hv; exact ⟨⟨hl, by omega, by unfold maxLen; omega, h1, 0, 0, by omega, fun j u hj => by
      have : cells = [] := List.eq_nil_of_length_eq_zero (by omega)
      subst this; simp at hj⟩, rfl⟩
  · cases hv
    refine ⟨⟨hl, h2, h3, h1, g, 0, fun _ => ⟨rfl, lt_of_at hb⟩, fun j u hj => ?_⟩, rfl⟩
    rw [cell_of_at hb, Nat.zero_add, ← Array.getElem?_toList]
    rw [← h5] at hj
    obtain ⟨hlt, _⟩ := List.getElem?_eq_some_iff.1 hj
    rw [List.length_take] at hlt
    rwa [List.getElem?_take_of_lt (by omega)] at hj

/-- Index k: the address, in whatever world. -/
theorem idx {P : Program} {T : TypeId} (hT : P.underlying T = some (.slice (P.elem T))) (hc : ∀ W : World, (sizeOf (P.elem T)).run P W = .ok size W) {b off : Nat} (hp : 0 < m → p = some ⟨b, off, none⟩)
    (W : World) (q : IntKind) (k : Nat) (hk : k < m) : (Instr.indexAt T (.slice p m cap) (.int q k)).run P W = .ok (.pointer (some ⟨b, off + k * size, none⟩)) W := by
  rw [hp (by omega), run_indexAt_slice _ _ _ _ _ _ _ hT, if_pos ⟨by omega, by omega⟩, hc]
  simp only [Result.andThen, Addr.add, Int.toNat_natCast]
  by_cases hz : k * size = 0
  · simp [hz]
  · simp [hz]

theorem sub_at {lo hi : Nat} (h : Sl w size p m cap cells) (h1 : lo ≤ hi) (h2 : hi ≤ m) (c : Nat) (hc : hi - lo ≤ c) (hcm : c ≤ maxLen) (hcc : c = cap - lo) :
    Sl w size (if cap = lo then p else p.map (·.add (lo * size))) (hi - lo) c ((cells.drop (lo * size)).take ((hi - lo) * size)) := by
  obtain ⟨g1, g2, g3, g4, b, off, g5, g6⟩ := h
  have e1 : hi * size = lo * size + (hi - lo) * size := by rw [← Nat.add_mul]; congr 1; omega
  have e2 : hi * size ≤ m * size := Nat.mul_le_mul_right _ h2
  refine ⟨by rw [List.length_take, List.length_drop, g1]; omega, hc, hcm, fun u hu => g4 u (List.mem_of_mem_drop (List.mem_of_mem_take hu)), b, off + lo * size, fun hpos => ?_, fun j u hj => ?_⟩
  · obtain ⟨hp, hlt⟩ := g5 (by omega)
    refine ⟨?_, hlt⟩
    rw [if_neg (by omega), hp]
    simp only [Option.map_some, Addr.add]
    by_cases hz : lo * size = 0 <;> simp [hz]
  · rw [Nat.add_assoc]
    apply g6
    obtain ⟨hlt, _⟩ := List.getElem?_eq_some_iff.1 hj
    rw [List.length_take] at hlt
    rw [List.getElem?_take_of_lt (by omega), List.getElem?_drop] at hj
    exact hj
/-- 'x[lo:hi]'. -/
theorem sub {P : Program} {T : TypeId} (hT : P.underlying T = some (.slice (P.elem T))) (hs : ∀ W : World, (sizeOf (P.elem T)).run P W = .ok size W) (h : Sl w size p m cap cells) (lo hi : Nat) (q q' : IntKind) (h1 : lo ≤ hi) (h2 : hi ≤ m) :
    ∃ p', (∀ W, (Instr.slice T (.slice p m cap) (some (.int q lo)) (some (.int q' hi)) none).run P W = .ok (.slice p' (hi - lo) (cap - lo)) W) ∧
      Sl w size p' (hi - lo) (cap - lo) ((cells.drop (lo * size)).take ((hi - lo) * size)) ∧ (∀ a', p' = some a' → ∃ a, p = some a ∧ a'.block = a.block) := by
  have := h.le; have := h.capm
  refine ⟨_, fun W => ?_, h.sub_at h1 h2 _ (by omega) (by omega) rfl, ?_⟩
  · rw [run_slice_lh W T p m cap hT q q' lo hi (by omega) (by omega) (by omega), hs]
    simp only [Result.andThen, sliced, Int.toNat_natCast]
  · intro a' ha; split at ha
    · exact ⟨a', ha, rfl⟩
    · obtain ⟨a, h1, h2⟩ := Option.map_eq_some_iff.1 ha
      exact ⟨a, h1, by rw [← h2]; unfold Addr.add; split <;> rfl⟩
/-- 'x[:hi]'. -/
theorem sub_h {P : Program} {T : TypeId} (hT : P.underlying T = some (.slice (P.elem T))) (hs : ∀ W : World, (sizeOf (P.elem T)).run P W = .ok size W) (h : Sl w size p m cap cells) (hi : Nat) (q' : IntKind) (h2 : hi ≤ m) :
    (∀ W, (Instr.slice T (.slice p m cap) none (some (.int q' hi)) none).run P W = .ok (.slice p hi cap) W) ∧ Sl w size p hi cap (cells.take (hi * size)) := by
  have := h.le; have := h.capm
  refine ⟨fun W => ?_, ?_⟩
  · rw [run_slice_h W T p m cap hT q' hi (by omega) (by omega), hs]
    simp only [Result.andThen, sliced, Int.toNat_natCast, Nat.sub_zero, Nat.zero_mul]
    cases p with
    | none => simp
    | some a => simp [Addr.add]
  · have := h.sub_at (lo := 0) (Nat.zero_le hi) h2 cap (by omega) (by omega) (by omega)
    have e : (if cap = 0 then p else p.map (·.add (0 * size))) = p := by
      split
      · rfl
      · cases p <;> simp [Addr.add]
    rw [e] at this
    simpa using this
/-- 'x[lo:]'. -/
theorem sub_l {P : Program} {T : TypeId} (hT : P.underlying T = some (.slice (P.elem T))) (hs : ∀ W : World, (sizeOf (P.elem T)).run P W = .ok size W) (h : Sl w size p m cap cells) (lo : Nat) (q : IntKind) (h1 : lo ≤ m) :
    ∃ p', (∀ W, (Instr.slice T (.slice p m cap) (some (.int q lo)) none none).run P W = .ok (.slice p' (m - lo) (cap - lo)) W) ∧
      Sl w size p' (m - lo) (cap - lo) (cells.drop (lo * size)) ∧ (∀ a', p' = some a' → ∃ a, p = some a ∧ a'.block = a.block) := by
  have := h.le; have := h.capm
  have hsub := h.sub_at h1 (Nat.le_refl m) (cap - lo) (by omega) (by omega) rfl
  rw [List.take_of_length_le (by rw [List.length_drop, h.len, Nat.sub_mul]; exact Nat.le_refl _)] at hsub
  refine ⟨_, fun W => ?_, hsub, ?_⟩
  · rw [run_slice_l W T p m cap hT q lo (by omega) (by omega), hs]
    simp only [Result.andThen, sliced, Int.toNat_natCast]
  · intro a' ha; split at ha
    · exact ⟨a', ha, rfl⟩
    · obtain ⟨a, h1, h2⟩ := Option.map_eq_some_iff.1 ha
      exact ⟨a, h1, by rw [← h2]; unfold Addr.add; split <;> rfl⟩
end Sl

/-- A block of one cell that has just been made, as a slice of one element. -/
theorem Sl.one_new (w : World) (u : Value) (T : TypeId) (h1 : u.oneCell' = true) : Sl (w.alloc (.cells #[u] T)) 1 (some ⟨w.heap.size, 0, none⟩) 1 1 [u] :=
  ⟨rfl, by omega, by unfold maxLen; omega, by simpa using h1, w.heap.size, 0, fun _ => ⟨rfl, by simp⟩, fun j x hj => by
    rw [cell_of_at (at_alloc w _), Nat.zero_add]
    cases j with
    | zero => simpa using hj
    | succ j => simp at hj⟩
/-- A block that has just been made, as a slice. -/
theorem Sl.new (w : World) (cs : List Value) (T : TypeId) (size m : Nat) (hl : cs.length = m * size) (hm : m ≤ maxLen) (h1 : ∀ u ∈ cs, u.oneCell' = true) : Sl (w.alloc (.cells cs.toArray T)) size (some ⟨w.heap.size, 0, none⟩) m m cs :=
  ⟨hl, by omega, hm, h1, w.heap.size, 0, fun _ => ⟨rfl, by simp⟩, fun j x hj => by
    rw [cell_of_at (at_alloc w _), Nat.zero_add]
    simpa using hj⟩
/-- A block of no cell that has just been made, as a row of the call's own. -/
theorem own_empty (w : World) (T : TypeId) (size : Nat) : (w.alloc (.cells #[] T)).ownsRow 0 T size (.slice (some ⟨w.heap.size, 0, none⟩) 0 0) 0 [] :=
  ⟨by simp, Or.inr ⟨w.heap.size, 0, #[], rfl, by omega, at_alloc w _, by omega, by unfold maxLen; omega, by simp, by simp⟩⟩
theorem own_base {w : World} {base : Nat} {e : TypeId} {size : Nat} {v : Value} {n : Nat} {xs : List Value} (h : w.ownsRow base e size v n xs) : ∀ b ∈ v.ownBlock, base ≤ b := by
  intro b hb
  rcases h.2 with ⟨rfl, _⟩ | ⟨g, cap, cur, rfl, hg, _⟩
  · simp [Value.ownBlock] at hb
  · simp [Value.ownBlock] at hb; omega

theorem own_lt {w : World} {base : Nat} {e : TypeId} {size : Nat} {v : Value} {n : Nat} {xs : List Value} (h : w.ownsRow base e size v n xs) : ∀ b, v.ownBlock = some b → b < w.heap.size := by
  intro b hb
  rcases h.2 with ⟨rfl, _⟩ | ⟨g, cap, cur, rfl, hg, hh, _⟩
  · simp [Value.ownBlock] at hb
  · simp [Value.ownBlock] at hb; subst hb; exact lt_of_at hh

/-- 'delete(m, k)' as one step of a region that draws its order. -/
theorem step_delete_own {H : Type} {P : Program} (w : World) {ops : Array Oper} {o : Oper} {a : Act} {K : Act → World → Prop} {Q : Exit → Act → World → Prop} {E : Prop} (hg : o.guard = none) (m x : Operand) (t k : TypeId)
    (hop : o.op = Op.call { callee := Callee.builtin Builtin.delete, args := #[m, x], argTypes := #[t, k] })
    (e : TypeId) (Ky : Go.Maps.Keyed P k) (ht : P.underlying t = some (.map k e)) (R : Value → Option (DataW H × List MemPlace)) (b n : Nat) (D : DataW H)
    (hm : a.eval m = .map (some b)) (hown : w.ownsMap P k R b n D) (key : Value) (kl : Lit) (hx : a.eval x = key) (hkey : keyOf P k key = some kl)
    (hK : ∀ w', w'.ownsMap P k R b n (D.del kl) → w.mapTurned w' b → K (a.put o.dst (.tuple #[])) w') :
    if Region.wanted o (yielded ops a.tmps) = true then Oper.wp P o a w K Q else E := by
  rw [if_pos (by simp [Region.wanted, hg])]
  obtain ⟨w', hrun, r1, r2⟩ := hown.drop Ky ht hkey o.type
  unfold Oper.wp
  simp [execOp, hop, resolve, invoke, builtin, hm, hx, hrun, Result.andThen]
  exact hK w' r1 r2

/-! ### append -/
section
variable {P : Program} (w : World)
theorem run_append_src (base : Nat) (t ty e : TypeId) (i : TypeInfo) (z : Value) (size bytes : Nat) (ht : P.underlying t = some (.slice e)) (hi : P.info? e = some i) (hz : i.zero = some z)
    (hsize : i.size = size) (hby : i.bytes = bytes) (hzs : z.cells.size = size) (hsz : 0 < size)
    (v : Value) (n : Nat) (xs : List Value) (hown : w.ownsRow base e size v n xs)
    (p : Option Addr) (m c : Nat) (news : List Value) (hs : Sl w size p m c news)
    (h63 : n + m ≤ maxLen) (hbytes : (n + m) * bytes ≤ 140737488355328) (hbase : base ≤ w.heap.size) :
    ∃ v' w', (Builtin.append_ #[t, t] ty #[v, .slice p m c]).run P w = .ok v' w' ∧ w'.ownsRow base e size v' (n + m) (xs ++ news) ∧ w.grownBy w' v.ownBlock ∧
      (v' = .slice none 0 0 ↔ v = .slice none 0 0 ∧ m = 0) ∧ (v'.ownBlock = v.ownBlock ∨ v'.ownBlock = some w.heap.size) := by
  cases p with
  | some a =>
    refine run_append_own_at w base t ty e i z size bytes ht hi hz hsize hby hzs hsz v n xs hown a m c news hs.len (fun j u hj => ?_) hs.one h63 hbytes hbase
    have hpos : 0 < m := by
      rcases Nat.eq_zero_or_pos m with h | h
      · have := (List.getElem?_eq_some_iff.1 hj).1; rw [hs.len, h] at this; omega
      · exact h
    obtain ⟨b, off, hp, _, hc⟩ := hs.addr hpos
    cases hp
    have e : (Addr.mk b off none).add j = ⟨b, off + j, none⟩ := by unfold Addr.add; split <;> simp_all
    rw [e]; exact hc j u hj
  | none =>
    have hm0 : m = 0 := by
      rcases Nat.eq_zero_or_pos m with h | h
      · exact h
      · obtain ⟨_, _, hp, _⟩ := hs.addr h; cases hp
    subst hm0
    have hn0 : news = [] := List.eq_nil_of_length_eq_zero (by rw [hs.len]; omega)
    subst hn0
    refine ⟨v, w, ?_, by simpa using hown, ⟨rfl, rfl, rfl, Nat.le_refl _, fun _ _ _ => rfl⟩, by simp, Or.inl rfl⟩
    rcases hown.2 with ⟨rfl, h0⟩ | ⟨g, cap, cur, rfl, _, hb, h1, h2, h3, h4⟩
    · simp [Builtin.append_, run_underlying ht, Builtin.lenOf, Builtin.firstCells, go_sem, run_sizeOf w hi]
    · simp [Builtin.append_, run_underlying ht, Builtin.lenOf, Builtin.firstCells, go_sem, h1, storeCells, run_sizeOf w hi]

theorem own_shape {base : Nat} {e : TypeId} {size : Nat} {v : Value} {n : Nat} {xs : List Value} {w : World} (h : w.ownsRow base e size v n xs) : ∃ p c, v = .slice p n c ∧ (p = none ↔ v = .slice none 0 0) := by
  rcases h.2 with ⟨rfl, h0⟩ | ⟨g, cap, cur, rfl, _⟩
  · exact ⟨none, 0, by rw [h0], by simp⟩
  · exact ⟨_, _, rfl, by simp⟩

theorem wpList_append_src {ops : Array Oper} {rest : List Oper} {o : Oper} {a : Act} {Q : Exit → Act → World → Prop} (hgd : o.guard = none) (s x : Operand) (t : TypeId)
    (ho : o.op = .call { callee := .builtin .append, args := #[s, x], argTypes := #[t, t] })
    (base : Nat) (e : TypeId) (i : TypeInfo) (z : Value) (size bytes : Nat) (ht : P.underlying t = some (.slice e)) (hi : P.info? e = some i) (hz : i.zero = some z)
    (hsize : i.size = size) (hby : i.bytes = bytes) (hzs : z.cells.size = size) (hsz : 0 < size)
    (v : Value) (n : Nat) (xs : List Value) (hs : a.eval s = v) (hown : w.ownsRow base e size v n xs)
    (p : Option Addr) (m c : Nat) (news : List Value) (hx : a.eval x = .slice p m c) (hsrc : Sl w size p m c news)
    (N : Nat) (hN : n + m = N) (h63 : N ≤ maxLen) (hbytes : N * bytes ≤ 140737488355328) (hbase : base ≤ w.heap.size)
    (h : ∀ p' c' w', w'.ownsRow base e size (.slice p' N c') N (xs ++ news) → w.grownBy w' v.ownBlock → (p' = none ↔ v = .slice none 0 0 ∧ m = 0) → ((Value.slice p' N c').ownBlock = v.ownBlock ∨ (Value.slice p' N c').ownBlock = some w.heap.size) → wpList P ops Q rest (a.put o.dst (.slice p' N c')) w') :
    wpList P ops Q (o :: rest) a w := by
  subst hN
  refine wpList_plain hgd fun K hK => ?_
  obtain ⟨v', w', hr, h2, h3, h4, h5⟩ := run_append_src (P := P) w base t o.type e i z size bytes ht hi hz hsize hby hzs hsz v n xs hown p m c news hsrc h63 hbytes hbase
  unfold Oper.wp execOp
  simp only [ho, resolve, invoke, builtin, Sem.run_bind, Sem.run_pure, Result.andThen_ok, List.map_toArray, List.map_cons, List.map_nil, hs, hx, hr]
  obtain ⟨p', c', rfl, hp⟩ := own_shape h2
  exact hK _ _ (h p' c' w' h2 h3 (hp.trans h4) h5)

theorem step_append_src {ops : Array Oper} {o : Oper} {a : Act} {K : Act → World → Prop} {Q : Exit → Act → World → Prop} {E : Prop} (hgd : o.guard = none) (s x : Operand) (t : TypeId)
    (ho : o.op = .call { callee := .builtin .append, args := #[s, x], argTypes := #[t, t] })
    (base : Nat) (e : TypeId) (i : TypeInfo) (z : Value) (size bytes : Nat) (ht : P.underlying t = some (.slice e)) (hi : P.info? e = some i) (hz : i.zero = some z)
    (hsize : i.size = size) (hby : i.bytes = bytes) (hzs : z.cells.size = size) (hsz : 0 < size)
    (v : Value) (n : Nat) (xs : List Value) (hs : a.eval s = v) (hown : w.ownsRow base e size v n xs)
    (p : Option Addr) (m c : Nat) (news : List Value) (hx : a.eval x = .slice p m c) (hsrc : Sl w size p m c news)
    (N : Nat) (hN : n + m = N) (h63 : N ≤ maxLen) (hbytes : N * bytes ≤ 140737488355328) (hbase : base ≤ w.heap.size)
    (h : ∀ p' c' w', w'.ownsRow base e size (.slice p' N c') N (xs ++ news) → w.grownBy w' v.ownBlock → (p' = none ↔ v = .slice none 0 0 ∧ m = 0) → ((Value.slice p' N c').ownBlock = v.ownBlock ∨ (Value.slice p' N c').ownBlock = some w.heap.size) → K (a.put o.dst (.slice p' N c')) w') :
    if Region.wanted o (yielded ops a.tmps) = true then Oper.wp P o a w K Q else E := by
  subst hN
  have hw : Region.wanted o (yielded ops a.tmps) = true := by simp [Region.wanted, hgd]
  rw [if_pos hw]
  obtain ⟨v', w', hr, h2, h3, h4, h5⟩ := run_append_src (P := P) w base t o.type e i z size bytes ht hi hz hsize hby hzs hsz v n xs hown p m c news hsrc h63 hbytes hbase
  unfold Oper.wp execOp
  simp only [ho, resolve, invoke, builtin, Sem.run_bind, Sem.run_pure, Result.andThen_ok, List.map_toArray, List.map_cons, List.map_nil, hs, hx, hr]
  obtain ⟨p', c', rfl, hp⟩ := own_shape h2
  exact h p' c' w' h2 h3 (hp.trans h4) h5
end
/-- A block of one's own that has just been made, as a row. -/
theorem own_row (w : World) (cs : List Value) (T : TypeId) (base : Nat) (hb : base ≤ w.heap.size) (hm : cs.length ≤ maxLen) : (w.alloc (.cells cs.toArray T)).ownsRow base T 1 (.slice (some ⟨w.heap.size, 0, none⟩) cs.length cs.length) cs.length cs :=
  ⟨by simp, Or.inr ⟨w.heap.size, cs.length, cs.toArray, rfl, hb, at_alloc w _, Nat.le_refl _, hm, by simp, by simp⟩⟩
theorem madeCells_one (v : Value) (k : Nat) : madeCells #[v] k = (List.replicate k v).toArray := by
  apply Array.ext
  · simp [madeCells]
  · intro i h1 h2
    simp [madeCells, Nat.mod_one]
end Go.Proofs.YtgimdodbajhpoaaGreatDoor
