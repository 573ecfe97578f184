/- PutChain: a value in a chain. -/
import Derived.Sort.CutIn
import Derived.Test.YtgimdodbajhpoaaDoorG32
import Derived.Test.YtgimdodbajhpoaaDoorG38
namespace Go.Proofs.YtgimdodbajhpoaaDoor
open Go.RowKit Go.Shelf Go.Maps
set_option linter.unusedSimpArgs false
set_option linter.unusedVariables false
attribute [local go_sem] Oper.semAt_some

/-- The pieces are put, the last first. -/
def pcL : Pm → Int → List Int → List (List Int) → (Int × Int) × Pm
  | m, next, _, [] => ((next, 0), m)
  | m, next, put, part :: r => if (m.put (linkL next part)).1.2 = 0 then pcL (m.put (linkL next part)).2 (m.put (linkL next part)).1.1 (put ++ [(m.put (linkL next part)).1.1]) r else ((0, (m.put (linkL next part)).1.2), dropsL (m.put (linkL next part)).2 put)
/-- The boxes of PutChain's own variables. -/
structure PcBox (W : World) (z X : Nat) (no : Int) (code : Int) (next : Int) (put : Value) : Prop where
  b0 : Boxed W z 31 (.pointer (some ⟨X, 0, none⟩))
  b1 : Boxed W (z + 1) 3 (.int .i64 no)
  b2 : Boxed W (z + 1 + 1) 26 (.int .i64 code)
  b3 : Boxed W (z + 1 + 1 + 1) 3 (.int .i64 next)
  b4 : Boxed W (z + 1 + 1 + 1 + 1) 37 put
theorem PcBox.new (w : World) (X : Nat) (put : Value) : PcBox (((((w.alloc (.cells #[.pointer (some ⟨X, 0, none⟩)] 31)).alloc (.cells #[.int .i64 0] 3)).alloc (.cells #[.int .i64 0] 26)).alloc (.cells #[.int .i64 0] 3)).alloc (.cells #[put] 37)) w.heap.size X 0 0 0 put := by
  have y0 := Boxed.new w 31 (.pointer (some ⟨X, 0, none⟩))
  have y1 := Boxed.new (w.alloc (.cells #[.pointer (some ⟨X, 0, none⟩)] 31)) 3 (.int .i64 0)
  have y2 := Boxed.new ((w.alloc (.cells #[.pointer (some ⟨X, 0, none⟩)] 31)).alloc (.cells #[.int .i64 0] 3)) 26 (.int .i64 0)
  have y3 := Boxed.new (((w.alloc (.cells #[.pointer (some ⟨X, 0, none⟩)] 31)).alloc (.cells #[.int .i64 0] 3)).alloc (.cells #[.int .i64 0] 26)) 3 (.int .i64 0)
  have y4 := Boxed.new ((((w.alloc (.cells #[.pointer (some ⟨X, 0, none⟩)] 31)).alloc (.cells #[.int .i64 0] 3)).alloc (.cells #[.int .i64 0] 26)).alloc (.cells #[.int .i64 0] 3)) 37 put
  simp only [World.size_alloc] at y1 y2 y3 y4
  exact ⟨(((y0.alloc _).alloc _).alloc _).alloc _, ((y1.alloc _).alloc _).alloc _, (y2.alloc _).alloc _, y3.alloc _, y4⟩
theorem PcBox.kept {W W' : World} {z X : Nat} {no code next : Int} {put : Value} (h : PcBox W z X no code next put) {S : List Nat} (hm : Mod S W W') (hS : ∀ i, z ≤ i → i ≤ z + 4 → i ∉ S) : PcBox W' z X no code next put :=
  ⟨hm.at h.b0 (hS _ (by omega) (by omega)), hm.at h.b1 (hS _ (by omega) (by omega)), hm.at h.b2 (hS _ (by omega) (by omega)), hm.at h.b3 (hS _ (by omega) (by omega)), hm.at h.b4 (hS _ (by omega) (by omega))⟩
/-- Between two rounds. no, code: what the results' boxes hold; B: the heap's size where the loop begins. -/
def PcI (sb bm M X D z B : Nat) (T : List Nat) (no code : Int) (w : World) (next : Int) (put : List Int) (m' : Pm) (W : World) : Prop := ∃ (pv : Value) (T' : List Nat),
  PcBox W z X no code next pv ∧ W.ownsRow B 3 1 pv put.length (ints put) ∧ PgrAt3 sb bm M W X T' D m' ∧ (∀ b ∈ T', b ∈ T ∨ (B ≤ b ∧ IsBytes W b)) ∧ Mod [sb, bm, M] w W ∧ B ≤ W.heap.size
def IsCells (w : World) (b : Nat) : Prop := ∃ cs t, w.heap[b]? = some (.cells cs t (0, 0))
theorem IsBytes.cells {w : World} {b : Nat} (h : IsBytes w b) : IsCells w b := by obtain ⟨cs, h⟩ := h; exact ⟨cs, _, h⟩
theorem row_cells {W : World} {base : Nat} {e : TypeId} {size n : Nat} {v : Value} {xs : List Value} (h : W.ownsRow base e size v n xs) : ∀ b ∈ v.ownBlock, IsCells W b := by
  intro b hb
  rcases h.2 with ⟨rfl, _⟩ | ⟨g, cap, cur, rfl, _, hg, _⟩
  · simp [Value.ownBlock] at hb
  · simp [Value.ownBlock] at hb; subst hb; exact ⟨_, _, hg⟩
theorem PcI.step {sb bm M X D z B : Nat} {T : List Nat} {no code : Int} {w : World} {next : Int} {put : List Int} {m' : Pm} {W W' : World} {row : Option Nat} (h : PcI sb bm M X D z B T no code w next put m' W) (hz : z + 4 < B) (hT : ∀ b ∈ T, b < B) (hw : w.heap.size ≤ B)
    (hg : W.grownBy W' row) (hr : ∀ r, row = some r → B ≤ r ∧ ∃ o : Obj, W.heap[r]? = some o ∧ o.isCells = false) : PcI sb bm M X D z B T no code w next put m' W' := by
  obtain ⟨pv, T', h1, h2, ⟨fv, h3⟩, h4, h5, h6⟩ := h
  have hm := Mod.of_grown' hg
  have hrow : ∀ b ∈ row.toList, B ≤ b ∧ ¬ IsCells W b := fun b hb => by
    obtain ⟨q1, o, q2, q3⟩ := hr b (by simpa using hb)
    refine ⟨q1, fun ⟨cs, t, hc⟩ => ?_⟩
    rw [hc] at q2; cases q2; cases q3
  have hT' : ∀ b ∈ T', b ∉ row.toList := fun b hb hb2 => by
    obtain ⟨q1, q2⟩ := hrow b hb2
    rcases h4 b hb with h | h
    · have := hT b h; omega
    · exact q2 h.2.cells
  refine ⟨pv, T', h1.kept hm (fun i hi1 hi2 hb => by have := (hrow i hb).1; omega), ownsRow_mod h2 hm (fun b hb hb2 => (hrow b hb2).2 (row_cells h2 b hb)), ⟨fv, h3.mod hm hT'⟩, fun b hb => ?_, h5.trans hm (fun b hb => Or.inr (Nat.le_trans hw (hrow b hb).1)), Nat.le_trans h6 hm.size⟩
  rcases h4 b hb with h | h
  · exact Or.inl h
  · obtain ⟨q1, cs, q2⟩ := h
    exact Or.inr ⟨q1, cs, hm.at q2 (hT' b hb)⟩
set_option maxRecDepth 100000 in
theorem piece_in {w : World} {b off len c : Nat} {l : List Int} (h : BytesIn w (some ⟨b, off, none⟩) len c l) {j : Nat} (hj : 1010 * j < len) : BytesIn w (piece b off l j).p (piece b off l j).n (piece b off l j).c (piece b off l j).l := by
  have hln := h.len
  obtain ⟨nj, hnj⟩ : ∃ nj, nj = min 1010 (len - 1010 * j) := ⟨_, rfl⟩
  obtain ⟨-, h2⟩ := Sl.sub_lhm Tryd.underlying22 sizeBytes h.sl (1010 * j) (1010 * j + nj) (by omega) (by omega)
  have e1 : (if 1010 * j + nj = 1010 * j then (some ⟨b, off, none⟩ : Option Addr) else (some (⟨b, off, none⟩ : Addr)).map (·.add (1010 * j * 1))) = some ⟨b, off + 1010 * j, none⟩ := by
    rw [if_neg (by omega)]
    simp only [Option.map_some, Addr.add, Nat.mul_one]
    by_cases hz : 1010 * j = 0 <;> simp [hz]
  have e2 : (((bs l).take ((1010 * j + nj) * 1)).drop (1010 * j * 1)).take ((1010 * j + nj - 1010 * j) * 1) = bs ((l.drop (1010 * j)).take 1010) := by
    simp only [Nat.mul_one, bs, ← List.map_take, ← List.map_drop]
    congr 1
    rw [List.drop_take, List.take_take]
    by_cases hb : 1010 ≤ len - 1010 * j
    · congr 1; omega
    · rw [List.take_of_length_le (by rw [List.length_drop]; omega), List.take_of_length_le (by rw [List.length_drop]; omega)]
  rw [e1, e2, show 1010 * j + nj - 1010 * j = nj by omega] at h2
  refine ⟨?_, fun x hx => h.wf x (List.mem_of_mem_drop (List.mem_of_mem_take hx))⟩
  show Sl w 1 (some ⟨b, off + 1010 * j, none⟩) (min 1010 (l.length - 1010 * j)) (min 1010 (l.length - 1010 * j)) (bs ((l.drop (1010 * j)).take 1010))
  rw [hln, ← hnj]; exact h2
/-- A piece that may be handed to a round. -/
abbrev Pc (w : World) (T : List Nat) := { x : Nat × Bv // BytesIn w x.2.p x.2.n x.2.c x.2.l ∧ ∀ a, x.2.p = some a → a.block ∉ T }
theorem KeepsFrom.of_mod {B : Nat} {S : List Nat} {W W' : World} (h : Mod S W W') (hS : ∀ b ∈ S, b < B ∨ IsCells W b) : KeepsFrom B W W' :=
  ⟨h.size, fun i o hB hi ho => (h.block i (Array.getElem?_eq_some_iff.1 hi).1 (fun hm => by
    rcases hS i hm with h | ⟨cs, t, hc⟩
    · omega
    · rw [hc] at hi; cases hi; cases ho)).trans hi⟩
/-- The pieces, the last first. -/
def partsL (l : List Int) : List (List Int) := upto (fun k => (l.drop (1010 * (pieces l.length - 1 - k))).take 1010) (pieces l.length)
theorem upto_map {α β : Type} (f : Nat → α) (g : α → β) (k : Nat) : (upto f k).map g = upto (fun i => g (f i)) k := by simp [upto]
theorem upto_split {α : Type} (f : Nat → α) {k n : Nat} (h : k ≤ n) : ∃ r, upto f n = upto f k ++ r := by
  refine ⟨(upto f n).drop k, ?_⟩
  conv => lhs; rw [← List.take_append_drop k (upto f n)]
  congr 1
  simp only [upto, ← List.map_take, List.take_range, Nat.min_eq_left h]
def PcOn (sb bm M X D z B : Nat) (T : List Nat) (m : Pm) (w : World) (pre : List (Pc w T)) (W : World) : Prop :=
  ∃ next put m', PcI sb bm M X D z B T 0 0 w next put m' W ∧ put.length = pre.length ∧ (∀ x ∈ put, 2 ≤ x ∧ x < 2048) ∧ ∀ rest, pcL m 0 [] (pre.map (fun x => x.1.2.l) ++ rest) = pcL m' next put rest
def PcOff (sb bm M X D z B : Nat) (T : List Nat) (m : Pm) (w : World) (c : Code) (pre : List (Pc w T)) (W : World) : Prop :=
  c = .ret ∧ ∃ code next put m', PcI sb bm M X D z B T 0 code w next put m' W ∧ ∀ rest, pcL m 0 [] (pre.map (fun x => x.1.2.l) ++ rest) = ((0, code), m')
theorem PcOn.own {sb bm M X D z B : Nat} {T : List Nat} {m : Pm} {w : World} (hz : z + 4 < B) (hT : ∀ b ∈ T, b < B) (hw : w.heap.size ≤ B) : OwnFrom B (PcOn sb bm M X D z B T m w) := fun s W W' row ⟨next, put, m', h, r⟩ hg hr => ⟨next, put, m', h.step hz hT hw hg hr, r⟩
theorem PcOff.own {sb bm M X D z B : Nat} {T : List Nat} {m : Pm} {w : World} (hz : z + 4 < B) (hT : ∀ b ∈ T, b < B) (hw : w.heap.size ≤ B) (c : Code) : OwnFrom B (PcOff sb bm M X D z B T m w c) := fun s W W' row ⟨hc, code, next, put, m', h, r⟩ hg hr => ⟨hc, code, next, put, m', h.step hz hT hw hg hr, r⟩
theorem pgrput_range {sb bm M : Nat} {w : World} {X : Nat} {T : List Nat} {D : Nat} {m : Pm} (h : PgrAt3 sb bm M w X T D m) {l : List Int} {no e : Int} {m6 : Pm} (hR : m.put l = ((no, e), m6)) (he : e = 0) : 2 ≤ no ∧ no < 2048 := by
  obtain ⟨fv, h⟩ := h
  unfold Pm.put at hR
  split at hR
  · injection hR with h1 h2; injection h1 with h1 h3; omega
  · split at hR
    · rename_i h2
      have := PS.alloc_range h.pool.ok h2
      injection hR with h1 _; injection h1 with h1 _; omega
    · rename_i h2
      injection hR with h1 _; injection h1 with _ h1; omega
theorem pcL_yes {m : Pm} {next : Int} {put : List Int} {part : List Int} {r : List (List Int)} {no : Int} {m6 : Pm} (h : m.put (linkL next part) = ((no, 0), m6)) : pcL m next put (part :: r) = pcL m6 no (put ++ [no]) r := by
  rw [pcL, h]; rfl
theorem pcL_no {m : Pm} {next : Int} {put : List Int} {part : List Int} {r : List (List Int)} {no e : Int} {m6 : Pm} (h : m.put (linkL next part) = ((no, e), m6)) (he : e ≠ 0) : pcL m next put (part :: r) = ((0, e), dropsL m6 put) := by
  rw [pcL, h]; simp only; rw [if_neg he]
/-- A new page's number is appended to those that are put. -/
theorem PcI.appended {sb bm M X D B : Nat} {T T6 : List Nat} {w W wc w4 : World} {next no : Int} {put : List Int} {m6 : Pm} {pv v' : Value} {tmp : Obj} {r : Int} (bx : PcBox wc w.heap.size X 0 0 next pv)
    (i2 : wc.ownsRow B 3 1 pv put.length (ints put)) (hx : PgrAt3 sb bm M wc X T6 D m6) (ht : ∀ b ∈ T6, b ∈ T ∨ (B ≤ b ∧ IsBytes wc b)) (hm : Mod [sb, bm, M] w wc) (hB : B ≤ wc.heap.size) (hz : w.heap.size + 4 < B) (hT : ∀ b ∈ T, b < w.heap.size)
    (hg : (wc.alloc tmp).grownBy w4 pv.ownBlock) (hown : w4.ownsRow B 3 1 v' (put.length + 1) (ints put ++ [.int .i64 no])) :
    PcBox w4 w.heap.size X 0 0 next pv ∧ PcI sb bm M X D w.heap.size B T 0 0 w no (put ++ [no]) m6 ((w4.setCell ⟨w.heap.size + 1 + 1 + 1 + 1, 0, none⟩ v').setCell ⟨w.heap.size + 1 + 1 + 1, 0, none⟩ (.int .i64 no)) ∧
      Mod (pv.ownBlock.toList ++ [w.heap.size + 1 + 1 + 1 + 1, w.heap.size + 1 + 1 + 1]) wc ((w4.setCell ⟨w.heap.size + 1 + 1 + 1 + 1, 0, none⟩ v').setCell ⟨w.heap.size + 1 + 1 + 1, 0, none⟩ (.int .i64 no)) := by
  have hpb := own_base i2
  have hm4 : Mod pv.ownBlock.toList wc w4 := ((Mod.of_alloc wc tmp).mono (by simp)).same (Mod.of_grown' hg)
  have bx4 := bx.kept hm4 (fun i h1 h2 hb => by have := hpb i (by simpa using hb); omega)
  have hmf : Mod (pv.ownBlock.toList ++ [w.heap.size + 1 + 1 + 1 + 1, w.heap.size + 1 + 1 + 1]) wc ((w4.setCell ⟨w.heap.size + 1 + 1 + 1 + 1, 0, none⟩ v').setCell ⟨w.heap.size + 1 + 1 + 1, 0, none⟩ (.int .i64 no)) :=
    ((hm4.mono (fun b hb => Or.inl (List.mem_append_left _ hb))).setCell (Or.inl (by simp))).setCell (Or.inl (by simp))
  have hTd : ∀ b ∈ T6, b ∉ pv.ownBlock.toList ++ [w.heap.size + 1 + 1 + 1 + 1, w.heap.size + 1 + 1 + 1] := fun b hb hbs => by
    rcases ht b hb with h | ⟨h1, cs, h2⟩
    · have := hT b h
      rcases List.mem_append.1 hbs with h | h
      · have := hpb b (by simpa using h); omega
      · simp at h; omega
    · rcases List.mem_append.1 hbs with h | h
      · rcases i2.2 with ⟨e, _⟩ | ⟨g, cap, cur, e, _, hat, _⟩
        · rw [e] at h; simp [Value.ownBlock] at h
        · rw [e] at h; simp [Value.ownBlock] at h; subst h; rw [hat] at h2; cases h2
      · simp at h; omega
  refine ⟨bx4, ⟨v', T6, ⟨(bx4.b0.other (by omega) _).other (by omega) _, (bx4.b1.other (by omega) _).other (by omega) _, (bx4.b2.other (by omega) _).other (by omega) _, (bx4.b3.other (by omega) _).set _, (bx4.b4.set _).other (by omega) _⟩, ?_, ?_, ?_, ?_, ?_⟩, hmf⟩
  · have hp' := own_base hown
    have e1 : ints put ++ [.int .i64 no] = ints (put ++ [no]) := by simp [ints]
    rw [List.length_append, List.length_singleton, ← e1]
    exact ownsRow_mod (ownsRow_mod hown (Mod.of_setCell _ _ _ _) (fun b hb hbs => by have := hp' b hb; simp at hbs; omega)) (Mod.of_setCell _ _ _ _) (fun b hb hbs => by have := hp' b hb; simp at hbs; omega)
  · obtain ⟨fv, hx⟩ := hx
    exact ⟨fv, hx.mod hmf hTd⟩
  · intro b hb
    rcases ht b hb with h | ⟨h1, cs, h2⟩
    · exact Or.inl h
    · exact Or.inr ⟨h1, cs, hmf.at h2 (hTd b hb)⟩
  · exact hm.trans hmf (fun i hi => by
      rcases List.mem_append.1 hi with h | h
      · have := hpb i (by simpa using h); exact Or.inr (by omega)
      · simp at h; exact Or.inr (by omega))
  · exact Nat.le_trans hB hmf.size
theorem PgrAt3.mod {sb bm M : Nat} {w w' : World} {X : Nat} {T S : List Nat} {D : Nat} {m : Pm} (h : PgrAt3 sb bm M w X T D m) (hm : Mod S w w') (hx : ∀ b ∈ T, b ∉ S) : PgrAt3 sb bm M w' X T D m := by
  obtain ⟨fv, h⟩ := h; exact ⟨fv, h.mod hm hx⟩
set_option maxRecDepth 100000 in
set_option maxHeartbeats 4000000 in
theorem putchain_in (F : Fence) (n : Nat) (hFw : Hid (F = Fence.wide)) (hF : ∀ f, F.fn f) (hro : F.round = none) (hn : 10 ≤ n) (X : Nat) (T : List Nat) (D : Nat) (m : Pm) (sb bm M : Nat) (p : Option Addr) (len c : Nat) (l : List Int) (w : World) (h : PgrAt3 sb bm M w X T D m) (hl : BytesIn w p len c l) (hp0 : 1 ≤ len) (hp1 : len ≤ 16384) (hpT : ∀ a, p = some a → a.block ∉ T) :
    CallsIn F n Tryd.prog 9 #[.pointer (some ⟨X, 0, none⟩), .slice p len c] w (Ret (PgrR3 sb bm M X T D (pcL m 0 [] (partsL l)).2 (.tuple #[.int .i64 (pcL m 0 [] (partsL l)).1.1, .int .i64 (pcL m 0 [] (partsL l)).1.2]) w)) := by
  have hll := hl.len
  have h1 : 1 ≤ n := by omega
  obtain ⟨b, off, rfl, hblt, hbc⟩ := hl.sl.addr hp0
  have hz1 : decide (len < 1) = false := by simp; omega
  have hz2 : decide (16384 < len) = false := by simp; omega
  have hzi1 : ¬ ((len : Int) < 1) := by omega
  have hzi2 : ¬ ((16384 : Int) < (len : Int)) := by omega
  refine callsIn_of_wp_marks Tryd.func9 rfl (hF _) ?_ hro
  simp only [Tryd.ntmps9, List.size_toArray, List.length_cons, List.length_nil, Nat.reduceAdd, Nat.reduceSub, Array.replicate_succ, Array.replicate_zero, List.push_toArray, List.append_toArray, List.nil_append, List.cons_append]
  gi_wp2_with (first
    | (gi_at_call 24; refine (chunk_in F (n - 1) (hF _) hro _ _ _ _).mono ?_; rintro e w1 ⟨rfl, hw1⟩
       have hs1 : w1.heap.size = w.heap.size + 7 := by rw [hw1]; simp
       have hbx1 : PcBox w1 w.heap.size X 0 0 0 (.slice none 0 0) := by rw [hw1]; exact (PcBox.new w X _).kept ((Mod.of_alloc _ _).alloc) (by simp)
       have hm1 : Mod [] w w1 := by rw [hw1]; exact ((((((Mod.of_alloc w _).alloc).alloc).alloc).alloc).alloc).alloc
       have hcb1 : w1.cell? ⟨w.heap.size + 1 + 1 + 1 + 1 + 1, 0, none⟩ = some (.slice (some ⟨b, off, none⟩) len c) := by rw [hw1]; go_simp
       have hcb2 : w1.cell? ⟨w.heap.size + 1 + 1 + 1 + 1 + 1 + 1, 0, none⟩ = some (.int .i64 1010) := by rw [hw1]; go_simp
       clear hw1)
    | (gi_at_call 23
       refine (collect_in F (n - 1) (hF _) (hF _) hro (by omega) _ _ (hF _) (enters_of Tryd.func37 (by kernel_rfl) rfl) _ _ _ (by unfold pieces; omega) _ (chunk_stops F _ (hF _) hro (by omega) _ _ b off len c l hl.len (by omega) w1 (by omega) (by omega) hcb1 hcb2 (hl.sl.mod hm1 (by simp)))).mono ?_
       rintro e w2 ⟨v2, ks, rfl, rfl, hrow2, hb2⟩)
    | (gi_at_call 22
       obtain ⟨g2, c2, rfl⟩ : ∃ g2 c2, v2 = .slice (some ⟨g2, 0, none⟩) (upto (piece b off l) (pieces len)).length c2 := by
         rcases hrow2.2 with ⟨_, h0⟩ | ⟨g, cap, _, rfl, _⟩
         · rw [upto_length] at h0; unfold pieces at h0; omega
         · exact ⟨g, cap, rfl⟩
       refine (backward_in F (n - 1) (hF _) hro _ _ _ _).mono ?_; rintro e w3 ⟨rfl, hw3⟩
       have hm2 : Mod [] w1 w2 := Mod.of_below hb2
       have hbx2 := hbx1.kept hm2 (by simp)
       have hbx3 : PcBox w3 w.heap.size X 0 0 0 (.slice none 0 0) := by rw [hw3]; exact hbx2.kept (Mod.of_alloc _ _) (by simp)
       have hs3 : w3.heap.size = w2.heap.size + 1 := by rw [hw3]; simp
       have hm3 : Mod [] w w3 := by rw [hw3]; exact (hm1.same hm2).same (Mod.of_alloc _ _)
       have hcb3 : w3.cell? ⟨w2.heap.size, 0, none⟩ = some (.slice (some ⟨g2, 0, none⟩) (upto (piece b off l) (pieces len)).length c2) := by rw [hw3]; go_simp
       have hrow3 := ownsRow_mod hrow2 (show Mod [] w2 w3 by rw [hw3]; exact Mod.of_alloc _ _) (by simp)
       have hs2 := hm2.size
       clear hw3)
    | fail)
  have hTw : ∀ b ∈ T, b < w.heap.size := by obtain ⟨fv, hh⟩ := h; exact hh.lt
  have hcs2 := (Sl.of_own hrow3 (by intro u hu; obtain ⟨k, _, rfl⟩ := List.mem_map.1 hu; rfl)).1
  have hg2 : w1.heap.size ≤ g2 ∧ g2 < w3.heap.size := by
    have q1 := own_base hrow3 g2 (by simp [Value.ownBlock])
    obtain ⟨cs, t, q2⟩ := row_cells hrow3 g2 (by simp [Value.ownBlock])
    exact ⟨q1, lt_of_at q2⟩
  obtain ⟨N, hN⟩ : ∃ N, N = pieces len := ⟨_, rfl⟩
  have hN1 : 1 ≤ N ∧ N ≤ 17 := by rw [hN]; unfold pieces; omega
  have hkl : (upto (piece b off l) (pieces len)).length = N := by rw [upto_length, hN]
  rw [hkl] at hcb3 hrow3 hcs2 ⊢
  have hNl : ∀ k, 1010 * (N - 1 - k) < len := fun k => by rw [hN]; unfold pieces; omega
  have HPT := Lib.hid (hpT ⟨b, off, none⟩ rfl)
  obtain ⟨f, hf⟩ : ∃ f : Nat → Pc w T, ∀ k, (f k).1 = (N - 1 - k, piece b off l (N - 1 - k)) := ⟨fun k => ⟨(N - 1 - k, piece b off l (N - 1 - k)), piece_in hl (hNl k), fun a ha => by
    simp only [piece, Option.some.injEq] at ha
    rw [← ha]; exact HPT.out⟩, fun k => rfl⟩
  have HF := Lib.hid hf
  have HPARTS : Hid ((upto f N).map (fun x : Pc w T => x.1.2.l) = partsL l) := by
    unfold Hid partsL
    rw [upto_map, hll, ← hN]
    congr 1
    funext k
    rw [hf k]; rfl
  clear hll
  have hcells : ∀ i (hi : i < (upto (piece b off l) (pieces len)).length), w3.cell? ⟨g2, 0 + i, none⟩ = some ((upto (piece b off l) (pieces len))[i]).val := fun i hi => by
    rcases hrow3.2 with ⟨e, _⟩ | ⟨g, cap, cur, e, _, hat, _, _, hsz, htk⟩
    · cases e
    · cases e
      rw [cell_of_at hat]
      have hi2 : i < N := by rw [hkl] at hi; exact hi
      have q := congrArg (fun z : List Value => z[i]?) htk
      rw [List.getElem?_take_of_lt (by omega), List.getElem?_map, List.getElem?_eq_getElem hi] at q
      rw [Nat.zero_add, ← Array.getElem?_toList]; exact q
  refine wpIn_rangeFunc_ownG hro h1 (gf := 35) (lb := #[.pointer (some ⟨w2.heap.size, 0, none⟩)]) rfl (hF _) (enters_of Tryd.func35 (by kernel_rfl) rfl)
    (backward_stops (α := Pc w T) (fun x => x.1.1) (fun x => x.1.2) f F (n - 1) (hF _) hro (by omega) w2.heap.size g2 0 N c2 (upto (piece b off l) (pieces len)) hkl (by omega) (fun k hk => by rw [hf k]; exact ⟨rfl, by rw [upto, List.getElem?_map, List.getElem?_range (by omega)]; rfl⟩) w3 (by omega) hg2.2 hcb3 hcs2 hcells)
    KpB.trans (fun W l o o' h1 h2 h3 h4 => KpB.put (n := w3.heap.size) (by omega) hg2.2 W l o o' h1 h2 h3 h4) (Below.refl _ _) (fun _ => rfl)
    (PcOn sb bm M X D w.heap.size w3.heap.size T m w) (PcOff sb bm M X D w.heap.size w3.heap.size T m w) (PcOn.own (by omega) (fun b hb => by have := hTw b hb; omega) (by omega)) (PcOff.own (by omega) (fun b hb => by have := hTw b hb; omega) (by omega))
    ⟨0, [], m, ⟨.slice none 0 0, T, hbx3, ⟨by simp [ints], Or.inl ⟨rfl, rfl⟩⟩, (by obtain ⟨fv, hh⟩ := h; exact ⟨fv, hh.mod hm3 (by simp)⟩), fun b hb => Or.inl hb, hm3.mono (by simp), Nat.le_refl _⟩, rfl, by simp, fun rest => rfl⟩
    (fun x => { tmps := #[.pointer (some ⟨X, 0, none⟩), .slice (some ⟨b, off, none⟩) len c, .pointer (some ⟨w.heap.size, 0, none⟩), undef, .pointer (some ⟨w.heap.size + 1, 0, none⟩), .pointer (some ⟨w.heap.size + 1 + 1, 0, none⟩), .pointer (some ⟨w.heap.size + 1 + 1 + 1, 0, none⟩), .pointer (some ⟨w.heap.size + 1 + 1 + 1 + 1, 0, none⟩), undef, x.1.2.val, undef, undef, undef, undef, .slice (some ⟨b, off, none⟩) len c, .int .i64 len, .bool false, .bool false, .slice (some ⟨b, off, none⟩) len c, .int .i64 len, .bool false, .bool false, .slice (some ⟨b, off, none⟩) len c, .func (.func 37) #[] #[.pointer (some ⟨w.heap.size + 1 + 1 + 1 + 1 + 1, 0, none⟩), .pointer (some ⟨w.heap.size + 1 + 1 + 1 + 1 + 1 + 1, 0, none⟩)], .slice (some ⟨g2, 0, none⟩) (pieces len) c2, .func (.func 35) #[] #[.pointer (some ⟨w2.heap.size, 0, none⟩)], .int .i64 (x.1.1 : Int), x.1.2.val, undef, undef, undef, undef, undef, undef, undef, undef, undef, undef, undef, undef, undef, undef, undef, undef, undef, undef, undef, undef, undef, undef, undef, undef, undef, undef, undef], defers := [] }) ?assign ?body ?done ?stop
  case assign =>
    intro l' x W K hK
    gi_wp2
    exact hK
  case body =>
    rintro l' pre x W ⟨next, put, m', ⟨pv, T', i1, i2, i3, i4, i5, i6⟩, j1, j2, j3⟩ hlt
    have bx0 := i1.b0.cell
    have bx1 := i1.b1.cell
    have bx3 := i1.b3.cell
    have bx4 := i1.b4.cell
    have hsT : ∀ b ∈ [sb, bm, M], b ∈ T := by obtain ⟨fv, hh⟩ := h; exact fun b hb => hh.sub b (List.mem_cons_of_mem _ hb)
    obtain ⟨⟨xi, xp, xn, xc, xl⟩, hx1, hx2⟩ := x
    simp only at hx1 hx2
    have HXI : Hid (BytesIn W.drew xp xn xc xl) := ⟨hx1.sl.mod (i5.same (Mod.of_drew W |>.mono (by simp))) (fun a ha _ hb => hx2 a ha (hsT _ hb)), hx1.wf⟩
    simp only [Bv.val]
    have hFe := hFw.out
    subst hFe
    have hmixed : Tryd.prog.follows .mixedOrders = true := by kernel_rfl
    gi_wp2
    have HT3 : Hid (∀ b ∈ T', b < W.heap.size) := by obtain ⟨fv, hh⟩ := i3; exact hh.lt
    have hnl : (linkL next xl).length ≤ 1016 := linkL_len next xl
    gi_cut [10, 11] from 28 (fun s10 s11 wx => s10 = .int .i64 (m'.put (linkL next xl)).1.1 ∧ s11 = .int .i64 (m'.put (linkL next xl)).1.2 ∧ Mod [sb, bm, M] W wx ∧ ∃ T6, PgrAt3 sb bm M wx X T6 D (m'.put (linkL next xl)).2 ∧ ∀ b ∈ T6, b ∈ T' ∨ (W.heap.size ≤ b ∧ IsBytes wx b))
    case first =>
      gi_region_with_o (first
        | (refine ⟨fun _ => by omega, ?_⟩; gi_at_call 25; refine (CallsIn.inRound l' (callsIn_wide.2 (link_in xp xn xc xl next _ HXI.out))).mono ?_; rintro _ w5 ⟨_, rfl, q, qn, qc, rfl, hqn, hqnil, hq, hqm, hqf⟩
           have kx0 := (hqm.cell (a := ⟨w.heap.size, 0, none⟩) i1.b0.lt (by simp)).trans bx0
           have HQ := Lib.hid hq
           have HQM : Hid (Mod [] W w5) := (Mod.of_drew W).same hqm
           have HQF : Hid (∀ a, q = some a → W.heap.size ≤ a.block) := hqf
           clear hq hqm hqf hqn hqnil)
        | (refine ⟨fun _ => by omega, ?_⟩; gi_at_call 17; refine (CallsIn.inRound l' (callsIn_wide.2 (pgrput_in X T' D m' sb bm M q _ qc (linkL next xl) _ (by obtain ⟨fv, hh⟩ := i3; exact ⟨fv, hh.mod HQM.out (by simp)⟩) ⟨HQ.out, linkL_wf HXI.out.wf⟩ (fun a ha _ hb => by have := HQF.out a ha; have := HT3.out _ hb; omega)))).mono ?_; rintro _ w6 ⟨_, rfl, rfl, T6, hx6, m6, ht6⟩
           have HX6 := Lib.hid hx6
           have M6 := Lib.hid m6
           have HT6 := Lib.hid ht6
           clear hx6 m6 ht6)
        | fail)
      all_goals
        gi_wp2
        gi_meet
        exact ⟨rfl, rfl, (HQM.out.mono (by simp)).same M6.out, T6, HX6.out, fun b hb => (HT6.out b hb).elim Or.inl (fun x => Or.inr ⟨Nat.le_trans HQM.out.size x.1, x.2⟩)⟩
    case rest =>
    obtain ⟨rfl, rfl, hmw, T6, hx6, ht6⟩ := hcut
    have hTlt : ∀ b ∈ [sb, bm, M], b < w.heap.size := fun b hb => hTw b (hsT b hb)
    have bxc := i1.kept hmw (fun i h1 _ hb => by have := hTlt i hb; omega)
    have i2c := ownsRow_mod i2 hmw (fun b hb hbS => by have := own_base i2 b hb; have := hTlt b hbS; omega)
    have T6ok : ∀ b ∈ T6, b ∈ T ∨ (w3.heap.size ≤ b ∧ IsBytes wc b) := fun b hb => by
      rcases ht6 b hb with h | ⟨h1, h2⟩
      · rcases i4 b h with h | ⟨h1, cs, h2⟩
        · exact Or.inl h
        · exact Or.inr ⟨h1, cs, hmw.at h2 (fun hbS => by have := hTlt b hbS; omega)⟩
      · exact Or.inr ⟨by omega, h2⟩
    obtain ⟨⟨⟨no, e⟩, m6⟩, hR⟩ : ∃ R, m'.put (linkL next xl) = R := ⟨_, rfl⟩
    rw [hR] at hx6 ⊢
    simp only at hx6 ⊢
    have hno : e = 0 → 2 ≤ no ∧ no < 2048 := fun he => by
      have q := pgrput_range i3 hR he; exact q
    have hsw := hmw.size
    have hk17 : put.length ≤ 17 := by omega
    have HPC : Hid (∀ rest, pcL m 0 [] ((pre ++ [(⟨(xi, ⟨xp, xn, xc, xl⟩), ⟨hx1, hx2⟩⟩ : Pc w T)]).map (fun x : Pc w T => x.1.2.l) ++ rest) = pcL m' next put (xl :: rest)) := fun rest => by
      rw [List.map_append, List.append_assoc, j3]; rfl
    have HR := Lib.hid hR
    have HX6 := Lib.hid hx6
    have HI2 := Lib.hid i2c
    have HBX := Lib.hid bxc
    have HT6 := Lib.hid T6ok
    have HMW := Lib.hid hmw
    have HI := Lib.hid i2
    have HM5 := Lib.hid i5
    have HJ1 := Lib.hid j1
    have HJ2 := Lib.hid j2
    have cx0 := bxc.b0.cell
    have cx3 := bxc.b3.cell
    have cx4 := bxc.b4.cell
    have HTW := Lib.hid hTw
    have HTL := Lib.hid hTlt
    have HROW : Hid (∀ b ∈ pv.ownBlock, w3.heap.size ≤ b ∧ IsCells W b) := fun b hb => ⟨own_base i2 b hb, row_cells i2 b hb⟩
    clear bx0 bx1 bx3 bx4 j3 j1 j2 hTlt hcells hf hTw
    clear i2 i1 i4 i5 hmw ht6 hx6 i2c bxc T6ok hR i3 hsT hkl hrow3 hcs2 hNl
    by_cases he : e = 0
    · subst he
      obtain ⟨hn1, hn2⟩ := hno rfl
      obtain ⟨ii, hi, hy0, hy1, hy2⟩ := info_parts infoInt
      gi_wp2_with (gi_at_builtin; refine wpListIn_append_own _ rfl _ _ 37 rfl w3.heap.size 3 ii (.int .i64 0) 1 8 Tryd.underlying37 hi hy0 hy1 hy2 rfl (by decide) _ _ _ rfl (HI2.out.alloc _) ⟨wc.heap.size, 0, none⟩ 1 1 [.int .i64 no] rfl rfl (cell_one_new _ _ _) (by simp [Value.oneCell']) (by unfold maxLen; omega) (by omega) (by simp; omega) ?_; intro v' w4 hown' hgrow _; obtain ⟨g', cap', rfl⟩ := ownsRow_succ hown'; obtain ⟨q1, q2, q3⟩ := PcI.appended (W := W) (r := 0) HBX.out HI2.out HX6.out HT6.out ((HM5.out).same HMW.out) (by omega) (by omega) HTW.out hgrow hown'; have hc4 := q1.b4.cell; have hf4 := q1.b4.frozen; have hc3 := q1.b3.cell; have hf3 := q1.b3.frozen; have HQ2 := Lib.hid q2; have HQ3 := Lib.hid q3; clear q1 q2 q3 hown' hgrow)
      rw [← hs3]
      have hk1 : ∀ b ∈ pv.ownBlock.toList ++ [w.heap.size + 1 + 1 + 1 + 1, w.heap.size + 1 + 1 + 1], b < w3.heap.size ∨ IsCells wc b := fun b hb => by
        rcases List.mem_append.1 hb with h | h
        · exact Or.inr (row_cells HI2.out b (by simpa using h))
        · simp at h; exact Or.inl (by omega)
      have hk2 : ∀ b ∈ pv.ownBlock.toList ++ [w.heap.size + 1 + 1 + 1 + 1, w.heap.size + 1 + 1 + 1], w3.heap.size ≤ b ∨ b < w1.heap.size := fun b hb => by
        rcases List.mem_append.1 hb with h | h
        · exact Or.inl (own_base HI2.out b (by simpa using h))
        · simp at h; exact Or.inr (by omega)
      refine ⟨(KeepsFrom.of_mod HMW.out (fun b hb => Or.inl (by have := HTL.out b hb; omega))).trans (KeepsFrom.of_mod HQ3.out hk1),
        (KpB.of_mod HMW.out ⟨by omega, fun hb => by have := HTL.out _ hb; omega⟩ ⟨by omega, fun hb => by have := HTL.out _ hb; omega⟩).trans (KpB.of_mod HQ3.out ⟨by omega, fun hb => by have := hk2 _ hb; omega⟩ ⟨by omega, fun hb => by have := hk2 _ hb; omega⟩),
        no, put ++ [no], m6, HQ2.out, by simp [HJ1.out], fun x hx => ?_, fun rest => (HPC.out rest).trans (pcL_yes HR.out)⟩
      rcases List.mem_append.1 hx with h | h
      · exact HJ2.out x h
      · simp at h; subst h; exact ⟨hn1, hn2⟩
    · have hne : (e != 0) = true := by simpa using he
      obtain ⟨p2, k2, rfl, -⟩ := own_shape HI2.out
      have hS := (Sl.of_own HI2.out (ints_one _)).1
      obtain ⟨pb, poff, hpp, hcs⟩ := hS.at_
      have hidx := fun W => Sl.idx (P := Tryd.prog) (cap := k2) Tryd.underlying37 sizeIntsC (fun h => (hpp h).1) W .i64
      have HLT : Hid (0 < put.length → pb < wc.heap.size ∧ pb ∉ [sb, bm, M]) := fun h => ⟨(hpp h).2, fun hb => by
        have q1 := own_base HI2.out pb (by rw [(hpp h).1]; simp [Value.ownBlock])
        have := HTL.out pb hb; omega⟩
      have HCE : Hid (∀ (i : Nat) (x : Int), put[i]? = some x → wc.cell? ⟨pb, poff + i, none⟩ = some (.int .i64 x)) := fun i x hx => by
        refine hcs i _ ?_
        simp [ints, hx]
      obtain ⟨K, hK⟩ : ∃ K, K = put.length := ⟨_, rfl⟩
      have HK := Lib.hid hK
      rw [← hK] at hidx HLT HI2 HBX cx4 hk17 HI HROW
      clear hpp hcs hS hK
      gi_wp2
      gi_loopw [40] (fun jv wx => ∃ (j : Nat) (W0 : World) (T7 : List Nat), j ≤ K ∧ W0 = wx ∧ jv = .int .i64 j ∧ PgrAt3 sb bm M W0 X T7 D (dropsL m6 (put.take j)) ∧ (∀ b ∈ T7, b ∈ T ∨ (w3.heap.size ≤ b ∧ IsBytes W0 b)) ∧ Mod [sb, bm, M] wc W0) (fun jv _ => K - (intOf jv).toNat)
      case atStart => exact ⟨0, _, T6, by omega, rfl, rfl, by rw [List.take_zero]; exact HX6.out, HT6.out, Mod.refl _ _⟩
      case round =>
        obtain ⟨j, W0, T7, hj, rfl, rfl, hxj, htj, hmj⟩ := hrel
        have HXJ := Lib.hid hxj
        have HTJ := Lib.hid htj
        have HMJ := Lib.hid hmj
        have bxj := HBX.out.kept hmj (fun i h1 _ hb => by have := HTL.out i hb; omega)
        have d0 := bxj.b0.cell
        have d1 := bxj.b1.cell
        have d1f := bxj.b1.frozen
        have d2 := bxj.b2.cell
        have d2f := bxj.b2.frozen
        have d4 := bxj.b4.cell
        have HBJ := Lib.hid bxj
        clear hxj htj hmj bxj
        by_cases hlt : j < K
        · obtain ⟨x, hx⟩ : ∃ x, put[j]? = some x := ⟨_, List.getElem?_eq_getElem (by have := HK.out; omega)⟩
          have hcell := HCE.out j x hx
          have hb1 := (HLT.out (by omega)).1
          have hb2 := (HLT.out (by omega)).2
          rw [← HMJ.out.cell (a := ⟨pb, _, none⟩) hb1 hb2] at hcell
          have hji := fun W => hidx W j hlt
          simp only [Nat.mul_one] at hji
          have hwi : IntKind.i64.wrap ((j : Int) + 1) = (j : Int) + 1 := IntWalk.i64_in _ (by omega)
          have HRX := Lib.hid (HJ2.out x (List.mem_of_getElem? hx))
          have HST : Hid ((dropsL m6 (put.take j)).drop x = dropsL m6 (put.take (j + 1))) := by
            unfold Hid dropsL
            rw [List.take_add_one, hx]; simp
          clear hx hidx
          gi_wp2_with (first
            | (refine ⟨fun _ => by omega, ?_⟩; gi_at_call 18; refine (CallsIn.inRound l' (callsIn_wide.2 (pgrdrop_in X T7 D _ sb bm M x _ HXJ.out (by have := HRX.out; omega)))).mono ?_; rintro _ w9 ⟨rfl, hx9, m9⟩
               rw [HST.out] at hx9
               have HX9 := Lib.hid hx9
               have M9 := Lib.hid (HMJ.out.same m9)
               have HT9 : Hid (∀ b ∈ T7, b ∈ T ∨ (w3.heap.size ≤ b ∧ IsBytes w9 b)) := fun b hb => by
                 rcases HTJ.out b hb with h | ⟨h1, cs, h2⟩
                 · exact Or.inl h
                 · exact Or.inr ⟨h1, cs, m9.at h2 (fun hbs => by have := HTL.out b hbs; omega)⟩
               clear hx9 m9)
            | fail)
          go_roundw
          case rel => exact ⟨j + 1, _, T7, by omega, rfl, by go_num, HX9.out, HT9.out, M9.out⟩
          case measure => simp [intOf]; omega
        · obtain rfl : j = K := by omega
          have HFIN : Hid (put.take j = put) := by unfold Hid; rw [HK.out, List.take_length]
          rw [HFIN.out] at HXJ
          clear hidx
          gi_wp2
          have bxf : PcBox ((W0.setCell ⟨w.heap.size + 1, 0, none⟩ (.int .i64 0)).setCell ⟨w.heap.size + 1 + 1, 0, none⟩ (.int .i64 e)) w.heap.size X 0 e next (.slice p2 j k2) := by
            have i1 := HBJ.out
            exact ⟨(i1.b0.other (by omega) _).other (by omega) _, (i1.b1.set _).other (by omega) _, (i1.b2.other (by omega) _).set _, (i1.b3.other (by omega) _).other (by omega) _, (i1.b4.other (by omega) _).other (by omega) _⟩
          have hmf : Mod [w.heap.size + 1, w.heap.size + 1 + 1] W0 ((W0.setCell ⟨w.heap.size + 1, 0, none⟩ (.int .i64 0)).setCell ⟨w.heap.size + 1 + 1, 0, none⟩ (.int .i64 e)) :=
            ((Mod.of_setCell W0 _ _ _).mono (by simp)).setCell (Or.inl (by simp))
          have hmw0 : Mod [sb, bm, M] W W0 := HMW.out.same HMJ.out
          have hsz0 := hmw0.size
          have hrow0 : W0.ownsRow w3.heap.size 3 1 (.slice p2 j k2) j (ints put) := ownsRow_mod HI2.out HMJ.out (fun b hb hbs => by have := own_base HI2.out b hb; have := HTL.out b hbs; omega)
          have hrowf := ownsRow_mod hrow0 hmf (fun b hb hbs => by have := own_base hrow0 b hb; simp at hbs; omega)
          have hTn : ∀ b ∈ T7, b ∉ [w.heap.size + 1, w.heap.size + 1 + 1] := fun b hb hbs => by
            rcases HTJ.out b hb with h | ⟨h1, cs, h2⟩
            · have := HTW.out b h; simp at hbs; omega
            · simp at hbs; omega
          refine ⟨(KeepsFrom.of_mod hmw0 (fun b hb => Or.inl (by have := HTL.out b hb; omega))).trans (KeepsFrom.of_mod hmf (fun b hb => Or.inl (by simp at hb; omega))),
            rfl, e, next, put, dropsL m6 put, ⟨.slice p2 j k2, T7, bxf, (by rw [← HK.out]; exact hrowf), HXJ.out.mod hmf hTn, fun b hb => ?_, (HM5.out.same hmw0).trans hmf (fun i hi => Or.inr (by simp at hi; omega)), Nat.le_trans (Nat.le_trans i6 hsz0) hmf.size⟩, fun rest => (HPC.out rest).trans (pcL_no HR.out he)⟩
          rcases HTJ.out b hb with h | ⟨h1, cs, h2⟩
          · exact Or.inl h
          · exact Or.inr ⟨h1, cs, hmf.at h2 (hTn b hb)⟩
  case done =>
    rintro D' ys W hD' hS ⟨next, put, m', hI, j1, j2, j3⟩ hK
    obtain ⟨pv, T', i1, i2, i3, i4, i5, i6⟩ := hI
    have d1 := i1.b1.cell
    have d1f := i1.b1.frozen
    have d2 := i1.b2.cell
    have d2f := i1.b2.frozen
    have d3 := i1.b3.cell
    have HJ3 := Lib.hid j3
    have HJ2 := Lib.hid j2
    have HSS := Lib.hid hS
    have HI1 := Lib.hid i1
    have HI3 := Lib.hid i3
    have HI4 := Lib.hid i4
    have HI5 := Lib.hid i5
    have HKK := Lib.hid hK
    have bxf : PcBox ((W.setCell ⟨w.heap.size + 1, 0, none⟩ (.int .i64 next)).setCell ⟨w.heap.size + 1 + 1, 0, none⟩ (.int .i64 0)) w.heap.size X next 0 next pv :=
      ⟨(i1.b0.other (by omega) _).other (by omega) _, (i1.b1.set _).other (by omega) _, (i1.b2.other (by omega) _).set _, (i1.b3.other (by omega) _).other (by omega) _, (i1.b4.other (by omega) _).other (by omega) _⟩
    have hkf : ((W.setCell ⟨w.heap.size + 1, 0, none⟩ (.int .i64 next)).setCell ⟨w.heap.size + 1 + 1, 0, none⟩ (.int .i64 0)).heap[D']? = some (.deferred (some [])) := by
      rw [at_setCell_other (by omega), at_setCell_other (by omega)]; exact hK
    have hmf : Mod [w.heap.size + 1, w.heap.size + 1 + 1, D'] W (((W.setCell ⟨w.heap.size + 1, 0, none⟩ (.int .i64 next)).setCell ⟨w.heap.size + 1 + 1, 0, none⟩ (.int .i64 0)).putObj D' (.deferred none)) :=
      (((Mod.of_setCell W _ _ _).mono (by simp)).setCell (Or.inl (by simp))).trans (Mod.of_grown (grownBy_putObj' _ _ _)) (by simp)
    have r1 : (((W.setCell ⟨w.heap.size + 1, 0, none⟩ (.int .i64 next)).setCell ⟨w.heap.size + 1 + 1, 0, none⟩ (.int .i64 0)).putObj D' (.deferred none)).cell? ⟨w.heap.size + 1, 0, none⟩ = some (.int .i64 next) :=
      (World.cell?_of_block (a := ⟨w.heap.size + 1, 0, none⟩) (World.putObj_heap_other (by simp; omega))).trans bxf.b1.cell
    have r2 : (((W.setCell ⟨w.heap.size + 1, 0, none⟩ (.int .i64 next)).setCell ⟨w.heap.size + 1 + 1, 0, none⟩ (.int .i64 0)).putObj D' (.deferred none)).cell? ⟨w.heap.size + 1 + 1, 0, none⟩ = some (.int .i64 0) :=
      (World.cell?_of_block (a := ⟨w.heap.size + 1 + 1, 0, none⟩) (World.putObj_heap_other (by simp; omega))).trans bxf.b2.cell
    have HKF := Lib.hid hkf
    have HMF := Lib.hid hmf
    have HR1 := Lib.hid r1
    have HR2 := Lib.hid r2
    clear i1 i2 i3 i4 i5 j1 j2 j3 hS hK hcells hf hkf hmf r1 r2 bxf
    gi_wp2
    refine ⟨by simp, .inl ⟨_, _, rfl, run_takeDeferred HKF.out, ?_⟩⟩
    refine ⟨_, by have r1 := HR1.out; have r2 := HR2.out; simp [results, Tryd.results9, go_sem, r1, r2]; rfl, ?_⟩
    have HFIN : Hid (pcL m 0 [] (partsL l) = ((next, 0), m')) := by
      unfold Hid
      have q := HJ3.out []
      rw [HSS.out, HPARTS.out, List.append_nil] at q
      exact q
    refine .mk ?_
    rw [HFIN.out]
    have hTn : ∀ b ∈ T', b ∉ [w.heap.size + 1, w.heap.size + 1 + 1, D'] := fun b hb hbs => by
      rcases HI4.out b hb with h | ⟨h1, cs, h2⟩
      · have := hTw b h; simp at hbs; omega
      · simp only [List.mem_cons, List.not_mem_nil, or_false] at hbs
        rcases hbs with e | e | e
        · omega
        · omega
        · rw [e, HKK.out] at h2; cases h2
    refine ⟨rfl, T', HI3.out.mod HMF.out hTn, HI5.out.trans HMF.out (fun i hi => Or.inr (by simp at hi; omega)), fun b hb => ?_⟩
    rcases HI4.out b hb with h | ⟨h1, cs, h2⟩
    · exact Or.inl h
    · exact Or.inr ⟨by omega, cs, HMF.out.at h2 (hTn b hb)⟩
  case stop =>
    rintro D' c' pre W hD' hSp ⟨rfl, code, next, put, m', hI, j3⟩ hK
    obtain ⟨pv, T', i1, i2, i3, i4, i5, i6⟩ := hI
    have hmf : Mod [D'] W (W.putObj D' (.deferred none)) := Mod.of_grown (grownBy_putObj' _ _ _)
    have r1 : (W.putObj D' (.deferred none)).cell? ⟨w.heap.size + 1, 0, none⟩ = some (.int .i64 0) :=
      (World.cell?_of_block (a := ⟨w.heap.size + 1, 0, none⟩) (World.putObj_heap_other (by simp; omega))).trans i1.b1.cell
    have r2 : (W.putObj D' (.deferred none)).cell? ⟨w.heap.size + 1 + 1, 0, none⟩ = some (.int .i64 code) :=
      (World.cell?_of_block (a := ⟨w.heap.size + 1 + 1, 0, none⟩) (World.putObj_heap_other (by simp; omega))).trans i1.b2.cell
    have HKK := Lib.hid hK
    have HR1 := Lib.hid r1
    have HR2 := Lib.hid r2
    have HMF := Lib.hid hmf
    have HJ3 := Lib.hid j3
    have HSP := Lib.hid hSp
    have HI3 := Lib.hid i3
    have HI4 := Lib.hid i4
    have HI5 := Lib.hid i5
    clear hK r1 r2 hmf hcells hf i1 i2 i3 i4 i5 j3 hSp
    gi_wp2
    refine ⟨by simp, .inl ⟨_, _, rfl, run_takeDeferred HKK.out, ?_⟩⟩
    refine ⟨_, by have r1 := HR1.out; have r2 := HR2.out; simp [results, Tryd.results9, go_sem, r1, r2]; rfl, ?_⟩
    have HFIN : Hid (pcL m 0 [] (partsL l) = ((0, code), m')) := by
      unfold Hid
      obtain ⟨k, hk, hpre⟩ := HSP.out
      obtain ⟨r, hr⟩ := upto_split f hk
      have q := HJ3.out (r.map (fun x : Pc w T => x.1.2.l))
      rw [hpre, ← List.map_append, ← hr, HPARTS.out] at q
      exact q
    refine .mk ?_
    rw [HFIN.out]
    have hTn : ∀ b ∈ T', b ∉ [D'] := fun b hb hbs => by
      rcases HI4.out b hb with h | ⟨h1, cs, h2⟩
      · have := hTw b h; simp at hbs; omega
      · simp only [List.mem_cons, List.not_mem_nil, or_false] at hbs
        rw [hbs, HKK.out] at h2; cases h2
    refine ⟨rfl, T', HI3.out.mod HMF.out hTn, HI5.out.trans HMF.out (fun i hi => Or.inr (by simp at hi; omega)), fun b hb => ?_⟩
    rcases HI4.out b hb with h | ⟨h1, cs, h2⟩
    · exact Or.inl h
    · exact Or.inr ⟨by omega, cs, HMF.out.at h2 (hTn b hb)⟩
theorem putchain_any (X : Nat) (T : List Nat) (D : Nat) (m : Pm) (sb bm M : Nat) (p : Option Addr) (len c : Nat) (l : List Int) (w : World) (h : PgrAt3 sb bm M w X T D m) (hl : BytesIn w p len c l) (hp0 : 1 ≤ len) (hp1 : len ≤ 16384) (hpT : ∀ a, p = some a → a.block ∉ T) :
    Calls Tryd.prog 9 #[.pointer (some ⟨X, 0, none⟩), .slice p len c] w (Ret (PgrR3 sb bm M X T D (pcL m 0 [] (partsL l)).2 (.tuple #[.int .i64 (pcL m 0 [] (partsL l)).1.1, .int .i64 (pcL m 0 [] (partsL l)).1.2]) w)) :=
  callsIn_wide.1 (putchain_in Fence.wide 10 rfl (fun _ => trivial) rfl (by omega) X T D m sb bm M p len c l w h hl hp0 hp1 hpT)
set_option maxRecDepth 100000 in
theorem putchain_no (X : Nat) (p : Option Addr) (len c : Nat) (w : World) (hl : len < 1 ∨ 16384 < len) (hm : len ≤ 1000000) :
    Calls Tryd.prog 9 #[.pointer (some ⟨X, 0, none⟩), .slice p len c] w (Ret fun v w' => v = .tuple #[.int .i64 0, .int .i64 1] ∧ Mod [] w w') := by
  by_cases h0 : len < 1
  · obtain rfl : len = 0 := by omega
    go_enter Tryd.func9, Tryd.ntmps9
    go_wp2
    exact bodyPost_ret (v := .tuple #[.int .i64 0, .int .i64 1]) (by simp [results, Tryd.results9, go_sem]) rfl (.mk ⟨rfl, ((Mod.of_alloc w _).alloc).alloc⟩)
  · have hz1 : decide (len < 1) = false := by simpa using h0
    have hz2 : decide (16384 < len) = true := by simp; omega
    have hzi1 : ¬ ((len : Int) < 1) := by omega
    have hzi2 : (16384 : Int) < (len : Int) := by omega
    go_enter Tryd.func9, Tryd.ntmps9
    go_wp2
    exact bodyPost_ret (v := .tuple #[.int .i64 0, .int .i64 1]) (by simp [results, Tryd.results9, go_sem]) rfl (.mk ⟨rfl, ((Mod.of_alloc w _).alloc).alloc⟩)
end Go.Proofs.YtgimdodbajhpoaaDoor
