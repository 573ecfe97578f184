/- Own lemmas for the claims of this seat: worlds that turn in a few blocks alone, answers behind a name, maps from whole numbers to whole numbers as sorted lists. -/
import Derived.WalkKit
import Derived.WalkSpells
import Derived.WalkLawsBesides
import Derived.Maps.OwnSet
import Derived.Maps.RangeWalk
import Derived.Lib.Hide
namespace Go.Proofs.YtgimdodbajhpoaaGreatDoor
open Go.RowKit Go.Maps

/-- The answer is returned, and R holds of it and of the world behind it. -/
def Ret (R : Value → World → Prop) : Ending → World → Prop := fun e w' => ∃ v, e = .returned v ∧ R v w'
theorem Ret.mk {R : Value → World → Prop} {v : Value} {w : World} (h : R v w) : Ret R (.returned v) w := ⟨v, rfl, h⟩

/-- From w to w' only the blocks in S have turned, and new ones have come. -/
structure Mod (S : List Nat) (w w' : World) : Prop where
  os : w'.os = w.os
  tape : w'.tape = w.tape
  output : w'.output = w.output
  size : w.heap.size ≤ w'.heap.size
  block : ∀ k, k < w.heap.size → k ∉ S → w'.heap[k]? = w.heap[k]?

theorem Mod.refl (S : List Nat) (w : World) : Mod S w w := ⟨rfl, rfl, rfl, Nat.le_refl _, fun _ _ _ => rfl⟩
theorem Mod.trans {S S' : List Nat} {a b c : World} (h : Mod S a b) (k : Mod S' b c) (hs : ∀ i ∈ S', i ∈ S ∨ a.heap.size ≤ i) : Mod S a c :=
  ⟨k.os.trans h.os, k.tape.trans h.tape, k.output.trans h.output, Nat.le_trans h.size k.size, fun i hi hn => by
    rw [k.block i (Nat.lt_of_lt_of_le hi h.size) (fun hm => (hs i hm).elim hn (fun hle => by omega)), h.block i hi hn]⟩
theorem Mod.same {S : List Nat} {a b c : World} (h : Mod S a b) (k : Mod S b c) : Mod S a c := h.trans k fun _ hi => Or.inl hi
theorem Mod.mono {S S' : List Nat} {a b : World} (h : Mod S a b) (hs : ∀ i ∈ S, i ∈ S' ∨ a.heap.size ≤ i) : Mod S' a b :=
  ⟨h.os, h.tape, h.output, h.size, fun i hi hn => h.block i hi fun hm => (hs i hm).elim hn (fun hle => by omega)⟩
theorem Mod.of_below {w w' : World} (h : Below w.heap.size w w') : Mod [] w w' := ⟨h.os, h.tape, h.output, h.size, fun k hk _ => h.block k hk⟩
theorem Mod.below {w w' : World} (h : Mod [] w w') : Below w.heap.size w w' := ⟨h.os, h.tape, h.output, h.size, fun k hk => h.block k hk (by simp)⟩
theorem Mod.below_of {S : List Nat} {B : Nat} {w w' : World} (h : Mod S w w') (hB : B ≤ w.heap.size) (hs : ∀ i ∈ S, B ≤ i) : Below B w w' :=
  ⟨h.os, h.tape, h.output, h.size, fun k hk => h.block k (by omega) fun hm => by have := hs k hm; omega⟩
theorem Mod.of_grown {w w' : World} {b : Nat} (h : w.grownBy w' (some b)) : Mod [b] w w' := ⟨h.os, h.tape, h.output, h.size, fun k hk hn => h.block k hk (fun e => hn (by cases e; simp))⟩
theorem Mod.of_grown_none {w w' : World} (h : w.grownBy w' none) : Mod [] w w' := ⟨h.os, h.tape, h.output, h.size, fun k hk _ => h.block k hk (by simp)⟩
theorem Mod.of_grown' {w w' : World} {row : Option Nat} (h : w.grownBy w' row) : Mod row.toList w w' := ⟨h.os, h.tape, h.output, h.size, fun k hk hn => h.block k hk (fun e => hn (by rw [← e]; simp))⟩
theorem Mod.of_drew (w : World) : Mod [] w w.drew := ⟨rfl, rfl, rfl, Nat.le_refl _, fun _ _ _ => rfl⟩
theorem Mod.of_drewN (w : World) (n : Nat) : Mod [] w (w.drewN n) := ⟨rfl, rfl, rfl, Nat.le_refl _, fun _ _ _ => rfl⟩
theorem Mod.of_alloc (w : World) (o : Obj) : Mod [] w (w.alloc o) := Mod.of_below ((Below.refl _ _).alloc (Nat.le_refl _) _)
theorem Mod.of_setCell (w : World) (b : Nat) (o : Nat) (u : Value) : Mod [b] w (w.setCell ⟨b, o, none⟩ u) :=
  ⟨rfl, rfl, rfl, by simp [World.setCell], fun k _ hn => Below.heap_setCell _ _ _ _ (fun e => hn (by simp [e]))⟩
theorem Mod.drewN {S : List Nat} {a w : World} (h : Mod S a w) {n : Nat} : Mod S a (w.drewN n) := h.trans (Mod.of_drewN w n) (by simp)
theorem Mod.drew {S : List Nat} {a w : World} (h : Mod S a w) : Mod S a w.drew := h.trans (Mod.of_drew w) (by simp)
theorem Mod.alloc {S : List Nat} {a w : World} (h : Mod S a w) {o : Obj} : Mod S a (w.alloc o) := h.trans (Mod.of_alloc w o) (by simp)
theorem Mod.setCell {S : List Nat} {a w : World} {b o : Nat} {u : Value} (h : Mod S a w) (hb : b ∈ S ∨ a.heap.size ≤ b) : Mod S a (w.setCell ⟨b, o, none⟩ u) := h.trans (Mod.of_setCell w b o u) (by simpa using hb)
theorem grownBy_setCell (w : World) (b o : Nat) (u : Value) : w.grownBy (w.setCell ⟨b, o, none⟩ u) (some b) :=
  ⟨rfl, rfl, rfl, by simp [World.setCell], fun k _ hn => Below.heap_setCell _ _ _ _ (fun e => hn (by simp [e]))⟩
theorem Mod.at {S : List Nat} {w w' : World} (h : Mod S w w') {b : Nat} {o : Obj} (hb : w.heap[b]? = some o) (hn : b ∉ S) : w'.heap[b]? = some o := by
  rw [h.block b (Array.getElem?_eq_some_iff.1 hb).1 hn, hb]
theorem Mod.cell {S : List Nat} {w w' : World} (h : Mod S w w') {a : Addr} (hb : a.block < w.heap.size) (hn : a.block ∉ S) : w'.cell? a = w.cell? a := World.cell?_of_block (w := w) (h.block _ hb hn)
theorem Mod.frozen {S : List Nat} {w w' : World} (h : Mod S w w') {a : Addr} (hb : a.block < w.heap.size) (hn : a.block ∉ S) : w'.frozen? a = w.frozen? a := World.frozen?_of_block (w := w) (h.block _ hb hn)
theorem lt_of_at {w : World} {b : Nat} {o : Obj} (hb : w.heap[b]? = some o) : b < w.heap.size := (Array.getElem?_eq_some_iff.1 hb).1

/-- A cell of a block that is known whole. -/
theorem cell_of_at {w : World} {b : Nat} {cs : Array Value} {T : TypeId} {fz : Nat × Nat} (hb : w.heap[b]? = some (.cells cs T fz)) (o : Nat) : w.cell? ⟨b, o, none⟩ = cs[o]? := by
  simp [World.cell?, hb]
theorem free_of_at {w : World} {b : Nat} {cs : Array Value} {T : TypeId} (hb : w.heap[b]? = some (.cells cs T (0, 0))) (o : Nat) : w.frozen? ⟨b, o, none⟩ = false := by
  simp [World.frozen?, hb]
theorem at_setCell {w : World} {b : Nat} {cs : Array Value} {T : TypeId} {fz : Nat × Nat} (hb : w.heap[b]? = some (.cells cs T fz)) (o : Nat) (u : Value) :
    (w.setCell ⟨b, o, none⟩ u).heap[b]? = some (.cells (cs.setIfInBounds o u) T fz) := by
  simp [World.setCell, Array.getElem?_modify, hb]
theorem at_setCell_other {w : World} {b c : Nat} (h : b ≠ c) (o : Nat) (u : Value) : (w.setCell ⟨c, o, none⟩ u).heap[b]? = w.heap[b]? := Below.heap_setCell _ _ _ _ h
theorem at_alloc (w : World) (o : Obj) : (w.alloc o).heap[w.heap.size]? = some o := (MapKept.heap_alloc w o).1
theorem at_alloc' (w : World) (o : Obj) {n : Nat} (h : n = w.heap.size) : (w.alloc o).heap[n]? = some o := by subst h; exact at_alloc w o
theorem at_alloc_other {w : World} {b : Nat} {x : Obj} (h : w.heap[b]? = some x) (o : Obj) : (w.alloc o).heap[b]? = some x := by
  rw [Below.heap_alloc _ _ _ (lt_of_at h), h]

theorem getD_at {α : Type} {l : List α} {d : α} {i : Nat} (h : i < l.length) : l.getD i d = l[i] := by simp [List.getD, List.getElem?_eq_getElem h]

theorem tuple2 {a b : Int} {k : IntKind} {x y : Value} (h : a = b) (hy : x = y) : Value.tuple #[.int k a, x] = .tuple #[.int k b, y] := by rw [h, hy]

/-! ### maps from int to whole numbers -/
def Srt (m : List (Int × Int)) : Prop := m.Pairwise fun a b => a.1 < b.1
def dmap (q : IntKind) (m : List (Int × Int)) : DataW Unit := .map (m.map fun p => (.int .i64 p.1, .lit (.int q p.2)))
def look (m : List (Int × Int)) (x : Int) : Option Int := (m.find? fun p => p.1 == x).map (·.2)
def ins (x v : Int) : List (Int × Int) → List (Int × Int)
  | [] => [(x, v)]
  | a :: r => if x < a.1 then (x, v) :: a :: r else if x = a.1 then (x, v) :: r else a :: ins x v r
def cut (m : List (Int × Int)) (x : Int) : List (Int × Int) := m.filter fun p => p.1 != x

theorem sameKey_int (a b : Int) : (Lit.int .i64 a).sameKey (.int .i64 b) = (a == b) := by simp [Lit.sameKey]; rfl
theorem has_dmap (q : IntKind) (m : List (Int × Int)) (x : Int) : Maps.has (dmap q m) (.int .i64 x) = (look m x).isSome := by
  induction m with
  | nil => rfl
  | cons a r ih =>
    simp only [Maps.has, dmap, List.map_cons, List.any_cons, sameKey_int, look, List.find?_cons] at ih ⊢
    cases h : (a.1 == x)
    · simpa using ih
    · simp
theorem atKey_dmap (q : IntKind) (m : List (Int × Int)) (x z : Int) : (dmap q m).atKey (.int .i64 x) (.lit (.int q z)) = .lit (.int q ((look m x).getD z)) := by
  induction m with
  | nil => rfl
  | cons a r ih =>
    simp only [dmap, DataW.atKey, List.map_cons, List.find?_cons, sameKey_int, look] at ih ⊢
    cases h : (a.1 == x)
    · simpa using ih
    · simp
theorem size_dmap (q : IntKind) (m : List (Int × Int)) : Maps.size (dmap q m) = m.length := by simp [Maps.size, dmap]
theorem del_dmap (q : IntKind) (m : List (Int × Int)) (x : Int) : (dmap q m).del (.int .i64 x) = dmap q (cut m x) := by
  simp only [DataW.del, dmap, cut, List.filter_map]
  congr 2
  apply List.filter_congr
  intro p _
  simp [Function.comp, sameKey_int, bne]
theorem insert_dmap (q : IntKind) (x v : Int) : ∀ m : List (Int × Int), Srt m →
    DataW.insert (H := Unit) (.int .i64 x, .lit (.int q v)) ((m.map fun p => (Lit.int .i64 p.1, DataW.lit (.int q p.2))).filter fun p => !p.1.sameKey (.int .i64 x)) =
      (ins x v m).map fun p => (Lit.int .i64 p.1, DataW.lit (.int q p.2))
  | [], _ => rfl
  | a :: r, h => by
    obtain ⟨h1, h2⟩ := List.pairwise_cons.1 h
    have ih := insert_dmap q x v r h2
    have hall : ∀ y : Int, (∀ p ∈ r, y < p.1) → x ≤ y → ((r.map fun p => (Lit.int .i64 p.1, DataW.lit (H := Unit) (.int q p.2))).filter fun p => !p.1.sameKey (.int .i64 x)) = r.map fun p => (Lit.int .i64 p.1, DataW.lit (.int q p.2)) := by
      intro y hy hxy
      rw [List.filter_eq_self]
      intro p hp
      obtain ⟨p0, hp0, rfl⟩ := List.mem_map.1 hp
      have := hy p0 hp0
      simp [sameKey_int]; omega
    unfold ins
    by_cases c1 : x < a.1
    · rw [if_pos c1]
      simp only [List.map_cons, List.filter_cons, sameKey_int]
      have c2 : (a.1 == x) = false := by simp; omega
      rw [c2, hall a.1 h1 (by omega)]
      simp [DataW.insert, Lit.before, c1]
    · rw [if_neg c1]
      by_cases c2 : x = a.1
      · rw [if_pos c2]
        simp only [List.map_cons, List.filter_cons, sameKey_int]
        have c3 : (a.1 == x) = true := by simp; omega
        rw [c3, hall a.1 h1 (by omega)]
        simp only [Bool.not_true, Bool.false_eq_true, if_false]
        cases r with
        | nil => rfl
        | cons b r =>
          have := h1 b (by simp)
          simp [DataW.insert, Lit.before]; omega
      · rw [if_neg c2]
        simp only [List.map_cons, List.filter_cons, sameKey_int]
        have c3 : (a.1 == x) = false := by simp; omega
        rw [c3]
        have c4 : (Lit.int .i64 x).before (.int .i64 a.1) = false := by simp [Lit.before]; omega
        simp only [Bool.not_false, if_true, DataW.insert, c4, ih, Bool.false_eq_true, if_false]
theorem put_dmap (q : IntKind) {m : List (Int × Int)} (h : Srt m) (x v : Int) : (dmap q m).put (.int .i64 x) (.lit (.int q v)) = dmap q (ins x v m) := by
  show DataW.map _ = DataW.map _
  rw [insert_dmap q x v m h]

theorem mem_ins {x v : Int} {p : Int × Int} : ∀ {m : List (Int × Int)}, p ∈ ins x v m → p = (x, v) ∨ p ∈ m
  | [], h => by simp [ins] at h; exact Or.inl h
  | a :: r, h => by
    unfold ins at h
    split at h
    · simp at h ⊢; exact h
    · split at h
      · simp at h ⊢; rcases h with h | h
        · exact Or.inl h
        · exact Or.inr (Or.inr h)
      · simp at h ⊢
        rcases h with h | h
        · exact Or.inr (Or.inl h)
        · rcases mem_ins h with h | h
          · exact Or.inl h
          · exact Or.inr (Or.inr h)
theorem Srt.ins {x v : Int} : ∀ {m : List (Int × Int)}, Srt m → Srt (ins x v m)
  | [], _ => by simp [Go.Proofs.YtgimdodbajhpoaaGreatDoor.ins, Srt]
  | a :: r, h => by
    obtain ⟨h1, h2⟩ := List.pairwise_cons.1 h
    unfold Go.Proofs.YtgimdodbajhpoaaGreatDoor.ins
    split
    · rename_i c; exact List.pairwise_cons.2 ⟨fun p hp => by rcases List.mem_cons.1 hp with rfl | hp; exact c; have := h1 p hp; simp; omega, h⟩
    · split
      · rename_i c; exact List.pairwise_cons.2 ⟨fun p hp => by have := h1 p hp; simp; omega, h2⟩
      · rename_i c1 c2
        refine List.pairwise_cons.2 ⟨fun p hp => ?_, Srt.ins h2⟩
        rcases mem_ins hp with rfl | hp
        · simp; omega
        · exact h1 p hp
theorem Srt.cut {m : List (Int × Int)} (h : Srt m) (x : Int) : Srt (cut m x) := h.filter _
theorem ins_last {x v : Int} : ∀ {m : List (Int × Int)}, (∀ p ∈ m, p.1 < x) → ins x v m = m ++ [(x, v)]
  | [], _ => rfl
  | a :: r, h => by
    have h1 := h a (by simp)
    unfold ins
    rw [if_neg (by omega), if_neg (by omega), ins_last (fun p hp => h p (by simp [hp]))]; rfl
theorem length_ins_le (x v : Int) : ∀ m : List (Int × Int), (ins x v m).length ≤ m.length + 1
  | [] => by simp [ins]
  | a :: r => by
    unfold ins
    split
    · simp
    · split
      · simp
      · have := length_ins_le x v r; simp; omega
theorem look_of_mem {m : List (Int × Int)} (h : Srt m) {p : Int × Int} (hp : p ∈ m) : look m p.1 = some p.2 := by
  induction m with
  | nil => simp at hp
  | cons a r ih =>
    obtain ⟨h1, h2⟩ := List.pairwise_cons.1 h
    rcases List.mem_cons.1 hp with rfl | hp'
    · simp [look]
    · have := h1 p hp'
      have e : (a.1 == p.1) = false := by simp; omega
      have := ih h2 hp'
      simp only [look, List.find?_cons, e] at this ⊢
      exact this
theorem mem_of_look {m : List (Int × Int)} {x v : Int} (h : look m x = some v) : (x, v) ∈ m := by
  simp only [look, Option.map_eq_some_iff] at h
  obtain ⟨p, hp, rfl⟩ := h
  have h1 := List.find?_some hp
  simp at h1
  have h2 := List.mem_of_find?_eq_some hp
  rw [← h1]; exact h2

theorem mem_of_atKey {q : IntKind} {m : List (Int × Int)} {x c : Int} (hat : ∀ zd : DataW Unit, (dmap q m).atKey (.int .i64 x) zd = .lit (.int q c)) : (x, c) ∈ m := by
  have h1 := hat (.lit (.int q 0))
  have h2 := hat (.lit (.int q 1))
  rw [atKey_dmap] at h1 h2
  simp only [DataW.lit.injEq, Lit.int.injEq, true_and] at h1 h2
  cases hk : look m x with
  | none => rw [hk] at h1 h2; simp at h1 h2; omega
  | some d => rw [hk] at h1; simp at h1; rw [← h1]; exact mem_of_look hk
theorem ownsMap_tight {H : Type} {w : World} {P : Program} {k : TypeId} {R : Value → Option (DataW H × List MemPlace)} {b n : Nat} {D : DataW H} (h : w.ownsMap P k R b n D) : w.ownsMap P k R b (Maps.size D) D := by
  obtain ⟨es, clock, hb, F, hs, rfl⟩ := h
  exact ⟨es, clock, hb, F, by simp [Maps.size, length_sorted], rfl⟩

/-- BLOCK b IS A MAP WHOSE ENTRIES ARE m, by rising keys. -/
structure MapI (P : Program) (kT eT : TypeId) (q : IntKind) (w : World) (b : Nat) (m : List (Int × Int)) : Prop where
  own : w.ownsMap (H := Unit) P kT (plainElem P eT) b m.length (dmap q m)
  srt : Srt m
section
variable {P : Program} {kT eT : TypeId} {q : IntKind} {w w' : World} {b : Nat} {m : List (Int × Int)}
theorem MapI.lt (h : MapI P kT eT q w b m) : b < w.heap.size := h.own.lt
theorem MapI.is_map (h : MapI P kT eT q w b m) : ∃ es c, w.heap[b]? = some (.map es c) := by obtain ⟨es, c, hb, _⟩ := h.own; exact ⟨es, c, hb⟩
theorem MapI.of_block (h : MapI P kT eT q w b m) (hb : w'.heap[b]? = w.heap[b]?) : MapI P kT eT q w' b m := by
  obtain ⟨⟨es, c, h1, h2⟩, h3⟩ := h
  exact ⟨⟨es, c, by rw [hb, h1], h2⟩, h3⟩
theorem MapI.mod {S : List Nat} (h : MapI P kT eT q w b m) (hm : Mod S w w') (hn : b ∉ S) : MapI P kT eT q w' b m := h.of_block (hm.block b h.lt hn)
theorem MapI.made (w : World) : MapI P kT eT q (w.alloc (.map #[] 0)) w.heap.size [] := ⟨World.ownsMap_made _ _ _ _, by simp [Srt]⟩
theorem MapI.ne_cells (h : MapI P kT eT q w b m) {c : Nat} {cs : Array Value} {T : TypeId} {fz : Nat × Nat} (hc : w.heap[c]? = some (.cells cs T fz)) : b ≠ c := by
  intro e; subst e; obtain ⟨es, k, hb⟩ := h.is_map; rw [hb] at hc; cases hc
end

/-! ### a slice that is read: its address is looked at only where there is an element -/
/-- The slice value v has len elements of c cells each, the i-th from cell off + i * c of block b on. -/
structure SlAt (v : Value) (len b off : Nat) : Prop where
  is : ∃ a cap, v = .slice a len cap ∧ (0 < len → a = some ⟨b, off, none⟩) ∧ len ≤ cap
theorem idx_of {P : Program} {T E c : Nat} {a : Option Addr} {len cap b off : Nat} (hT : P.underlying T = some (.slice (P.elem T))) (hc : ∀ W : World, (sizeOf (P.elem T)).run P W = .ok c W) (hc0 : 0 < c)
    (h : 0 < len → a = some ⟨b, off, none⟩) (W : World) (q : IntKind) (k : Nat) (hk : k < len) :
    (Instr.indexAt T (.slice a len cap) (.int q k)).run P W = .ok (.pointer (some ⟨b, off + k * c, none⟩)) W := by
  rw [h (by omega), run_indexAt_slice _ _ _ _ _ _ _ hT, if_pos ⟨by omega, by omega⟩, hc]
  simp only [Result.andThen, Addr.add, Int.toNat_natCast]
  by_cases hz : k * c = 0
  · simp [hz]
  · simp [hz]

/-- An owned row stays one as long as its block is as it was. -/
theorem ownsRow_mod {w w' : World} {S : List Nat} {base : Nat} {e : TypeId} {size : Nat} {v : Value} {n : Nat} {xs : List Value} (h : w.ownsRow base e size v n xs) (hm : Mod S w w') (hn : ∀ b ∈ v.ownBlock, b ∉ S) : w'.ownsRow base e size v n xs := by
  obtain ⟨h1, h2⟩ := h
  refine ⟨h1, ?_⟩
  rcases h2 with h2 | ⟨g, cap, cur, rfl, hg, hh, r⟩
  · exact Or.inl h2
  · exact Or.inr ⟨g, cap, cur, rfl, hg, hm.at hh (hn g rfl), r⟩
end Go.Proofs.YtgimdodbajhpoaaGreatDoor
