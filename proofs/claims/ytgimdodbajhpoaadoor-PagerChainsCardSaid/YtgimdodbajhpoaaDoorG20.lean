/- A page's frame. A disk: what it is, and the small ones of its functions. -/
import Derived.Laws.CopyOwn
import Derived.Maps.OwnSet
import Derived.Test.YtgimdodbajhpoaaDoorG10
import Derived.Test.YtgimdodbajhpoaaDoorG05
import Derived.Test.YtgimdodbajhpoaaDoorG06
import Derived.Test.YtgimdodbajhpoaaDoorG11
import Derived.Test.YtgimdodbajhpoaaDoorG16
namespace Go.Proofs.YtgimdodbajhpoaaDoor
open Go.RowKit Go.Maps
set_option linter.unusedSimpArgs false
set_option linter.unusedVariables false

/-- The page of a payload. -/
def fr0 (no : Int) (l : List Int) : List Int := pad 1016 l ++ be 4 no
def fr (no : Int) (l : List Int) : List Int := fr0 no l ++ be 4 (crcv (fr0 no l))
theorem fr0_len {no : Int} {l : List Int} (h : l.length ≤ 1016) : (fr0 no l).length = 1020 := by simp [fr0, pad_len h, be_len]
theorem fr_len {no : Int} {l : List Int} (h : l.length ≤ 1016) : (fr no l).length = 1024 := by simp [fr, fr0_len h, be_len]
theorem fr_wf {no : Int} {l : List Int} (h : ∀ x ∈ l, 0 ≤ x ∧ x < 256) : ∀ x ∈ fr no l, 0 ≤ x ∧ x < 256 := by
  intro x hx
  simp only [fr, fr0, pad, List.mem_append] at hx
  rcases hx with ((hx | hx) | hx) | hx
  · exact h x hx
  · rw [List.eq_of_mem_replicate hx]; omega
  · exact be_wf _ _ _ hx
  · exact be_wf _ _ _ hx
theorem splice_bs (L : List Int) (o : Nat) (X : List Int) : splice (bs L) o (bs X) = bs (L.take o ++ X ++ L.drop (o + X.length)) := by
  simp [splice, bs, List.map_take, List.map_drop]

def FrameR (no : Int) (l : List Int) (w : World) (v : Value) (w' : World) : Prop :=
  ∃ b, v = .tuple #[.slice (some ⟨b, 0, none⟩) 1024 1024, .int .i64 0] ∧ w.heap.size ≤ b ∧ w'.heap[b]? = some (Obj.cells (bs (fr no l)).toArray 5 (0, 0)) ∧ Mod [] w w'
end Go.Proofs.YtgimdodbajhpoaaDoor
namespace Go.Proofs.YtgimdodbajhpoaaDoor
open Go.RowKit Go.Maps
set_option linter.unusedSimpArgs false
set_option linter.unusedVariables false

/-- A disk, as the document has it. -/
structure Ck where
  safe : List (List Int)
  wait : List (Int × List Int)
  left : Int
  down : Bool
namespace Ck
def there (k : Ck) (no : Int) : Bool := decide (0 ≤ no) && decide (no < k.safe.length)
def tick (k : Ck) : Ck × Bool := if k.left = 0 then (k, false) else (⟨k.safe, k.wait, k.left - 1, k.left - 1 == 0⟩, k.left - 1 == 0)
def push (k : Ck) (no : Int) (l : List Int) : Ck := ⟨k.safe, k.wait ++ [(no, l)], k.left, k.down⟩
def write (k : Ck) (no : Int) (l : List Int) : Int × Ck :=
  if k.there no = false ∨ l.length ≠ 1024 then (1, k) else if k.down = true then (3, k) else (if (k.push no l).tick.2 = true then 3 else 0, (k.push no l).tick.1)
def lastOf {α : Type} (ws : List (Int × α)) (x : Int) : Option α := (ws.reverse.find? (fun p => p.1 == x)).map (·.2)
def seen (k : Ck) (no : Int) : List Int := (lastOf k.wait no).getD (k.safe.getD no.toNat [])
def rest (k : Ck) : Ck := ⟨k.safe, [], k.left, k.down⟩
def settle (k : Ck) : Ck := ⟨(List.range k.safe.length).map fun i : Nat => k.seen i, k.wait, k.left, k.down⟩
def sync (k : Ck) : Int × Ck := if k.down = true then (3, k) else if k.tick.2 = true then (3, k.tick.1) else (0, k.tick.1.settle.rest)
def arm (k : Ck) (n : Int) : Ck := ⟨k.safe, k.wait, max n 0, k.down⟩
theorem lastOf_push {α : Type} (ws : List (Int × α)) (y : Int) (g : α) (x : Int) : lastOf (ws ++ [(y, g)]) x = if y = x then some g else lastOf ws x := by
  simp only [lastOf, List.reverse_append, List.reverse_cons, List.reverse_nil, List.nil_append, List.singleton_append, List.find?_cons]
  by_cases h : y = x
  · simp [h]
  · have : (y == x) = false := by simpa using h
    simp [this, h]
theorem lastOf_map {α β : Type} (f : α → β) (ws : List (Int × α)) (x : Int) : lastOf (ws.map fun p => (p.1, f p.2)) x = (lastOf ws x).map f := by
  simp only [lastOf, ← List.map_reverse]
  generalize ws.reverse = l
  induction l with
  | nil => rfl
  | cons a r ih =>
    simp only [List.map_cons, List.find?_cons]
    cases h : (a.1 == x)
    · exact ih
    · simp
theorem lastOf_mem {α : Type} {ws : List (Int × α)} {x : Int} {g : α} (h : lastOf ws x = some g) : (x, g) ∈ ws := by
  simp only [lastOf, Option.map_eq_some_iff] at h
  obtain ⟨p, hp, rfl⟩ := h
  have h1 := List.find?_some hp
  simp at h1
  have h2 := List.mem_of_find?_eq_some hp
  rw [← h1]; simpa using h2
end Ck

/-- A page of a disk: a slice of 1024 bytes. -/
structure Pg where
  p : Option Addr
  c : Nat
  l : List Int
def Pg.val (g : Pg) : Value := .slice g.p 1024 g.c
def heldR : Value → Option (DataW Value × List MemPlace) := fun v => some (.held v, [])
def wcells (ws : List (Int × Pg)) : List Value := ws.flatMap fun x => [.int .i64 x.1, x.2.val]
theorem wcells_len (ws : List (Int × Pg)) : (wcells ws).length = ws.length * 2 := by
  induction ws with
  | nil => rfl
  | cons a r ih => simp only [wcells, List.flatMap_cons, List.length_append, List.length_cons, List.length_nil] at ih ⊢; omega
theorem wcells_append (a b : List (Int × Pg)) : wcells (a ++ b) = wcells a ++ wcells b := by simp [wcells]
theorem wcells_one (ws : List (Int × Pg)) : ∀ u ∈ wcells ws, u.oneCell' = true := by
  intro u hu; simp only [wcells, List.mem_flatMap] at hu
  obtain ⟨x, _, hx⟩ := hu
  simp at hx; rcases hx with rfl | rfl <;> rfl
theorem pgs_one (gs : List Pg) : ∀ u ∈ gs.map Pg.val, u.oneCell' = true := by
  intro u hu; obtain ⟨x, _, rfl⟩ := List.mem_map.1 hu; rfl
structure PgIn (w : World) (T S : List Nat) (g : Pg) : Prop where
  io : BytesIn w g.p 1024 g.c g.l
  own : ∀ a, g.p = some a → a.block ∈ T ∧ a.block ∉ S
theorem PgIn.mod {w w' : World} {T S X : List Nat} {g : Pg} (h : PgIn w T S g) (hm : Mod X w w') (hx : ∀ b ∈ T, b ∉ S → b ∉ X) : PgIn w' T S g :=
  ⟨⟨h.io.sl.mod hm (fun a ha _ => hx _ (h.own a ha).1 (h.own a ha).2), h.io.wf⟩, h.own⟩
theorem PgIn.to {w : World} {T S T' S' : List Nat} {g : Pg} (h : PgIn w T S g) (h' : ∀ b ∈ T, b ∉ S → b < w.heap.size → b ∈ T' ∧ b ∉ S') : PgIn w T' S' g :=
  ⟨h.io, fun a ha => h' _ (h.own a ha).1 (h.own a ha).2 (by
    obtain ⟨b, o, hp, hlt, _⟩ := h.io.sl.addr (by omega)
    rw [hp] at ha; cases ha; exact hlt)⟩

/-- Block D is a disk; T: all blocks that are its own. -/
structure DkIn (w : World) (D : Nat) (T : List Nat) (k : Ck) (gs : List Pg) (ws : List (Int × Pg)) (vs vw : Value) (M : Nat) (DM : DataW Value) (S : List Nat) : Prop where
  at_ : w.heap[D]? = some (.cells #[vs, vw, .map (some M), .int .i64 k.left, .bool k.down] 61 (0, 0))
  safe : w.ownsRow 0 22 1 vs gs.length (gs.map Pg.val)
  wait : w.ownsRow 0 162 2 vw ws.length (wcells ws)
  map : w.ownsMap Tryd.prog 3 heldR M ws.length DM
  has : ∀ x : Int, Maps.has DM (.int .i64 x) = (Ck.lastOf ws x).isSome
  atk : ∀ (x : Int) (g : Pg), Ck.lastOf ws x = some g → ∀ zd, DM.atKey (.int .i64 x) zd = .held g.val
  gsl : gs.map Pg.l = k.safe
  wsl : (ws.map fun x => (x.1, x.2.l)) = k.wait
  pg : ∀ g ∈ gs, PgIn w T S g
  pw : ∀ x ∈ ws, PgIn w T S x.2 ∧ 0 ≤ x.1 ∧ x.1 < gs.length
  hS : S = [D, M] ++ vs.ownBlock.toList ++ vw.ownBlock.toList
  sub : ∀ b ∈ S, b ∈ T
  lt : ∀ b ∈ T, b < w.heap.size
  few : gs.length ≤ 2048
  left0 : 0 ≤ k.left
  left1 : k.left ≤ 9223372036854775807
def DiskAt (w : World) (D : Nat) (T : List Nat) (k : Ck) : Prop := ∃ gs ws vs vw M DM S, DkIn w D T k gs ws vs vw M DM S

theorem ownsMap_mod {H : Type} {w w' : World} {X : List Nat} {P : Program} {kT : TypeId} {R : Value → Option (DataW H × List MemPlace)} {b n : Nat} {D : DataW H} (h : w.ownsMap P kT R b n D) (hm : Mod X w w') (hn : b ∉ X) : w'.ownsMap P kT R b n D := by
  obtain ⟨es, c, hb, r⟩ := h
  exact ⟨es, c, hm.at hb hn, r⟩

theorem DkIn.mod {w w' : World} {D : Nat} {T X : List Nat} {k : Ck} {gs : List Pg} {ws : List (Int × Pg)} {vs vw : Value} {M : Nat} {DM : DataW Value} {S : List Nat} (h : DkIn w D T k gs ws vs vw M DM S) (hm : Mod X w w') (hx : ∀ b ∈ T, b ∉ X) : DkIn w' D T k gs ws vs vw M DM S := by
  have hs : ∀ b ∈ S, b ∉ X := fun b hb => hx b (h.sub b hb)
  have hS := h.hS
  exact ⟨hm.at h.at_ (hs D (by simp [hS])), ownsRow_mod h.safe hm (fun b hb => hs b (by rw [hS]; simp only [List.mem_append, Option.mem_toList]; exact Or.inl (Or.inr hb))), ownsRow_mod h.wait hm (fun b hb => hs b (by rw [hS]; simp only [List.mem_append, Option.mem_toList]; exact Or.inr hb)),
    ownsMap_mod h.map hm (hs M (by simp [hS])), h.has, h.atk, h.gsl, h.wsl, fun g hg => (h.pg g hg).mod hm (fun b hb _ => hx b hb), fun x hxw => ⟨((h.pw x hxw).1).mod hm (fun b hb _ => hx b hb), (h.pw x hxw).2⟩, hS, h.sub, fun b hb => Nat.lt_of_lt_of_le (h.lt b hb) hm.size, h.few, h.left0, h.left1⟩
theorem DiskAt.mod {w w' : World} {D : Nat} {T X : List Nat} {k : Ck} (h : DiskAt w D T k) (hm : Mod X w w') (hx : ∀ b ∈ T, b ∉ X) : DiskAt w' D T k := by
  obtain ⟨gs, ws, vs, vw, M, DM, S, h⟩ := h
  exact ⟨gs, ws, vs, vw, M, DM, S, h.mod hm hx⟩
theorem DkIn.len {w : World} {D : Nat} {T : List Nat} {k : Ck} {gs : List Pg} {ws : List (Int × Pg)} {vs vw : Value} {M : Nat} {DM : DataW Value} {S : List Nat} (h : DkIn w D T k gs ws vs vw M DM S) : gs.length = k.safe.length ∧ ws.length = k.wait.length := by
  have h1 := congrArg List.length h.gsl
  have h2 := congrArg List.length h.wsl
  simp at h1 h2; exact ⟨h1, h2⟩
theorem DkIn.block_safe {w : World} {D : Nat} {T : List Nat} {k : Ck} {gs : List Pg} {ws : List (Int × Pg)} {vs vw : Value} {M : Nat} {DM : DataW Value} {S : List Nat} (h : DkIn w D T k gs ws vs vw M DM S) : ∀ b ∈ vs.ownBlock, b ≠ D ∧ b ≠ M ∧ b ∉ vw.ownBlock := by
  intro b hb
  rcases h.safe.2 with ⟨e, _⟩ | ⟨g, cap, cur, e, _, hg, _⟩
  · rw [e] at hb; cases hb
  · rw [e] at hb; simp [Value.ownBlock] at hb; subst hb
    refine ⟨fun e => ?_, fun e => ?_, fun hw => ?_⟩
    · subst e; rw [h.at_] at hg; injection hg with hg; injection hg with _ hg _; exact absurd hg (by decide)
    · obtain ⟨es, c, hb, _⟩ := h.map; subst e; rw [hg] at hb; cases hb
    · rcases h.wait.2 with ⟨e, _⟩ | ⟨g2, cap2, cur2, e, _, hg2, _⟩
      · rw [e] at hw; cases hw
      · rw [e] at hw; simp [Value.ownBlock] at hw; subst hw
        rw [hg2] at hg; injection hg with hg; injection hg with _ hg _; exact absurd hg (by decide)
theorem DkIn.block_wait {w : World} {D : Nat} {T : List Nat} {k : Ck} {gs : List Pg} {ws : List (Int × Pg)} {vs vw : Value} {M : Nat} {DM : DataW Value} {S : List Nat} (h : DkIn w D T k gs ws vs vw M DM S) : ∀ b ∈ vw.ownBlock, b ≠ D ∧ b ≠ M := by
  intro b hb
  rcases h.wait.2 with ⟨e, _⟩ | ⟨g, cap, cur, e, _, hg, _⟩
  · rw [e] at hb; cases hb
  · rw [e] at hb; simp [Value.ownBlock] at hb; subst hb
    refine ⟨fun e => ?_, fun e => ?_⟩
    · subst e; rw [h.at_] at hg; injection hg with hg; injection hg with _ hg _; exact absurd hg (by decide)
    · obtain ⟨es, c, hb, _⟩ := h.map; subst e; rw [hg] at hb; cases hb
theorem DkIn.ne {w : World} {D : Nat} {T : List Nat} {k : Ck} {gs : List Pg} {ws : List (Int × Pg)} {vs vw : Value} {M : Nat} {DM : DataW Value} {S : List Nat} (h : DkIn w D T k gs ws vs vw M DM S) : D ≠ M := by
  intro e; obtain ⟨es, c, hb, _⟩ := h.map; subst e; rw [h.at_] at hb; cases hb

/-- The struct's own two cells, left and down, are set. -/
theorem DkIn.set {w : World} {D : Nat} {T : List Nat} {k : Ck} {gs : List Pg} {ws : List (Int × Pg)} {vs vw : Value} {M : Nat} {DM : DataW Value} {S : List Nat} (h : DkIn w D T k gs ws vs vw M DM S) {w' : World} {l : Int} {d : Bool}
    (hm : Mod [D] w w') (hat : w'.heap[D]? = some (.cells #[vs, vw, .map (some M), .int .i64 l, .bool d] 61 (0, 0))) (h0 : 0 ≤ l) (h1 : l ≤ 9223372036854775807) :
    DkIn w' D T ⟨k.safe, k.wait, l, d⟩ gs ws vs vw M DM S := by
  have hD : D ∈ S := by simp [h.hS]
  have hp : ∀ b ∈ T, b ∉ S → b ∉ [D] := fun b _ hb he => hb (by simp at he; subst he; exact hD)
  exact ⟨hat, ownsRow_mod h.safe hm (fun b hb => by simpa using (h.block_safe b hb).1), ownsRow_mod h.wait hm (fun b hb => by simpa using (h.block_wait b hb).1), ownsMap_mod h.map hm (by simpa using h.ne.symm), h.has, h.atk, h.gsl, h.wsl,
    fun g hg => (h.pg g hg).mod hm hp, fun x hx => ⟨(h.pw x hx).1.mod hm hp, (h.pw x hx).2⟩, h.hS, h.sub, fun b hb => Nat.lt_of_lt_of_le (h.lt b hb) hm.size, h.few, h0, h1⟩

def EndR0 (R : World → Prop) : Ending → World → Prop := fun e w' => e = .returned (.tuple #[]) ∧ R w'
/-- What an act leaves: the disk in its state; what is told. -/
def DkR (D : Nat) (T : List Nat) (k : Ck) (r : Value) (w : World) (v : Value) (w' : World) : Prop :=
  v = r ∧ ∃ T', DiskAt w' D T' k ∧ Mod T w w' ∧ ∀ b ∈ T', b ∈ T ∨ w.heap.size ≤ b

theorem thereD_any (D : Nat) (T : List Nat) (k : Ck) (no : Int) (w : World) (h : DiskAt w D T k) :
    Calls Tryd.prog 60 #[.pointer (some ⟨D, 0, none⟩), .int .i64 no] w (Ret fun v w' => v = .bool (k.there no) ∧ w = w') := by
  obtain ⟨gs, ws, vs, vw, M, DM, S, h⟩ := h
  obtain ⟨pS, cS, rfl, _⟩ := own_shape h.safe
  have c0 : w.cell? ⟨D, 0, none⟩ = some (.slice pS gs.length cS) := cell_of_at h.at_ 0
  have HL := Lib.hid h.len.1
  clear h
  by_cases h0 : 0 ≤ no
  · cases h1 : decide (no < gs.length)
    all_goals
      have hT : Hid (k.there no = decide (no < gs.length)) := by unfold Hid Ck.there; rw [HL.out]; simp [h0]
      simp at h1
      go_enter Tryd.func60, Tryd.ntmps60
      go_wp2
      go_ret
      exact .mk ⟨by rw [hT.out]; simp [h1] <;> omega, rfl⟩
  · have hT : Hid (k.there no = false) := by unfold Hid Ck.there; simp [h0]
    go_enter Tryd.func60, Tryd.ntmps60
    go_wp2
    go_ret
    exact .mk ⟨by rw [hT.out]; rfl, rfl⟩

end Go.Proofs.YtgimdodbajhpoaaDoor
