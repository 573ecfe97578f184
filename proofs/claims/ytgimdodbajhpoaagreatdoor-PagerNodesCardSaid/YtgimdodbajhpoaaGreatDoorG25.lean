/- A page's frame. A disk: what it is, and the small ones of its functions. -/
import Derived.Laws.CopyOwn
import Derived.Maps.OwnSet
import Derived.Test.YtgimdodbajhpoaaGreatDoorG08
import Derived.Test.YtgimdodbajhpoaaGreatDoorG06
import Derived.Test.YtgimdodbajhpoaaGreatDoorG24
import Derived.Test.YtgimdodbajhpoaaGreatDoorG09
import Derived.Test.YtgimdodbajhpoaaGreatDoorG22
namespace Go.Proofs.YtgimdodbajhpoaaGreatDoor
open Go.RowKit Go.Maps
set_option linter.unusedSimpArgs false
set_option linter.unusedVariables false

/-- The page of a payload. -/
def fr0 (no : Int) (l : List Int) : List Int := pad 1016 l ++ be 4 no
def fr (no : Int) (l : List Int) : List Int := fr0 no l ++ be 4 (crcv (fr0 no l))
theorem fr0_len {no : Int} {l : List Int} (h : l.length ≤ 1016) : (fr0 no l).length = 1020 := by simp [fr0, pad_len h, be_len]
theorem fr_len {no : Int} {l : List Int} (h : l.length ≤ 1016) : (fr no l).length = 1024 := by simp [fr, fr0_len h, be_len]
theorem fr_wf {no : Int} {l : List Int} (h : ∀ x ∈ l, 0 ≤ x ∧ x < 256) : ∀ x ∈ fr no l, 0 ≤ x ∧ x < 256 := by
  intro x hx
  simp only [fr, fr0, pad, List.mem_append] at hx
  rcases hx with ((hx | hx) | hx) | hx
  · exact h x hx
  · rw [List.eq_of_mem_replicate hx]; omega
  · exact be_wf _ _ _ hx
  · exact be_wf _ _ _ hx
theorem splice_bs (L : List Int) (o : Nat) (X : List Int) : splice (bs L) o (bs X) = bs (L.take o ++ X ++ L.drop (o + X.length)) := by
  simp [splice, bs, List.map_take, List.map_drop]

def FrameR (no : Int) (l : List Int) (w : World) (v : Value) (w' : World) : Prop :=
  ∃ b, v = .tuple #[.slice (some ⟨b, 0, none⟩) 1024 1024, .int .i64 0] ∧ w.heap.size ≤ b ∧ w'.heap[b]? = some (Obj.cells (bs (fr no l)).toArray 5 (0, 0)) ∧ Mod [] w w'
set_option maxRecDepth 100000 in
set_option maxHeartbeats 4000000 in
theorem frame_any (no : Int) (p : Option Addr) (n c : Nat) (l : List Int) (w : World) (h : BytesIn w p n c l) (h0 : 0 ≤ no) (h1 : no ≤ 2147483647) (hn : n ≤ 1016) :
    Calls Tryz.prog 30 #[.int .i64 no, .slice p n c] w (Ret (FrameR no l w)) := by
  have hln := h.len
  have hno0 : (no < 0) = False := by simp; omega
  have hno1 : (2147483647 < no) = False := by simp; omega
  have hgt : ((1016 : Int) < (n : Int)) = False := by simp; omega
  have hwn : IntKind.u32.wrap no = no := by rw [IntKind.wrap_u32]; omega
  obtain ⟨i0, hi0, hz0, hz1, hz2⟩ := info_parts infoU8
  have hs1 : (Tryz.prog.info? 5).map (·.size) = some 1 := by rw [hi0]; simp [hz1]
  obtain ⟨Z, hZ⟩ : ∃ Z, Z = List.replicate 1024 (0 : Int) := ⟨_, rfl⟩
  have hmk : ∀ W : World, (Instr.makeSlice 40 (.int .i64 1024) (.int .i64 1024)).run Tryz.prog W = .ok (.slice (some ⟨W.heap.size, 0, none⟩) 1024 1024) (W.alloc (.cells (bs Z).toArray 5)) := fun W => by
    have h := run_makeSlice (P := Tryz.prog) W 40 5 i0 (.int .u8 0) Tryz.underlying40 hi0 hz0 .i64 .i64 1024 1024 (by omega) (by omega) (by rw [hz1]; decide) (by rw [hz2]; decide) (by decide)
    rw [h, hz1, hZ]
    simp only [show Int.toNat 1024 = 1024 from rfl, Nat.mul_one]
    rw [show (Value.int IntKind.u8 0).cells = #[Value.int IntKind.u8 0] from rfl, madeCells_one, bs_replicate]
  have hZl : Hid (Z.length = 1024) := by unfold Hid; rw [hZ, List.length_replicate]
  have HZ := Lib.hid hZ
  clear hZ
  have HB0 : Hid ((w.alloc (.cells (bs Z).toArray 5)).heap[w.heap.size]? = some (Obj.cells (bs Z).toArray 5 (0, 0))) := at_alloc w _
  have HM0 : Hid (Mod [] w (w.alloc (.cells (bs Z).toArray 5))) := Mod.of_alloc w _
  have HH := Lib.hid h
  have HLN := Lib.hid hln
  have hcr := crcv_range (fr0 no l)
  obtain ⟨CR, hCR⟩ : ∃ CR, CR = crcv (fr0 no l) := ⟨_, rfl⟩
  rw [← hCR] at hcr
  have HCR := Lib.hid hCR
  have HF0 := Lib.hid (fr0_len (no := no) (l := l) (by omega))
  clear h hln hCR
  go_enter Tryz.func30, Tryz.ntmps30
  have HS1 := Lib.hid (HH.out.sl.mod HM0.out (by simp))
  go_wp2_with (first
    | ((refine wpList_copy_splice rfl _ _ _ _ rfl 5 Tryz.underlying40 hs1 _ _ _ _ _ _ rfl rfl w.heap.size 0 _ _ HB0.out (bs l) (by rw [bs_len, HLN.out]; exact (Nat.min_eq_left (by omega)).symm) (fun hpos => ⟨rfl, by
        obtain ⟨b, off, e, _, hc⟩ := HS1.out.addr (by rw [bs_len, HLN.out] at hpos; exact hpos)
        exact ⟨_, e, fun j v hj => by rw [add_plain]; exact hc j v hj⟩⟩) (by rw [bs_len, bs_len, HLN.out, hZl.out]; omega) (bs_one _) w.heap.size w HM0.out.below (Nat.le_refl _) ?_); intro w1 hat1 hbel1; (have HB1 : Hid (Below w.heap.size w w1) := hbel1); clear hbel1)
    | go_in)
  have hL1 : splice (bs Z) 0 (bs l) = bs (pad 1016 l ++ List.replicate 8 0) := by
    rw [splice_bs, HZ.out]
    congr 1
    unfold pad
    rw [List.take_zero, List.nil_append, Nat.zero_add, List.drop_replicate, List.append_assoc, List.replicate_append_replicate]
    congr 2
    have := HLN.out; omega
  rw [hL1] at hat1
  have HPL := Lib.hid (pad_len (n := 1016) (p := l) (by rw [HLN.out]; omega))
  generalize (bs l).length = ln
  simp only [Act.put, List.setIfInBounds_toArray, List.set_cons_zero, List.set_cons_succ]
  have hbb : w.heap.size = w.heap.size := rfl
  generalize hBB : w.heap.size = B at *
  have HBB := Lib.hid hBB
  have r1016 : ∀ W : World, (Instr.slice 40 (.slice (some ⟨B, 0, none⟩) 1024 1024) (some (.int .i64 1016)) none none).run Tryz.prog W = .ok (.slice (some ⟨B, 1016, none⟩) 8 8) W := fun W => by
    rw [run_slice_l W _ _ _ _ Tryz.underlying40 .i64 1016 (by omega) (by omega), sizeBytes]; simp [Result.andThen, sliced, Addr.add]
  have r1020 : ∀ W : World, (Instr.slice 40 (.slice (some ⟨B, 0, none⟩) 1024 1024) (some (.int .i64 1020)) none none).run Tryz.prog W = .ok (.slice (some ⟨B, 1020, none⟩) 4 4) W := fun W => by
    rw [run_slice_l W _ _ _ _ Tryz.underlying40 .i64 1020 (by omega) (by omega), sizeBytes]; simp [Result.andThen, sliced, Addr.add]
  have r1020h : ∀ W : World, (Instr.slice 40 (.slice (some ⟨B, 0, none⟩) 1024 1024) none (some (.int .i64 1020)) (some (.int .i64 1020))).run Tryz.prog W = .ok (.slice (some ⟨B, 0, none⟩) 1020 1020) W := fun W => by
    rw [run_slice_hm W _ _ _ _ Tryz.underlying40 .i64 .i64 1020 1020 (by omega) (by omega) (by omega), sizeBytes]; simp [Result.andThen, sliced, Addr.add]
  have HB1' : Hid (Below B w w1.drew) := HB1.out.drew
  have HA1 : Hid (w1.drew.heap[B]? = some (Obj.cells (bs (pad 1016 l ++ List.replicate 8 0)).toArray 5 (0, 0))) := hat1.out
  clear hL1 hat1 HB1 hbb hBB hmk HB0 HM0 HS1
  go_wp2
  go_region_held3 (fun w' => True)
    (first | go_keep | trivial | fail)
    (first
      | (go_at_call 41; refine (put32_any no _ (by omega) (by omega)).mono ?_; rintro _ w2 ⟨_, rfl, p2, n2, c2, rfl, e2, s2, m2⟩; (obtain rfl : n2 = 4 := by rw [e2, be_len]); (have S2 := Lib.hid s2); (have HA2 := Lib.hid (m2.at HA1.out (by simp))); (have HB2 : Hid (Below B w w2) := HB1'.out.trans (m2.below.mono (by rw [← HBB.out]; exact HB1'.out.size))); clear e2 s2 m2)
      | (refine step_copy_splice rfl _ _ _ _ (by rfl) 5 Tryz.underlying40 hs1 _ _ _ _ _ _ (by rfl) (by rfl) B 1016 _ _ HA2.out (bs (be 4 no)) (by rw [bs_len, be_len]; rfl) (fun _ => ⟨rfl, by
          obtain ⟨b, off, e, _, hc⟩ := S2.out.addr (by omega)
          exact ⟨_, e, fun j v hj => by rw [add_plain]; exact hc j v hj⟩⟩) (by rw [bs_len, bs_len, be_len, List.length_append, HPL.out, List.length_replicate]; omega) (bs_one _) B w HB2.out (Nat.le_refl _) ?_; intro w3 hat3 hbel3; (have HB3 : Hid (Below B w w3) := hbel3); clear hbel3)
      | fail)
  have hL3 : splice (bs (pad 1016 l ++ List.replicate 8 0)) 1016 (bs (be 4 no)) = bs (fr0 no l ++ List.replicate 4 0) := by
    rw [splice_bs, be_len]
    congr 1
    unfold fr0
    rw [List.take_append_of_le_length (by rw [HPL.out]; omega), List.take_of_length_le (by rw [HPL.out]; omega), List.drop_append, HPL.out, List.drop_of_length_le (by rw [HPL.out]; omega)]
    rfl
  rw [hL3] at hat3
  have HA3 := Lib.hid hat3.out
  have HB3' : Hid (Below B w w3.drew) := HB3.out.drew
  have HA3' : Hid (w3.drew.heap[B]? = some (Obj.cells (bs (fr0 no l ++ List.replicate 4 0)).toArray 5 (0, 0))) := HA3.out
  have HIN : Hid (BytesIn w3.drew (some ⟨B, 0, none⟩) 1020 1020 (fr0 no l)) := by
    have hat := HA3'.out
    refine ⟨⟨by rw [bs_len, HF0.out], Nat.le_refl _, by simp [maxLen], bs_one _, B, 0, fun _ => ⟨rfl, lt_of_at hat⟩, fun j u hj => ?_⟩, fun x hx => ?_⟩
    · rw [cell_of_at hat, Nat.zero_add, List.getElem?_toArray, bs_append]
      rw [List.getElem?_append_left (List.getElem?_eq_some_iff.1 hj).1]; exact hj
    · simp only [fr0, pad, List.mem_append] at hx
      rcases hx with (hx | hx) | hx
      · exact HH.out.wf x hx
      · rw [List.eq_of_mem_replicate hx]; omega
      · exact be_wf _ _ _ hx
  clear hL3 hat3 HB3 HA3 HA2 HB2 HA1 HB1' S2
  simp only [Act.put, List.setIfInBounds_toArray, List.set_cons_zero, List.set_cons_succ, bs_len, be_len]
  go_wp2
  go_region_held3 (fun w' => True)
    (first | go_keep | trivial | fail)
    (first
      | (go_at_call 42; refine (sum_any _ _ _ _ _ HIN.out).mono ?_; rintro _ w4 ⟨_, rfl, rfl, m4⟩; (have HA4 := Lib.hid (m4.at HA3'.out (by simp))); (have HB4 : Hid (Below B w w4) := HB3'.out.trans (m4.below.mono (by rw [← HBB.out]; exact HB3'.out.size))); (rw [← HCR.out]); clear m4)
      | (go_at_call 41; refine (put32_any CR _ (by omega) (by omega)).mono ?_; rintro _ w5 ⟨_, rfl, p5, n5, c5, rfl, e5, s5, m5⟩; (obtain rfl : n5 = 4 := by rw [e5, be_len]); (have S5 := Lib.hid s5); (have HA5 := Lib.hid (m5.at HA4.out (by simp))); (have HB5 : Hid (Below B w w5) := HB4.out.trans (m5.below.mono (by rw [← HBB.out]; exact HB4.out.size))); clear e5 s5 m5)
      | (refine step_copy_splice rfl _ _ _ _ (by rfl) 5 Tryz.underlying40 hs1 _ _ _ _ _ _ (by rfl) (by rfl) B 1020 _ _ HA5.out (bs (be 4 CR)) (by rw [bs_len, be_len]; rfl) (fun _ => ⟨rfl, by
          obtain ⟨b, off, e, _, hc⟩ := S5.out.addr (by omega)
          exact ⟨_, e, fun j v hj => by rw [add_plain]; exact hc j v hj⟩⟩) (by rw [bs_len, bs_len, be_len, List.length_append, HF0.out, List.length_replicate]; omega) (bs_one _) B w HB5.out (Nat.le_refl _) ?_; intro w6 hat6 hbel6; (have HB6 : Hid (Below B w w6) := hbel6); clear hbel6)
      | fail)
  have hL6 : splice (bs (fr0 no l ++ List.replicate 4 0)) 1020 (bs (be 4 CR)) = bs (fr no l) := by
    rw [splice_bs, be_len]
    congr 1
    unfold fr
    rw [← HCR.out, List.take_append_of_le_length (by rw [HF0.out]; omega), List.take_of_length_le (by rw [HF0.out]; omega), List.drop_append, HF0.out, List.drop_of_length_le (by rw [HF0.out]; omega)]
    simp
  rw [hL6] at hat6
  have HA6 := Lib.hid hat6.out
  clear hat6 hL6
  simp only [Act.put, List.setIfInBounds_toArray, List.set_cons_zero, List.set_cons_succ, bs_len, be_len]
  go_wp2
  go_ret2
  refine .mk ⟨B, rfl, by rw [HBB.out]; exact Nat.le_refl _, HA6.out, ?_⟩
  have := HB6.out
  rw [← HBB.out] at this
  exact Mod.of_below this
end Go.Proofs.YtgimdodbajhpoaaGreatDoor
namespace Go.Proofs.YtgimdodbajhpoaaGreatDoor
open Go.RowKit Go.Maps
set_option linter.unusedSimpArgs false
set_option linter.unusedVariables false

/-- A disk, as the document has it. -/
structure Ck where
  safe : List (List Int)
  wait : List (Int × List Int)
  left : Int
  down : Bool
namespace Ck
def there (k : Ck) (no : Int) : Bool := decide (0 ≤ no) && decide (no < k.safe.length)
def tick (k : Ck) : Ck × Bool := if k.left = 0 then (k, false) else (⟨k.safe, k.wait, k.left - 1, k.left - 1 == 0⟩, k.left - 1 == 0)
def push (k : Ck) (no : Int) (l : List Int) : Ck := ⟨k.safe, k.wait ++ [(no, l)], k.left, k.down⟩
def write (k : Ck) (no : Int) (l : List Int) : Int × Ck :=
  if k.there no = false ∨ l.length ≠ 1024 then (1, k) else if k.down = true then (3, k) else (if (k.push no l).tick.2 = true then 3 else 0, (k.push no l).tick.1)
def lastOf {α : Type} (ws : List (Int × α)) (x : Int) : Option α := (ws.reverse.find? (fun p => p.1 == x)).map (·.2)
def seen (k : Ck) (no : Int) : List Int := (lastOf k.wait no).getD (k.safe.getD no.toNat [])
def rest (k : Ck) : Ck := ⟨k.safe, [], k.left, k.down⟩
def settle (k : Ck) : Ck := ⟨(List.range k.safe.length).map fun i : Nat => k.seen i, k.wait, k.left, k.down⟩
def sync (k : Ck) : Int × Ck := if k.down = true then (3, k) else if k.tick.2 = true then (3, k.tick.1) else (0, k.tick.1.settle.rest)
def arm (k : Ck) (n : Int) : Ck := ⟨k.safe, k.wait, max n 0, k.down⟩
theorem lastOf_push {α : Type} (ws : List (Int × α)) (y : Int) (g : α) (x : Int) : lastOf (ws ++ [(y, g)]) x = if y = x then some g else lastOf ws x := by
  simp only [lastOf, List.reverse_append, List.reverse_cons, List.reverse_nil, List.nil_append, List.singleton_append, List.find?_cons]
  by_cases h : y = x
  · simp [h]
  · have : (y == x) = false := by simpa using h
    simp [this, h]
theorem lastOf_map {α β : Type} (f : α → β) (ws : List (Int × α)) (x : Int) : lastOf (ws.map fun p => (p.1, f p.2)) x = (lastOf ws x).map f := by
  simp only [lastOf, ← List.map_reverse]
  generalize ws.reverse = l
  induction l with
  | nil => rfl
  | cons a r ih =>
    simp only [List.map_cons, List.find?_cons]
    cases h : (a.1 == x)
    · exact ih
    · simp
theorem lastOf_mem {α : Type} {ws : List (Int × α)} {x : Int} {g : α} (h : lastOf ws x = some g) : (x, g) ∈ ws := by
  simp only [lastOf, Option.map_eq_some_iff] at h
  obtain ⟨p, hp, rfl⟩ := h
  have h1 := List.find?_some hp
  simp at h1
  have h2 := List.mem_of_find?_eq_some hp
  rw [← h1]; simpa using h2
end Ck

/-- A page of a disk: a slice of 1024 bytes. -/
structure Pg where
  p : Option Addr
  c : Nat
  l : List Int
def Pg.val (g : Pg) : Value := .slice g.p 1024 g.c
def heldR : Value → Option (DataW Value × List MemPlace) := fun v => some (.held v, [])
def wcells (ws : List (Int × Pg)) : List Value := ws.flatMap fun x => [.int .i64 x.1, x.2.val]
theorem wcells_len (ws : List (Int × Pg)) : (wcells ws).length = ws.length * 2 := by
  induction ws with
  | nil => rfl
  | cons a r ih => simp only [wcells, List.flatMap_cons, List.length_append, List.length_cons, List.length_nil] at ih ⊢; omega
theorem wcells_append (a b : List (Int × Pg)) : wcells (a ++ b) = wcells a ++ wcells b := by simp [wcells]
theorem wcells_one (ws : List (Int × Pg)) : ∀ u ∈ wcells ws, u.oneCell' = true := by
  intro u hu; simp only [wcells, List.mem_flatMap] at hu
  obtain ⟨x, _, hx⟩ := hu
  simp at hx; rcases hx with rfl | rfl <;> rfl
theorem pgs_one (gs : List Pg) : ∀ u ∈ gs.map Pg.val, u.oneCell' = true := by
  intro u hu; obtain ⟨x, _, rfl⟩ := List.mem_map.1 hu; rfl
structure PgIn (w : World) (T S : List Nat) (g : Pg) : Prop where
  io : BytesIn w g.p 1024 g.c g.l
  own : ∀ a, g.p = some a → a.block ∈ T ∧ a.block ∉ S
theorem PgIn.mod {w w' : World} {T S X : List Nat} {g : Pg} (h : PgIn w T S g) (hm : Mod X w w') (hx : ∀ b ∈ T, b ∉ S → b ∉ X) : PgIn w' T S g :=
  ⟨⟨h.io.sl.mod hm (fun a ha _ => hx _ (h.own a ha).1 (h.own a ha).2), h.io.wf⟩, h.own⟩
theorem PgIn.to {w : World} {T S T' S' : List Nat} {g : Pg} (h : PgIn w T S g) (h' : ∀ b ∈ T, b ∉ S → b < w.heap.size → b ∈ T' ∧ b ∉ S') : PgIn w T' S' g :=
  ⟨h.io, fun a ha => h' _ (h.own a ha).1 (h.own a ha).2 (by
    obtain ⟨b, o, hp, hlt, _⟩ := h.io.sl.addr (by omega)
    rw [hp] at ha; cases ha; exact hlt)⟩

/-- Block D is a disk; T: all blocks that are its own. -/
structure DkIn (w : World) (D : Nat) (T : List Nat) (k : Ck) (gs : List Pg) (ws : List (Int × Pg)) (vs vw : Value) (M : Nat) (DM : DataW Value) (S : List Nat) : Prop where
  at_ : w.heap[D]? = some (.cells #[vs, vw, .map (some M), .int .i64 k.left, .bool k.down] 71 (0, 0))
  safe : w.ownsRow 0 40 1 vs gs.length (gs.map Pg.val)
  wait : w.ownsRow 0 103 2 vw ws.length (wcells ws)
  map : w.ownsMap Tryz.prog 3 heldR M ws.length DM
  has : ∀ x : Int, Maps.has DM (.int .i64 x) = (Ck.lastOf ws x).isSome
  atk : ∀ (x : Int) (g : Pg), Ck.lastOf ws x = some g → ∀ zd, DM.atKey (.int .i64 x) zd = .held g.val
  gsl : gs.map Pg.l = k.safe
  wsl : (ws.map fun x => (x.1, x.2.l)) = k.wait
  pg : ∀ g ∈ gs, PgIn w T S g
  pw : ∀ x ∈ ws, PgIn w T S x.2 ∧ 0 ≤ x.1 ∧ x.1 < gs.length
  hS : S = [D, M] ++ vs.ownBlock.toList ++ vw.ownBlock.toList
  sub : ∀ b ∈ S, b ∈ T
  lt : ∀ b ∈ T, b < w.heap.size
  few : gs.length ≤ 2048
  left0 : 0 ≤ k.left
  left1 : k.left ≤ 9223372036854775807
def DiskAt (w : World) (D : Nat) (T : List Nat) (k : Ck) : Prop := ∃ gs ws vs vw M DM S, DkIn w D T k gs ws vs vw M DM S

theorem ownsMap_mod {H : Type} {w w' : World} {X : List Nat} {P : Program} {kT : TypeId} {R : Value → Option (DataW H × List MemPlace)} {b n : Nat} {D : DataW H} (h : w.ownsMap P kT R b n D) (hm : Mod X w w') (hn : b ∉ X) : w'.ownsMap P kT R b n D := by
  obtain ⟨es, c, hb, r⟩ := h
  exact ⟨es, c, hm.at hb hn, r⟩

theorem DkIn.mod {w w' : World} {D : Nat} {T X : List Nat} {k : Ck} {gs : List Pg} {ws : List (Int × Pg)} {vs vw : Value} {M : Nat} {DM : DataW Value} {S : List Nat} (h : DkIn w D T k gs ws vs vw M DM S) (hm : Mod X w w') (hx : ∀ b ∈ T, b ∉ X) : DkIn w' D T k gs ws vs vw M DM S := by
  have hs : ∀ b ∈ S, b ∉ X := fun b hb => hx b (h.sub b hb)
  have hS := h.hS
  exact ⟨hm.at h.at_ (hs D (by simp [hS])), ownsRow_mod h.safe hm (fun b hb => hs b (by rw [hS]; simp only [List.mem_append, Option.mem_toList]; exact Or.inl (Or.inr hb))), ownsRow_mod h.wait hm (fun b hb => hs b (by rw [hS]; simp only [List.mem_append, Option.mem_toList]; exact Or.inr hb)),
    ownsMap_mod h.map hm (hs M (by simp [hS])), h.has, h.atk, h.gsl, h.wsl, fun g hg => (h.pg g hg).mod hm (fun b hb _ => hx b hb), fun x hxw => ⟨((h.pw x hxw).1).mod hm (fun b hb _ => hx b hb), (h.pw x hxw).2⟩, hS, h.sub, fun b hb => Nat.lt_of_lt_of_le (h.lt b hb) hm.size, h.few, h.left0, h.left1⟩
theorem DiskAt.mod {w w' : World} {D : Nat} {T X : List Nat} {k : Ck} (h : DiskAt w D T k) (hm : Mod X w w') (hx : ∀ b ∈ T, b ∉ X) : DiskAt w' D T k := by
  obtain ⟨gs, ws, vs, vw, M, DM, S, h⟩ := h
  exact ⟨gs, ws, vs, vw, M, DM, S, h.mod hm hx⟩
theorem DkIn.len {w : World} {D : Nat} {T : List Nat} {k : Ck} {gs : List Pg} {ws : List (Int × Pg)} {vs vw : Value} {M : Nat} {DM : DataW Value} {S : List Nat} (h : DkIn w D T k gs ws vs vw M DM S) : gs.length = k.safe.length ∧ ws.length = k.wait.length := by
  have h1 := congrArg List.length h.gsl
  have h2 := congrArg List.length h.wsl
  simp at h1 h2; exact ⟨h1, h2⟩
theorem DkIn.block_safe {w : World} {D : Nat} {T : List Nat} {k : Ck} {gs : List Pg} {ws : List (Int × Pg)} {vs vw : Value} {M : Nat} {DM : DataW Value} {S : List Nat} (h : DkIn w D T k gs ws vs vw M DM S) : ∀ b ∈ vs.ownBlock, b ≠ D ∧ b ≠ M ∧ b ∉ vw.ownBlock := by
  intro b hb
  rcases h.safe.2 with ⟨e, _⟩ | ⟨g, cap, cur, e, _, hg, _⟩
  · rw [e] at hb; cases hb
  · rw [e] at hb; simp [Value.ownBlock] at hb; subst hb
    refine ⟨fun e => ?_, fun e => ?_, fun hw => ?_⟩
    · subst e; rw [h.at_] at hg; injection hg with hg; injection hg with _ hg _; exact absurd hg (by decide)
    · obtain ⟨es, c, hb, _⟩ := h.map; subst e; rw [hg] at hb; cases hb
    · rcases h.wait.2 with ⟨e, _⟩ | ⟨g2, cap2, cur2, e, _, hg2, _⟩
      · rw [e] at hw; cases hw
      · rw [e] at hw; simp [Value.ownBlock] at hw; subst hw
        rw [hg2] at hg; injection hg with hg; injection hg with _ hg _; exact absurd hg (by decide)
theorem DkIn.block_wait {w : World} {D : Nat} {T : List Nat} {k : Ck} {gs : List Pg} {ws : List (Int × Pg)} {vs vw : Value} {M : Nat} {DM : DataW Value} {S : List Nat} (h : DkIn w D T k gs ws vs vw M DM S) : ∀ b ∈ vw.ownBlock, b ≠ D ∧ b ≠ M := by
  intro b hb
  rcases h.wait.2 with ⟨e, _⟩ | ⟨g, cap, cur, e, _, hg, _⟩
  · rw [e] at hb; cases hb
  · rw [e] at hb; simp [Value.ownBlock] at hb; subst hb
    refine ⟨fun e => ?_, fun e => ?_⟩
    · subst e; rw [h.at_] at hg; injection hg with hg; injection hg with _ hg _; exact absurd hg (by decide)
    · obtain ⟨es, c, hb, _⟩ := h.map; subst e; rw [hg] at hb; cases hb
theorem DkIn.ne {w : World} {D : Nat} {T : List Nat} {k : Ck} {gs : List Pg} {ws : List (Int × Pg)} {vs vw : Value} {M : Nat} {DM : DataW Value} {S : List Nat} (h : DkIn w D T k gs ws vs vw M DM S) : D ≠ M := by
  intro e; obtain ⟨es, c, hb, _⟩ := h.map; subst e; rw [h.at_] at hb; cases hb

/-- The struct's own two cells, left and down, are set. -/
theorem DkIn.set {w : World} {D : Nat} {T : List Nat} {k : Ck} {gs : List Pg} {ws : List (Int × Pg)} {vs vw : Value} {M : Nat} {DM : DataW Value} {S : List Nat} (h : DkIn w D T k gs ws vs vw M DM S) {w' : World} {l : Int} {d : Bool}
    (hm : Mod [D] w w') (hat : w'.heap[D]? = some (.cells #[vs, vw, .map (some M), .int .i64 l, .bool d] 71 (0, 0))) (h0 : 0 ≤ l) (h1 : l ≤ 9223372036854775807) :
    DkIn w' D T ⟨k.safe, k.wait, l, d⟩ gs ws vs vw M DM S := by
  have hD : D ∈ S := by simp [h.hS]
  have hp : ∀ b ∈ T, b ∉ S → b ∉ [D] := fun b _ hb he => hb (by simp at he; subst he; exact hD)
  exact ⟨hat, ownsRow_mod h.safe hm (fun b hb => by simpa using (h.block_safe b hb).1), ownsRow_mod h.wait hm (fun b hb => by simpa using (h.block_wait b hb).1), ownsMap_mod h.map hm (by simpa using h.ne.symm), h.has, h.atk, h.gsl, h.wsl,
    fun g hg => (h.pg g hg).mod hm hp, fun x hx => ⟨(h.pw x hx).1.mod hm hp, (h.pw x hx).2⟩, h.hS, h.sub, fun b hb => Nat.lt_of_lt_of_le (h.lt b hb) hm.size, h.few, h0, h1⟩

def EndR0 (R : World → Prop) : Ending → World → Prop := fun e w' => e = .returned (.tuple #[]) ∧ R w'
/-- What an act leaves: the disk in its state; what is told. -/
def DkR (D : Nat) (T : List Nat) (k : Ck) (r : Value) (w : World) (v : Value) (w' : World) : Prop :=
  v = r ∧ ∃ T', DiskAt w' D T' k ∧ Mod T w w' ∧ ∀ b ∈ T', b ∈ T ∨ w.heap.size ≤ b

theorem thereD_any (D : Nat) (T : List Nat) (k : Ck) (no : Int) (w : World) (h : DiskAt w D T k) :
    Calls Tryz.prog 43 #[.pointer (some ⟨D, 0, none⟩), .int .i64 no] w (Ret fun v w' => v = .bool (k.there no) ∧ w = w') := by
  obtain ⟨gs, ws, vs, vw, M, DM, S, h⟩ := h
  obtain ⟨pS, cS, rfl, _⟩ := own_shape h.safe
  have c0 : w.cell? ⟨D, 0, none⟩ = some (.slice pS gs.length cS) := cell_of_at h.at_ 0
  have HL := Lib.hid h.len.1
  clear h
  by_cases h0 : 0 ≤ no
  · cases h1 : decide (no < gs.length)
    all_goals
      have hT : Hid (k.there no = decide (no < gs.length)) := by unfold Hid Ck.there; rw [HL.out]; simp [h0]
      simp at h1
      go_enter Tryz.func43, Tryz.ntmps43
      go_wp2
      go_ret
      exact .mk ⟨by rw [hT.out]; simp [h1] <;> omega, rfl⟩
  · have hT : Hid (k.there no = false) := by unfold Hid Ck.there; simp [h0]
    go_enter Tryz.func43, Tryz.ntmps43
    go_wp2
    go_ret
    exact .mk ⟨by rw [hT.out]; rfl, rfl⟩

/-- 'goes'. -/
theorem tick_any (D : Nat) (T : List Nat) (k : Ck) (w : World) (h : DiskAt w D T k) (hd : k.down = false) :
    Calls Tryz.prog 44 #[.pointer (some ⟨D, 0, none⟩)] w (Ret fun v w' => v = .bool k.tick.2 ∧ DiskAt w' D T k.tick.1 ∧ Mod [D] w w') := by
  obtain ⟨gs, ws, vs, vw, M, DM, S, h⟩ := h
  have c3 : w.cell? ⟨D, 3, none⟩ = some (.int .i64 k.left) := cell_of_at h.at_ 3
  have c4 : w.cell? ⟨D, 4, none⟩ = some (.bool k.down) := cell_of_at h.at_ 4
  have f3 : w.frozen? ⟨D, 3, none⟩ = false := free_of_at h.at_ 3
  have f4 : w.frozen? ⟨D, 4, none⟩ = false := free_of_at h.at_ 4
  have l0 := h.left0; have l1 := h.left1
  have HH := Lib.hid h
  have HD := Lib.hid hd
  clear h hd
  by_cases h0 : k.left = 0
  · have hT : Hid (k.tick = (k, false)) := by unfold Hid Ck.tick; rw [if_pos h0]
    have h0' : (k.left == 0) = true := by simp [h0]
    clear h0
    go_enter Tryz.func44, Tryz.ntmps44
    go_wp2
    go_ret
    exact .mk ⟨by rw [hT.out]; rfl, by rw [hT.out]; exact ⟨gs, ws, vs, vw, M, DM, S, HH.out⟩, Mod.refl _ _⟩
  · have hT : Hid (k.tick = (⟨k.safe, k.wait, k.left - 1, k.left - 1 == 0⟩, k.left - 1 == 0)) := by unfold Hid Ck.tick; rw [if_neg h0]
    have h0' : (k.left == 0) = false := by simp [h0]
    have hw : IntKind.i64.wrap (k.left - 1) = k.left - 1 := by rw [IntKind.wrap_i64]; omega
    obtain ⟨y, hy⟩ : ∃ y, y = k.left - 1 := ⟨_, rfl⟩
    have hy0 : 0 ≤ y := by omega
    have hy1 : y ≤ 9223372036854775807 := by omega
    rw [← hy] at hT hw
    have hsub : k.left - 1 = y := hy.symm
    clear h0 hy
    go_enter Tryz.func44, Tryz.ntmps44
    go_wp2
    go_ret
    refine .mk ⟨by rw [hT.out]; rfl, ?_, ?_⟩
    · rw [hT.out]
      refine ⟨gs, ws, vs, vw, M, DM, S, HH.out.set ((Mod.of_setCell _ _ _ _).same (Mod.of_setCell _ _ _ _)) ?_ hy0 hy1⟩
      rw [at_setCell (at_setCell HH.out.at_ _ _)]; rfl
    · exact (Mod.of_setCell _ _ _ _).same (Mod.of_setCell _ _ _ _)
end Go.Proofs.YtgimdodbajhpoaaGreatDoor
