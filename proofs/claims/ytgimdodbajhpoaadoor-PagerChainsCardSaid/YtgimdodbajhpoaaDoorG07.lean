/- Maps from whole numbers to whatever, as sorted lists. The pool of freed pages: what each of its functions does, as a pure function of its list of pages and versions. -/
import Derived.Test.YtgimdodbajhpoaaDoorG03
import Derived.Test.YtgimdodbajhpoaaDoorRows
namespace Go.Proofs.YtgimdodbajhpoaaDoor
open Go.RowKit Go.Maps
set_option linter.unusedSimpArgs false
set_option linter.unusedVariables false

section
variable {α β H : Type}
def SrtG (m : List (Int × α)) : Prop := m.Pairwise fun a b => a.1 < b.1
def mapG (f : α → DataW H) (m : List (Int × α)) : DataW H := .map (m.map fun p => (.int .i64 p.1, f p.2))
def lookG (m : List (Int × α)) (x : Int) : Option α := (m.find? fun p => p.1 == x).map (·.2)
def insG (x : Int) (v : α) : List (Int × α) → List (Int × α)
  | [] => [(x, v)]
  | a :: r => if x < a.1 then (x, v) :: a :: r else if x = a.1 then (x, v) :: r else a :: insG x v r
def cutG (m : List (Int × α)) (x : Int) : List (Int × α) := m.filter fun p => p.1 != x
theorem has_mapG (f : α → DataW H) (m : List (Int × α)) (x : Int) : Maps.has (mapG f m) (.int .i64 x) = (lookG m x).isSome := by
  induction m with
  | nil => rfl
  | cons a r ih =>
    simp only [Maps.has, mapG, List.map_cons, List.any_cons, sameKey_int, lookG, List.find?_cons] at ih ⊢
    cases h : (a.1 == x)
    · simpa using ih
    · simp
theorem atKey_mapG (f : α → DataW H) (m : List (Int × α)) (x : Int) (zd : DataW H) : (mapG f m).atKey (.int .i64 x) zd = ((lookG m x).map f).getD zd := by
  induction m with
  | nil => rfl
  | cons a r ih =>
    simp only [mapG, DataW.atKey, List.map_cons, List.find?_cons, sameKey_int, lookG] at ih ⊢
    cases h : (a.1 == x)
    · simpa using ih
    · simp
theorem size_mapG (f : α → DataW H) (m : List (Int × α)) : Maps.size (mapG f m) = m.length := by simp [Maps.size, mapG]
theorem del_mapG (f : α → DataW H) (m : List (Int × α)) (x : Int) : (mapG f m).del (.int .i64 x) = mapG f (cutG m x) := by
  simp only [DataW.del, mapG, cutG, List.filter_map]
  congr 2
  apply List.filter_congr
  intro p _
  simp [Function.comp, sameKey_int, bne]
theorem insert_mapG (f : α → DataW H) (x : Int) (v : α) : ∀ m : List (Int × α), SrtG m →
    DataW.insert (.int .i64 x, f v) ((m.map fun p => (Lit.int .i64 p.1, f p.2)).filter fun p => !p.1.sameKey (.int .i64 x)) = (insG x v m).map fun p => (Lit.int .i64 p.1, f p.2)
  | [], _ => rfl
  | a :: r, h => by
    obtain ⟨h1, h2⟩ := List.pairwise_cons.1 h
    have ih := insert_mapG f x v r h2
    have hall : ∀ y : Int, (∀ p ∈ r, y < p.1) → x ≤ y → ((r.map fun p => (Lit.int .i64 p.1, f p.2)).filter fun p => !p.1.sameKey (.int .i64 x)) = r.map fun p => (Lit.int .i64 p.1, f p.2) := by
      intro y hy hxy
      rw [List.filter_eq_self]
      intro p hp
      obtain ⟨p0, hp0, rfl⟩ := List.mem_map.1 hp
      have := hy p0 hp0
      simp [sameKey_int]; omega
    unfold insG
    by_cases c1 : x < a.1
    · rw [if_pos c1]
      simp only [List.map_cons, List.filter_cons, sameKey_int]
      have c2 : (a.1 == x) = false := by simp; omega
      rw [c2, hall a.1 h1 (by omega)]
      simp [DataW.insert, Lit.before, c1]
    · rw [if_neg c1]
      by_cases c2 : x = a.1
      · rw [if_pos c2]
        simp only [List.map_cons, List.filter_cons, sameKey_int]
        have c3 : (a.1 == x) = true := by simp; omega
        rw [c3, hall a.1 h1 (by omega)]
        simp only [Bool.not_true, Bool.false_eq_true, if_false]
        cases r with
        | nil => rfl
        | cons b r =>
          have := h1 b (by simp)
          simp [DataW.insert, Lit.before]; omega
      · rw [if_neg c2]
        simp only [List.map_cons, List.filter_cons, sameKey_int]
        have c3 : (a.1 == x) = false := by simp; omega
        rw [c3]
        have c4 : (Lit.int .i64 x).before (.int .i64 a.1) = false := by simp [Lit.before]; omega
        simp only [Bool.not_false, if_true, DataW.insert, c4, ih, Bool.false_eq_true, if_false]
theorem put_mapG (f : α → DataW H) {m : List (Int × α)} (h : SrtG m) (x : Int) (v : α) : (mapG f m).put (.int .i64 x) (f v) = mapG f (insG x v m) := by
  show DataW.map _ = DataW.map _
  rw [insert_mapG f x v m h]
theorem mem_insG {x : Int} {v : α} {p : Int × α} : ∀ {m : List (Int × α)}, p ∈ insG x v m → p = (x, v) ∨ p ∈ m
  | [], h => by simp [insG] at h; exact Or.inl h
  | a :: r, h => by
    unfold insG at h
    split at h
    · simp at h ⊢; exact h
    · split at h
      · simp at h ⊢; rcases h with h | h
        · exact Or.inl h
        · exact Or.inr (Or.inr h)
      · simp at h ⊢
        rcases h with h | h
        · exact Or.inr (Or.inl h)
        · rcases mem_insG h with h | h
          · exact Or.inl h
          · exact Or.inr (Or.inr h)
theorem SrtG.ins {x : Int} {v : α} : ∀ {m : List (Int × α)}, SrtG m → SrtG (insG x v m)
  | [], _ => by simp [insG, SrtG]
  | a :: r, h => by
    obtain ⟨h1, h2⟩ := List.pairwise_cons.1 h
    unfold insG
    split
    · rename_i c; exact List.pairwise_cons.2 ⟨fun p hp => by rcases List.mem_cons.1 hp with rfl | hp; exact c; have := h1 p hp; simp; omega, h⟩
    · split
      · rename_i c; exact List.pairwise_cons.2 ⟨fun p hp => by have := h1 p hp; simp; omega, h2⟩
      · rename_i c1 c2
        refine List.pairwise_cons.2 ⟨fun p hp => ?_, SrtG.ins h2⟩
        rcases mem_insG hp with rfl | hp
        · simp; omega
        · exact h1 p hp
theorem SrtG.cut {m : List (Int × α)} (h : SrtG m) (x : Int) : SrtG (cutG m x) := h.filter _
theorem insG_len (x : Int) (v : α) : ∀ m : List (Int × α), (insG x v m).length ≤ m.length + 1
  | [] => by simp [insG]
  | a :: r => by
    unfold insG
    split
    · simp
    · split
      · simp
      · have := insG_len x v r; simp; omega
theorem lookG_mem {m : List (Int × α)} {x : Int} {v : α} (h : lookG m x = some v) : (x, v) ∈ m := by
  simp only [lookG, Option.map_eq_some_iff] at h
  obtain ⟨p, hp, rfl⟩ := h
  have h1 := List.find?_some hp
  simp at h1
  have h2 := List.mem_of_find?_eq_some hp
  rw [← h1]; exact h2
theorem lookG_of_mem {m : List (Int × α)} (h : SrtG m) {p : Int × α} (hp : p ∈ m) : lookG m p.1 = some p.2 := by
  induction m with
  | nil => simp at hp
  | cons a r ih =>
    obtain ⟨h1, h2⟩ := List.pairwise_cons.1 h
    rcases List.mem_cons.1 hp with rfl | hp'
    · simp [lookG]
    · have := h1 p hp'
      have e : (a.1 == p.1) = false := by simp; omega
      have := ih h2 hp'
      simp only [lookG, List.find?_cons, e] at this ⊢
      exact this
theorem SrtG.small : ∀ {m : List (Int × α)} {lo hi : Int}, SrtG m → (∀ x ∈ m, lo ≤ x.1 ∧ x.1 < hi) → lo ≤ hi → (m.length : Int) ≤ hi - lo
  | [], lo, hi, _, _, h => by simp; omega
  | a :: r, lo, hi, hs, hb, h => by
    obtain ⟨h1, h2⟩ := List.pairwise_cons.1 hs
    have ha := hb a (by simp)
    have := SrtG.small (lo := a.1 + 1) (hi := hi) h2 (fun x hx => ⟨by have := h1 x hx; omega, (hb x (by simp [hx])).2⟩) (by omega)
    simp; omega
/-- The elements changed. -/
def mapV (f : α → β) (m : List (Int × α)) : List (Int × β) := m.map fun p => (p.1, f p.2)
theorem mapV_len (f : α → β) (m : List (Int × α)) : (mapV f m).length = m.length := by simp [mapV]
theorem mapV_look (f : α → β) (m : List (Int × α)) (x : Int) : lookG (mapV f m) x = (lookG m x).map f := by
  induction m with
  | nil => rfl
  | cons a r ih =>
    simp only [lookG, mapV, List.map_cons, List.find?_cons] at ih ⊢
    cases h : (a.1 == x)
    · simpa using ih
    · simp
theorem mapV_ins (f : α → β) (x : Int) (v : α) : ∀ m : List (Int × α), mapV f (insG x v m) = insG x (f v) (mapV f m)
  | [] => rfl
  | a :: r => by
    unfold insG mapV
    simp only [List.map_cons]
    by_cases c1 : x < a.1
    · rw [if_pos c1, if_pos c1]; rfl
    · rw [if_neg c1, if_neg c1]
      by_cases c2 : x = a.1
      · rw [if_pos c2, if_pos c2]; rfl
      · rw [if_neg c2, if_neg c2]
        have := mapV_ins f x v r
        unfold mapV at this
        rw [List.map_cons, this]
theorem mapV_cut (f : α → β) (m : List (Int × α)) (x : Int) : mapV f (cutG m x) = cutG (mapV f m) x := by
  unfold mapV cutG
  rw [List.filter_map]; rfl
theorem mapV_srt {f : α → β} {m : List (Int × α)} (h : SrtG m) : SrtG (mapV f m) := by
  unfold SrtG mapV at *; rw [List.pairwise_map]; exact h
theorem lookG_ins {x y : Int} {v : α} {m : List (Int × α)} (h : SrtG m) : lookG (insG x v m) y = if y = x then some v else lookG m y := by
  induction m with
  | nil =>
    simp only [insG, lookG, List.find?_cons, List.find?_nil]
    by_cases e : y = x
    · simp [e]
    · have : (x == y) = false := by simp; omega
      simp [this, e]
  | cons a r ih =>
    obtain ⟨h1, h2⟩ := List.pairwise_cons.1 h
    have ih := ih h2
    unfold insG
    by_cases c1 : x < a.1
    · rw [if_pos c1]
      simp only [lookG, List.find?_cons]
      by_cases e : y = x
      · simp [e]
      · have : (x == y) = false := by simp; omega
        simp [this, e]
    · rw [if_neg c1]
      by_cases c2 : x = a.1
      · rw [if_pos c2]
        simp only [lookG, List.find?_cons]
        by_cases e : y = x
        · simp [e]
        · have e1 : (x == y) = false := by simp; omega
          have e2 : (a.1 == y) = false := by simp; omega
          simp [e1, e2, e]
      · rw [if_neg c2]
        simp only [lookG, List.find?_cons] at ih ⊢
        by_cases e : a.1 = y
        · have e1 : (a.1 == y) = true := by simp [e]
          have e2 : ¬ y = x := by omega
          simp [e1, e2]
        · have e1 : (a.1 == y) = false := by simp [e]
          rw [e1]; exact ih
theorem lookG_cut {x y : Int} (m : List (Int × α)) : lookG (cutG m x) y = if y = x then none else lookG m y := by
  induction m with
  | nil => simp [cutG, lookG]
  | cons a r ih =>
    simp only [cutG, lookG, List.filter_cons] at ih ⊢
    by_cases e : a.1 = x
    · have e1 : (a.1 != x) = false := by simp [e]
      rw [e1]
      simp only [Bool.false_eq_true, if_false]
      rw [ih]
      by_cases e2 : y = x
      · rw [if_pos e2, if_pos e2]
      · have e3 : (a.1 == y) = false := by simp; omega
        rw [if_neg e2, if_neg e2, List.find?_cons, e3]
    · have e1 : (a.1 != x) = true := by simp [e]
      rw [e1, if_pos rfl, List.find?_cons, List.find?_cons]
      by_cases e2 : a.1 = y
      · have e3 : (a.1 == y) = true := by simp [e2]
        have e4 : ¬ y = x := by omega
        simp [e3, e4]
      · have e3 : (a.1 == y) = false := by simp [e2]
        rw [e3]; exact ih
end
end Go.Proofs.YtgimdodbajhpoaaDoor
namespace Go.Proofs.YtgimdodbajhpoaaDoor
open Go.RowKit Go.Maps
set_option linter.unusedSimpArgs false
set_option linter.unusedVariables false

structure PS where
  cap : Int
  high : Int
  m : List (Int × Int)

namespace PS
def alloc (s : PS) (h : Int) : (Int × Int) × PS :=
  match s.m.find? (fun p => decide (p.2 ≤ h)) with
  | some p => ((p.1, 0), ⟨s.cap, s.high, cut s.m p.1⟩)
  | none => if s.high = s.cap then ((0, 2), s) else ((s.high, 0), ⟨s.cap, s.high + 1, s.m⟩)
def free (s : PS) (no gen : Int) : Int × PS :=
  if no < 2 ∨ s.high ≤ no then (1, s) else if (look s.m no).isSome then (8, s) else (0, ⟨s.cap, s.high, ins no gen s.m⟩)
structure Ok (s : PS) : Prop where
  cap : s.cap ≤ 2048
  low : 2 ≤ s.high
  high : s.high ≤ s.cap
  at_ : ∀ p ∈ s.m, 2 ≤ p.1 ∧ p.1 < s.high
  wf : ∀ p ∈ s.m, 0 ≤ p.2 ∧ p.2 < 2 ^ 64
  srt : Srt s.m
/-- No more freed pages than pages. -/
theorem Ok.small {s : PS} (h : s.Ok) : s.m.length ≤ 2048 := by
  have key : ∀ (m : List (Int × Int)) (lo hi : Int), Srt m → (∀ p ∈ m, lo ≤ p.1 ∧ p.1 < hi) → lo ≤ hi → (m.length : Int) ≤ hi - lo := by
    intro m
    induction m with
    | nil => intro lo hi _ _ h; simp; omega
    | cons a r ih =>
      intro lo hi hs hb _
      obtain ⟨h1, h2⟩ := List.pairwise_cons.1 hs
      have ha := hb a (by simp)
      have := ih (a.1 + 1) hi h2 (fun p hp => ⟨by have := h1 p hp; omega, (hb p (by simp [hp])).2⟩) (by omega)
      simp; omega
  have := key s.m 2 s.high h.srt h.at_ h.low
  have := h.high; have := h.cap
  omega
end PS

theorem wf_u64 {x : Int} (h0 : 0 ≤ x) (h : x < 2 ^ 64) : (Lit.int .u64 x).wf = true := by simp [Lit.wf, IntKind.min, IntKind.max, IntKind.signed, IntKind.bits]; omega
theorem wf_i64 {x : Int} (h0 : -9223372036854775808 ≤ x) (h : x ≤ 9223372036854775807) : (Lit.int .i64 x).wf = true := WalkArith.wf_i64 (by omega)

/-- Block sb is a pool whose map lies in block bm. -/
structure PoolAt (w : World) (sb bm : Nat) (s : PS) : Prop where
  at_ : w.heap[sb]? = some (.cells #[.int .i64 s.cap, .int .i64 s.high, .map (some bm)] 53 (0, 0))
  map : MapI Tryd.prog 3 33 .u64 w bm s.m
  ok : s.Ok

namespace PoolAt
variable {w w' : World} {sb bm : Nat} {s : PS}
theorem ne (h : PoolAt w sb bm s) : bm ≠ sb := h.map.ne_cells h.at_
theorem mod {S : List Nat} (h : PoolAt w sb bm s) (hm : Mod S w w') (h1 : sb ∉ S) (h2 : bm ∉ S) : PoolAt w' sb bm s := ⟨hm.at h.at_ h1, h.map.mod hm h2, h.ok⟩
end PoolAt

theorem law3 : Keyed Tryd.prog 3 := int_keyed Tryd.underlying3
theorem zero22 (w : World) : (zeroValue 33).run Tryd.prog w = .ok (.int .u64 0) w := by kernel_rfl


def FreeR (sb bm : Nat) (s : PS) (no gen : Int) (w : World) (v : Value) (w' : World) : Prop := v = .int .i64 (s.free no gen).1 ∧ PoolAt w' sb bm (s.free no gen).2 ∧ Mod [sb, bm] w w'
theorem free_any (sb bm : Nat) (s : PS) (no gen : Int) (w : World) (hr : PoolAt w sb bm s) (hg0 : 0 ≤ gen) (hg1 : gen < 2 ^ 64) (hn0 : -9223372036854775808 ≤ no) (hn1 : no ≤ 9223372036854775807) :
    Calls Tryd.prog 20 #[.pointer (some ⟨sb, 0, none⟩), .int .i64 no, .int .u64 gen] w (Ret (FreeR sb bm s no gen w)) := by
  have c1 : w.cell? ⟨sb, 1, none⟩ = some (.int .i64 s.high) := cell_of_at hr.at_ 1
  have c2 : w.cell? ⟨sb, 2, none⟩ = some (.map (some bm)) := cell_of_at hr.at_ 2
  have hown := hr.map.own
  have hkey := keyOf_int_mk (P := Tryd.prog) Tryd.underlying3 (wf_i64 hn0 hn1)
  have hsm := hr.ok.small
  have HR := Lib.hid hr
  clear hr
  by_cases c1 : no < 2
  · have HF : Hid (s.free no gen = (1, s)) := by unfold PS.free; rw [if_pos (Or.inl c1)]; exact rfl
    go_enter Tryd.func20, Tryd.ntmps20
    go_wp2
    go_ret
    exact .mk ⟨by rw [HF.out]; rfl, by rw [HF.out]; exact HR.out, Mod.refl _ _⟩
  · by_cases c2 : s.high ≤ no
    · have HF : Hid (s.free no gen = (1, s)) := by unfold PS.free; rw [if_pos (Or.inr c2)]; exact rfl
      go_enter Tryd.func20, Tryd.ntmps20
      go_wp2
      go_ret
      exact .mk ⟨by rw [HF.out]; rfl, by rw [HF.out]; exact HR.out, Mod.refl _ _⟩
    · have hh := has_dmap .u64 s.m no
      cases hl : (look s.m no).isSome
      all_goals
        rw [hl] at hh
        have HF : Hid (s.free no gen = if (look s.m no).isSome then (8, s) else (0, ⟨s.cap, s.high, ins no gen s.m⟩)) := by unfold PS.free; rw [if_neg (by omega)]; exact rfl
        have HL := Lib.hid hl
        have hex : Hid (∃ w', True) := ⟨w, trivial⟩
        clear hl
        go_enter Tryd.func20, Tryd.ntmps20
        go_wp2_with (first
          | (at_lookup; refine wpList_lookup_own_ok_int _ rfl _ _ 51 rfl 3 33 .u64 law3 Tryd.underlying51 Tryd.underlying33 (zero22 _) bm _ _ rfl hown _ _ rfl hkey ?_; intro c hat hwc; clear hat)
          | (at_mapUpdate; refine wpList_mapUpdate_in _ rfl _ _ _ 51 rfl 3 33 law3 Tryd.underlying51 _ bm _ _ rfl hown (by unfold maxLen; omega) _ _ _ rfl rfl hkey _ [] (plainElem_int Tryd.underlying33 (q := .u64) (a := gen) (wf_u64 hg0 hg1)) ?_; intro w1 hown1 hturn1; (have HO1 := Lib.hid hown1); (have HT1 := Lib.hid hturn1); clear hown1 hturn1)
          | go_in)
        go_ret
        rw [Hid] at HF HL
        rw [HL] at HF
        first
          | exact .mk ⟨by rw [HF]; rfl, by rw [HF]; exact HR.out, Mod.refl _ _⟩
          | exact .mk ⟨by rw [HF]; rfl, by
              rw [HF]
              have hr := HR.out
              have hO := HO1.out
              rw [put_dmap _ hr.map.srt] at hO
              have hO2 := ownsMap_tight hO
              rw [size_dmap] at hO2
              refine ⟨(Mod.of_grown HT1.out.grown).at hr.at_ (by simpa using hr.ne.symm), ⟨hO2, hr.map.srt.ins⟩, ⟨hr.ok.cap, hr.ok.low, hr.ok.high, fun p hp => ?_, fun p hp => ?_, hr.map.srt.ins⟩⟩
              · rcases mem_ins hp with rfl | hp
                · simp; omega
                · exact hr.ok.at_ p hp
              · rcases mem_ins hp with rfl | hp
                · exact ⟨hg0, hg1⟩
                · exact hr.ok.wf p hp, (Mod.of_grown HT1.out.grown).mono (by simp)⟩
end Go.Proofs.YtgimdodbajhpoaaDoor
