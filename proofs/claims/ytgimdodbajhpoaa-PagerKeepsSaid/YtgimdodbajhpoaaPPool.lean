/- The pool of freed pages: what each of its functions does, as a pure function of its list of pages and versions. -/
import Derived.Test.YtgimdodbajhpoaaSl
import Derived.Test.YtgimdodbajhpoaaRows
namespace Go.Proofs.Ytgimdodbajhpoaa
open Go.RowKit Go.Maps
set_option linter.unusedSimpArgs false
set_option linter.unusedVariables false

structure PS where
  cap : Int
  high : Int
  m : List (Int × Int)

namespace PS
def alloc (s : PS) (h : Int) : (Int × Int) × PS :=
  match s.m.find? (fun p => decide (p.2 ≤ h)) with
  | some p => ((p.1, 0), ⟨s.cap, s.high, cut s.m p.1⟩)
  | none => if s.high = s.cap then ((0, 2), s) else ((s.high, 0), ⟨s.cap, s.high + 1, s.m⟩)
def free (s : PS) (no gen : Int) : Int × PS :=
  if no < 2 ∨ s.high ≤ no then (1, s) else if (look s.m no).isSome then (8, s) else (0, ⟨s.cap, s.high, ins no gen s.m⟩)
structure Ok (s : PS) : Prop where
  cap : s.cap ≤ 2048
  low : 2 ≤ s.high
  high : s.high ≤ s.cap
  at_ : ∀ p ∈ s.m, 2 ≤ p.1 ∧ p.1 < s.high
  wf : ∀ p ∈ s.m, 0 ≤ p.2 ∧ p.2 < 2 ^ 64
  srt : Srt s.m
/-- No more freed pages than pages. -/
theorem Ok.small {s : PS} (h : s.Ok) : s.m.length ≤ 2048 := by
  have key : ∀ (m : List (Int × Int)) (lo hi : Int), Srt m → (∀ p ∈ m, lo ≤ p.1 ∧ p.1 < hi) → lo ≤ hi → (m.length : Int) ≤ hi - lo := by
    intro m
    induction m with
    | nil => intro lo hi _ _ h; simp; omega
    | cons a r ih =>
      intro lo hi hs hb _
      obtain ⟨h1, h2⟩ := List.pairwise_cons.1 hs
      have ha := hb a (by simp)
      have := ih (a.1 + 1) hi h2 (fun p hp => ⟨by have := h1 p hp; omega, (hb p (by simp [hp])).2⟩) (by omega)
      simp; omega
  have := key s.m 2 s.high h.srt h.at_ h.low
  have := h.high; have := h.cap
  omega
end PS

theorem wf_u64 {x : Int} (h0 : 0 ≤ x) (h : x < 2 ^ 64) : (Lit.int .u64 x).wf = true := by simp [Lit.wf, IntKind.min, IntKind.max, IntKind.signed, IntKind.bits]; omega
theorem wf_i64 {x : Int} (h0 : -9223372036854775808 ≤ x) (h : x ≤ 9223372036854775807) : (Lit.int .i64 x).wf = true := WalkArith.wf_i64 (by omega)

/-- Block sb is a pool whose map lies in block bm. -/
structure PoolAt (w : World) (sb bm : Nat) (s : PS) : Prop where
  at_ : w.heap[sb]? = some (.cells #[.int .i64 s.cap, .int .i64 s.high, .map (some bm)] 51 (0, 0))
  map : MapI Try.prog 3 33 .u64 w bm s.m
  ok : s.Ok

namespace PoolAt
variable {w w' : World} {sb bm : Nat} {s : PS}
theorem ne (h : PoolAt w sb bm s) : bm ≠ sb := h.map.ne_cells h.at_
theorem mod {S : List Nat} (h : PoolAt w sb bm s) (hm : Mod S w w') (h1 : sb ∉ S) (h2 : bm ∉ S) : PoolAt w' sb bm s := ⟨hm.at h.at_ h1, h.map.mod hm h2, h.ok⟩
end PoolAt

theorem law3 : Keyed Try.prog 3 := int_keyed Try.underlying3
theorem zero22 (w : World) : (zeroValue 33).run Try.prog w = .ok (.int .u64 0) w := by kernel_rfl


def FreeR (sb bm : Nat) (s : PS) (no gen : Int) (w : World) (v : Value) (w' : World) : Prop := v = .int .i64 (s.free no gen).1 ∧ PoolAt w' sb bm (s.free no gen).2 ∧ Mod [sb, bm] w w'
theorem free_any (sb bm : Nat) (s : PS) (no gen : Int) (w : World) (hr : PoolAt w sb bm s) (hg0 : 0 ≤ gen) (hg1 : gen < 2 ^ 64) (hn0 : -9223372036854775808 ≤ no) (hn1 : no ≤ 9223372036854775807) :
    Calls Try.prog 20 #[.pointer (some ⟨sb, 0, none⟩), .int .i64 no, .int .u64 gen] w (Ret (FreeR sb bm s no gen w)) := by
  have c1 : w.cell? ⟨sb, 1, none⟩ = some (.int .i64 s.high) := cell_of_at hr.at_ 1
  have c2 : w.cell? ⟨sb, 2, none⟩ = some (.map (some bm)) := cell_of_at hr.at_ 2
  have hown := hr.map.own
  have hkey := keyOf_int_mk (P := Try.prog) Try.underlying3 (wf_i64 hn0 hn1)
  have hsm := hr.ok.small
  have HR := Lib.hid hr
  clear hr
  by_cases c1 : no < 2
  · have HF : Hid (s.free no gen = (1, s)) := by unfold PS.free; rw [if_pos (Or.inl c1)]; exact rfl
    go_enter Try.func20, Try.ntmps20
    go_wp2
    go_ret
    exact .mk ⟨by rw [HF.out]; rfl, by rw [HF.out]; exact HR.out, Mod.refl _ _⟩
  · by_cases c2 : s.high ≤ no
    · have HF : Hid (s.free no gen = (1, s)) := by unfold PS.free; rw [if_pos (Or.inr c2)]; exact rfl
      go_enter Try.func20, Try.ntmps20
      go_wp2
      go_ret
      exact .mk ⟨by rw [HF.out]; rfl, by rw [HF.out]; exact HR.out, Mod.refl _ _⟩
    · have hh := has_dmap .u64 s.m no
      cases hl : (look s.m no).isSome
      all_goals
        rw [hl] at hh
        have HF : Hid (s.free no gen = if (look s.m no).isSome then (8, s) else (0, ⟨s.cap, s.high, ins no gen s.m⟩)) := by unfold PS.free; rw [if_neg (by omega)]; exact rfl
        have HL := Lib.hid hl
        have hex : Hid (∃ w', True) := ⟨w, trivial⟩
        clear hl
        go_enter Try.func20, Try.ntmps20
        go_wp2_with (first
          | (at_lookup; refine wpList_lookup_own_ok_int _ rfl _ _ 49 rfl 3 33 .u64 law3 Try.underlying49 Try.underlying33 (zero22 _) bm _ _ rfl hown _ _ rfl hkey ?_; intro c hat hwc; clear hat)
          | (at_mapUpdate; refine wpList_mapUpdate_in _ rfl _ _ _ 49 rfl 3 33 law3 Try.underlying49 _ bm _ _ rfl hown (by unfold maxLen; omega) _ _ _ rfl rfl hkey _ [] (plainElem_int Try.underlying33 (q := .u64) (a := gen) (wf_u64 hg0 hg1)) ?_; intro w1 hown1 hturn1; (have HO1 := Lib.hid hown1); (have HT1 := Lib.hid hturn1); clear hown1 hturn1)
          | go_in)
        go_ret
        rw [Hid] at HF HL
        rw [HL] at HF
        first
          | exact .mk ⟨by rw [HF]; rfl, by rw [HF]; exact HR.out, Mod.refl _ _⟩
          | exact .mk ⟨by rw [HF]; rfl, by
              rw [HF]
              have hr := HR.out
              have hO := HO1.out
              rw [put_dmap _ hr.map.srt] at hO
              have hO2 := ownsMap_tight hO
              rw [size_dmap] at hO2
              refine ⟨(Mod.of_grown HT1.out.grown).at hr.at_ (by simpa using hr.ne.symm), ⟨hO2, hr.map.srt.ins⟩, ⟨hr.ok.cap, hr.ok.low, hr.ok.high, fun p hp => ?_, fun p hp => ?_, hr.map.srt.ins⟩⟩
              · rcases mem_ins hp with rfl | hp
                · simp; omega
                · exact hr.ok.at_ p hp
              · rcases mem_ins hp with rfl | hp
                · exact ⟨hg0, hg1⟩
                · exact hr.ok.wf p hp, (Mod.of_grown HT1.out.grown).mono (by simp)⟩
end Go.Proofs.Ytgimdodbajhpoaa
