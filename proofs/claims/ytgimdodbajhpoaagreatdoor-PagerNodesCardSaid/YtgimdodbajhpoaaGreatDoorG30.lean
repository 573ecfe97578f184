/- A pager: Read. A pager: Set. -/
import Derived.Test.YtgimdodbajhpoaaGreatDoorG29
import Derived.Test.YtgimdodbajhpoaaGreatDoorG27
import Derived.Test.YtgimdodbajhpoaaGreatDoorG11
import Derived.Test.YtgimdodbajhpoaaGreatDoorG24
namespace Go.Proofs.YtgimdodbajhpoaaGreatDoor
open Go.RowKit Go.Maps
set_option linter.unusedSimpArgs false
set_option linter.unusedVariables false

/-- What a disk's page says. -/
def Ck.load (k : Ck) (no : Int) : List Int × Int := if k.there no = true ∧ okPage no (k.seen no) = true then ((k.seen no).take 1016, 0) else ([], 4)
def Pm.read (m : Pm) (k : Ck) (no : Int) : List Int × Int := match lookG m.f no with
  | some l => (pad 1016 l, 0)
  | none => k.load no
/-- Bytes of the call's own, and a code. -/
def ReadR (r : List Int × Int) (w : World) (v : Value) (w' : World) : Prop := ∃ p n c, v = .tuple #[.slice p n c, .int .i64 r.2] ∧ n = r.1.length ∧ BytesIn w' p n c r.1 ∧ Tl w' w.heap.size 1 p n c (bs r.1) ∧ Mod [] w w'
set_option maxRecDepth 100000 in
theorem load_any (D : Nat) (T : List Nat) (k : Ck) (no : Int) (w : World) (h : DiskAt w D T k) :
    Calls Tryz.prog 28 #[.pointer (some ⟨D, 0, none⟩), .int .i64 no] w (Ret (ReadR (k.load no) w)) := by
  have HRD := Lib.hid (dread_any D T k no w h)
  unfold DReadR at HRD
  have hfew : ∀ x : Int, k.there x = true → 0 ≤ x ∧ x ≤ 2147483647 := fun x hx => by
    obtain ⟨gs, ws, vs, vw, M, DM, S, hd⟩ := h
    have h1 := hd.few; have h2 := hd.len.1
    unfold Ck.there at hx
    simp only [Bool.and_eq_true, decide_eq_true_eq] at hx
    omega
  have HFW := Lib.hid hfew
  clear h hfew
  by_cases hth : k.there no = true
  · simp only [hth] at HRD
    go_enter Tryz.func28, Tryz.ntmps28
    go_wp2_with fail
    refine HRD.out.mono ?_
    rintro _ w1 ⟨_, rfl, m1, h1⟩
    rw [if_pos trivial] at h1
    obtain ⟨p, c, rfl, hb⟩ := h1
    have M1 := Lib.hid m1
    have HB := Lib.hid hb
    obtain ⟨x0, x1⟩ := HFW.out no hth
    clear m1 hb HRD HFW
    go_wp2_with fail
    refine (open_any no p c (k.seen no) w1 HB.out x0 x1).mono ?_
    rintro _ w2 ⟨_, rfl, h2⟩
    unfold OpenR at h2
    by_cases hok : okPage no (k.seen no) = true
    · rw [if_pos hok] at h2
      obtain ⟨p2, c2, rfl, o2, m2⟩ := h2
      have HV : Hid (k.load no = ((k.seen no).take 1016, 0)) := by unfold Hid Ck.load; rw [if_pos ⟨hth, hok⟩]
      have O2 := Lib.hid o2
      have M2 := Lib.hid (M1.out.same m2)
      have HSZ : Hid (w.heap.size ≤ w1.heap.size) := M1.out.size
      have HLN : Hid (1016 = ((k.seen no).take 1016).length) := by
        unfold Hid; rw [List.length_take, HB.out.len]; rfl
      clear o2 m2 hok hth
      go_wp2
      go_ret2
      refine .mk ⟨p2, 1016, c2, by rw [HV.out] <;> rfl, by rw [HV.out]; exact HLN.out, ?_, ?_, M2.out⟩
      · rw [HV.out]; exact ⟨(Sl.of_own O2.out (bs_one _)).1, fun x hx => HB.out.wf x (List.mem_of_mem_take hx)⟩
      · rw [HV.out]; exact (Tl.of_key O2.out).base_le HSZ.out
    · rw [if_neg hok] at h2
      obtain ⟨rfl, m2⟩ := h2
      have HV : Hid (k.load no = ([], 4)) := by unfold Hid Ck.load; rw [if_neg (fun h => hok h.2)]
      have M2 := Lib.hid (M1.out.same m2)
      clear m2 hok hth
      go_wp2
      go_ret2
      exact .mk ⟨none, 0, 0, by rw [HV.out] <;> rfl, by rw [HV.out] <;> rfl, by rw [HV.out]; exact ⟨Sl.nil _ _, by simp⟩, by rw [HV.out]; exact Tl.none' _ _ _, M2.out⟩
  · have HV : Hid (k.load no = ([], 4)) := by unfold Hid Ck.load; rw [if_neg (fun h => hth h.1)]
    simp only [hth] at HRD
    clear HFW
    go_enter Tryz.func28, Tryz.ntmps28
    go_wp2_with fail
    refine HRD.out.mono ?_
    rintro _ w1 ⟨_, rfl, m1, h1⟩
    simp only [Bool.false_eq_true, if_false] at h1
    subst h1
    have M1 := Lib.hid m1
    clear m1 HRD hth
    go_wp2
    go_ret2
    exact .mk ⟨none, 0, 0, by rw [HV.out] <;> rfl, by rw [HV.out] <;> rfl, by rw [HV.out]; exact ⟨Sl.nil _ _, by simp⟩, by rw [HV.out]; exact Tl.none' _ _ _, M1.out⟩

theorem pad_wf {n : Nat} {l : List Int} (h : ∀ x ∈ l, 0 ≤ x ∧ x < 256) : ∀ x ∈ pad n l, 0 ≤ x ∧ x < 256 := by
  intro x hx; unfold pad at hx
  rcases List.mem_append.1 hx with hx | hx
  · exact h x hx
  · have := List.eq_of_mem_replicate hx; omega
set_option maxRecDepth 100000 in
set_option maxHeartbeats 4000000 in
theorem pgrread_any (X : Nat) (T : List Nat) (D : Nat) (Td : List Nat) (m : Pm) (k : Ck) (no : Int) (w : World) (h : PgrAt w X T D m) (hd : DiskAt w D Td k) (h0 : -9223372036854775808 ≤ no ∧ no ≤ 9223372036854775807) :
    Calls Tryz.prog 18 #[.pointer (some ⟨X, 0, none⟩), .int .i64 no] w (Ret (ReadR (m.read k no) w)) := by
  obtain ⟨sb, bm, M, fv, h⟩ := h
  have c0 : w.cell? ⟨X, 0, none⟩ = some (.pointer (some ⟨D, 0, none⟩)) := cell_of_at h.at_ 0
  have c4 : w.cell? ⟨X, 4, none⟩ = some (.map (some M)) := cell_of_at h.at_ 4
  have hkey := keyOf_int_mk (P := Tryz.prog) Tryz.underlying3 (a := no) (WalkArith.wf_i64 (by omega))
  have HMAP := Lib.hid h.map
  have hhas := has_mapG heldF fv no
  have HAT := Lib.hid (atKey_mapG heldF fv no (.held (.slice none 0 0)))
  have HLD := fun W hm => Lib.hid (load_any D Td k no W (hd.mod (X := []) (w' := W) hm (by simp)))
  have HFL : Hid (lookG m.f no = (lookG fv no).map Fp.l) := by unfold Hid; rw [← h.fl, mapV_look]
  have H := Lib.hid h
  cases hl : lookG fv no with
  | some g =>
    rw [hl] at hhas HAT HFL
    have HHAS : Hid (Maps.has (mapG heldF fv) (.int .i64 no) = true) := hhas
    have HMEM := lookG_mem hl
    obtain ⟨pg1, pg2, pg3⟩ := h.pg _ HMEM
    have HPG : Hid (BytesIn w g.p g.n g.c g.l) := pg1
    have HNIL : Hid (g.p = none → g.n = 0 ∧ g.c = 0) := pg3
    have hgn : g.n ≤ 1016 := (h.small _ HMEM).1
    have HV : Hid (m.read k no = (pad 1016 g.l, 0)) := by unfold Hid Pm.read; rw [HFL.out]; rfl
    obtain ⟨i0, hi0, hz0, hz1, hz2⟩ := info_parts infoU8
    obtain ⟨kk, hk⟩ : ∃ kk, kk = 1016 - g.n := ⟨_, rfl⟩
    have hwk : IntKind.i64.wrap (1016 - (g.n : Int)) = (kk : Int) := by rw [IntWalk.i64_in _ (by omega)]; omega
    have hnk : Hid (g.n + kk = 1016) := by unfold Hid; omega
    have HPD : Hid (g.l ++ List.replicate kk 0 = pad 1016 g.l) := by unfold Hid pad; rw [hk, ← HPG.out.len]
    have HPL : Hid (1016 = (pad 1016 g.l).length) := by unfold Hid; rw [pad_len (by have := HPG.out.len; omega)]
    clear h hd h0 hhas hl HMEM pg1 pg2 pg3 hk HLD c0 HFL
    go_enter Tryz.func18, Tryz.ntmps18
    go_wp2_with (first
      | (at_lookup; (refine wpList_lookup_own_ok _ rfl _ _ 68 rfl 3 40 lawInt Tryz.underlying68 heldR (zeroSl _) (.held (.slice none 0 0)) [] rfl M _ _ rfl HMAP.out _ _ rfl hkey ?_); intro v ps hv; (rw [HHAS.out]); (rw [HAT.out] at hv); (obtain rfl := held_inv hv); clear hv; unfold Fp.val)
      | fail)
    refine (clone_any g.p g.n g.c g.l _ HPG.out.sl (by omega) HNIL.out).mono ?_
    rintro _ w2 ⟨_, rfl, p1, n1, c1, rfl, e1, o1, m1⟩
    have hn1 : n1 = g.n := by rw [e1, HPG.out.len]
    subst hn1
    have T1 := Lib.hid (Tl.of_key o1)
    have M1 := Lib.hid m1
    have hs1 := m1.size
    clear e1 o1 m1
    go_wp2_with (first
      | (at_builtin; (refine wpList_append_zeros_tl _ rfl _ _ _ _ rfl w.heap.size 5 i0 Tryz.underlying40 Tryz.underlying3 hi0 hz0 hz1 hz2 _ _ _ g.l rfl T1.out kk rfl 1016 hnk.out (by omega) hs1 ?_); intro p13 c13 w13 ht13 hm13 hnil13; (have T13 := Lib.hid ht13); (have M13 : Hid (Mod [] w w13) := T1.out.turned (w2 := w) (w0 := w) rfl hm13 M1.out); clear ht13 hm13 hnil13)
      | fail)
    go_ret2
    have T14 := T13.out
    rw [HPD.out] at T14
    exact .mk ⟨p13, 1016, c13, by rw [HV.out] <;> rfl, by rw [HV.out]; exact HPL.out, by rw [HV.out]; exact ⟨T14.sl, pad_wf HPG.out.wf⟩, by rw [HV.out]; exact T14, M13.out⟩
  | none =>
    rw [hl] at hhas HFL
    have HHAS : Hid (Maps.has (mapG heldF fv) (.int .i64 no) = false) := hhas
    have HV : Hid (m.read k no = k.load no) := by unfold Hid Pm.read; rw [HFL.out]; rfl
    clear h hd h0 hhas hl HFL
    go_enter Tryz.func18, Tryz.ntmps18
    go_wp2_with (first
      | (at_lookup; (refine wpList_lookup_own_ok _ rfl _ _ 68 rfl 3 40 lawInt Tryz.underlying68 heldR (zeroSl _) (.held (.slice none 0 0)) [] rfl M _ _ rfl HMAP.out _ _ rfl hkey ?_); intro v ps hv; (rw [HHAS.out]); clear hv)
      | fail)
    refine (HLD _ (Mod.refl _ _)).out.mono ?_
    rintro _ w2 ⟨_, rfl, p2, n2, c2, rfl, e2, b2, t2, m2⟩
    have E2 := Lib.hid e2
    have B2 := Lib.hid b2
    have T2 := Lib.hid t2
    have M2 := Lib.hid m2
    clear e2 b2 t2 m2 HLD
    go_wp2
    go_ret2
    exact .mk ⟨p2, n2, c2, by rw [HV.out] <;> rfl, by rw [HV.out]; exact E2.out, by rw [HV.out]; exact B2.out, by rw [HV.out]; exact T2.out, M2.out⟩
end Go.Proofs.YtgimdodbajhpoaaGreatDoor
namespace Go.Proofs.YtgimdodbajhpoaaGreatDoor
open Go.RowKit Go.Maps
set_option linter.unusedSimpArgs false
set_option linter.unusedVariables false

def Pm.set (m : Pm) (no : Int) (l : List Int) : Int × Pm := if (lookG m.f no).isSome = true ∧ l.length ≤ 1016 then (0, ⟨m.s, m.gen, m.hor, insG no l m.f⟩) else (1, m)
end Go.Proofs.YtgimdodbajhpoaaGreatDoor
