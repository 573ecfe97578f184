/- A page of a disk is read; all that waits is made safe; the power goes. -/
import Derived.Test.YtgimdodbajhpoaaDiskWrite
namespace Go.Proofs.Ytgimdodbajhpoaa
open Go.RowKit Go.Maps
set_option linter.unusedSimpArgs false
set_option linter.unusedVariables false

theorem sizeSl (W : World) : (sizeOf (Try.prog.elem 22)).run Try.prog W = .ok 1 W := by kernel_rfl
theorem zeroSl (w : World) : (zeroValue 23).run Try.prog w = .ok (.slice none 0 0) w := by kernel_rfl
theorem held_inv {v u : Value} {ps : List MemPlace} (h : heldR v = some (.held u, ps)) : v = u := by unfold heldR at h; injection h with h; injection h with h _; injection h
def DReadR (k : Ck) (no : Int) (w : World) (v : Value) (w' : World) : Prop := Mod [] w w' ∧
  if k.there no = true then ∃ p c, v = .tuple #[.slice p 1024 c, .int .i64 0] ∧ BytesIn w' p 1024 c (k.seen no) else v = .tuple #[.slice none 0 0, .int .i64 1]
theorem DkIn.safe_at {w : World} {D : Nat} {T : List Nat} {k : Ck} {gs : List Pg} {ws : List (Int × Pg)} {vs vw : Value} {M : Nat} {DM : DataW Value} {S : List Nat} (h : DkIn w D T k gs ws vs vw M DM S) {i : Nat} (hi : i < gs.length) :
    (gs[i]).l = k.safe.getD i [] := by
  have h1 := h.gsl
  have : k.safe[i]? = some (gs[i]).l := by rw [← h1, List.getElem?_map, List.getElem?_eq_getElem hi]; rfl
  simp [List.getD, this]
theorem DkIn.last_at {w : World} {D : Nat} {T : List Nat} {k : Ck} {gs : List Pg} {ws : List (Int × Pg)} {vs vw : Value} {M : Nat} {DM : DataW Value} {S : List Nat} (h : DkIn w D T k gs ws vs vw M DM S) (no : Int) :
    Ck.lastOf k.wait no = (Ck.lastOf ws no).map Pg.l := by rw [← h.wsl, Ck.lastOf_map]

set_option maxRecDepth 100000 in
set_option maxHeartbeats 4000000 in
theorem dread_any (D : Nat) (T : List Nat) (k : Ck) (no : Int) (w : World) (h : DiskAt w D T k) :
    Calls Try.prog 33 #[.pointer (some ⟨D, 0, none⟩), .int .i64 no] w (Ret (DReadR k no w)) := by
  have HTH := Lib.hid (thereD_any D T k no w h)
  cases hth : k.there no with
  | false =>
    rw [hth] at HTH
    have HT := Lib.hid hth
    clear h hth
    go_enter Try.func33, Try.ntmps33
    go_wp2_with fail
    refine HTH.out.mono ?_
    rintro _ w1 ⟨_, rfl, rfl, rfl⟩
    go_wp2
    go_ret2
    exact .mk ⟨Mod.refl _ _, by rw [if_neg (by rw [HT.out]; simp)]; rfl⟩
  | true =>
    rw [hth] at HTH
    obtain ⟨gs, ws, vs, vw, M, DM, S, hd⟩ := h
    obtain ⟨pS, cS, rfl, -⟩ := own_shape hd.safe
    have hnr : 0 ≤ no ∧ no < gs.length := by
      have hth := hth
      unfold Ck.there at hth; simp at hth; rw [hd.len.1]; exact hth
    have HT := Lib.hid hth
    have hfw := hd.few
    have c0 : w.cell? ⟨D, 0, none⟩ = some (.slice pS gs.length cS) := cell_of_at hd.at_ 0
    have c2 : w.cell? ⟨D, 2, none⟩ = some (.map (some M)) := cell_of_at hd.at_ 2
    have hkey := keyOf_int_mk (P := Try.prog) Try.underlying3 (a := no) (WalkArith.wf_i64 (by omega))
    have HMAP := Lib.hid hd.map
    have hhas := hd.has no
    have hlast := hd.last_at no
    cases hl : Ck.lastOf ws no with
    | some g =>
      rw [hl] at hhas hlast
      have hat := hd.atk no g hl (.held (.slice none 0 0))
      have HPG : Hid (BytesIn w g.p 1024 g.c g.l) := ((hd.pw _ (Ck.lastOf_mem hl)).1).io
      have HHAS : Hid (Maps.has DM (.int .i64 no) = true) := hhas
      have HAT := Lib.hid hat
      have HSEEN : Hid (k.seen no = g.l) := by unfold Hid Ck.seen; rw [hlast]; rfl
      have hnil : Hid (g.p = none → 1024 = 0 ∧ g.c = 0) := fun he => by obtain ⟨b, o, hp, _⟩ := HPG.out.sl.addr (by omega); rw [he] at hp; cases hp
      clear hd hth hhas hlast hl hat c0
      go_enter Try.func33, Try.ntmps33
      go_wp2_with fail
      refine HTH.out.mono ?_
      rintro _ w1 ⟨_, rfl, rfl, rfl⟩
      go_wp2_with (first
        | (at_lookup; (refine wpList_lookup_own_ok _ rfl _ _ 55 rfl 3 23 lawInt Try.underlying55 heldR (zeroSl _) (.held (.slice none 0 0)) [] rfl M _ _ rfl HMAP.out _ _ rfl hkey ?_); intro v ps hv; (rw [HHAS.out]); (rw [HAT.out] at hv); (obtain rfl := held_inv hv); clear hv; unfold Pg.val)
        | fail)
      refine (clone_any g.p 1024 g.c g.l _ HPG.out.sl (by omega) hnil.out).mono ?_
      rintro _ w2 ⟨_, rfl, p1, n1, c1', rfl, e1, o1, m1⟩
      obtain rfl : n1 = 1024 := by rw [e1, HPG.out.len]
      have B1 := Lib.hid (own_page o1 (by omega) HPG.out.wf).1
      have M1 := Lib.hid m1
      clear e1 o1 m1
      go_wp2
      go_ret2
      exact .mk ⟨M1.out, by rw [if_pos HT.out, HSEEN.out]; exact ⟨_, _, rfl, B1.out⟩⟩
    | none =>
      rw [hl] at hhas hlast
      have HHAS : Hid (Maps.has DM (.int .i64 no) = false) := hhas
      obtain ⟨i, rfl⟩ : ∃ i : Nat, no = i := ⟨no.toNat, by omega⟩
      have hi : i < gs.length := by omega
      obtain ⟨g, hgdef⟩ : ∃ g, g = gs[i] := ⟨_, rfl⟩
      have HPG : Hid (BytesIn w g.p 1024 g.c g.l) := by rw [hgdef]; exact (hd.pg _ (List.getElem_mem hi)).io
      have HSEEN : Hid (k.seen i = g.l) := by unfold Hid Ck.seen; rw [hlast, hgdef, hd.safe_at hi]; rfl
      have hnil : Hid (g.p = none → 1024 = 0 ∧ g.c = 0) := fun he => by obtain ⟨b, o, hp, _⟩ := HPG.out.sl.addr (by omega); rw [he] at hp; cases hp
      have hs := (Sl.of_own hd.safe (pgs_one gs)).1
      obtain ⟨b, off, hp, _, hc⟩ := hs.addr (by omega)
      have hidx := fun W => Sl.idx (P := Try.prog) (cap := cS) Try.underlying22 (sizeSl) (fun h : 0 < gs.length => hp) W .i64 i hi
      have hcell : w.cell? ⟨b, off + i, none⟩ = some (.slice g.p 1024 g.c) := hc i _ (by rw [List.getElem?_map, List.getElem?_eq_getElem hi, hgdef]; rfl)
      rw [Nat.mul_one] at hidx
      clear hd hth hhas hlast hl hs hc hgdef
      go_enter Try.func33, Try.ntmps33
      go_wp2_with fail
      refine HTH.out.mono ?_
      rintro _ w1 ⟨_, rfl, rfl, rfl⟩
      go_wp2_with (first
        | (at_lookup; (refine wpList_lookup_own_ok _ rfl _ _ 55 rfl 3 23 lawInt Try.underlying55 heldR (zeroSl _) (.held (.slice none 0 0)) [] rfl M _ _ rfl HMAP.out _ _ rfl hkey ?_); intro v ps hv; (rw [HHAS.out]); clear hv)
        | fail)
      refine (clone_any g.p 1024 g.c g.l _ HPG.out.sl (by omega) hnil.out).mono ?_
      rintro _ w2 ⟨_, rfl, p1, n1, c1', rfl, e1, o1, m1⟩
      obtain rfl : n1 = 1024 := by rw [e1, HPG.out.len]
      have B1 := Lib.hid (own_page o1 (by omega) HPG.out.wf).1
      have M1 := Lib.hid m1
      clear e1 o1 m1
      go_wp2
      go_ret2
      exact .mk ⟨M1.out, by rw [if_pos HT.out, HSEEN.out]; exact ⟨_, _, rfl, B1.out⟩⟩
end Go.Proofs.Ytgimdodbajhpoaa
