/- Nodes: whether a cell, a leaf, a branch may be; how long they are. -/
import Derived.Test.YtbogdjjeipdbaaaDoorNode
namespace Go.Proofs.YtbogdjjeipdbaaaDoor
open Go.RowKit Go.Maps
set_option linter.unusedSimpArgs false
set_option linter.unusedVariables false

structure LeafAt (w : World) (L : Nat) (xs : List Cv) : Prop where
  at_ : ∃ p n c, w.heap[L]? = some (.cells #[.slice p n c] 48 (0, 0)) ∧ CellsIn w p n c xs
theorem LeafAt.mod0 {w w' : World} {L : Nat} {xs : List Cv} (h : LeafAt w L xs) (hm : Mod [] w w') : LeafAt w' L xs := by
  obtain ⟨p, n, c, h1, h2⟩ := h
  exact ⟨p, n, c, hm.at h1 (by simp), h2.mod0 hm⟩
structure BrAt (w : World) (B : Nat) (ks : List Bv) (kids : List Int) : Prop where
  at_ : ∃ p n c q m d, w.heap[B]? = some (.cells #[.slice p n c, .slice q m d] 34 (0, 0)) ∧ KeysIn w p n c ks ∧ Sl w 1 q m d (kids.map (.int .i64))
theorem BrAt.mod0 {w w' : World} {B : Nat} {ks : List Bv} {kids : List Int} (h : BrAt w B ks kids) (hm : Mod [] w w') : BrAt w' B ks kids := by
  obtain ⟨p, n, c, q, m, d, h1, h2, h3⟩ := h
  exact ⟨p, n, c, q, m, d, hm.at h1 (by simp), h2.mod0 hm, h3.mod hm (by simp)⟩
def IntMd (x : Int) (w : World) (v : Value) (w' : World) : Prop := v = .int .i64 x ∧ Mod [] w w'
theorem sizeCells (W : World) : (sizeOf (Tryd.prog.elem 46)).run Tryd.prog W = .ok 4 W := by kernel_rfl
theorem sizeKids (W : World) : (sizeOf (Tryd.prog.elem 24)).run Tryd.prog W = .ok 1 W := by kernel_rfl
/-- The cells of a leaf, one by one. -/
theorem CellsIn.get {w : World} {p : Option Addr} {n c : Nat} {xs : List Cv} (h : CellsIn w p n c xs) {b off : Nat} (hc : ∀ j u, (ccells xs)[j]? = some u → w.cell? ⟨b, off + j, none⟩ = some u) (i : Nat) (hi : i < n) :
    ∃ kp kn kc kl ip im ic il sz hd, xs[i]? = some ⟨⟨kp, kn, kc, kl⟩, ⟨ip, im, ic, il⟩, sz, hd⟩ ∧ (xs.map Cv.pl)[i]? = some ⟨kl, il, sz, hd⟩ ∧ BytesIn w kp kn kc kl ∧ BytesIn w ip im ic il ∧
      w.cell? ⟨b, off + i * 4, none⟩ = some (.slice kp kn kc) ∧ w.cell? ⟨b, off + i * 4 + 1, none⟩ = some (.slice ip im ic) ∧ w.cell? ⟨b, off + i * 4 + 2, none⟩ = some (.int .i64 sz) ∧ w.cell? ⟨b, off + i * 4 + 3, none⟩ = some (.int .i64 hd) := by
  have hk : i < xs.length := by rw [h.len]; exact hi
  obtain ⟨h1, h2⟩ := h.io _ (List.getElem_mem hk)
  have g := fun j hj => ccells_at hk j hj
  refine ⟨_, _, _, _, _, _, _, _, _, _, List.getElem?_eq_getElem hk, by rw [List.getElem?_map, List.getElem?_eq_getElem hk]; rfl, h1, h2, ?_, ?_, ?_, ?_⟩
  · have := hc (i * 4 + 0) _ ((g 0 (by omega)).trans rfl); exact this
  · rw [Nat.add_assoc]; exact hc (i * 4 + 1) _ ((g 1 (by omega)).trans rfl)
  · rw [Nat.add_assoc]; exact hc (i * 4 + 2) _ ((g 2 (by omega)).trans rfl)
  · rw [Nat.add_assoc]; exact hc (i * 4 + 3) _ ((g 3 (by omega)).trans rfl)

set_option maxRecDepth 100000 in
set_option maxHeartbeats 2000000 in
theorem cellmay_any (kp : Option Addr) (kn kc : Nat) (kl : List Int) (ip : Option Addr) (im ic : Nat) (il : List Int) (sz hd : Int) (w : World) (hil : il.length = im) :
    Calls Tryd.prog 40 #[.agg #[.slice kp kn kc, .slice ip im ic, .int .i64 sz, .int .i64 hd]] w (Ret (BoolM (mayCl ⟨kl, il, sz, hd⟩) w)) := by
  have HD : Hid (mayCl ⟨kl, il, sz, hd⟩ = if sz = 0 ∧ hd = 0 then decide (im ≤ 200) else decide (200 < sz) && decide (sz ≤ 16384) && mayPgN hd && decide (im = 0)) := by unfold Hid mayCl; rw [hil]
  generalize mayCl ⟨kl, il, sz, hd⟩ = B at *
  have HM : Hid (Mod [] w (w.alloc (.cells #[.slice kp kn kc, .slice ip im ic, .int .i64 sz, .int .i64 hd] 53))) := Mod.of_alloc w _
  have c1 : (w.alloc (.cells #[.slice kp kn kc, .slice ip im ic, .int .i64 sz, .int .i64 hd] 53)).cell? ⟨w.heap.size, 1, none⟩ = some (.slice ip im ic) := cell_of_at (at_alloc w _) 1
  have c2 : (w.alloc (.cells #[.slice kp kn kc, .slice ip im ic, .int .i64 sz, .int .i64 hd] 53)).cell? ⟨w.heap.size, 2, none⟩ = some (.int .i64 sz) := cell_of_at (at_alloc w _) 2
  have c3 : (w.alloc (.cells #[.slice kp kn kc, .slice ip im ic, .int .i64 sz, .int .i64 hd] 53)).cell? ⟨w.heap.size, 3, none⟩ = some (.int .i64 hd) := cell_of_at (at_alloc w _) 3
  clear hil
  by_cases hp : sz = 0 ∧ hd = 0
  · have HD2 : Hid (B = decide (im ≤ 200)) := by rw [HD.out]; exact if_pos hp
    obtain ⟨rfl, rfl⟩ := hp
    go_enter Tryd.func40, Tryd.ntmps40
    go_wp2
    go_ret
    exact .mk ⟨by rw [HD2.out]; by_cases h : im ≤ 200 <;> simp [h] <;> omega, HM.out⟩
  · have HD2 : Hid (B = (decide (200 < sz) && decide (sz ≤ 16384) && mayPgN hd && decide (im = 0))) := by rw [HD.out]; exact if_neg hp
    have hcond : (sz == 0) = false ∨ (sz == 0) = true ∧ (hd == 0) = false := by
      by_cases h : sz = 0
      · right; simp [h]; intro h2; exact hp ⟨h, h2⟩
      · left; simpa using h
    clear hp HD
    by_cases h1 : 200 < sz
    · have hz : (sz == 0) = false := by simp; omega
      by_cases h2 : sz ≤ 16384
      · clear hcond
        go_enter Tryd.func40, Tryd.ntmps40
        go_wp2_with fail
        refine (maypgn_any hd _).mono ?_
        rintro _ w1 ⟨_, rfl, rfl, rfl⟩
        generalize mayPgN hd = P at *
        cases P with
        | false =>
          go_wp2
          go_ret
          exact .mk ⟨by rw [HD2.out]; simp, HM.out⟩
        | true =>
          go_wp2
          go_ret
          exact .mk ⟨by rw [HD2.out]; by_cases h : im = 0 <;> simp [h, h1, h2] <;> omega, HM.out⟩
      · clear hcond
        go_enter Tryd.func40, Tryd.ntmps40
        go_wp2
        go_ret
        exact .mk ⟨by rw [HD2.out]; simp; intros; omega, HM.out⟩
    · rcases hcond with hz | ⟨hz, hy⟩
      all_goals
        go_enter Tryd.func40, Tryd.ntmps40
        go_wp2
        go_ret
        exact .mk ⟨by rw [HD2.out]; simp; intros; omega, HM.out⟩

set_option maxRecDepth 100000 in
set_option maxHeartbeats 2000000 in
theorem leaflen_any (L : Nat) (xs : List Cv) (w : World) (h : LeafAt w L xs) (hb : leafLen (xs.map Cv.pl) ≤ 1000000000000000000) :
    Calls Tryd.prog 42 #[.pointer (some ⟨L, 0, none⟩)] w (Ret (IntMd (leafLen (xs.map Cv.pl)) w)) := by
  obtain ⟨p, n, c, hat, hx⟩ := h
  have c0 : w.cell? ⟨L, 0, none⟩ = some (.slice p n c) := cell_of_at hat 0
  have hcm := hx.sl.capm; have hle := hx.sl.le
  unfold maxLen at hcm
  obtain ⟨b, off, hp, hcs⟩ := hx.sl.at_
  have hidx := fun W => Sl.idx (P := Tryd.prog) (cap := c) Tryd.underlying46 sizeCells (fun h => (hp h).1) W .i64
  have HLT : Hid (0 < n → b < w.heap.size) := fun h => (hp h).2
  have HG := Lib.hid (fun i hi => hx.get hcs i hi)
  have HLN : Hid ((xs.map Cv.pl).length = n) := by unfold Hid; rw [List.length_map]; exact hx.len
  have HLL : Hid (leafLen (xs.map Cv.pl) = 3 + lsum ((xs.map Cv.pl).take n)) := by unfold Hid leafLen; rw [List.take_of_length_le (by rw [HLN.out]; omega)]
  have HLE := Lib.hid (lsum_take_le (xs.map Cv.pl))
  have hb2 : 3 + lsum (xs.map Cv.pl) ≤ 1000000000000000000 := hb
  have HST : Hid (∀ i c, (xs.map Cv.pl)[i]? = some c → lsum ((xs.map Cv.pl).take (i + 1)) = lsum ((xs.map Cv.pl).take i) + clLen c) := fun i c h => by
    obtain ⟨h1, h2⟩ := List.getElem?_eq_some_iff.1 h
    rw [lsum_take h1, h2]
  generalize xs.map Cv.pl = cs at *
  clear hat hx hp hcs hb
  go_enter Tryd.func42, Tryd.ntmps42
  go_wp2
  go_loopw [3, 11] (fun nv iv wr => ∃ i : Nat, i ≤ n ∧ iv = .int .i64 i ∧ nv = .int .i64 ((3 + lsum (cs.take i) : Nat) : Int) ∧ Mod [] w wr) (fun _ iv _ => n - (intOf iv).toNat)
  case atStart => exact ⟨0, by omega, rfl, rfl, Mod.refl _ _⟩
  case round =>
    obtain ⟨i, hi, rfl, rfl, hm⟩ := hrel
    have HM := Lib.hid hm
    clear hm
    by_cases hlt : i < n
    · obtain ⟨kp, kn, kc, kl, ip, im, ic, il, sz, hd, _, hcl, hk, hii, d0, d1, d2, d3⟩ := HG.out i hlt
      have hbl := HLT.out (by omega)
      rw [← HM.out.cell (a := ⟨b, _, none⟩) hbl (by simp)] at d0 d1 d2 d3
      have hkl := hk.len; have hil := hii.len
      have HS := HST.out i _ hcl
      have hbnd := HLE.out (i + 1)
      rw [HS] at hbnd
      simp only [clLen, hkl, hil] at HS hbnd
      have HS' := Lib.hid HS
      have HM2 : Hid (Mod [] w (wr.alloc (.cells #[.slice kp kn kc, .slice ip im ic, .int .i64 sz, .int .i64 hd] 53))) := HM.out.alloc
      generalize hV : lsum (cs.take i) = V at *
      clear hk hii hkl hil HS hcl hV
      by_cases hz : sz = 0
      · subst hz
        simp only [if_true] at HS' hbnd
        have hw1 : IntKind.i64.wrap (3 + (kn : Int)) = ((3 + kn : Nat) : Int) := by rw [IntWalk.i64_in _ (by omega)]; omega
        have hw2 : IntKind.i64.wrap (((3 + V : Nat) : Int) + ((3 + kn : Nat) : Int)) = ((3 + V + (3 + kn) : Nat) : Int) := by rw [IntWalk.i64_in _ (by omega)]; omega
        have hw3 : IntKind.i64.wrap (((3 + V + (3 + kn) : Nat) : Int) + (im : Int)) = ((3 + (V + (3 + kn + im)) : Nat) : Int) := by rw [IntWalk.i64_in _ (by omega)]; omega
        go_wp2
        go_roundw
        case rel => exact ⟨i + 1, by omega, by go_num, by rw [HS'.out]; exact congrArg (Value.int .i64) (by omega), HM2.out⟩
        case measure => simp [intOf]; omega
      · rw [if_neg hz] at HS' hbnd
        have hz' : (sz == 0) = false := by simpa using hz
        have hw1 : IntKind.i64.wrap (3 + (kn : Int)) = ((3 + kn : Nat) : Int) := by rw [IntWalk.i64_in _ (by omega)]; omega
        have hw2 : IntKind.i64.wrap (((3 + V : Nat) : Int) + ((3 + kn : Nat) : Int)) = ((3 + V + (3 + kn) : Nat) : Int) := by rw [IntWalk.i64_in _ (by omega)]; omega
        have hw3 : IntKind.i64.wrap (((3 + V + (3 + kn) : Nat) : Int) + 6) = ((3 + (V + (3 + kn + 6)) : Nat) : Int) := by rw [IntWalk.i64_in _ (by omega)]; omega
        clear hz
        go_wp2
        go_roundw
        case rel => exact ⟨i + 1, by omega, by go_num, by rw [HS'.out]; exact congrArg (Value.int .i64) (by omega), HM2.out⟩
        case measure => simp [intOf]; omega
    · obtain rfl : i = n := by omega
      go_wp2
      go_ret
      exact .mk ⟨by rw [HLL.out]; rfl, HM.out⟩
end Go.Proofs.YtbogdjjeipdbaaaDoor
