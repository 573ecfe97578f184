/- Flush: each new page is framed and written, in the order of the pages' numbers. -/
import Derived.Test.YtgimdodbajhpoaaPagerDrop
import Derived.Test.YtgimdodbajhpoaaPagerRead
import Derived.Test.YtgimdodbajhpoaaDiskWrite
namespace Go.Proofs.Ytgimdodbajhpoaa
open Go.RowKit Go.Maps
set_option linter.unusedSimpArgs false
set_option linter.unusedVariables false

/-- The disk behind a Flush. -/
def Ck.pushes (k : Ck) (f : List (Int × List Int)) : Ck := ⟨k.safe, k.wait ++ f.map (fun p => (p.1, fr p.1 p.2)), k.left, k.down⟩
theorem Ck.write_push {k : Ck} {no : Int} {l : List Int} (ht : k.there no = true) (hl : l.length = 1024) (hd : k.down = false) (h0 : k.left = 0) : k.write no l = (0, k.push no l) := by
  unfold Ck.write
  rw [if_neg (by simp [ht, hl]), if_neg (by simp [hd])]
  have e : (k.push no l).tick = (k.push no l, false) := by
    unfold Ck.tick
    rw [if_pos (show (k.push no l).left = 0 from h0)]
  rw [e]; simp
theorem Ck.pushes_zero (k : Ck) : k.pushes [] = k := by unfold Ck.pushes; simp
theorem Ck.pushes_step {k : Ck} {f : List (Int × List Int)} {j : Nat} {x : Int × List Int} (h : f[j]? = some x) : (k.pushes (f.take j)).push x.1 (fr x.1 x.2) = k.pushes (f.take (j + 1)) := by
  unfold Ck.pushes Ck.push
  rw [List.take_add_one, h]
  simp
theorem own_from {w : World} {base : Nat} {e : TypeId} {size : Nat} {P : Option Addr} {n C n' : Nat} {xs : List Value} (h : w.ownsRow base e size (.slice P n C) n' xs) : ∀ a, P = some a → base ≤ a.block := by
  intro a ha
  rcases h.2 with ⟨e, _⟩ | ⟨g, cap, cur, e, hg, _⟩
  · rw [ha] at e; cases e
  · rw [ha] at e; injection e with e; injection e with e; subst e; exact hg
theorem sizeInts (W : World) : (sizeOf (Try.prog.elem 40)).run Try.prog W = .ok 1 W := by kernel_rfl
theorem DiskAt.lt {w : World} {D : Nat} {T : List Nat} {k : Ck} (h : DiskAt w D T k) : ∀ b ∈ T, b < w.heap.size := by
  obtain ⟨gs, ws, vs, vw, M, DM, S, hh⟩ := h; exact hh.lt
set_option maxRecDepth 100000 in
set_option maxHeartbeats 4000000 in
theorem flush_any (X : Nat) (T : List Nat) (D : Nat) (Td : List Nat) (m : Pm) (k : Ck) (w : World) (h : PgrAt w X T D m) (hd : DiskAt w D Td k) (hdis : ∀ b ∈ Td, b ∉ T) (hdn : k.down = false) (hlf : k.left = 0)
    (hin : ∀ p ∈ m.f, k.there p.1 = true) (hfew : k.wait.length + m.f.length ≤ 1000000) :
    Calls Try.prog 14 #[.pointer (some ⟨X, 0, none⟩)] w (Ret (DkR D Td (k.pushes m.f) (.int .i64 0) w)) := by
  have HFR := Lib.hid (pgrfresh_any X T D m w h)
  obtain ⟨sb, bm, M, fv, h⟩ := h
  have c0 : w.cell? ⟨X, 0, none⟩ = some (.pointer (some ⟨D, 0, none⟩)) := cell_of_at h.at_ 0
  have c4 : w.cell? ⟨X, 4, none⟩ = some (.map (some M)) := cell_of_at h.at_ 4
  have hXT : X ∈ T := h.sub X (by simp)
  have hXlt : X < w.heap.size := h.lt X hXT
  have hXd : X ∉ Td := fun hb => hdis _ hb hXT
  have hMd : M ∉ Td := fun hb => hdis _ hb (h.sub M (by simp))
  have HDL := Lib.hid hd.lt
  have HD0 := Lib.hid hd
  have H := Lib.hid h
  have HDIS := Lib.hid hdis
  have HDN := Lib.hid hdn
  have HLF := Lib.hid hlf
  have HIN := Lib.hid hin
  have HFEW := Lib.hid hfew
  clear h hd hdis hdn hlf hin hfew hXT
  go_enter Try.func14, Try.ntmps14
  go_wp2_with fail
  refine HFR.out.mono ?_
  rintro _ w1 ⟨_, rfl, P, n, C, rfl, e1, o1, m1⟩
  have hnm : n = m.f.length := by rw [e1, List.length_map]
  have HN := Lib.hid hnm
  have hS := (Sl.of_own o1 (ints_one _)).1
  obtain ⟨b, off, hp, hcs⟩ := hS.at_
  have hidx := fun W => Sl.idx (P := Try.prog) (cap := C) Try.underlying40 sizeInts (fun h => (hp h).1) W .i64
  have HLT : Hid (0 < n → b < w1.heap.size ∧ b ∉ Td) := fun h => ⟨(hp h).2, fun hb => by
    have h1 := own_from o1 _ (hp h).1
    have h2 := HDL.out b hb
    simp only at h1
    omega⟩
  have HCE : Hid (∀ (i : Nat) (x : Int × List Int), m.f[i]? = some x → w1.cell? ⟨b, off + i, none⟩ = some (.int .i64 x.1)) := fun i x hx => by
    refine hcs i _ ?_
    simp [ints, hx]
  have HD1 := Lib.hid (HD0.out.mod m1 (by simp))
  have M1 := Lib.hid m1
  have hn2 : n ≤ 2048 := by rw [hnm, ← H.out.len]; exact H.out.few
  clear HFR HD0 e1 hnm o1 hS hp hcs m1
  go_wp2
  go_loopw [11] (fun jv wx => ∃ (j : Nat) (W0 : World) (Tj : List Nat), j ≤ n ∧ W0 = wx ∧ jv = .int .i64 j ∧ DiskAt W0 D Tj (k.pushes (m.f.take j)) ∧ (∀ b ∈ Tj, b ∈ Td ∨ w1.heap.size ≤ b) ∧ Mod Td w1 W0) (fun jv _ => n - (intOf jv).toNat)
  case atStart => exact ⟨0, _, Td, by omega, rfl, rfl, by rw [List.take_zero, Ck.pushes_zero]; exact HD1.out, fun b hb => Or.inl hb, Mod.refl _ _⟩
  case round =>
    obtain ⟨j, W0, Tj, hj, rfl, rfl, hdj, htj, hmj⟩ := hrel
    have HDJ := Lib.hid hdj
    have HTJ := Lib.hid htj
    have HMJ := Lib.hid hmj
    clear hdj htj hmj
    by_cases hlt : j < n
    · obtain ⟨x, hx⟩ : ∃ x, m.f[j]? = some x := ⟨_, List.getElem?_eq_getElem (by have := HN.out; omega)⟩
      have HX := Lib.hid hx
      have hcell := HCE.out j x hx
      have hb1 := (HLT.out (by omega)).1
      have hb2 := (HLT.out (by omega)).2
      rw [← HMJ.out.cell (a := ⟨b, _, none⟩) hb1 hb2] at hcell
      have HMW : Hid (Mod Td w W0) := (M1.out.mono (by simp)).same HMJ.out
      have hc0 := c0
      rw [← HMW.out.cell (a := ⟨X, _, none⟩) hXlt hXd] at hc0
      have hc4 := c4
      rw [← HMW.out.cell (a := ⟨X, _, none⟩) hXlt hXd] at hc4
      have hji := fun W => hidx W j hlt
      simp only [Nat.mul_one] at hji
      have hwi : IntKind.i64.wrap ((j : Int) + 1) = (j : Int) + 1 := IntWalk.i64_in _ (by omega)
      have hxm : x ∈ m.f := List.mem_of_getElem? hx
      obtain ⟨y, hy, hyx⟩ : ∃ y ∈ fv, (y.1, y.2.l) = x := by
        rw [← H.out.fl] at hxm
        obtain ⟨y, hy, e⟩ := List.mem_map.1 hxm
        exact ⟨y, hy, e⟩
      obtain ⟨no, g⟩ := y
      obtain ⟨no', l⟩ := x
      simp only [Prod.mk.injEq] at hyx
      obtain ⟨rfl, hgl⟩ := hyx
      have HG := Lib.hid hgl
      obtain ⟨pg1, pg2, pg3⟩ := H.out.pg _ hy
      obtain ⟨hgn, hno0, hno1⟩ := H.out.small _ hy
      simp only at pg1 pg2 hgn hno0 hno1
      have HPG : Hid (BytesIn W0 g.p g.n g.c l) := by
        rw [← hgl]
        exact ⟨pg1.sl.mod HMW.out (fun a ha _ hb => HDIS.out _ hb (pg2 a ha).1), pg1.wf⟩
      have hlk : (Instr.lookup 55 (.map (some M)) (.int .i64 no) false).run Try.prog W0 = .ok (.slice g.p g.n g.c) W0 := by
        have hkey := keyOf_int_mk (P := Try.prog) Try.underlying3 (a := no) (WalkArith.wf_i64 (by omega))
        obtain ⟨v, ps, hrun, hv⟩ := (ownsMap_mod H.out.map HMW.out hMd).lookup lawInt Try.underlying55 (zeroSl W0) (heldR_mk _) hkey
        rw [atKey_mapG, lookG_of_mem H.out.srt hy] at hv
        have := held_inv hv
        rw [hrun, this]; rfl
      have HIX := HIN.out _ hxm
      have HIT : Hid ((k.pushes (m.f.take j)).there no = true) := HIX
      have hfj : Hid ((k.pushes (m.f.take j)).wait.length ≤ 1000000) := by
        have := HFEW.out
        unfold Hid Ck.pushes
        simp only [List.length_append, List.length_map, List.length_take]
        omega
      clear hx hxm hgl hy pg1 pg2 pg3 HIX
      go_wp2_with fail
      refine (frame_any no g.p g.n g.c l _ HPG.out (by omega) (by omega) hgn).mono ?_
      rintro _ w3 ⟨_, rfl, fb, rfl, hfb, fat, m3⟩
      have HLN := Lib.hid (fr_len (no := no) (l := l) (by have := HPG.out.len; omega))
      have HPGE : Hid (BytesIn w3 (some ⟨fb, 0, none⟩) 1024 1024 (fr no l)) := by
        refine ⟨⟨by rw [bs_len, HLN.out], Nat.le_refl _, by simp [maxLen], bs_one _, fb, 0, fun _ => ⟨rfl, lt_of_at fat⟩, fun j u hj => ?_⟩, fr_wf HPG.out.wf⟩
        rw [cell_of_at fat, Nat.zero_add, List.getElem?_toArray]; exact hj
      have M3 := Lib.hid m3
      have hc0' := hc0
      rw [← M3.out.cell (a := ⟨X, _, none⟩) (Nat.lt_of_lt_of_le hXlt HMW.out.size) (by simp)] at hc0'
      clear hfb fat m3
      go_wp2_with fail
      refine (dwrite_any D Tj (k.pushes (m.f.take j)) no _ _ _ (fr no l) _ (HDJ.out.mod M3.out (by simp)) HPGE.out (by simp) hfj.out).mono ?_
      rintro _ w4 ⟨_, rfl, rfl, T4, hd4, m4, ht4⟩
      rw [Ck.write_push HIT.out HLN.out HDN.out HLF.out] at hd4 ⊢
      rw [Ck.pushes_step (x := (no, l)) HX.out] at hd4
      have HD4 := Lib.hid hd4
      have M4 := Lib.hid m4
      have HT4 := Lib.hid ht4
      clear hd4 m4 ht4
      simp only
      go_wp2
      go_roundw
      case rel =>
        refine ⟨j + 1, _, T4, by omega, rfl, by go_num, HD4.out, fun b hb => ?_, ?_⟩
        · rcases HT4.out b hb with h | h
          · exact HTJ.out b h
          · exact Or.inr (Nat.le_trans HMJ.out.size (Nat.le_trans M3.out.size h))
        · exact (HMJ.out.same (M3.out.mono (by simp))).trans M4.out HTJ.out
      case measure => simp [intOf]; omega
    · obtain rfl : j = n := by omega
      have HFIN : Hid (m.f.take j = m.f) := by unfold Hid; rw [HN.out, List.take_length]
      have HMW : Hid (Mod Td w W0) := (M1.out.mono (by simp)).same HMJ.out
      go_wp2
      go_ret
      exact .mk ⟨rfl, Tj, by rw [HFIN.out] at HDJ; exact HDJ.out, HMW.out, fun b hb => (HTJ.out b hb).elim Or.inl (fun h => Or.inr (Nat.le_trans M1.out.size h))⟩
end Go.Proofs.Ytgimdodbajhpoaa
