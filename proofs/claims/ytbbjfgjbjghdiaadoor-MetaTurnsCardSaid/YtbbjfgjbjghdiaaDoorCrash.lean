/- The power goes, and comes again. -/
import Derived.Test.YtbbjfgjbjghdiaaDoorTorn
namespace Go.Proofs.YtbbjfgjbjghdiaaDoor
open Go.RowKit Go.Maps
set_option linter.unusedSimpArgs false
set_option linter.unusedVariables false

namespace Ck
def wat (k : Ck) (i : Nat) : Int × List Int := k.wait.getD i (0, [])
def crashTo (k : Ck) (keep : List Bool) (torn : Int) : Nat → List (List Int)
  | 0 => k.safe
  | i + 1 => if keep.getD i false = true then (crashTo k keep torn i).set (k.wat i).1.toNat (if (i : Int) = torn then tornP (k.wat i).2 else (k.wat i).2) else crashTo k keep torn i
def crash (k : Ck) (keep : List Bool) (torn : Int) : Ck := ⟨k.crashTo keep torn k.wait.length, [], 0, false⟩
theorem crashTo_skip {k : Ck} {keep : List Bool} {torn : Int} {i : Nat} (h : keep.getD i false = false) : k.crashTo keep torn (i + 1) = k.crashTo keep torn i := by
  simp only [crashTo]; rw [if_neg (by rw [h]; simp)]
theorem crashTo_keep {k : Ck} {keep : List Bool} {torn : Int} {i : Nat} (h : keep.getD i false = true) : k.crashTo keep torn (i + 1) = (k.crashTo keep torn i).set (k.wat i).1.toNat (if (i : Int) = torn then tornP (k.wat i).2 else (k.wat i).2) := by
  simp only [crashTo]; rw [if_pos h]
end Ck

theorem DkIn.store {w w' : World} {D : Nat} {T : List Nat} {k : Ck} {gs : List Pg} {ws : List (Int × Pg)} {vs vw : Value} {M : Nat} {DM : DataW Value} {S : List Nat} (h : DkIn w D T k gs ws vs vw M DM S) {g : Pg} {j : Nat}
    (hm : Mod vs.ownBlock.toList w w') (hrow : w'.ownsRow 0 25 1 vs gs.length ((gs.set j g).map Pg.val)) (hg : PgIn w' T S g) : DkIn w' D T ⟨k.safe.set j g.l, k.wait, k.left, k.down⟩ (gs.set j g) ws vs vw M DM S := by
  have hS := h.hS
  have hXS : ∀ b ∈ vs.ownBlock.toList, b ∈ S := fun b hb => by rw [hS]; simp only [List.mem_append]; exact Or.inl (Or.inr hb)
  have hs := fun b (hb : b ∈ vs.ownBlock.toList) => h.block_safe b (by simpa using hb)
  have hpg : ∀ g, PgIn w T S g → PgIn w' T S g := fun g hg => hg.turn h.lt hm (fun b hb => Or.inl (hXS b hb)) (fun b hb => hb) (fun b hb => Or.inl hb)
  refine ⟨hm.at h.at_ (fun hb => (hs D hb).1 rfl), by rw [List.length_set]; exact hrow, ownsRow_mod h.wait hm (fun b hb hx => (hs b hx).2.2 hb), ownsMap_mod h.map hm (fun hb => (hs M hb).2.1 rfl), h.has, h.atk, ?_, h.wsl, ?_, ?_, hS, h.sub, fun b hb => Nat.lt_of_lt_of_le (h.lt b hb) hm.size, by rw [List.length_set]; exact h.few, h.left0, h.left1⟩
  · rw [List.map_set, h.gsl]
  · intro g' hg'
    rcases List.mem_or_eq_of_mem_set hg' with h1 | h1
    · exact hpg _ (h.pg _ h1)
    · rw [h1]; exact hg
  · intro x hx; rw [List.length_set]; exact ⟨hpg _ (h.pw x hx).1, (h.pw x hx).2⟩
theorem DkIn.widen {w : World} {D : Nat} {T T' : List Nat} {k : Ck} {gs : List Pg} {ws : List (Int × Pg)} {vs vw : Value} {M : Nat} {DM : DataW Value} {S : List Nat} (h : DkIn w D T k gs ws vs vw M DM S)
    (h1 : ∀ b ∈ T, b ∈ T') (h2 : ∀ b ∈ T', b < w.heap.size) : DkIn w D T' k gs ws vs vw M DM S :=
  ⟨h.at_, h.safe, h.wait, h.map, h.has, h.atk, h.gsl, h.wsl, fun g hg => ⟨(h.pg g hg).io, fun a ha => ⟨h1 _ ((h.pg g hg).own a ha).1, ((h.pg g hg).own a ha).2⟩⟩, fun x hx => ⟨⟨(h.pw x hx).1.io, fun a ha => ⟨h1 _ ((h.pw x hx).1.own a ha).1, ((h.pw x hx).1.own a ha).2⟩⟩, (h.pw x hx).2⟩, h.hS, fun b hb => h1 b (h.sub b hb), h2, h.few, h.left0, h.left1⟩
theorem wcells_at {ws : List (Int × Pg)} : ∀ {i : Nat} (hi : i < ws.length), (wcells ws)[i * 2]? = some (.int .i64 (ws[i]).1) ∧ (wcells ws)[i * 2 + 1]? = some (ws[i]).2.val := by
  induction ws with
  | nil => intro i hi; simp at hi
  | cons a r ih =>
    intro i hi
    have e : wcells (a :: r) = .int .i64 a.1 :: a.2.val :: wcells r := rfl
    rw [e]
    cases i with
    | zero => exact ⟨rfl, rfl⟩
    | succ i =>
      rw [show (i + 1) * 2 = i * 2 + 1 + 1 from by omega]
      have := ih (i := i) (by simpa using hi)
      simpa using this
theorem DkIn.wait_at {w : World} {D : Nat} {T : List Nat} {k : Ck} {gs : List Pg} {ws : List (Int × Pg)} {vs vw : Value} {M : Nat} {DM : DataW Value} {S : List Nat} (h : DkIn w D T k gs ws vs vw M DM S) {i : Nat} (hi : i < ws.length) :
    k.wat i = ((ws[i]).1, (ws[i]).2.l) := by
  have h1 := h.wsl
  have : k.wait[i]? = some ((ws[i]).1, (ws[i]).2.l) := by rw [← h1, List.getElem?_map, List.getElem?_eq_getElem hi]; rfl
  simp [Ck.wat, List.getD, this]
theorem sizeWr (W : World) : (sizeOf (Tryd.prog.elem 67)).run Tryd.prog W = .ok 2 W := by kernel_rfl
theorem sizeBool (W : World) : (sizeOf (Tryd.prog.elem 45)).run Tryd.prog W = .ok 1 W := by kernel_rfl

set_option maxRecDepth 100000 in
set_option maxHeartbeats 8000000 in
theorem crash_any (D : Nat) (T : List Nat) (k : Ck) (pk : Option Addr) (nk ck : Nat) (keep : List Bool) (torn : Int) (w : World) (h : DiskAt w D T k) (hk : Sl w 1 pk nk ck (keep.map .bool)) (hkT : ∀ a, pk = some a → 0 < nk → a.block ∉ T) (hfew : k.wait.length ≤ 1000000) :
    Calls Tryd.prog 25 #[.pointer (some ⟨D, 0, none⟩), .slice pk nk ck, .int .i64 torn] w (EndR0 fun w' => ∃ T', DiskAt w' D T' (k.crash keep torn) ∧ Mod T w w' ∧ ∀ b ∈ T', b ∈ T ∨ w.heap.size ≤ b) := by
  obtain ⟨gs0, ws, vs, vw, M, DM, S, hd⟩ := h
  have hkl : keep.length = nk := by have := hk.len; simpa using this
  obtain ⟨pS, cS, rfl, -⟩ := own_shape hd.safe
  obtain ⟨pW, cW, rfl, -⟩ := own_shape hd.wait
  have c1 : w.cell? ⟨D, 1, none⟩ = some (.slice pW ws.length cW) := cell_of_at hd.at_ 1
  have hDlt := lt_of_at hd.at_
  have hDT : D ∈ T := hd.sub D (by rw [hd.hS]; simp)
  have hwl : ws.length ≤ 1000000 := by rw [hd.len.2]; exact hfew
  have hKE := Lib.hid (show (⟨k.crashTo keep torn ws.length, k.wait, k.left, k.down⟩ : Ck) = ⟨(k.crash keep torn).safe, k.wait, k.left, k.down⟩ from by simp only [Ck.crash, hd.len.2])
  have HD := Lib.hid hd
  have HK := Lib.hid hk
  have HKT := Lib.hid hkT
  have HTL := Lib.hid hd.lt
  have HKL := Lib.hid hkl
  have HCR := Lib.hid (show k.crash keep torn = ⟨(k.crash keep torn).safe, [], 0, false⟩ from rfl)
  obtain ⟨n0, hn0⟩ : ∃ n0, n0 = gs0.length := ⟨_, rfl⟩
  rw [← hn0] at HD
  have hfw : n0 ≤ 2048 := by rw [hn0]; exact hd.few
  have HN0 := Lib.hid hn0
  have HNR : Hid (∀ x ∈ ws, 0 ≤ x.1 ∧ x.1 < n0) := fun x hx => by rw [hn0]; exact (hd.pw x hx).2
  clear hd hk hkT hkl hn0
  go_enter Tryd.func25, Tryd.ntmps25
  go_wp2
  go_loopw [13] (fun iv wr => ∃ (i : Nat) (gs : List Pg) (T' : List Nat), i ≤ ws.length ∧ iv = .int .i64 i ∧ gs.length = n0 ∧ DkIn wr D T' ⟨k.crashTo keep torn i, k.wait, k.left, k.down⟩ gs ws (.slice pS n0 cS) (.slice pW ws.length cW) M DM S ∧ Mod T w wr ∧ (∀ b ∈ T', b ∈ T ∨ w.heap.size ≤ b)) (fun iv _ => ws.length - (intOf iv).toNat)
  case atStart => exact ⟨0, gs0, T, by omega, rfl, HN0.out.symm, HD.out, Mod.refl _ _, fun b hb => Or.inl hb⟩
  case round =>
    obtain ⟨i, gs, T', hi, rfl, hgl, hdr, hmd, hT'⟩ := hrel
    have HDR := Lib.hid hdr
    have HMD := Lib.hid hmd
    have HT' := Lib.hid hT'
    by_cases hlt : i < ws.length
    · have hrow := hdr.wait
      have HNO := HNR.out _ (List.getElem_mem hlt)
      obtain ⟨BW, rfl⟩ : ∃ B, pW = some ⟨B, 0, none⟩ := by
        rcases hrow.2 with ⟨e, h0⟩ | ⟨g2, cap2, cur2, e, _⟩
        · omega
        · cases e; exact ⟨g2, rfl⟩
      obtain ⟨BS, rfl⟩ : ∃ B, pS = some ⟨B, 0, none⟩ := by
        rcases hdr.safe.2 with ⟨e, h0⟩ | ⟨g2, cap2, cur2, e, _⟩
        · omega
        · cases e; exact ⟨g2, rfl⟩
      have hslw := (Sl.of_own hrow (wcells_one ws)).1
      obtain ⟨b', off', hp', hWlt, hcw⟩ := hslw.addr (by omega)
      cases hp'
      have hidw := fun W => Sl.idx (P := Tryd.prog) (m := ws.length) (cap := cW) Tryd.underlying67 sizeWr (fun h : 0 < ws.length => rfl) W .i64 i hlt (p := some ⟨BW, 0, none⟩)
      rw [Nat.zero_add] at hidw
      obtain ⟨hw0, hw1⟩ := wcells_at hlt
      have d0 : wr.cell? ⟨BW, i * 2, none⟩ = some (.int .i64 (ws[i]).1) := by have := hcw _ _ hw0; rwa [Nat.zero_add] at this
      have d1 : wr.cell? ⟨BW, i * 2 + 1, none⟩ = some (.slice (ws[i]).2.p 1024 (ws[i]).2.c) := by have := hcw _ _ hw1; rwa [Nat.zero_add] at this
      have HWAT : Hid (k.wat i = ((ws[i]).1, (ws[i]).2.l)) := HDR.out.wait_at hlt
      have HPW := Lib.hid (hdr.pw _ (List.getElem_mem hlt)).1
      obtain ⟨no, g, hx⟩ : ∃ no g, ws[i] = (no, g) := ⟨_, _, rfl⟩
      have HMEM : Hid ((no, g) ∈ ws) := by have := List.getElem_mem hlt; rw [hx] at this; exact this
      rw [hx] at d0 d1 HWAT HPW HNO
      simp only at d0 d1 HWAT HPW HNO
      obtain ⟨j, rfl⟩ : ∃ j : Nat, no = j := ⟨no.toNat, by omega⟩
      have hj : j < n0 := by omega
      have hwr : IntKind.i64.wrap ((i : Int) + 1) = (i : Int) + 1 := IntWalk.i64_in _ (by omega)
      clear hrow hslw hcw hw0 hw1 hx hdr
      by_cases hkn : i < nk
      · obtain ⟨bk, ok, rfl, hkb, hck⟩ := HK.out.addr (by omega)
        have hidk := fun W => Sl.idx (P := Tryd.prog) (m := nk) (cap := ck) Tryd.underlying45 sizeBool (fun h : 0 < nk => rfl) W .i64 i hkn (p := some ⟨bk, ok, none⟩)
        rw [Nat.mul_one] at hidk
        have hkT := HKT.out _ rfl (by omega)
        have hkb2 : bk < wr.heap.size := Nat.lt_of_lt_of_le hkb HMD.out.size
        have e0 : wr.cell? ⟨bk, ok + i, none⟩ = some (.bool (keep.getD i false)) := by
          rw [HMD.out.cell (a := ⟨bk, ok + i, none⟩) hkb hkT]
          exact hck i _ (by rw [List.getElem?_map, List.getElem?_eq_getElem (by rw [HKL.out]; exact hkn), getD_at (by rw [HKL.out]; exact hkn)]; rfl)
        clear hck
        cases hkp : keep.getD i false with
        | false =>
          rw [hkp] at e0
          have HST := Lib.hid (Ck.crashTo_skip (k := k) (torn := torn) hkp)
          go_wp2
          go_roundw
          case rel => exact ⟨i + 1, gs, T', by omega, by go_num, hgl, by rw [HST.out]; exact HDR.out.mod (Mod.of_alloc wr _) (by simp), HMD.out.alloc, HT'.out⟩
          case measure => simp [intOf]; omega
        | true =>
          rw [hkp] at e0
          have HST := Lib.hid (Ck.crashTo_keep (k := k) (torn := torn) hkp)
          have z0 : wr.cell? ⟨D, 0, none⟩ = some (.slice (some ⟨BS, 0, none⟩) n0 cS) := cell_of_at HDR.out.at_ 0
          have hD2 : D < wr.heap.size := lt_of_at HDR.out.at_
          have hrow := HDR.out.safe
          rw [hgl] at hrow
          have hsls := (Sl.of_own hrow (pgs_one gs)).1
          obtain ⟨b', off', hp', hSlt, hcs⟩ := hsls.addr (by omega)
          cases hp'
          have hids := fun W => Sl.idx (P := Tryd.prog) (m := n0) (cap := cS) Tryd.underlying66 sizeSl (fun h : 0 < n0 => rfl) W .i64 j hj (p := some ⟨BS, 0, none⟩)
          rw [Nat.mul_one, Nat.zero_add] at hids
          have y0 : wr.cell? ⟨BS, j, none⟩ = some (gs[j]'(by omega)).val := by
            have := hcs j _ (show (gs.map Pg.val)[j]? = some (gs[j]'(by omega)).val by rw [List.getElem?_map, List.getElem?_eq_getElem (by omega)]; rfl)
            rwa [Nat.zero_add] at this
          have y1 : wr.frozen? ⟨BS, j, none⟩ = false := by
            rcases hrow.2 with ⟨e, h0⟩ | ⟨g2, cap2, cur2, e, _, hat3, _⟩
            · cases e
            · cases e; exact free_of_at hat3 j
          have hgc : (gs[j]'(by omega)).val.oneCell' = true := rfl
          unfold Pg.val at y0
          clear hrow hsls hcs
          go_wp2
          go_region
          have hrow := HDR.out.safe
          rw [hgl] at hrow
          have hrow4 := (hrow.stored j g.val).1
          rw [← List.map_set] at hrow4
          have hBST : BS ∈ T := HD.out.sub BS (by rw [HD.out.hS]; simp [Value.ownBlock])
          have hmS : Mod (Value.slice (some ⟨BS, 0, none⟩) n0 cS).ownBlock.toList wr (wr.setCell ⟨BS, j, none⟩ g.val) := (Mod.of_setCell wr BS j g.val).mono (by simp [Value.ownBlock])
          have hd4 := HDR.out.store (g := g) (j := j) hmS (by rw [hgl]; exact hrow4) (HPW.out.turn HDR.out.lt hmS (fun b hb => Or.inl (by rw [HDR.out.hS]; simp only [List.mem_append]; exact Or.inl (Or.inr hb))) (fun b hb => hb) (fun b hb => Or.inl hb))
          unfold Pg.val at hd4 hmS
          have hM4 : Mod T w (((wr.setCell ⟨BS, j, none⟩ (.slice g.p 1024 g.c)).alloc (.cells #[.int .i64 j, .slice g.p 1024 g.c] 82)).drew) := (((HMD.out.setCell (Or.inl hBST)).alloc).drew)
          have hd5 := hd4.mod (Mod.of_alloc (wr.setCell ⟨BS, j, none⟩ (.slice g.p 1024 g.c)) (.cells #[.int .i64 j, .slice g.p 1024 g.c] 82) |>.drew) (by simp)
          have hat5 : (((wr.setCell ⟨BS, j, none⟩ (.slice g.p 1024 g.c)).alloc (.cells #[.int .i64 j, .slice g.p 1024 g.c] 82)).drew).heap[wr.heap.size]? = some (.cells #[.int .i64 j, .slice g.p 1024 g.c] 82 (0, 0)) := by
            rw [show (((wr.setCell ⟨BS, j, none⟩ (.slice g.p 1024 g.c)).alloc (.cells #[.int .i64 j, .slice g.p 1024 g.c] 82)).drew).heap = ((wr.setCell ⟨BS, j, none⟩ (.slice g.p 1024 g.c)).alloc (.cells #[.int .i64 j, .slice g.p 1024 g.c] 82)).heap from rfl]
            exact at_alloc' _ _ (by simp [World.setCell])
          have hsz5 : wr.heap.size ≤ (((wr.setCell ⟨BS, j, none⟩ (.slice g.p 1024 g.c)).alloc (.cells #[.int .i64 j, .slice g.p 1024 g.c] 82)).drew).heap.size := by have := lt_of_at hat5; omega
          have HD5 := Lib.hid hd5
          have HM5 := Lib.hid hM4
          have HA5 := Lib.hid hat5
          clear hrow hrow4 hmS hd4 hd5 hM4 hat5 z0 y0 y1 d0 d1 e0 hgc hidk hidw
          generalize (((wr.setCell ⟨BS, j, none⟩ (.slice g.p 1024 g.c)).alloc (.cells #[.int .i64 j, .slice g.p 1024 g.c] 82)).drew) = w5 at *
          by_cases hti : (i : Int) = torn
          · have hti' : ((i : Int) == torn) = true := by simpa using hti
            have HSAFE : Hid (k.crashTo keep torn (i + 1) = (k.crashTo keep torn i).set j (tornP g.l)) := by rw [HST.out, HWAT.out, if_pos hti]; rfl
            clear hti
            have z0 : w5.cell? ⟨D, 0, none⟩ = some (.slice (some ⟨BS, 0, none⟩) n0 cS) := cell_of_at HD5.out.at_ 0
            have a0 : w5.cell? ⟨wr.heap.size, 0, none⟩ = some (.int .i64 j) := cell_of_at HA5.out 0
            have a1 : w5.cell? ⟨wr.heap.size, 1, none⟩ = some (.slice g.p 1024 g.c) := cell_of_at HA5.out 1
            have MD : Hid (Mod [] w5 w5.drew) := Mod.of_drew w5
            have HPG := Lib.hid (HD5.out.pw _ HMEM.out).1.io
            have hrow := HD5.out.safe
            rw [show (gs.set j g).length = n0 from by rw [List.length_set]; exact hgl] at hrow
            have hsls := (Sl.of_own hrow (pgs_one _)).1
            obtain ⟨b', off', hp', hSlt5, hcs⟩ := hsls.addr (by omega)
            cases hp'
            have y0 : w5.cell? ⟨BS, j, none⟩ = some g.val := by
              have := hcs j _ (show ((gs.set j g).map Pg.val)[j]? = some g.val by rw [List.getElem?_map, List.getElem?_set_self (by omega)]; rfl)
              rwa [Nat.zero_add] at this
            have y1 : w5.frozen? ⟨BS, j, none⟩ = false := by
              rcases hrow.2 with ⟨e, h0⟩ | ⟨g2, cap2, cur2, e, _, hat3, _⟩
              · cases e
              · cases e; exact free_of_at hat3 j
            unfold Pg.val at y0
            have hBSD : BS ≠ D := (HD.out.block_safe BS (by simp [Value.ownBlock])).1
            have hBSA : BS ≠ wr.heap.size := by omega
            clear hrow hsls hcs
            go_wp2
            go_region_held3 (fun w' => w'.cell? ⟨D, 0, none⟩ = some (.slice (some ⟨BS, 0, none⟩) n0 cS) ∧ w'.cell? ⟨wr.heap.size, 0, none⟩ = some (.int .i64 j) ∧ w'.cell? ⟨wr.heap.size, 1, none⟩ = some (.slice g.p 1024 g.c))
              (first
                | go_keep
                | exact ⟨cell_of_at (MD.out.at HD5.out.at_ (by simp)) 0, cell_of_at (MD.out.at HA5.out (by simp)) 0, cell_of_at (MD.out.at HA5.out (by simp)) 1⟩
                | exact ⟨(World.cell?_setCell_other _ _ _ _ (by simpa using fun e => absurd e.symm hBSD)).trans (cell_of_at (MD.out.at HD5.out.at_ (by simp)) 0), (World.cell?_setCell_other _ _ _ _ (by simpa using fun e => absurd e.symm hBSA)).trans (cell_of_at (MD.out.at HA5.out (by simp)) 0), (World.cell?_setCell_other _ _ _ _ (by simpa using fun e => absurd e.symm hBSA)).trans (cell_of_at (MD.out.at HA5.out (by simp)) 1)⟩
                | fail)
              (first
                | (go_at_call 49; refine (torn_any _ _ _ _ ⟨HPG.out.sl.mod MD.out (by simp), HPG.out.wf⟩).mono ?_; rintro _ w6 ⟨_, rfl, p6, n6, c6, rfl, e6, o6, m6⟩; (replace MD : Hid (Mod [] w5 w6) := MD.out.same m6); (obtain rfl : n6 = 1024 := by rw [e6, tornP_len, HPG.out.len]); (have y2 := (MD.out.cell (a := ⟨BS, j, none⟩) hSlt5 (by simp)).trans y0); (have y3 := (MD.out.frozen (a := ⟨BS, j, none⟩) hSlt5 (by simp)).trans y1); (have O6 := Lib.hid o6); clear m6 e6 o6)
                | fail)
            obtain ⟨B6, rfl, hB6, hB6l⟩ : ∃ B, p6 = some ⟨B, 0, none⟩ ∧ w5.heap.size ≤ B ∧ B < w6.heap.size := by
              rcases O6.out.2 with ⟨e, h0⟩ | ⟨g2, cap, cur, e, hb, hat, _⟩
              · omega
              · cases e; exact ⟨g2, rfl, hb, lt_of_at hat⟩
            have hin : BytesIn w6 (some ⟨B6, 0, none⟩) 1024 c6 (tornP g.l) := ⟨(Sl.of_own O6.out (bs_one _)).1, tornP_wf HPG.out.wf⟩
            obtain ⟨g6, hg6⟩ : ∃ g6 : Pg, g6 = ⟨some ⟨B6, 0, none⟩, c6, tornP g.l⟩ := ⟨_, rfl⟩
            have hd6 : DkIn w6 D (T' ++ [B6]) _ _ _ _ _ _ _ _ := (HD5.out.mod MD.out (by simp)).widen (T' := T' ++ [B6]) (fun b hb => by simp [hb]) (fun b hb => by
              rcases List.mem_append.1 hb with h1 | h1
              · exact Nat.lt_of_lt_of_le (HD5.out.lt b h1) MD.out.size
              · simp at h1; omega)
            have hS6 : B6 ∉ S := fun h1 => by have := HD5.out.lt _ (HD5.out.sub _ h1); omega
            have hrow := hd6.safe
            rw [show (gs.set j g).length = n0 from by rw [List.length_set]; exact hgl] at hrow
            have hrow7 := (hrow.stored j g6.val).1
            rw [← List.map_set] at hrow7
            have hmS : Mod (Value.slice (some ⟨BS, 0, none⟩) n0 cS).ownBlock.toList w6 (w6.setCell ⟨BS, j, none⟩ g6.val) := (Mod.of_setCell w6 BS j g6.val).mono (by simp [Value.ownBlock])
            have hpg6 : PgIn w6 (T' ++ [B6]) S g6 := by
              rw [hg6]
              exact ⟨hin, fun a ha => by cases ha; exact ⟨by simp, hS6⟩⟩
            have hd7 := hd6.store (g := g6) (j := j) hmS (by rw [show (gs.set j g).length = n0 from by rw [List.length_set]; exact hgl]; exact hrow7) (hpg6.turn hd6.lt hmS (fun b hb => Or.inl (by rw [hd6.hS]; simp only [List.mem_append]; exact Or.inl (Or.inr hb))) (fun b hb => hb) (fun b hb => Or.inl hb))
            have hBST : BS ∈ T := HD.out.sub BS (by rw [HD.out.hS]; simp [Value.ownBlock])
            have hM7 : Mod T w (w6.setCell ⟨BS, j, none⟩ g6.val) := (HM5.out.trans MD.out (by simp)).setCell (Or.inl hBST)
            have e7 : g6.l = tornP g.l := by rw [hg6]
            have v7 : g6.val = .slice (some ⟨B6, 0, none⟩) 1024 c6 := by rw [hg6]; rfl
            rw [e7] at hd7
            rw [v7] at hd7 hM7
            have hT7 : ∀ b ∈ T' ++ [B6], b ∈ T ∨ w.heap.size ≤ b := fun b hb => by
              rcases List.mem_append.1 hb with h1 | h1
              · exact HT'.out b h1
              · simp at h1; have := HM5.out.size; right; omega
            have HD7 := Lib.hid hd7
            have HM7 := Lib.hid hM7
            have HT7 := Lib.hid hT7
            clear hin hd6 hS6 hrow hrow7 hmS hpg6 hd7 hM7 e7 v7 hT7 z0 a0 a1 y0 y1 y2 y3
            generalize (w6.setCell ⟨BS, j, none⟩ (.slice (some ⟨B6, 0, none⟩) 1024 c6)) = w7 at *
            go_wp2
            go_roundw
            case rel => exact ⟨i + 1, gs.set j g6, T' ++ [B6], by omega, by go_num, by simp [hgl], by rw [HSAFE.out]; have h7 := HD7.out; simp only [List.set_set] at h7 ⊢; exact h7, HM7.out, HT7.out⟩
            case measure => simp [intOf]; omega
          · have hti' : ((i : Int) == torn) = false := by simpa using hti
            have HSAFE : Hid (k.crashTo keep torn (i + 1) = (k.crashTo keep torn i).set j g.l) := by rw [HST.out, HWAT.out, if_neg hti]; rfl
            clear hti
            go_wp2
            go_roundw
            case rel => exact ⟨i + 1, gs.set j g, T', by omega, by go_num, by simp [hgl], by rw [HSAFE.out]; exact HD5.out, HM5.out, HT'.out⟩
            case measure => simp [intOf]; omega
      · have HST := Lib.hid (Ck.crashTo_skip (k := k) (keep := keep) (torn := torn) (i := i) (by rw [List.getD_eq_getElem?_getD, List.getElem?_eq_none (by rw [HKL.out]; omega)]; rfl))
        go_wp2
        go_roundw
        case rel => exact ⟨i + 1, gs, T', by omega, by go_num, hgl, by rw [HST.out]; exact HDR.out.mod (Mod.of_alloc wr _) (by simp), HMD.out.alloc, HT'.out⟩
        case measure => simp [intOf]; omega
    · obtain rfl : i = ws.length := by omega
      rw [hKE.out] at hdr
      have HRS := Lib.hid (rest_any D T' _ wr ⟨_, _, _, _, _, _, _, hdr⟩)
      clear hdr
      go_wp2_with fail
      refine HRS.out.mono ?_
      rintro _ w5 ⟨rfl, h5, m5⟩
      obtain ⟨gs5, ws5, vs5, vw5, M5, DM5, S5, h5⟩ := h5
      have f3 : w5.frozen? ⟨D, 3, none⟩ = false := free_of_at h5.at_ 3
      have f4 : w5.frozen? ⟨D, 4, none⟩ = false := free_of_at h5.at_ 4
      have c3 : w5.cell? ⟨D, 3, none⟩ = some (.int .i64 k.left) := cell_of_at h5.at_ 3
      have c4 : w5.cell? ⟨D, 4, none⟩ = some (.bool k.down) := cell_of_at h5.at_ 4
      have H5 := Lib.hid h5
      have HM5 : Hid (Mod T w w5) := HMD.out.trans m5 HT'.out
      clear h5 m5
      go_wp2
      go_end0
      refine ⟨rfl, T', ?_, (HM5.out.setCell (Or.inl hDT)).setCell (Or.inl hDT), HT'.out⟩
      have hd9 := H5.out.set (l := 0) (d := false) (w' := (w5.setCell ⟨D, 3, none⟩ (.int .i64 0)).setCell ⟨D, 4, none⟩ (.bool false)) ((Mod.of_setCell _ _ _ _).same (Mod.of_setCell _ _ _ _)) (by rw [at_setCell (at_setCell H5.out.at_ _ _)]; rfl) (by omega) (by omega)
      rw [HCR.out]
      exact ⟨_, _, _, _, _, _, _, hd9⟩
end Go.Proofs.YtbbjfgjbjghdiaaDoor
