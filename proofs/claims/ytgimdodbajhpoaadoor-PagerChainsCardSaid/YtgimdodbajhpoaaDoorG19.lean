/- A link is read: the program's and the document's. -/
import Derived.Test.YtgimdodbajhpoaaDoorG18
import Derived.Test.YtgimdodbajhpoaaDoorG10
namespace Go.Proofs.YtgimdodbajhpoaaDoor
open Go.RowKit Go.Maps
set_option linter.unusedSimpArgs false
set_option linter.unusedVariables false

def flN (b : List Int) : Int := b.getD 4 0 * 256 + b.getD 5 0
def flOut (b : List Int) : List Int := (b.drop 6).take (flN b).toNat
def flGood (b : List Int) : Prop := b.length = 1016 ∧ flN b ≤ 1010 ∧ linkOk (un4 b 4) (flOut b) ∧ b = linkL (un4 b 4) (flOut b) ++ zs (1016 - (linkL (un4 b 4) (flOut b)).length)
instance (b : List Int) : Decidable (flGood b) := by unfold flGood; exact inferInstance
def fromLinkL (b : List Int) : Int × List Int × Int := if flGood b then (un4 b 4, flOut b, 0) else (0, [], 5)
theorem fromLink_no {b : List Int} (h : ¬ flGood b) : fromLinkL b = (0, [], 5) := if_neg h
theorem fromLink_yes {b : List Int} (h : flGood b) : fromLinkL b = (un4 b 4, flOut b, 0) := if_pos h
def FLR (x : Int × List Int × Int) (w : World) (v : Value) (w' : World) : Prop :=
  ∃ p n c, v = .tuple #[.int .i64 x.1, .slice p n c, .int .i64 x.2.2] ∧ BytesIn w' p n c x.2.1 ∧ Mod [] w w'
theorem BytesIn.nil (w : World) : BytesIn w none 0 0 [] := ⟨Sl.nil _ _, by simp⟩
theorem FLR.no {b : List Int} (h : ¬ flGood b) {w w' : World} (hm : Mod [] w w') : FLR (fromLinkL b) w (.tuple #[.int .i64 0, .slice none 0 0, .int .i64 5]) w' := by
  rw [fromLink_no h]; exact ⟨none, 0, 0, rfl, BytesIn.nil _, hm⟩
theorem flN_range {b : List Int} (h : ∀ x ∈ b, 0 ≤ x ∧ x < 256) (hl : 6 ≤ b.length) : 0 ≤ flN b ∧ flN b < 65536 := by
  have h4 := h _ (List.getElem_mem (l := b) (n := 4) (by omega))
  have h5 := h _ (List.getElem_mem (l := b) (n := 5) (by omega))
  unfold flN
  rw [getD_at (by omega), getD_at (by omega)]; omega
/-- A link that has been said is read. -/
theorem fromLink_link {next : Int} {b : List Int} (h : linkOk next b) : fromLinkL (linkL next b ++ zs (1016 - (linkL next b).length)) = (next, b, 0) := by
  obtain ⟨h1, h2, h3, h4⟩ := h
  obtain ⟨z, hz⟩ : ∃ z, z = zs (1016 - (linkL next b).length) := ⟨_, rfl⟩
  have hll : (linkL next b).length = 6 + b.length := by rw [linkL_of ⟨h1, h2, h3, h4⟩]; simp [be_len]; omega
  have hzl : z.length = 1016 - (6 + b.length) := by rw [hz, hll]; simp [zs]
  have e0 : linkL next b ++ z = be 4 next ++ (be 2 b.length ++ (b ++ z)) := by rw [linkL_of ⟨h1, h2, h3, h4⟩]; simp
  have e1 : un4 (linkL next b ++ z) 4 = next := by rw [e0]; exact un4_be _ h3 (by omega)
  have e2 : flN (linkL next b ++ z) = b.length := by
    have key : ∀ r : List Int, flN (be 4 next ++ r) = r.getD 0 0 * 256 + r.getD 1 0 := fun r => by
      unfold flN; rw [be_succ 3, be_succ 2, be_succ 1, be_succ 0]; rfl
    rw [e0, key, be2_of (by omega) (by omega)]
    show (b.length : Int) / 256 * 256 + (b.length : Int) % 256 = b.length
    omega
  have e3 : flOut (linkL next b ++ z) = b := by
    unfold flOut; rw [e2, e0]
    rw [show be 4 next ++ (be 2 b.length ++ (b ++ z)) = (be 4 next ++ be 2 b.length) ++ (b ++ z) from by simp, List.drop_append_of_le_length (by simp [be_len]), List.drop_of_length_le (by simp [be_len])]
    simp
  rw [← hz, fromLink_yes, e1, e3]
  refine ⟨by rw [List.length_append, hll, hzl]; omega, by rw [e2]; omega, by rw [e1, e3]; exact ⟨h1, h2, h3, h4⟩, by rw [e1, e3, hz]⟩

set_option maxRecDepth 100000 in
set_option maxHeartbeats 8000000 in
theorem fromlink_any (p : Option Addr) (n c : Nat) (b : List Int) (w : World) (h : BytesIn w p n c b) :
    Calls Tryd.prog 29 #[.slice p n c] w (Ret (FLR (fromLinkL b) w)) := by
  by_cases hn : n = 1016
  · subst hn
    have hbl := h.len
    obtain ⟨r0, r1⟩ := flN_range h.wf (by omega)
    obtain ⟨s, hs⟩ : ∃ s : Nat, flN b = s := ⟨(flN b).toNat, by omega⟩
    rw [hs] at r1
    have t1 : un4 (tk b 4) 4 = un4 b 4 := by
      unfold tk; rw [if_pos (by omega), un4_take (by rw [List.length_take]; omega), un4_take (by omega), List.take_take, Nat.min_self]
    have t2 : rdr b 4 = b.drop 4 := by unfold rdr; rw [if_pos (by omega)]
    have t3 : bd b false 4 = false := by unfold bd; rw [if_pos (by omega)]
    have hl4 : 2 ≤ (b.drop 4).length := by rw [List.length_drop]; omega
    have t4 : (tk (b.drop 4) 2).getD 0 0 * 256 + (tk (b.drop 4) 2).getD 1 0 = s := by
      rw [← hs]; unfold tk flN; rw [if_pos hl4]
      simp only [List.getD_eq_getElem?_getD, List.getElem?_take, List.getElem?_drop]; simp
    have t5 : rdr (b.drop 4) 2 = b.drop 6 := by unfold rdr; rw [if_pos hl4, List.drop_drop]
    have t6 : bd (b.drop 4) false 2 = false := by unfold bd; rw [if_pos hl4]
    have hl6 : (b.drop 6).length = 1010 := by rw [List.length_drop]; omega
    have HR0 : Hid (RdAt (w.alloc (.cells #[.slice p 1016 c, .bool false] 97)) w.heap.size w.heap.size b false) := by
      refine ⟨p, 1016, c, at_alloc w _, ⟨h.sl.mod (Mod.of_alloc w _) (by simp), h.wf⟩, fun a ha h0 => ?_⟩
      obtain ⟨b', o, hp, hlt, _⟩ := h.sl.addr h0
      rw [ha] at hp; cases hp; exact hlt
    have HPG := Lib.hid (rpage_any _ _ _ _ _ HR0.out)
    unfold PageR at HPG
    rw [t1, t2, t3] at HPG
    have HSH := fun W h => Lib.hid (short_any w.heap.size w.heap.size (b.drop 4) false W h)
    unfold ShortR at HSH
    simp only [t4, t5, t6] at HSH
    have H := Lib.hid h
    have HM0 : Hid (Mod [] w (w.alloc (.cells #[.slice p 1016 c, .bool false] 97))) := Mod.of_alloc w _
    obtain ⟨X, hX⟩ : ∃ X, X = un4 b 4 := ⟨_, rfl⟩
    rw [← hX] at HPG
    by_cases hs10 : s ≤ 1010
    · have t7 : tk (b.drop 6) s = flOut b := by unfold tk flOut; rw [if_pos (by omega), hs]; rfl
      have t8 : bd (b.drop 6) false s = false := by unfold bd; rw [if_pos (by omega)]
      have HTK := fun W h => Lib.hid (take_any w.heap.size w.heap.size (b.drop 6) false s W h (by omega))
      unfold TakeR at HTK
      simp only [t7, t8] at HTK
      have HOL : Hid ((flOut b).length = s) := by unfold Hid flOut; rw [hs, List.length_take, hl6]; simp; omega
      have HGD : Hid (flGood b ↔ linkOk X (flOut b) ∧ filledL b (linkL X (flOut b)) = true) := by
        unfold Hid flGood
        rw [filledL_iff (by rw [hbl]; exact linkL_len _ _), hbl, ← hX, hs]
        exact ⟨fun ⟨_, _, h1, h2⟩ => ⟨h1, h2⟩, fun ⟨h1, h2⟩ => ⟨rfl, by omega, h1, h2⟩⟩
      have HY : Hid (flGood b → fromLinkL b = (X, flOut b, 0)) := fun h => by rw [fromLink_yes h, hX]
      have hmin : ¬ ((1016 : Int) < (s : Int)) := by omega
      clear h hbl r0 t1 t2 t3 t4 t5 t6 t7 t8 hl4 hl6 hX hs
      generalize flOut b = O at *
      go_enter Tryd.func29, Tryd.ntmps29
      go_wp2_with fail
      refine HPG.out.mono ?_
      rintro _ w1 ⟨_, rfl, rfl, r1', m1⟩
      have R1 := Lib.hid r1'
      have M1 : Hid (Mod [] w w1) := HM0.out.trans m1 (fun b hb => Or.inr (by simp at hb; omega))
      clear r1' m1 HPG
      go_wp2_with fail
      refine (HSH _ R1.out).out.mono ?_
      rintro _ w2 ⟨_, rfl, rfl, r2, m2⟩
      have R2 := Lib.hid r2
      have M2 : Hid (Mod [] w w2) := M1.out.trans m2 (fun b hb => Or.inr (by simp at hb; omega))
      clear r2 m2 HSH R1
      go_wp2_with fail
      refine (HTK _ R2.out).out.mono ?_
      rintro _ w3 ⟨_, rfl, q, d, rfl, b3, g3, r3, m3⟩
      have f1 : w3.cell? ⟨w.heap.size, 1, none⟩ = some (.bool false) := r3.bad_cell
      have M3 : Hid (Mod [] w w3) := M2.out.trans m3 (fun b hb => Or.inr (by simp at hb; omega))
      have B3 := Lib.hid b3
      have HLK := Lib.hid (link_any q s d O X w3 b3)
      unfold NPayR at HLK
      clear r3 m3 R2 HTK b3 g3
      go_wp2_with fail
      refine HLK.out.mono ?_
      rintro _ w4 ⟨_, rfl, p4, n4, c4, rfl, e4, z4, s4, m4⟩
      have M34 := Lib.hid m4
      have HFL := Lib.hid (filled_any p 1016 c b p4 n4 c4 (linkL X O) w4 ⟨H.out.sl.mod (M3.out.same m4) (by simp), H.out.wf⟩ ⟨s4, linkL_wf B3.out.wf⟩)
      have HG2 : Hid (flGood b ↔ (p4.isSome && filledL b (linkL X O)) = true) := by
        unfold Hid
        rw [HGD.out, Bool.and_eq_true]
        refine ⟨fun ⟨h1, h2⟩ => ⟨?_, h2⟩, fun ⟨h1, h2⟩ => ⟨?_, h2⟩⟩
        · cases p4 with
          | none => have := z4.1 rfl; rw [linkL_of h1] at this; have := congrArg List.length this; simp [be_len] at this
          | some a => rfl
        · by_cases hk : linkOk X O
          · exact hk
          · have := z4.2 (linkL_no hk); rw [this] at h1; simp at h1
      clear e4 z4 s4 m4 HLK HGD
      generalize (p4.isSome && filledL b (linkL X O)) = F at *
      go_wp2_with fail
      refine HFL.out.mono ?_
      rintro _ w5 ⟨_, rfl, rfl, m5⟩
      have M35 : Hid (Mod [] w3 w5) := M34.out.same m5
      clear m5 HFL
      cases F with
      | false =>
        have HNO : Hid (¬ flGood b) := fun h => by cases HG2.out.1 h
        go_wp2
        go_ret3
        exact .mk (FLR.no HNO.out (M3.out.same M35.out))
      | true =>
        have HYE := Lib.hid (HY.out (HG2.out.2 rfl))
        go_wp2
        go_ret3
        exact .mk (by rw [HYE.out]; exact ⟨q, s, d, rfl, ⟨B3.out.sl.mod M35.out (by simp), B3.out.wf⟩, M3.out.same M35.out⟩)
    · obtain ⟨k, hk⟩ : ∃ k, k = min s 1016 := ⟨_, rfl⟩
      have hk2 : 1010 < k ∧ k ≤ 1016 := by omega
      have t8 : bd (b.drop 6) false k = true := by unfold bd; rw [if_neg (by omega)]
      have HTK := fun W h => Lib.hid (take_any w.heap.size w.heap.size (b.drop 6) false k W h (by omega))
      unfold TakeR at HTK
      simp only [t8] at HTK
      have HNO : Hid (¬ flGood b) := fun h => by have := h.2.1; omega
      rcases (by omega : k = s ∧ s ≤ 1016 ∨ k = 1016 ∧ 1016 < s) with ⟨e, hmn⟩ | ⟨e, hmn⟩
      · subst e
        have hmin : ¬ ((1016 : Int) < (k : Int)) := by omega
        clear h hbl r0 t1 t2 t3 t4 t5 t6 t8 hl4 hl6 hX hs hk hs10 hk2
        go_enter Tryd.func29, Tryd.ntmps29
        go_wp2_with fail
        refine HPG.out.mono ?_
        rintro _ w1 ⟨_, rfl, rfl, r1', m1⟩
        have R1 := Lib.hid r1'
        have M1 : Hid (Mod [] w w1) := HM0.out.trans m1 (fun b hb => Or.inr (by simp at hb; omega))
        clear r1' m1 HPG
        go_wp2_with fail
        refine (HSH _ R1.out).out.mono ?_
        rintro _ w2 ⟨_, rfl, rfl, r2, m2⟩
        have R2 := Lib.hid r2
        have M2 : Hid (Mod [] w w2) := M1.out.trans m2 (fun b hb => Or.inr (by simp at hb; omega))
        clear r2 m2 HSH R1
        go_wp2_with fail
        refine (HTK _ R2.out).out.mono ?_
        rintro _ w3 ⟨_, rfl, q, d, rfl, b3, g3, r3, m3⟩
        have f1 : w3.cell? ⟨w.heap.size, 1, none⟩ = some (.bool true) := r3.bad_cell
        have M3 : Hid (Mod [] w w3) := M2.out.trans m3 (fun b hb => Or.inr (by simp at hb; omega))
        clear r3 m3 R2 HTK b3 g3
        go_wp2
        go_ret3
        exact .mk (FLR.no HNO.out M3.out)
      · subst e
        have hmin : (1016 : Int) < (s : Int) := by omega
        clear h hbl r0 t1 t2 t3 t4 t5 t6 t8 hl4 hl6 hX hs hk hs10 hk2
        go_enter Tryd.func29, Tryd.ntmps29
        go_wp2_with fail
        refine HPG.out.mono ?_
        rintro _ w1 ⟨_, rfl, rfl, r1', m1⟩
        have R1 := Lib.hid r1'
        have M1 : Hid (Mod [] w w1) := HM0.out.trans m1 (fun b hb => Or.inr (by simp at hb; omega))
        clear r1' m1 HPG
        go_wp2_with fail
        refine (HSH _ R1.out).out.mono ?_
        rintro _ w2 ⟨_, rfl, rfl, r2, m2⟩
        have R2 := Lib.hid r2
        have M2 : Hid (Mod [] w w2) := M1.out.trans m2 (fun b hb => Or.inr (by simp at hb; omega))
        clear r2 m2 HSH R1
        go_wp2_with fail
        refine (HTK _ R2.out).out.mono ?_
        rintro _ w3 ⟨_, rfl, q, d, rfl, b3, g3, r3, m3⟩
        have f1 : w3.cell? ⟨w.heap.size, 1, none⟩ = some (.bool true) := r3.bad_cell
        have M3 : Hid (Mod [] w w3) := M2.out.trans m3 (fun b hb => Or.inr (by simp at hb; omega))
        clear r3 m3 R2 HTK b3 g3
        go_wp2
        go_ret3
        exact .mk (FLR.no HNO.out M3.out)
  · have hb : ((n : Int) != 1016) = true := by simp; omega
    have HNO : Hid (¬ flGood b) := fun hg => hn (by rw [← h.len]; exact hg.1)
    clear hn h
    go_enter Tryd.func29, Tryd.ntmps29
    go_wp2
    go_ret3
    exact .mk (FLR.no HNO.out (Mod.refl _ _))
end Go.Proofs.YtgimdodbajhpoaaDoor
