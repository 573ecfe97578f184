/- A cell of a leaf is read from its page. -/
import Derived.Test.YtgimdodbajhpoaaGreatDoorG42
namespace Go.Proofs.YtgimdodbajhpoaaGreatDoor
open Go.RowKit Go.Maps
set_option linter.unusedSimpArgs false
set_option linter.unusedVariables false

/-- A cell that has been read. -/
def CellR (R N : Nat) (c : Cl) (rest : List Int) (w : World) (v : Value) (w' : World) : Prop :=
  ∃ x : Cv, v = .agg x.cells.toArray ∧ x.pl = c ∧ x.k.In w' ∧ x.i.In w' ∧ (∀ a, x.k.p = some a → w.heap.size ≤ a.block ∧ IsBytes w' a.block) ∧ (∀ a, x.i.p = some a → w.heap.size ≤ a.block ∧ IsBytes w' a.block) ∧ RdAt w' R N rest false ∧ Mod [R] w w'
theorem tk2_be {v : Nat} (h : v < 65536) (z : List Int) : (tk (be 2 (v : Int) ++ z) 2).getD 0 0 * 256 + (tk (be 2 (v : Int) ++ z) 2).getD 1 0 = v ∧ rdr (be 2 (v : Int) ++ z) 2 = z ∧ bd (be 2 (v : Int) ++ z) false 2 = false := by
  have hl : 2 ≤ (be 2 (v : Int) ++ z).length := by simp [be_len]
  refine ⟨?_, ?_, ?_⟩
  · unfold tk; rw [if_pos hl, List.take_append_of_le_length (by rw [be_len]; omega), List.take_of_length_le (by rw [be_len]; omega), be2_of (by omega) (by omega)]
    simp; omega
  · unfold rdr; rw [if_pos hl, List.drop_append, List.drop_of_length_le (by rw [be_len]; omega), be_len]; rfl
  · unfold bd; rw [if_pos hl]
theorem tk_app {l z : List Int} {n : Nat} (h : l.length = n) : tk (l ++ z) n = l ∧ rdr (l ++ z) n = z ∧ bd (l ++ z) false n = false := by
  have hl : n ≤ (l ++ z).length := by simp; omega
  refine ⟨?_, ?_, ?_⟩
  · unfold tk; rw [if_pos hl, ← h]; simp
  · unfold rdr; rw [if_pos hl, ← h]; simp
  · unfold bd; rw [if_pos hl]
theorem BytesIn.nil (w : World) : BytesIn w none 0 0 [] := ⟨Sl.nil _ _, by simp⟩
theorem nat_of {x : Int} (h : 0 ≤ x) : ∃ n : Nat, x = n := ⟨x.toNat, by omega⟩
theorem set4 {w : World} {b : Nat} {T : TypeId} {v0 v1 v2 v3 : Value} (u0 u1 u2 u3 : Value) (h : w.heap[b]? = some (.cells #[v0, v1, v2, v3] T (0, 0))) :
    ((((w.setCell ⟨b, 0, none⟩ u0).setCell ⟨b, 1, none⟩ u1).setCell ⟨b, 2, none⟩ u2).setCell ⟨b, 3, none⟩ u3).heap[b]? = some (.cells #[u0, u1, u2, u3] T (0, 0)) ∧ Mod [b] w ((((w.setCell ⟨b, 0, none⟩ u0).setCell ⟨b, 1, none⟩ u1).setCell ⟨b, 2, none⟩ u2).setCell ⟨b, 3, none⟩ u3) := by
  refine ⟨?_, (((Mod.of_setCell w _ _ _).setCell (Or.inl (by simp))).setCell (Or.inl (by simp))).setCell (Or.inl (by simp))⟩
  rw [at_setCell (at_setCell (at_setCell (at_setCell h 0 u0) 1 u1) 2 u2) 3 u3]
  simp
theorem infoCellSize : (Tryz.prog.info? 82).map (·.size) = some 4 := by kernel_rfl
set_option maxRecDepth 100000 in
set_option maxHeartbeats 4000000 in
theorem rcell_any (R N : Nat) (c : Cl) (rest : List Int) (w : World) (h : RdAt w R N (cellBytes c ++ rest) false) (hc : mayCl c = true) (hk : c.key.length ≤ 255) (hNw : N ≤ w.heap.size) :
    Calls Tryz.prog 58 #[.pointer (some ⟨R, 0, none⟩)] w (Ret (CellR R N c rest w)) := by
  have hRl := h.lt
  obtain ⟨h1, h2⟩ := mayCl_spec hc
  obtain ⟨z, hz⟩ : ∃ z, z = valBytes c ++ rest := ⟨_, rfl⟩
  have hcb : cellBytes c ++ rest = (c.key.length : Int) :: (c.key ++ z) := by rw [hz]; unfold cellBytes; simp
  rw [hcb] at h
  have H0 : Hid (RdAt (w.alloc (.cells #[.slice none 0 0, .slice none 0 0, .int .i64 0, .int .i64 0] 82)) R N ((c.key.length : Int) :: (c.key ++ z)) false) := h.mod (Mod.of_alloc w _) (by simp) (by simp)
  have HKEY := Lib.hid (rkey_any R N c.key z _ H0.out hk)
  by_cases hs : c.size = 0
  · obtain ⟨g1, g2⟩ := h1 hs
    have hv : z = be 2 c.inl.length ++ (c.inl ++ rest) := by rw [hz]; unfold valBytes; rw [if_pos hs]; simp
    obtain ⟨t1, t2, t3⟩ := tk2_be (v := c.inl.length) (by omega) (c.inl ++ rest)
    obtain ⟨n, hn⟩ : ∃ n, n = c.inl.length := ⟨_, rfl⟩
    obtain ⟨t4, t5, t6⟩ := tk_app (z := rest) hn.symm
    have HSH := fun W hh => Lib.hid (short_any R N z false W hh)
    unfold ShortR at HSH
    simp only [hv, t1, t2, t3] at HSH
    have HTK := fun W hh => Lib.hid (take_any R N (c.inl ++ rest) false n W hh (by omega))
    unfold TakeR at HTK
    simp only [t4, t5, t6] at HTK
    rw [hv] at HKEY
    rw [← hn] at HKEY HSH
    have hn2 : n ≤ 200 := by omega
    have HCL : Hid (c = ⟨c.key, c.inl, 0, 0⟩) := by unfold Hid; cases c; simp_all
    clear h hc hk h1 h2 hz hcb hs g1 g2 hv t1 t2 t3 t4 t5 t6 hn H0
    go_enter Tryz.func58, Tryz.ntmps58
    go_wp2_with fail
    refine HKEY.out.mono ?_
    rintro _ w1 ⟨_, rfl, q, m, d, rfl, b1, g1, r1, m1⟩
    have HB1 := Lib.hid b1
    have HG1 := Lib.hid g1
    have M1 : Hid (Mod [R] w (w1.alloc (.cells #[.slice q m d, .slice none 0 0, .int .i64 0, .int .i64 0] 82))) := (((Mod.of_alloc w _).mono (by simp)).same m1).alloc
    have R1 : Hid (RdAt (w1.alloc (.cells #[.slice q m d, .slice none 0 0, .int .i64 0, .int .i64 0] 82)) R N (be 2 (n : Int) ++ (c.inl ++ rest)) false) := r1.mod (Mod.of_alloc w1 _) (by simp) (by simp)
    have A1 : Hid ((w1.alloc (.cells #[.slice q m d, .slice none 0 0, .int .i64 0, .int .i64 0] 82)).heap[w1.heap.size]? = some (.cells #[.slice q m d, .slice none 0 0, .int .i64 0, .int .i64 0] 82 (0, 0))) := at_alloc w1 _
    have HS1 := Lib.hid m1.size
    have A0 : Hid ((w1.alloc (.cells #[.slice q m d, .slice none 0 0, .int .i64 0, .int .i64 0] 82)).heap[w.heap.size]? = some (.cells #[.slice none 0 0, .slice none 0 0, .int .i64 0, .int .i64 0] 82 (0, 0))) := at_alloc_other (m1.at (at_alloc w _) (by simp; omega)) _
    have MW1 : Hid (Mod [] w1 (w1.alloc (.cells #[.slice q m d, .slice none 0 0, .int .i64 0, .int .i64 0] 82))) := Mod.of_alloc w1 _
    have HX : Hid (w.heap.size + 1 ≤ w1.heap.size) := by have := m1.size; unfold Hid; simpa using this
    clear b1 g1 r1 m1 HKEY
    go_wp2_with fail
    refine (HSH _ R1.out).out.mono ?_
    rintro _ w2 ⟨_, rfl, rfl, r2, m2⟩
    have A2 := Lib.hid (m2.at A1.out (by simp; have := HX.out; omega))
    have A02 := Lib.hid (m2.at A0.out (by simp; omega))
    have R2 := Lib.hid r2
    have M12 := Lib.hid m2
    clear r2 m2 HSH
    go_wp2_with fail
    refine (HTK _ R2.out).out.mono ?_
    rintro _ w3 ⟨_, rfl, q3, d3, rfl, b3, g3, r3, m3⟩
    have hA3 := m3.at A2.out (by simp; have := HX.out; omega)
    have hA03 := m3.at A02.out (by simp; omega)
    have cc0 : w3.cell? ⟨w1.heap.size, 0, none⟩ = some (.slice q m d) := cell_of_at hA3 0
    have cc1 : w3.cell? ⟨w1.heap.size, 1, none⟩ = some (.slice none 0 0) := cell_of_at hA3 1
    have cc2 : w3.cell? ⟨w1.heap.size, 2, none⟩ = some (.int .i64 0) := cell_of_at hA3 2
    have cc3 : w3.cell? ⟨w1.heap.size, 3, none⟩ = some (.int .i64 0) := cell_of_at hA3 3
    have cf1 := free_of_at hA3 1
    have hne : w1.heap.size ≠ w.heap.size := by have := HX.out; omega
    have hne2 : w.heap.size ≠ w1.heap.size := by have := HX.out; omega
    have dd0 : w3.cell? ⟨w.heap.size, 0, none⟩ = some (.slice none 0 0) := cell_of_at hA03 0
    have dd1 : w3.cell? ⟨w.heap.size, 1, none⟩ = some (.slice none 0 0) := cell_of_at hA03 1
    have dd2 : w3.cell? ⟨w.heap.size, 2, none⟩ = some (.int .i64 0) := cell_of_at hA03 2
    have dd3 : w3.cell? ⟨w.heap.size, 3, none⟩ = some (.int .i64 0) := cell_of_at hA03 3
    have df0 := free_of_at hA03 0
    have df1 := free_of_at hA03 1
    have df2 := free_of_at hA03 2
    have df3 := free_of_at hA03 3
    have HB3 := Lib.hid b3
    have HG3 := Lib.hid g3
    have HR3 := Lib.hid r3
    have HM3 := Lib.hid m3
    have HA3 := Lib.hid hA3
    have HA03 := Lib.hid hA03
    clear b3 g3 r3 m3 hA3 hA03
    go_wp2
    obtain ⟨e1, e2⟩ := set4 (.slice q m d) (.slice q3 n d3) (.int .i64 0) (.int .i64 0) (w := w3.setCell ⟨w1.heap.size, 1, none⟩ (.slice q3 n d3)) (b := w.heap.size) (by rw [at_setCell_other hne2]; exact HA03.out)
    have hmf : Mod [w1.heap.size, w.heap.size] w3 (((((w3.setCell ⟨w1.heap.size, 1, none⟩ (.slice q3 n d3)).setCell ⟨w.heap.size, 0, none⟩ (.slice q m d)).setCell ⟨w.heap.size, 1, none⟩ (.slice q3 n d3)).setCell ⟨w.heap.size, 2, none⟩ (.int .i64 0)).setCell ⟨w.heap.size, 3, none⟩ (.int .i64 0)) :=
      ((Mod.of_setCell w3 _ _ _).mono (by simp)).same (e2.mono (by simp))
    refine bodyPost_ret (v := .agg #[.slice q m d, .slice q3 n d3, .int .i64 0, .int .i64 0]) (results_cell_row rfl _ _ w.heap.size _ _ (0, 0) _ rfl e1 Tryz.underlying82 rfl infoCellSize) rfl (.mk ?_)
    have hM13 : Mod [R] w1 w3 := ((MW1.out.mono (by simp)).same M12.out).same HM3.out
    have hs13 := hM13.size
    have hk0 : ∀ a, q = some a → 0 < m → a.block ∉ [w1.heap.size, w.heap.size] ∧ a.block ≠ R := fun a ha h0 => by
      have h1 := (HG1.out a ha).1
      obtain ⟨cs, h2⟩ := (HG1.out a ha).2
      have h3 := lt_of_at h2
      have h4 := HX.out
      simp at h1 ⊢; exact ⟨by omega, by omega⟩
    have hi0 : ∀ a, q3 = some a → a.block ∉ [w1.heap.size, w.heap.size] := fun a ha => by
      have h1 := (HG3.out a ha).1
      have h2 := M12.out.size
      have h3 := HX.out
      simp at h2 ⊢; omega
    refine ⟨⟨⟨q, m, d, c.key⟩, ⟨q3, n, d3, c.inl⟩, 0, 0⟩, rfl, HCL.out.symm, ?_, ?_, ?_, ?_, HR3.out.mod hmf (by simp; have := HX.out; omega) (fun b hb => by simp at hb; have := HX.out; omega), ?_⟩
    · exact ⟨(HB1.out.sl.mod hM13 (fun a ha h0 hb => (hk0 a ha h0).2 (by simpa using hb))).mod hmf (fun a ha h0 => (hk0 a ha h0).1), HB1.out.wf⟩
    · exact ⟨HB3.out.sl.mod hmf (fun a ha _ => hi0 a ha), HB3.out.wf⟩
    · intro a ha
      have h1 := (HG1.out a ha).1
      obtain ⟨cs, h2⟩ := (HG1.out a ha).2
      have h3 := lt_of_at h2
      simp at h1
      exact ⟨by omega, ((HG1.out a ha).2.mod hM13 (by simp; omega)).mod hmf (by simp; omega)⟩
    · intro a ha
      exact ⟨by have := (HG3.out a ha).1; have := M12.out.size; simp at this; have := HX.out; omega, (HG3.out a ha).2.mod hmf (hi0 a ha)⟩
    · exact (((M1.out.same M12.out).same HM3.out)).trans hmf (fun b hb => Or.inr (by simp at hb; have := HX.out; omega))
  · obtain ⟨⟨g1, g2⟩, ⟨g3, g4⟩, g5⟩ := h2 hs
    obtain ⟨n, hn⟩ := nat_of (show 0 ≤ c.size by omega)
    have hil : c.inl = [] := List.eq_nil_of_length_eq_zero g5
    have hv : z = be 2 (n : Int) ++ (be 4 c.head ++ ([0, 0] ++ rest)) := by rw [hz]; unfold valBytes; rw [if_neg hs, hn]; simp
    obtain ⟨t1, t2, t3⟩ := tk2_be (v := n) (by omega) (be 4 c.head ++ ([0, 0] ++ rest))
    obtain ⟨u1, u2, u3⟩ := be4_read (v := c.head) (by omega) (by omega) ([0, 0] ++ rest)
    obtain ⟨t4, t5, t6⟩ := tk_app (l := [0, 0]) (z := rest) (n := 2) rfl
    have HSH := fun W hh => Lib.hid (short_any R N z false W hh)
    unfold ShortR at HSH
    simp only [hv, t1, t2, t3] at HSH
    have HPG := fun W hh => Lib.hid (rpage_any R N (be 4 c.head ++ ([0, 0] ++ rest)) false W hh)
    unfold PageR at HPG
    simp only [u1, u2, u3] at HPG
    have HTK := fun W hh => Lib.hid (take_any R N ([0, 0] ++ rest) false 2 W hh (by omega))
    unfold TakeR at HTK
    simp only [t4, t5, t6] at HTK
    rw [hv] at HKEY
    have hn2 : 200 < n ∧ n ≤ 16384 := by omega
    obtain ⟨hn3, hn4⟩ := hn2
    obtain ⟨hd, hhd⟩ : ∃ hd, hd = c.head := ⟨_, rfl⟩
    have HCL : Hid (c = ⟨c.key, [], n, hd⟩) := by unfold Hid; rw [hhd, ← hn, ← hil]
    rw [← hhd] at HPG HSH HKEY
    have hnz : ¬ ((n : Int) ≤ 200) := by omega
    clear h hc hk h1 h2 hz hcb hs g1 g2 g3 g4 g5 hv t1 t2 t3 t4 t5 t6 u1 u2 u3 hn H0 hil hhd
    go_enter Tryz.func58, Tryz.ntmps58
    go_wp2_with fail
    refine HKEY.out.mono ?_
    rintro _ w1 ⟨_, rfl, q, m, d, rfl, b1, g1, r1, m1⟩
    have HB1 := Lib.hid b1
    have HG1 := Lib.hid g1
    have M1 : Hid (Mod [R] w (w1.alloc (.cells #[.slice q m d, .slice none 0 0, .int .i64 0, .int .i64 0] 82))) := (((Mod.of_alloc w _).mono (by simp)).same m1).alloc
    have R1 : Hid (RdAt (w1.alloc (.cells #[.slice q m d, .slice none 0 0, .int .i64 0, .int .i64 0] 82)) R N (be 2 (n : Int) ++ (be 4 hd ++ ([0, 0] ++ rest))) false) := r1.mod (Mod.of_alloc w1 _) (by simp) (by simp)
    have A1 : Hid ((w1.alloc (.cells #[.slice q m d, .slice none 0 0, .int .i64 0, .int .i64 0] 82)).heap[w1.heap.size]? = some (.cells #[.slice q m d, .slice none 0 0, .int .i64 0, .int .i64 0] 82 (0, 0))) := at_alloc w1 _
    have A0 : Hid ((w1.alloc (.cells #[.slice q m d, .slice none 0 0, .int .i64 0, .int .i64 0] 82)).heap[w.heap.size]? = some (.cells #[.slice none 0 0, .slice none 0 0, .int .i64 0, .int .i64 0] 82 (0, 0))) := at_alloc_other (m1.at (at_alloc w _) (by simp; omega)) _
    have MW1 : Hid (Mod [] w1 (w1.alloc (.cells #[.slice q m d, .slice none 0 0, .int .i64 0, .int .i64 0] 82))) := Mod.of_alloc w1 _
    have HX : Hid (w.heap.size + 1 ≤ w1.heap.size) := by have := m1.size; unfold Hid; simpa using this
    clear b1 g1 r1 m1 HKEY
    go_wp2_with fail
    refine (HSH _ R1.out).out.mono ?_
    rintro _ w2 ⟨_, rfl, rfl, r2, m2⟩
    have A2 := Lib.hid (m2.at A1.out (by simp; have := HX.out; omega))
    have A02 := Lib.hid (m2.at A0.out (by simp; omega))
    have R2 := Lib.hid r2
    have M12 := Lib.hid m2
    clear r2 m2 HSH
    go_wp2_with fail
    refine (HPG _ R2.out).out.mono ?_
    rintro _ w3 ⟨_, rfl, rfl, r3, m3⟩
    have hA3 := m3.at A2.out (by simp; have := HX.out; omega)
    have hA03 := m3.at A02.out (by simp; omega)
    have M13 : Hid (Mod [R] w1 w3) := (((MW1.out.mono (by simp)).same M12.out).same m3)
    have cf2 := free_of_at hA3 2
    have cf3 := free_of_at hA3 3
    have cc2 : w3.cell? ⟨w1.heap.size, 2, none⟩ = some (.int .i64 0) := cell_of_at hA3 2
    have cc3 : w3.cell? ⟨w1.heap.size, 3, none⟩ = some (.int .i64 0) := cell_of_at hA3 3
    have hne : w1.heap.size ≠ w.heap.size := by have := HX.out; omega
    have hne2 : w.heap.size ≠ w1.heap.size := by have := HX.out; omega
    have HA3 := Lib.hid hA3
    have HA03 := Lib.hid hA03
    have R3 : Hid (RdAt ((w3.setCell ⟨w1.heap.size, 2, none⟩ (.int .i64 n)).setCell ⟨w1.heap.size, 3, none⟩ (.int .i64 hd)) R N ([0, 0] ++ rest) false) := r3.mod ((Mod.of_setCell w3 w1.heap.size _ _).setCell (Or.inl (by simp))) (by simp; have := HX.out; omega) (fun b hb => by simp at hb; have := HX.out; omega)
    clear r3 m3 hA3 hA03 HPG
    go_wp2_with fail
    refine (HTK _ R3.out).out.mono ?_
    rintro _ w4 ⟨_, rfl, q4, d4, rfl, -, -, r4, m4⟩
    have hA4 := m4.at (show ((w3.setCell ⟨w1.heap.size, 2, none⟩ (.int .i64 n)).setCell ⟨w1.heap.size, 3, none⟩ (.int .i64 hd)).heap[w1.heap.size]? = some (.cells #[.slice q m d, .slice none 0 0, .int .i64 n, .int .i64 hd] 82 (0, 0)) by rw [at_setCell (at_setCell HA3.out 2 _) 3 _]; simp) (by simp; have := HX.out; omega)
    have hA04 := m4.at (show ((w3.setCell ⟨w1.heap.size, 2, none⟩ (.int .i64 n)).setCell ⟨w1.heap.size, 3, none⟩ (.int .i64 hd)).heap[w.heap.size]? = some (.cells #[.slice none 0 0, .slice none 0 0, .int .i64 0, .int .i64 0] 82 (0, 0)) by rw [at_setCell_other hne2, at_setCell_other hne2]; exact HA03.out) (by simp; omega)
    have cc0 : w4.cell? ⟨w1.heap.size, 0, none⟩ = some (.slice q m d) := cell_of_at hA4 0
    have cc1 : w4.cell? ⟨w1.heap.size, 1, none⟩ = some (.slice none 0 0) := cell_of_at hA4 1
    have ce2 : w4.cell? ⟨w1.heap.size, 2, none⟩ = some (.int .i64 n) := cell_of_at hA4 2
    have ce3 : w4.cell? ⟨w1.heap.size, 3, none⟩ = some (.int .i64 hd) := cell_of_at hA4 3
    have dd0 : w4.cell? ⟨w.heap.size, 0, none⟩ = some (.slice none 0 0) := cell_of_at hA04 0
    have dd1 : w4.cell? ⟨w.heap.size, 1, none⟩ = some (.slice none 0 0) := cell_of_at hA04 1
    have dd2 : w4.cell? ⟨w.heap.size, 2, none⟩ = some (.int .i64 0) := cell_of_at hA04 2
    have dd3 : w4.cell? ⟨w.heap.size, 3, none⟩ = some (.int .i64 0) := cell_of_at hA04 3
    have df0 := free_of_at hA04 0
    have df1 := free_of_at hA04 1
    have df2 := free_of_at hA04 2
    have df3 := free_of_at hA04 3
    have HR4 := Lib.hid r4
    have HA04 := Lib.hid hA04
    have M34 : Hid (Mod [R, w1.heap.size] w3 w4) := (((Mod.of_setCell w3 w1.heap.size _ _).mono (by simp)).setCell (Or.inl (by simp))).same (m4.mono (by simp))
    clear r4 m4 hA4 hA04 cc2 cc3 cf2 cf3
    go_wp2
    obtain ⟨e1, e2⟩ := set4 (.slice q m d) (.slice none 0 0) (.int .i64 n) (.int .i64 hd) HA04.out
    refine bodyPost_ret (v := .agg #[.slice q m d, .slice none 0 0, .int .i64 n, .int .i64 hd]) (results_cell_row rfl _ _ w.heap.size _ _ (0, 0) _ rfl e1 Tryz.underlying82 rfl infoCellSize) rfl (.mk ?_)
    have hmf : Mod [R, w1.heap.size, w.heap.size] w3 ((((w4.setCell ⟨w.heap.size, 0, none⟩ (.slice q m d)).setCell ⟨w.heap.size, 1, none⟩ (.slice none 0 0)).setCell ⟨w.heap.size, 2, none⟩ (.int .i64 n)).setCell ⟨w.heap.size, 3, none⟩ (.int .i64 hd)) :=
      (M34.out.mono (fun b hb => Or.inl (by simp at hb ⊢; rcases hb with e | e <;> simp [e]))).same (e2.mono (fun b hb => Or.inl (by simp at hb ⊢; simp [hb])))
    have hs13 := M13.out.size
    have hk0 : ∀ a, q = some a → a.block ∉ [R, w1.heap.size, w.heap.size] ∧ w.heap.size ≤ a.block ∧ a.block ≠ R := fun a ha => by
      have h1 := (HG1.out a ha).1
      obtain ⟨cs, h2⟩ := (HG1.out a ha).2
      have h3 := lt_of_at h2
      have h4 := HX.out
      simp at h1 ⊢; exact ⟨⟨by omega, by omega, by omega⟩, by omega, by omega⟩
    refine ⟨⟨⟨q, m, d, c.key⟩, ⟨none, 0, 0, []⟩, n, hd⟩, rfl, HCL.out.symm, ?_, BytesIn.nil _, ?_, (by simp), HR4.out.mod e2 (by simp; omega) (fun b hb => by simp at hb; omega), ?_⟩
    · exact ⟨(HB1.out.sl.mod M13.out (fun a ha _ hb => (hk0 a ha).2.2 (by simpa using hb))).mod hmf (fun a ha _ => (hk0 a ha).1), HB1.out.wf⟩
    · intro a ha
      exact ⟨(hk0 a ha).2.1, ((HG1.out a ha).2.mod M13.out (by simpa using (hk0 a ha).2.2)).mod hmf (hk0 a ha).1⟩
    · have h0 : Mod [R] w w1 := by
        have := M1.out
        exact ⟨this.os, this.tape, this.output, by have := HX.out; omega, fun i hi hn => by
          have h1 := this.block i hi hn
          rw [Below.heap_alloc _ _ _ (by have := HX.out; omega)] at h1; exact h1⟩
      exact (h0.same M13.out).trans hmf (fun b hb => by
        simp only [List.mem_cons, List.not_mem_nil, or_false] at hb
        rcases hb with e | e | e
        · exact Or.inl (by simp [e])
        · exact Or.inr (by have := HX.out; omega)
        · exact Or.inr (by omega))
end Go.Proofs.YtgimdodbajhpoaaGreatDoor
