/- A page's frame. -/
import Derived.Test.YtgimdodbajhpoaaCrc
import Derived.Test.YtgimdodbajhpoaaBin
import Derived.Test.YtgimdodbajhpoaaPayPure
import Derived.Test.YtgimdodbajhpoaaPar
import Derived.Test.YtgimdodbajhpoaaClone
import Derived.Laws.CopyOwn
namespace Go.Proofs.Ytgimdodbajhpoaa
open Go.RowKit Go.Maps
set_option linter.unusedSimpArgs false
set_option linter.unusedVariables false

/-- The page of a payload. -/
def fr0 (no : Int) (l : List Int) : List Int := pad 1016 l ++ be 4 no
def fr (no : Int) (l : List Int) : List Int := fr0 no l ++ be 4 (crcv (fr0 no l))
theorem fr0_len {no : Int} {l : List Int} (h : l.length ≤ 1016) : (fr0 no l).length = 1020 := by simp [fr0, pad_len h, be_len]
theorem fr_len {no : Int} {l : List Int} (h : l.length ≤ 1016) : (fr no l).length = 1024 := by simp [fr, fr0_len h, be_len]
theorem fr_wf {no : Int} {l : List Int} (h : ∀ x ∈ l, 0 ≤ x ∧ x < 256) : ∀ x ∈ fr no l, 0 ≤ x ∧ x < 256 := by
  intro x hx
  simp only [fr, fr0, pad, List.mem_append] at hx
  rcases hx with ((hx | hx) | hx) | hx
  · exact h x hx
  · rw [List.eq_of_mem_replicate hx]; omega
  · exact be_wf _ _ _ hx
  · exact be_wf _ _ _ hx
theorem splice_bs (L : List Int) (o : Nat) (X : List Int) : splice (bs L) o (bs X) = bs (L.take o ++ X ++ L.drop (o + X.length)) := by
  simp [splice, bs, List.map_take, List.map_drop]

def FrameR (no : Int) (l : List Int) (w : World) (v : Value) (w' : World) : Prop :=
  ∃ b, v = .tuple #[.slice (some ⟨b, 0, none⟩) 1024 1024, .int .i64 0] ∧ w.heap.size ≤ b ∧ w'.heap[b]? = some (Obj.cells (bs (fr no l)).toArray 5 (0, 0)) ∧ Mod [] w w'
set_option maxRecDepth 100000 in
set_option maxHeartbeats 4000000 in
theorem frame_any (no : Int) (p : Option Addr) (n c : Nat) (l : List Int) (w : World) (h : BytesIn w p n c l) (h0 : 0 ≤ no) (h1 : no ≤ 2147483647) (hn : n ≤ 1016) :
    Calls Try.prog 27 #[.int .i64 no, .slice p n c] w (Ret (FrameR no l w)) := by
  have hln := h.len
  have hno0 : (no < 0) = False := by simp; omega
  have hno1 : (2147483647 < no) = False := by simp; omega
  have hgt : ((1016 : Int) < (n : Int)) = False := by simp; omega
  have hwn : IntKind.u32.wrap no = no := by rw [IntKind.wrap_u32]; omega
  obtain ⟨i0, hi0, hz0, hz1, hz2⟩ := info_parts infoU8
  have hs1 : (Try.prog.info? 5).map (·.size) = some 1 := by rw [hi0]; simp [hz1]
  obtain ⟨Z, hZ⟩ : ∃ Z, Z = List.replicate 1024 (0 : Int) := ⟨_, rfl⟩
  have hmk : ∀ W : World, (Instr.makeSlice 23 (.int .i64 1024) (.int .i64 1024)).run Try.prog W = .ok (.slice (some ⟨W.heap.size, 0, none⟩) 1024 1024) (W.alloc (.cells (bs Z).toArray 5)) := fun W => by
    have h := run_makeSlice (P := Try.prog) W 23 5 i0 (.int .u8 0) Try.underlying23 hi0 hz0 .i64 .i64 1024 1024 (by omega) (by omega) (by rw [hz1]; decide) (by rw [hz2]; decide) (by decide)
    rw [h, hz1, hZ]
    simp only [show Int.toNat 1024 = 1024 from rfl, Nat.mul_one]
    rw [show (Value.int IntKind.u8 0).cells = #[Value.int IntKind.u8 0] from rfl, madeCells_one, bs_replicate]
  have hZl : Hid (Z.length = 1024) := by unfold Hid; rw [hZ, List.length_replicate]
  have HZ := Lib.hid hZ
  clear hZ
  have HB0 : Hid ((w.alloc (.cells (bs Z).toArray 5)).heap[w.heap.size]? = some (Obj.cells (bs Z).toArray 5 (0, 0))) := at_alloc w _
  have HM0 : Hid (Mod [] w (w.alloc (.cells (bs Z).toArray 5))) := Mod.of_alloc w _
  have HH := Lib.hid h
  have HLN := Lib.hid hln
  have hcr := crcv_range (fr0 no l)
  obtain ⟨CR, hCR⟩ : ∃ CR, CR = crcv (fr0 no l) := ⟨_, rfl⟩
  rw [← hCR] at hcr
  have HCR := Lib.hid hCR
  have HF0 := Lib.hid (fr0_len (no := no) (l := l) (by omega))
  clear h hln hCR
  go_enter Try.func27, Try.ntmps27
  have HS1 := Lib.hid (HH.out.sl.mod HM0.out (by simp))
  go_wp2_with (first
    | ((refine wpList_copy_splice rfl _ _ _ _ rfl 5 Try.underlying23 hs1 _ _ _ _ _ _ rfl rfl w.heap.size 0 _ _ HB0.out (bs l) (by rw [bs_len, HLN.out]; exact (Nat.min_eq_left (by omega)).symm) (fun hpos => ⟨rfl, by
        obtain ⟨b, off, e, _, hc⟩ := HS1.out.addr (by rw [bs_len, HLN.out] at hpos; exact hpos)
        exact ⟨_, e, fun j v hj => by rw [add_plain]; exact hc j v hj⟩⟩) (by rw [bs_len, bs_len, HLN.out, hZl.out]; omega) (bs_one _) w.heap.size w HM0.out.below (Nat.le_refl _) ?_); intro w1 hat1 hbel1; (have HB1 : Hid (Below w.heap.size w w1) := hbel1); clear hbel1)
    | go_in)
  have hL1 : splice (bs Z) 0 (bs l) = bs (pad 1016 l ++ List.replicate 8 0) := by
    rw [splice_bs, HZ.out]
    congr 1
    unfold pad
    rw [List.take_zero, List.nil_append, Nat.zero_add, List.drop_replicate, List.append_assoc, List.replicate_append_replicate]
    congr 2
    have := HLN.out; omega
  rw [hL1] at hat1
  have HPL := Lib.hid (pad_len (n := 1016) (p := l) (by rw [HLN.out]; omega))
  generalize (bs l).length = ln
  simp only [Act.put, List.setIfInBounds_toArray, List.set_cons_zero, List.set_cons_succ]
  have hbb : w.heap.size = w.heap.size := rfl
  generalize hBB : w.heap.size = B at *
  have HBB := Lib.hid hBB
  have r1016 : ∀ W : World, (Instr.slice 23 (.slice (some ⟨B, 0, none⟩) 1024 1024) (some (.int .i64 1016)) none none).run Try.prog W = .ok (.slice (some ⟨B, 1016, none⟩) 8 8) W := fun W => by
    rw [run_slice_l W _ _ _ _ Try.underlying23 .i64 1016 (by omega) (by omega), sizeBytes]; simp [Result.andThen, sliced, Addr.add]
  have r1020 : ∀ W : World, (Instr.slice 23 (.slice (some ⟨B, 0, none⟩) 1024 1024) (some (.int .i64 1020)) none none).run Try.prog W = .ok (.slice (some ⟨B, 1020, none⟩) 4 4) W := fun W => by
    rw [run_slice_l W _ _ _ _ Try.underlying23 .i64 1020 (by omega) (by omega), sizeBytes]; simp [Result.andThen, sliced, Addr.add]
  have r1020h : ∀ W : World, (Instr.slice 23 (.slice (some ⟨B, 0, none⟩) 1024 1024) none (some (.int .i64 1020)) (some (.int .i64 1020))).run Try.prog W = .ok (.slice (some ⟨B, 0, none⟩) 1020 1020) W := fun W => by
    rw [run_slice_hm W _ _ _ _ Try.underlying23 .i64 .i64 1020 1020 (by omega) (by omega) (by omega), sizeBytes]; simp [Result.andThen, sliced, Addr.add]
  have HB1' : Hid (Below B w w1.drew) := HB1.out.drew
  have HA1 : Hid (w1.drew.heap[B]? = some (Obj.cells (bs (pad 1016 l ++ List.replicate 8 0)).toArray 5 (0, 0))) := hat1.out
  clear hL1 hat1 HB1 hbb hBB hmk HB0 HM0 HS1
  go_wp2
  go_region_held3 (fun w' => True)
    (first | go_keep | trivial | fail)
    (first
      | (go_at_call 38; refine (put32_any no _ (by omega) (by omega)).mono ?_; rintro _ w2 ⟨_, rfl, p2, n2, c2, rfl, e2, s2, m2⟩; (obtain rfl : n2 = 4 := by rw [e2, be_len]); (have S2 := Lib.hid s2); (have HA2 := Lib.hid (m2.at HA1.out (by simp))); (have HB2 : Hid (Below B w w2) := HB1'.out.trans (m2.below.mono (by rw [← HBB.out]; exact HB1'.out.size))); clear e2 s2 m2)
      | (refine step_copy_splice rfl _ _ _ _ (by rfl) 5 Try.underlying23 hs1 _ _ _ _ _ _ (by rfl) (by rfl) B 1016 _ _ HA2.out (bs (be 4 no)) (by rw [bs_len, be_len]; rfl) (fun _ => ⟨rfl, by
          obtain ⟨b, off, e, _, hc⟩ := S2.out.addr (by omega)
          exact ⟨_, e, fun j v hj => by rw [add_plain]; exact hc j v hj⟩⟩) (by rw [bs_len, bs_len, be_len, List.length_append, HPL.out, List.length_replicate]; omega) (bs_one _) B w HB2.out (Nat.le_refl _) ?_; intro w3 hat3 hbel3; (have HB3 : Hid (Below B w w3) := hbel3); clear hbel3)
      | fail)
  have hL3 : splice (bs (pad 1016 l ++ List.replicate 8 0)) 1016 (bs (be 4 no)) = bs (fr0 no l ++ List.replicate 4 0) := by
    rw [splice_bs, be_len]
    congr 1
    unfold fr0
    rw [List.take_append_of_le_length (by rw [HPL.out]; omega), List.take_of_length_le (by rw [HPL.out]; omega), List.drop_append, HPL.out, List.drop_of_length_le (by rw [HPL.out]; omega)]
    rfl
  rw [hL3] at hat3
  have HA3 := Lib.hid hat3.out
  have HB3' : Hid (Below B w w3.drew) := HB3.out.drew
  have HA3' : Hid (w3.drew.heap[B]? = some (Obj.cells (bs (fr0 no l ++ List.replicate 4 0)).toArray 5 (0, 0))) := HA3.out
  have HIN : Hid (BytesIn w3.drew (some ⟨B, 0, none⟩) 1020 1020 (fr0 no l)) := by
    have hat := HA3'.out
    refine ⟨⟨by rw [bs_len, HF0.out], Nat.le_refl _, by simp [maxLen], bs_one _, B, 0, fun _ => ⟨rfl, lt_of_at hat⟩, fun j u hj => ?_⟩, fun x hx => ?_⟩
    · rw [cell_of_at hat, Nat.zero_add, List.getElem?_toArray, bs_append]
      rw [List.getElem?_append_left (List.getElem?_eq_some_iff.1 hj).1]; exact hj
    · simp only [fr0, pad, List.mem_append] at hx
      rcases hx with (hx | hx) | hx
      · exact HH.out.wf x hx
      · rw [List.eq_of_mem_replicate hx]; omega
      · exact be_wf _ _ _ hx
  clear hL3 hat3 HB3 HA3 HA2 HB2 HA1 HB1' S2
  simp only [Act.put, List.setIfInBounds_toArray, List.set_cons_zero, List.set_cons_succ, bs_len, be_len]
  go_wp2
  go_region_held3 (fun w' => True)
    (first | go_keep | trivial | fail)
    (first
      | (go_at_call 39; refine (sum_any _ _ _ _ _ HIN.out).mono ?_; rintro _ w4 ⟨_, rfl, rfl, m4⟩; (have HA4 := Lib.hid (m4.at HA3'.out (by simp))); (have HB4 : Hid (Below B w w4) := HB3'.out.trans (m4.below.mono (by rw [← HBB.out]; exact HB3'.out.size))); (rw [← HCR.out]); clear m4)
      | (go_at_call 38; refine (put32_any CR _ (by omega) (by omega)).mono ?_; rintro _ w5 ⟨_, rfl, p5, n5, c5, rfl, e5, s5, m5⟩; (obtain rfl : n5 = 4 := by rw [e5, be_len]); (have S5 := Lib.hid s5); (have HA5 := Lib.hid (m5.at HA4.out (by simp))); (have HB5 : Hid (Below B w w5) := HB4.out.trans (m5.below.mono (by rw [← HBB.out]; exact HB4.out.size))); clear e5 s5 m5)
      | (refine step_copy_splice rfl _ _ _ _ (by rfl) 5 Try.underlying23 hs1 _ _ _ _ _ _ (by rfl) (by rfl) B 1020 _ _ HA5.out (bs (be 4 CR)) (by rw [bs_len, be_len]; rfl) (fun _ => ⟨rfl, by
          obtain ⟨b, off, e, _, hc⟩ := S5.out.addr (by omega)
          exact ⟨_, e, fun j v hj => by rw [add_plain]; exact hc j v hj⟩⟩) (by rw [bs_len, bs_len, be_len, List.length_append, HF0.out, List.length_replicate]; omega) (bs_one _) B w HB5.out (Nat.le_refl _) ?_; intro w6 hat6 hbel6; (have HB6 : Hid (Below B w w6) := hbel6); clear hbel6)
      | fail)
  have hL6 : splice (bs (fr0 no l ++ List.replicate 4 0)) 1020 (bs (be 4 CR)) = bs (fr no l) := by
    rw [splice_bs, be_len]
    congr 1
    unfold fr
    rw [← HCR.out, List.take_append_of_le_length (by rw [HF0.out]; omega), List.take_of_length_le (by rw [HF0.out]; omega), List.drop_append, HF0.out, List.drop_of_length_le (by rw [HF0.out]; omega)]
    simp
  rw [hL6] at hat6
  have HA6 := Lib.hid hat6.out
  clear hat6 hL6
  simp only [Act.put, List.setIfInBounds_toArray, List.set_cons_zero, List.set_cons_succ, bs_len, be_len]
  go_wp2
  go_ret2
  refine .mk ⟨B, rfl, by rw [HBB.out]; exact Nat.le_refl _, HA6.out, ?_⟩
  have := HB6.out
  rw [← HBB.out] at this
  exact Mod.of_below this
end Go.Proofs.Ytgimdodbajhpoaa
