/- What the document fixes ahead of the laws on metas. -/
import Derived.Test.YtbbjfgjbjghdiaaDoorMetaPure
namespace Go.Proofs.YtbbjfgjbjghdiaaDoor
open Go.RowKit Go.Maps
set_option linter.unusedSimpArgs false
set_option linter.unusedVariables false

/-- An act on a disk that was made behind the world w0. -/
theorem DkR.step {D : Nat} {T : List Nat} {k : Ck} {r v : Value} {w0 w w' : World} (h : DkR D T k r w v w') (hm : Mod [] w0 w) (hT : ∀ b ∈ T, w0.heap.size ≤ b) :
    v = r ∧ ∃ T', DiskAt w' D T' k ∧ (∀ b ∈ T', w0.heap.size ≤ b) ∧ Mod [] w0 w' := by
  obtain ⟨h1, T', h2, h3, h4⟩ := h
  exact ⟨h1, T', h2, fun b hb => (h4 b hb).elim (hT b) fun h => Nat.le_trans hm.size h, hm.trans h3 fun b hb => Or.inr (hT b hb)⟩

def ma1 : Mt := ⟨1, 2, 0, 0⟩
def ma2 : Mt := ⟨2, 2, 0, 0⟩
def ka1 : Ck := (ck0 2).push 1 (fr 1 (payM ma1))
def ka2 : Ck := ka1.push 0 (fr 0 (payM ma2))
theorem ka_newest : ka2.newest = (ma2, 0) := by
  have h0 : ka2.told 0 = (ma2, true) := told_fr (((ck0_on.push _ _).push _ _).there (Or.inl rfl)) (by unfold ka2; rw [Ck.seen_push, if_pos rfl]) (by decide) (by decide)
  have h1 : ka2.told 1 = (ma1, true) := told_fr (((ck0_on.push _ _).push _ _).there (Or.inr rfl)) (by unfold ka2 ka1; rw [Ck.seen_push, if_neg (by decide), Ck.seen_push, if_pos rfl]) (by decide) (by decide)
  have hb : ka2.best 2 = ma2 := by
    show newer (newer mt0 (ka2.told 0)) (ka2.told 1) = ma2
    rw [h0, h1]; rfl
  unfold Ck.newest; rw [hb]; rfl
theorem fromM_nil : fromM [] = (⟨0, 0, 0, 0⟩, 5) := fromM_bad (by simp)

set_option maxRecDepth 100000 in
set_option maxHeartbeats 4000000 in
theorem awake_any (w : World) : Calls Tryd.prog 8 #[] w (Ret (BoolMd true w)) := by
  have HW1 : Hid ((ck0 2).mwrite ma1 = (0, ka1)) := ck0_on.mwrite (by decide)
  have HW2 : Hid (ka1.mwrite ma2 = (0, ka2)) := (ck0_on.push _ _).mwrite (by decide)
  have HW3 : Hid (ka2.mwrite mt0 = (1, ka2)) := by unfold Hid Ck.mwrite; rw [if_pos (by decide)]
  have hl0 : (ck0 2).wait.length ≤ 1000000 := by simp [ck0]
  have hl1 : ka1.wait.length ≤ 1000000 := by simp [ka1, Ck.push, ck0]
  have hl2 : ka2.wait.length ≤ 1000000 := by simp [ka2, ka1, Ck.push, ck0]
  have HMW1 := fun D T W h => mwrite_any D T (ck0 2) ma1 W h hl0
  have HMW2 := fun D T W h => mwrite_any D T ka1 ma2 W h hl1
  have HMW3 := fun D T W h => mwrite_any D T ka2 mt0 W h hl2
  have HNW := fun D T W h => newest_any D T ka2 W h
  have HFP := fun W => fromm_any none 0 0 [] W ⟨Sl.nil W 1, by simp⟩
  simp only [HW1.out, HW2.out, HW3.out, ka_newest, FromMR, fromM_nil, NewestR] at HMW1 HMW2 HMW3 HNW HFP
  simp only [Mt.cells, ma1, ma2, mt0] at HMW1 HMW2 HMW3 HNW HFP
  clear hl0 hl1 hl2 HW1 HW2 HW3
  generalize ka1 = k1 at *
  generalize ka2 = k2 at *
  go_enter Tryd.func8, Tryd.ntmps8
  go_wp2_with fail
  refine (dnew_any 2 2 w (by decide)).mono ?_
  rintro _ w1 ⟨_, rfl, D, T1, rfl, h1, m1, t1⟩
  have H1 := Lib.hid h1
  have M1 := Lib.hid m1
  have T1' := Lib.hid t1
  clear h1 m1 t1
  go_wp2_with fail
  refine (HMW1 D T1 _ H1.out).mono ?_
  rintro _ w2 ⟨_, rfl, h2⟩
  obtain ⟨rfl, T2, h2, t2, m2⟩ := h2.step M1.out T1'.out
  have H2 := Lib.hid h2
  have M2 := Lib.hid m2
  have T2' := Lib.hid t2
  clear h2 m2 t2 H1 M1 T1' HMW1
  go_wp2_with fail
  refine (HMW2 D T2 _ H2.out).mono ?_
  rintro _ w3 ⟨_, rfl, h3⟩
  obtain ⟨rfl, T3, h3, t3, m3⟩ := h3.step M2.out T2'.out
  have H3 := Lib.hid h3
  have M3 := Lib.hid m3
  have T3' := Lib.hid t3
  clear h3 m3 t3 H2 M2 T2' HMW2
  go_wp2_with fail
  refine (HMW3 D T3 _ H3.out).mono ?_
  rintro _ w4 ⟨_, rfl, h4⟩
  obtain ⟨rfl, T4, h4, t4, m4⟩ := h4.step M3.out T3'.out
  have H4 := Lib.hid h4
  have M4 := Lib.hid m4
  clear h4 m4 t4 H3 M3 T3' HMW3
  go_wp2_with fail
  refine (HNW D T4 _ H4.out).mono ?_
  rintro _ w5 ⟨_, rfl, rfl, m5⟩
  simp only [Mt.cells]
  have M5 : Hid (Mod [] w w5) := M4.out.same m5
  clear m5 H4 M4 HNW
  have HA6 := at_alloc w5 (.cells #[.int .u64 2, .int .i64 2, .int .i64 0, .int .i64 0] 24)
  have HA6' := Lib.hid HA6
  have M6 : Hid (Mod [] w (w5.alloc (.cells #[.int .u64 2, .int .i64 2, .int .i64 0, .int .i64 0] 24))) := M5.out.alloc
  have hsz : w5.heap.size < (w5.alloc (.cells #[.int .u64 2, .int .i64 2, .int .i64 0, .int .i64 0] 24)).heap.size := lt_of_at HA6
  clear HA6
  go_wp2_with fail
  refine (HFP _).mono ?_
  rintro _ w7 ⟨_, rfl, rfl, m7⟩
  try simp only [fromM_nil, Mt.cells]
  have c7 : w7.cell? ⟨w5.heap.size, 0, none⟩ = some (.int .u64 2) := cell_of_at (m7.at HA6'.out (by simp)) 0
  have hsz7 : w5.heap.size < w7.heap.size := Nat.lt_of_lt_of_le hsz m7.size
  have M7 : Hid (Mod [] w w7) := M6.out.same m7
  clear m7 HA6' M6 M5 hsz
  go_wp2
  go_ret
  exact .mk ⟨rfl, by first | exact M7.out.alloc | exact M7.out⟩
end Go.Proofs.YtbbjfgjbjghdiaaDoor
