/- The statements' own first look at the pool answers true. -/
import Derived.Test.YtibkhdlddllcjaaDoorPoolNewD
namespace Go.Proofs.YtibkhdlddllcjaaDoor
open Go.RowKit Go.Maps
set_option linter.unusedSimpArgs false
set_option linter.unusedVariables false

def AwakeR (w : World) (v : Value) (w' : World) : Prop := v = .bool true ∧ Mod [] w w'
set_option maxRecDepth 100000 in
set_option maxHeartbeats 400000 in
theorem awake_any (w : World) : Calls Tryd.prog 5 #[] w (Ret (AwakeR w)) := by
  have hin : FreedIn (w.alloc (.cells #[.int .i64 3, .int .u64 9, .int .i64 2, .int .u64 7] 35)) (some ⟨w.heap.size, 0, none⟩) 2 2 [(3, 9), (2, 7)] :=
    ⟨Sl.new w [.int .i64 3, .int .u64 9, .int .i64 2, .int .u64 7] _ 2 2 rfl (by unfold maxLen; omega) (by simp [Value.oneCell']), by simp⟩
  have HIN := Lib.hid hin
  clear hin
  go_enter Tryd.func5, Tryd.ntmps5
  go_wp2_with fail
  refine (new_any _ _ _ _ _ _ _ HIN.out).mono ?_
  rintro _ w1 ⟨_, rfl, m1, h1⟩
  have m1' := (Mod.refl [] w).alloc.same m1
  clear m1
  obtain ⟨sb, bm, rfl, h1, hsb, hbm⟩ := h1
  go_wp2_with fail
  refine (alloc_any sb bm _ _ _ h1).mono ?_
  rintro _ w2 ⟨_, rfl, rfl, h2, m2⟩
  go_wp2_with fail
  refine (alloc_any sb bm _ _ _ h2).mono ?_
  rintro _ w3 ⟨_, rfl, rfl, h3, m3⟩
  go_wp2_with fail
  refine (alloc_any sb bm _ _ _ h3).mono ?_
  rintro _ w4 ⟨_, rfl, rfl, h4, m4⟩
  go_wp2_with fail
  refine (alloc_any sb bm _ _ _ h4).mono ?_
  rintro _ w5 ⟨_, rfl, rfl, h5, m5⟩
  go_wp2
  go_ret
  exact .mk ⟨rfl, m1'.trans (m2.same (m3.same (m4.same m5))) (by have := m1'.size; simp at hsb hbm ⊢; omega)⟩
end Go.Proofs.YtibkhdlddllcjaaDoor
