/- The statements' own first look at the registry answers true. -/
import Derived.Test.YtghpmhpbccgdcaaSnap
import Derived.BigQuiet
import Derived.RegionCalls
namespace Go.Proofs.Ytghpmhpbccgdcaa
open Go.RowKit Go.Maps

def AwakeR (w : World) (v : Value) (w' : World) : Prop := v = .bool true ∧ Mod [] w w'
set_option maxHeartbeats 400000 in
theorem awake_any (w : World) : Calls Try.prog 7 #[] w (Ret (AwakeR w)) := by
  go_enter Try.func7, Try.ntmps7
  go_wp2_with fail
  refine (new_any _).mono ?_
  rintro _ w1 ⟨_, rfl, sb, bm, rfl, h1, m1, hsb, hbm⟩
  go_wp2_with fail
  refine (open_any sb bm _ _ _ h1 (by decide) (by decide) (by decide)).mono ?_
  rintro _ w2 ⟨_, rfl, rfl, h2, m2⟩
  go_wp2_with fail
  refine (open_any sb bm _ _ _ h2 (by decide) (by decide) (by decide)).mono ?_
  rintro _ w3 ⟨_, rfl, rfl, h3, m3⟩
  go_wp2_with fail
  refine (horizon_any sb bm _ _ _ h3).mono ?_
  rintro _ w4 ⟨_, rfl, rfl, h4, m4⟩
  go_wp2_with fail
  refine (close_any sb bm _ _ _ h4 (by decide) (by decide)).mono ?_
  rintro _ w5 ⟨_, rfl, rfl, h5, m5⟩
  go_wp2_with fail
  refine (horizon_any sb bm _ _ _ h5).mono ?_
  rintro _ w6 ⟨_, rfl, rfl, h6, m6⟩
  go_wp2_with fail
  refine (close_any sb bm _ _ _ h6 (by decide) (by decide)).mono ?_
  rintro _ w7 ⟨_, rfl, rfl, h7, m7⟩
  go_wp2_with fail
  go_ret
  have hm : Mod [sb, bm] w1 w7 := m2.same (m3.same ((m4.mono (by simp)).same (m5.same ((m6.mono (by simp)).same m7))))
  exact .mk ⟨rfl, m1.trans hm (by simp; omega)⟩
end Go.Proofs.Ytghpmhpbccgdcaa
