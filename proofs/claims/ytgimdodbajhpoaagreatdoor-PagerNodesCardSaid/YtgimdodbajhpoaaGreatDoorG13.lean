/- Clone. -/
import Derived.Test.YtgimdodbajhpoaaGreatDoorG07
import Derived.Test.YtgimdodbajhpoaaGreatDoorG01
namespace Go.Proofs.YtgimdodbajhpoaaGreatDoor
open Go.RowKit Go.Maps
set_option linter.unusedSimpArgs false
set_option linter.unusedVariables false

def MapCloneR (bm : Nat) (m : List (Int × Int)) (w : World) (v : Value) (w' : World) : Prop := ∃ b, v = .map (some b) ∧ MapI Tryz.prog 3 37 .u64 w' b m ∧ Mod [] w w' ∧ w.heap.size ≤ b
theorem mapclone_any (bm : Nat) (m : List (Int × Int)) (w : World) (h : MapI Tryz.prog 3 37 .u64 w bm m) :
    Calls Tryz.prog 34 #[.map (some bm)] w (Ret (MapCloneR bm m w)) := by
  refine (AnyW.maps_Clone_owns Tryz.cloneA 3 _ bm _ _ w h.own).mono ?_
  rintro _ w' ⟨rfl, h1, _, hB⟩
  exact ⟨_, rfl, w.heap.size, rfl, ⟨h1, h.srt⟩, Mod.of_below hB, Nat.le_refl _⟩

def CloneR (s : PS) (w : World) (v : Value) (w' : World) : Prop := ∃ sb' bm', v = .pointer (some ⟨sb', 0, none⟩) ∧ PoolAt w' sb' bm' s ∧ Mod [] w w' ∧ w.heap.size ≤ sb' ∧ w.heap.size ≤ bm'
set_option maxRecDepth 100000 in
set_option maxHeartbeats 1000000 in
theorem pclone_any (sb bm : Nat) (s : PS) (w : World) (hr : PoolAt w sb bm s) :
    Calls Tryz.prog 23 #[.pointer (some ⟨sb, 0, none⟩)] w (Ret (CloneR s w)) := by
  have c0 : w.cell? ⟨sb, 0, none⟩ = some (.int .i64 s.cap) := cell_of_at hr.at_ 0
  have c1 : w.cell? ⟨sb, 1, none⟩ = some (.int .i64 s.high) := cell_of_at hr.at_ 1
  have c2 : w.cell? ⟨sb, 2, none⟩ = some (.map (some bm)) := cell_of_at hr.at_ 2
  have hlt := lt_of_at hr.at_
  have HR := Lib.hid hr
  clear hr
  go_enter Tryz.func23, Tryz.ntmps23
  go_wp2
  go_region_held3 (fun w' => w'.cell? ⟨sb, 0, none⟩ = some (.int .i64 s.cap) ∧ w'.cell? ⟨sb, 1, none⟩ = some (.int .i64 s.high) ∧ w'.cell? ⟨sb, 2, none⟩ = some (.map (some bm)))
    (first
      | go_keep
      | (exact ⟨(M3.out.cell (a := ⟨sb, 0, none⟩) hlt (by simp)).trans c0, (M3.out.cell (a := ⟨sb, 1, none⟩) hlt (by simp)).trans c1, (M3.out.cell (a := ⟨sb, 2, none⟩) hlt (by simp)).trans c2⟩)
      | (exact ⟨(M3.out.alloc.cell (a := ⟨sb, 0, none⟩) hlt (by simp)).trans c0, (M3.out.alloc.cell (a := ⟨sb, 1, none⟩) hlt (by simp)).trans c1, (M3.out.alloc.cell (a := ⟨sb, 2, none⟩) hlt (by simp)).trans c2⟩))
    (first
      | (go_at_call 34; refine (mapclone_any bm s.m _ (HR.out.map.mod (Mod.refl [] w).drew (by simp))).mono ?_; rintro _ w3 ⟨_, rfl, b3, rfl, h3, m3, hb3⟩; (have H3 := Lib.hid h3); (have M3 := Lib.hid ((Mod.refl [] w).drew.same m3)); (have HB3 := Lib.hid (show w.heap.size ≤ b3 from hb3)); clear h3 m3 hb3))
  all_goals
    go_wp2
    go_ret
    exact .mk ⟨w3.heap.size, b3, rfl, ⟨at_alloc _ _, H3.out.mod (Mod.of_alloc _ _) (by simp), HR.out.ok⟩, M3.out.alloc, M3.out.size, HB3.out⟩
end Go.Proofs.YtgimdodbajhpoaaGreatDoor
