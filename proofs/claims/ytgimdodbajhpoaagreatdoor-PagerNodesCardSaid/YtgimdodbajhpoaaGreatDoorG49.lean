/- Nodes of either kind: read through a pager, or from a disk. -/
import Derived.Test.YtgimdodbajhpoaaGreatDoorG46
import Derived.Test.YtgimdodbajhpoaaGreatDoorG30
namespace Go.Proofs.YtgimdodbajhpoaaGreatDoor
open Go.RowKit Go.Maps
set_option linter.unusedSimpArgs false
set_option linter.unusedVariables false

inductive Nd where
  | lf (cs : List Cl)
  | br (ks : List (List Int)) (kids : List Int)
def Nd.may : Nd → Bool
  | .lf cs => mayLeaf cs
  | .br ks kids => mayBr ks kids
def Nd.pay : Nd → List Int
  | .lf cs => payLeaf cs
  | .br ks kids => payBr ks kids
theorem Nd.pay_len (x : Nd) : x.pay.length ≤ 1016 := by cases x; exact payLeaf_len _; exact payBr_len _ _
/-- A node in memory. -/
def NdN (w : World) (v : Value) : Nd → Prop
  | .lf cs => ∃ L xs, v = .iface 78 (.pointer (some ⟨L, 0, none⟩)) ∧ LeafN w L xs ∧ xs.map Cv.pl = cs
  | .br ks kids => ∃ B kv, v = .iface 49 (.pointer (some ⟨B, 0, none⟩)) ∧ BrN w B kv kids ∧ kv.map Bv.l = ks
theorem NdN.mod {w w' : World} {S : List Nat} {v : Value} {x : Nd} (h : NdN w v x) (hm : Mod S w w') (hS : ∀ b ∈ S, ¬ Nb w b) : NdN w' v x := by
  cases x with
  | lf cs => obtain ⟨L, xs, h1, h2, h3⟩ := h; exact ⟨L, xs, h1, h2.mod hm hS, h3⟩
  | br ks kids => obtain ⟨B, kv, h1, h2, h3⟩ := h; exact ⟨B, kv, h1, h2.mod hm hS, h3⟩
theorem NdN.mod0 {w w' : World} {v : Value} {x : Nd} (h : NdN w v x) (hm : Mod [] w w') : NdN w' v x := h.mod hm (by simp)
/-- All that a node is made of lies at or beyond a place. -/
def NdA (base : Nat) (w : World) (v : Value) (x : Nd) : Prop := match x with
  | .lf cs => ∃ L xs, v = .iface 78 (.pointer (some ⟨L, 0, none⟩)) ∧ LeafN w L xs ∧ LeafA base w L xs ∧ xs.map Cv.pl = cs
  | .br ks kids => ∃ B kv, v = .iface 49 (.pointer (some ⟨B, 0, none⟩)) ∧ BrN w B kv kids ∧ BrA base w B kv ∧ kv.map Bv.l = ks
theorem NdA.nd {base : Nat} {w : World} {v : Value} {x : Nd} (h : NdA base w v x) : NdN w v x := by
  cases x with
  | lf cs => obtain ⟨L, xs, h1, h2, _, h3⟩ := h; exact ⟨L, xs, h1, h2, h3⟩
  | br ks kids => obtain ⟨B, kv, h1, h2, _, h3⟩ := h; exact ⟨B, kv, h1, h2, h3⟩
theorem NdA.le {base base' : Nat} {w : World} {v : Value} {x : Nd} (h : NdA base w v x) (hb : base' ≤ base) : NdA base' w v x := by
  cases x with
  | lf cs => obtain ⟨L, xs, h1, h2, h4, h3⟩ := h; exact ⟨L, xs, h1, h2, h4.le hb, h3⟩
  | br ks kids => obtain ⟨B, kv, h1, h2, h4, h3⟩ := h; exact ⟨B, kv, h1, h2, h4.le hb, h3⟩
def NodeR (x : Nd) (w : World) (v : Value) (w' : World) : Prop := ∃ u, v = .tuple #[u, .int .i64 0] ∧ NdA w.heap.size w' u x ∧ Mod [] w w'
theorem frompay_nd (p : Option Addr) (c : Nat) (b : List Int) (x : Nd) (w : World) (h : BytesIn w p 1016 c b) (hm : x.may = true) (hb : b = pad 1016 x.pay) :
    Calls Tryz.prog 36 #[.slice p 1016 c] w (Ret (NodeR x w)) := by
  cases x with
  | lf cs =>
    refine (frompay_leaf p c b cs w h hm hb).mono ?_
    rintro _ w' ⟨_, rfl, L, xs, rfl, h1, h4, h2, h3⟩
    exact .mk ⟨_, rfl, ⟨L, xs, rfl, h1, h4, h2⟩, h3⟩
  | br ks kids =>
    refine (frompay_br p c b ks kids w h hm hb).mono ?_
    rintro _ w' ⟨_, rfl, B, kv, rfl, h1, h4, h2, h3⟩
    exact .mk ⟨_, rfl, ⟨B, kv, rfl, h1, h4, h2⟩, h3⟩
theorem pad16_len {l : List Int} (h : l.length ≤ 1016) : (pad 1016 l).length = 1016 := by unfold pad; simp; omega
set_option maxRecDepth 100000 in
set_option maxHeartbeats 1000000 in
theorem told_p (X : Nat) (T : List Nat) (D : Nat) (Td : List Nat) (m : Pm) (k : Ck) (no : Int) (x : Nd) (w : World) (h : PgrAt w X T D m) (hd : DiskAt w D Td k) (h0 : -9223372036854775808 ≤ no ∧ no ≤ 9223372036854775807) (hr : m.read k no = (pad 1016 x.pay, 0)) (hm : x.may = true) :
    Calls Tryz.prog 26 #[.int .i64 no, .func (.func 18) #[.pointer (some ⟨X, 0, none⟩)] #[]] w (Ret (NodeR x w)) := by
  have HR := Lib.hid (pgrread_any X T D Td m k no w h hd h0)
  rw [hr] at HR
  have HM := Lib.hid hm
  clear h hd h0 hr hm
  go_enter Tryz.func26, Tryz.ntmps26
  go_wp2_with fail
  refine HR.out.mono ?_
  rintro _ w1 ⟨_, rfl, p, n, c, rfl, hn, hb, -, m1⟩
  obtain rfl : n = 1016 := by rw [hn]; exact pad16_len x.pay_len
  have HB := Lib.hid hb
  have M1 := Lib.hid m1
  clear hn hb m1 HR
  go_wp2_with fail
  refine (frompay_nd p c _ x w1 HB.out HM.out rfl).mono ?_
  rintro _ w2 ⟨_, rfl, u, rfl, h2, m2⟩
  have H2 := Lib.hid (h2.le M1.out.size)
  have M2 := Lib.hid (M1.out.same m2)
  clear h2 m2
  go_wp2
  go_ret2
  exact .mk ⟨u, rfl, H2.out, M2.out⟩
set_option maxRecDepth 100000 in
theorem pgrnode_any (X : Nat) (T : List Nat) (D : Nat) (Td : List Nat) (m : Pm) (k : Ck) (no : Int) (x : Nd) (w : World) (h : PgrAt w X T D m) (hd : DiskAt w D Td k) (h0 : -9223372036854775808 ≤ no ∧ no ≤ 9223372036854775807) (hr : m.read k no = (pad 1016 x.pay, 0)) (hm : x.may = true) :
    Calls Tryz.prog 12 #[.pointer (some ⟨X, 0, none⟩), .int .i64 no] w (Ret (NodeR x w)) := by
  have HT := Lib.hid (told_p X T D Td m k no x w h hd h0 hr hm)
  clear h hd h0 hr hm
  go_enter Tryz.func12, Tryz.ntmps12
  go_wp2_with fail
  refine HT.out.mono ?_
  rintro _ w1 ⟨_, rfl, u, rfl, h1, m1⟩
  have H1 := Lib.hid h1
  have M1 := Lib.hid m1
  clear h1 m1 HT
  go_wp2
  go_ret2
  exact .mk ⟨u, rfl, H1.out, M1.out⟩
/-- The closure that reads a disk's page. -/
theorem node1_any (D Bx : Nat) (Td : List Nat) (k : Ck) (no : Int) (w : World) (hd : DiskAt w D Td k) (hx : w.cell? ⟨Bx, 0, none⟩ = some (.pointer (some ⟨D, 0, none⟩))) :
    Calls Tryz.prog 27 #[.int .i64 no, .pointer (some ⟨Bx, 0, none⟩)] w (Ret (ReadR (k.load no) w)) := by
  have HL := Lib.hid (load_any D Td k no w hd)
  clear hd
  go_enter Tryz.func27, Tryz.ntmps27
  go_wp2_with fail
  refine HL.out.mono ?_
  rintro _ w1 ⟨_, rfl, p, n, c, rfl, hr⟩
  have HR := Lib.hid hr
  clear hr HL
  go_wp2
  go_ret2
  exact .mk ⟨p, n, c, rfl, HR.out⟩
set_option maxRecDepth 100000 in
set_option maxHeartbeats 1000000 in
theorem told_d (D Bx : Nat) (Td : List Nat) (k : Ck) (no : Int) (x : Nd) (w : World) (hd : DiskAt w D Td k) (hx : w.cell? ⟨Bx, 0, none⟩ = some (.pointer (some ⟨D, 0, none⟩))) (hr : k.load no = (pad 1016 x.pay, 0)) (hm : x.may = true) :
    Calls Tryz.prog 26 #[.int .i64 no, .func (.func 27) #[] #[.pointer (some ⟨Bx, 0, none⟩)]] w (Ret (NodeR x w)) := by
  have HR := Lib.hid (node1_any D Bx Td k no w hd hx)
  rw [hr] at HR
  have HM := Lib.hid hm
  clear hd hx hr hm
  go_enter Tryz.func26, Tryz.ntmps26
  go_wp2_with fail
  refine HR.out.mono ?_
  rintro _ w1 ⟨_, rfl, p, n, c, rfl, hn, hb, -, m1⟩
  obtain rfl : n = 1016 := by rw [hn]; exact pad16_len x.pay_len
  have HB := Lib.hid hb
  have M1 := Lib.hid m1
  clear hn hb m1 HR
  go_wp2_with fail
  refine (frompay_nd p c _ x w1 HB.out HM.out rfl).mono ?_
  rintro _ w2 ⟨_, rfl, u, rfl, h2, m2⟩
  have H2 := Lib.hid (h2.le M1.out.size)
  have M2 := Lib.hid (M1.out.same m2)
  clear h2 m2
  go_wp2
  go_ret2
  exact .mk ⟨u, rfl, H2.out, M2.out⟩
set_option maxRecDepth 100000 in
theorem told_dno (D Bx : Nat) (Td : List Nat) (k : Ck) (no : Int) (w : World) (hd : DiskAt w D Td k) (hx : w.cell? ⟨Bx, 0, none⟩ = some (.pointer (some ⟨D, 0, none⟩))) (hr : k.load no = ([], 4)) :
    Calls Tryz.prog 26 #[.int .i64 no, .func (.func 27) #[] #[.pointer (some ⟨Bx, 0, none⟩)]] w (Ret fun v w' => v = .tuple #[.nilIface, .int .i64 4] ∧ Mod [] w w') := by
  have HR := Lib.hid (node1_any D Bx Td k no w hd hx)
  rw [hr] at HR
  clear hd hx hr
  go_enter Tryz.func26, Tryz.ntmps26
  go_wp2_with fail
  refine HR.out.mono ?_
  rintro _ w1 ⟨_, rfl, p, n, c, rfl, hn, hb, -, m1⟩
  have M1 := Lib.hid m1
  clear hn hb m1 HR
  go_wp2
  go_ret2
  exact .mk ⟨rfl, M1.out⟩
set_option maxRecDepth 100000 in
theorem dnode_any (D : Nat) (Td : List Nat) (k : Ck) (no : Int) (x : Nd) (w : World) (hd : DiskAt w D Td k) (hr : k.load no = (pad 1016 x.pay, 0)) (hm : x.may = true) :
    Calls Tryz.prog 13 #[.pointer (some ⟨D, 0, none⟩), .int .i64 no] w (Ret (NodeR x w)) := by
  have HT := Lib.hid (told_d D w.heap.size Td k no x (w.alloc (.cells #[.pointer (some ⟨D, 0, none⟩)] 33)) (hd.mod (Mod.of_alloc w _) (by simp)) (by go_simp) hr hm)
  clear hd hr hm
  go_enter Tryz.func13, Tryz.ntmps13
  go_wp2_with fail
  refine HT.out.mono ?_
  rintro _ w1 ⟨_, rfl, u, rfl, h1, m1⟩
  have H1 := Lib.hid (h1.le (Mod.of_alloc w _).size)
  have M1 := Lib.hid ((Mod.of_alloc w _).same m1)
  clear h1 m1 HT
  go_wp2
  go_ret2
  exact .mk ⟨u, rfl, H1.out, M1.out⟩
set_option maxRecDepth 100000 in
theorem dnode_no (D : Nat) (Td : List Nat) (k : Ck) (no : Int) (w : World) (hd : DiskAt w D Td k) (hr : k.load no = ([], 4)) :
    Calls Tryz.prog 13 #[.pointer (some ⟨D, 0, none⟩), .int .i64 no] w (Ret fun v w' => v = .tuple #[.nilIface, .int .i64 4] ∧ Mod [] w w') := by
  have HT := Lib.hid (told_dno D w.heap.size Td k no (w.alloc (.cells #[.pointer (some ⟨D, 0, none⟩)] 33)) (hd.mod (Mod.of_alloc w _) (by simp)) (by go_simp) hr)
  clear hd hr
  go_enter Tryz.func13, Tryz.ntmps13
  go_wp2_with fail
  refine HT.out.mono ?_
  rintro _ w1 ⟨_, rfl, rfl, m1⟩
  have M1 := Lib.hid ((Mod.of_alloc w _).same m1)
  clear m1 HT
  go_wp2
  go_ret2
  exact .mk ⟨rfl, M1.out⟩
end Go.Proofs.YtgimdodbajhpoaaGreatDoor
