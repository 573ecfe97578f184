/- What the document fixes ahead of the laws on roots. Roots: what With makes of roots, plainly: they may be, and the one is there. RootsOrder: roots that come one by one, and go. Own lemmas for the rows: arguments that came in, opened. Arguments that came in, opened, with the bound on what they take. What comes into the statements, opened: a list of freed pages; bytes. Roots that came in, opened. A world in which the two tables of unicode/utf8 lie. -/
import Derived.ProofKit
import Derived.OpenShut
import Derived.ShutString
import Derived.ChangeOld
import Derived.SizedLaws
import Derived.Deep.Slices
import Derived.Deep.Strs
import Derived.Lib.SmallJoins
import Derived.Deep.DeepHandedRow
import Derived.Lib.LaidTab
import Derived.Test.YtpdkkokgpdabhaaDoorG17
import Derived.Test.YtpdkkokgpdabhaaDoorG01
import Derived.Test.YtpdkkokgpdabhaaDoorRows
import Derived.Test.YtpdkkokgpdabhaaDoorG02
import Derived.Test.YtpdkkokgpdabhaaDoorG04
namespace Go.Proofs.YtpdkkokgpdabhaaDoor
open Go.RowKit Go.Maps
set_option linter.unusedSimpArgs false
set_option linter.unusedVariables false

def spansL : List Int := [115, 112, 97, 110, 115]
theorem spans_str : (⟨#[115, 112, 97, 110, 115]⟩ : ByteArray) = strOfNums spansL := rfl
theorem spans_wf : WfL spansL := by intro x hx; simp [spansL] at hx; omega
def spansR : Rt := ⟨spansL, 9, 1⟩
theorem spansR_wf : spansR.wf := ⟨spans_wf, by decide⟩
theorem awake_with : withQ [] spansR = ([spansR], 0) := by decide
theorem awake_find : findR [spansR] spansL = (spansR, true) := by decide
theorem awake_without : withoutR [spansR] spansL = [] := by decide
theorem awake_pay : payRs [] = [67, 82, 79, 79, 0] := by decide
theorem rises_one (r : Rt) : risesR [r] := by intro i j h1 h2; simp at h2; omega
theorem rises_nil : risesR [] := by intro i j h1 h2; simp at h2
set_option maxRecDepth 100000 in
set_option maxHeartbeats 8000000 in
theorem awake_any (w : World) : Calls Tryd.prog 7 #[] w (Ret (BoolM true w)) := by
  have HWI := fun W => Lib.hid (rwith_any none 0 0 [] spansR W (RtsIn.nil W) spansR_wf rises_nil (by omega))
  rw [awake_with] at HWI
  unfold Rt.val spansR at HWI
  simp only [← spans_str] at HWI
  unfold WithRes at HWI
  have HFI := fun W p n c (h : RtsIn W p n c [spansR]) (hn : n = 1) => Lib.hid (rfind_any p n c [spansR] spansL W h spans_wf (rises_one _) (by omega))
  rw [awake_find] at HFI
  simp only [← spans_str] at HFI
  unfold FindRes at HFI
  have HWO := fun W p n c (h : RtsIn W p n c [spansR]) (hn : n = 1) => Lib.hid (rwithout_any p n c [spansR] spansL W h spans_wf (by omega))
  simp only [← spans_str] at HWO
  go_enter Tryd.func7, Tryd.ntmps7
  go_wp2_with fail
  refine (rpay_any none 0 0 [] w (RtsIn.nil w)).mono ?_
  rintro _ w1 ⟨_, rfl, p1, n1, c1, rfl, e1, z1, t1, m1⟩
  rw [awake_pay] at e1 z1 t1
  obtain rfl : n1 = 5 := e1
  have T1 := Lib.hid t1
  have M1 := Lib.hid m1
  clear z1 t1 m1
  go_wp2_with fail
  refine (HWI _).out.mono ?_
  rintro _ w2 ⟨_, rfl, p2, n2, c2, rfl, in2, m2⟩
  have hn2 : n2 = 1 := in2.len.symm
  subst hn2
  have IN2 := Lib.hid in2
  have M2 := Lib.hid (M1.out.same m2)
  have T2 := Lib.hid (T1.out.mod m2 (by simp))
  clear in2 m2
  go_wp2_with fail
  refine (HFI _ _ _ _ IN2.out rfl).out.mono ?_
  rintro _ w3 ⟨_, rfl, rfl, m3⟩
  have IN3 := Lib.hid (IN2.out.mod0 m3)
  have M3 := Lib.hid (M2.out.same m3)
  have T3 := Lib.hid (T2.out.mod m3 (by simp))
  clear m3
  unfold Rt.val spansR
  simp only [← spans_str]
  have HAT := Lib.hid (at_alloc w3 (.cells #[.string ⟨#[115, 112, 97, 110, 115]⟩, .int .i64 9, .int .i64 1] 34))
  have HM4 := Lib.hid (Mod.of_alloc w3 (.cells #[.string ⟨#[115, 112, 97, 110, 115]⟩, .int .i64 9, .int .i64 1] 34))
  go_wp2_with fail
  have hno : ¬ ∃ rs, GoodR [] rs := by
    rintro ⟨rs, hg⟩
    have := congrArg List.length hg.2
    simp [rootsBytes] at this
  refine (rfrom_any none 0 0 [] _ ⟨Sl.nil _ _, by simp⟩).mono ?_
  rintro _ w5 ⟨v5, rfl, h5⟩
  rcases h5 with ⟨rs, _, hg, _⟩ | ⟨_, rfl, m5⟩
  · exact absurd ⟨rs, hg⟩ hno
  have IN5 := Lib.hid ((IN3.out.mod0 HM4.out).mod0 m5)
  have M5 := Lib.hid ((M3.out.same HM4.out).same m5)
  have T5 := Lib.hid ((T3.out.mod HM4.out (by simp)).mod m5 (by simp))
  have HAT5 := Lib.hid (m5.at HAT.out (by simp))
  clear m5 hno
  obtain ⟨b1, o1, rfl, hb1, hc1⟩ := T5.out.sl.addr (by omega)
  have d0 := hc1 0 (.int .u8 67) rfl
  have hi0 := fun W => Sl.idx (P := Tryd.prog) (cap := c1) (m := 5) (size := 1) Tryd.underlying23 sizeBytes (fun _ => rfl) W .i64 0 (by omega) (b := b1) (off := o1)
  simp only [Nat.mul_one, Nat.add_zero, show ((0 : Nat) : Int) = 0 from rfl] at hi0 d0
  obtain ⟨A, hA⟩ : ∃ A, A = w3.heap.size := ⟨_, rfl⟩
  rw [← hA] at HAT5 ⊢
  have k1 : w5.cell? ⟨A, 1, none⟩ = some (.int .i64 9) := cell_of_at HAT5.out 1
  clear hc1 hA
  go_wp2_with fail
  refine (HWO _ _ _ _ IN5.out rfl).out.mono ?_
  rintro _ w6 ⟨_, rfl, p6, n6, c6, rfl, in6, m6⟩
  rw [awake_without] at in6
  obtain rfl : n6 = 0 := in6.len.symm
  have M6 := Lib.hid (M5.out.same m6)
  clear in6 m6
  go_wp2
  go_ret
  exact .mk ⟨rfl, M6.out⟩
end Go.Proofs.YtpdkkokgpdabhaaDoor
namespace Go.Proofs.YtpdkkokgpdabhaaDoor
open Go.RowKit Go.Maps
set_option linter.unusedSimpArgs false
set_option linter.unusedVariables false

theorem rises_pw {rs : List Rt} : risesR rs ↔ rs.Pairwise (fun a b => less a.l b.l = true) := by
  rw [List.pairwise_iff_getElem]
  constructor
  · intro h i j hi hj hij
    have := h i j hij hj
    rwa [List.getD_eq_getElem?_getD, List.getD_eq_getElem?_getD, List.getElem?_eq_getElem hi, List.getElem?_eq_getElem hj] at this
  · intro h i j hij hj
    rw [List.getD_eq_getElem?_getD, List.getD_eq_getElem?_getD, List.getElem?_eq_getElem hj, List.getElem?_eq_getElem (show i < rs.length by omega)]
    exact h i j (by omega) hj hij
theorem mayR_of {rs : List Rt} (h1 : ∀ r ∈ rs, r.ok = true) (h2 : risesR rs) (h3 : rs.length ≤ 12) : mayR rs = true := by
  unfold mayR
  rw [Bool.and_eq_true]
  refine ⟨rtTo_iff.2 fun i hi => ?_, decide_eq_true h3⟩
  unfold rtAt
  have hm : rs.getD i default ∈ rs := by rw [List.getD_eq_getElem?_getD, List.getElem?_eq_getElem hi]; exact List.getElem_mem _
  rw [h1 _ hm, Bool.true_and]
  rcases Nat.eq_zero_or_pos i with rfl | h0
  · rfl
  · rw [h2 (i - 1) i (by omega) hi]; simp
theorem mayR_okm {rs : List Rt} (h : mayR rs = true) : ∀ r ∈ rs, r.ok = true := by
  intro r hr
  obtain ⟨i, hi, rfl⟩ := List.mem_iff_getElem.1 hr
  have := mayR_ok h hi
  rwa [List.getD_eq_getElem?_getD, List.getElem?_eq_getElem hi] at this
theorem without_rises {rs : List Rt} {l : List Int} (h : risesR rs) : risesR (withoutR rs l) := by
  rw [rises_pw] at h ⊢; exact h.filter _
theorem ins_rises {rs : List Rt} {r : Rt} (h : risesR rs) (hn : ∀ x ∈ rs, x.l ≠ r.l) : risesR (insR rs r) := by
  obtain ⟨h1, h2, h3⟩ := posR_spec rs r.l
  generalize hk : posR rs r.l = k at *
  have hpw := rises_pw.1 h
  rw [rises_pw]
  unfold insR
  rw [hk, List.pairwise_append]
  have hlow : ∀ x ∈ rs.take k, less x.l r.l = true := by
    intro x hx
    obtain ⟨j, hj, rfl⟩ := List.mem_iff_getElem.1 hx
    rw [List.length_take] at hj
    have := h2 j (by omega)
    rw [List.getD_eq_getElem?_getD, List.getElem?_eq_getElem (by omega)] at this
    rw [List.getElem_take]; exact this
  have hhigh : ∀ x ∈ rs.drop k, less r.l x.l = true := by
    intro x hx
    obtain ⟨j, hj, rfl⟩ := List.mem_iff_getElem.1 hx
    rw [List.length_drop] at hj
    rw [List.getElem_drop]
    have hlt : k + j < rs.length := by omega
    refine less_tri ?_ (hn _ (List.getElem_mem _))
    rcases h3 with h3 | h3
    · omega
    · cases hc : less (rs[k + j]).l r.l with
      | false => rfl
      | true =>
        exfalso
        rcases Nat.eq_zero_or_pos j with h0 | h0
        · subst h0
          rw [List.getD_eq_getElem?_getD, List.getElem?_eq_getElem (by omega)] at h3
          simp only [Nat.add_zero, Option.getD_some] at h3 hc
          rw [h3] at hc; cases hc
        · have h4 := h k (k + j) (by omega) hlt
          have e4 : rs.getD (k + j) default = rs[k + j] := by rw [List.getD_eq_getElem?_getD, List.getElem?_eq_getElem hlt]; rfl
          rw [e4] at h4
          rw [less_trans h4 hc] at h3; cases h3
  refine ⟨hpw.sublist (List.take_sublist _ _), ?_, ?_⟩
  · rw [List.pairwise_cons]
    exact ⟨hhigh, hpw.sublist (List.drop_sublist _ _)⟩
  · intro a ha b hb
    rcases List.mem_cons.1 hb with rfl | hb
    · exact hlow a ha
    · exact less_trans (hlow a ha) (hhigh b hb)
theorem ins_mem {rs : List Rt} {r x : Rt} : x ∈ insR rs r ↔ x = r ∨ x ∈ rs := by
  unfold insR
  rw [List.mem_append, List.mem_cons]
  conv => rhs; rw [← List.take_append_drop (posR rs r.l) rs, List.mem_append]
  constructor
  · rintro (h | h | h) <;> simp [h]
  · rintro (h | h | h) <;> simp [h]
theorem ins_len {rs : List Rt} {r : Rt} : (insR rs r).length = rs.length + 1 := by
  unfold insR
  have := (posR_spec rs r.l).1
  rw [List.length_append, List.length_take, List.length_cons, List.length_drop]; omega
theorem without_mem {rs : List Rt} {l : List Int} {x : Rt} : x ∈ withoutR rs l ↔ x ∈ rs ∧ x.l ≠ l := by
  unfold withoutR; rw [List.mem_filter]; simp
theorem find_mem {rs : List Rt} {r : Rt} (h : risesR rs) (hr : r ∈ rs) : findR rs r.l = (r, true) := by
  obtain ⟨i, hi, rfl⟩ := List.mem_iff_getElem.1 hr
  have e : rs.getD i default = rs[i] := by rw [List.getD_eq_getElem?_getD, List.getElem?_eq_getElem hi]; rfl
  have := findR_at (l := (rs[i]).l) hi (fun j hj he => by
    have h4 := h j i hj hi
    rw [he, e, less_irrefl] at h4; cases h4) (by rw [e])
  rw [this, e]
theorem find_wf {rs : List Rt} {l : List Int} (h : ∀ r ∈ rs, r.wf) : WfL (findR rs l).1.l := by
  unfold findR
  cases hf : rs.find? (fun r => decide (r.l = l)) with
  | none => intro x hx; simp [default] at hx
  | some r => exact (h r (List.mem_of_find?_eq_some hf)).1
/-- What With tells. -/
theorem with_ok {rs : List Rt} {r : Rt} (h : mayR rs = true) {xs : List Rt} {e : Int} (hw : withQ rs r = (xs, e)) : risesR xs ∧ xs.length ≤ 12 ∧ (e = 0 → mayR xs = true ∧ findR xs r.l = (r, true) ∧ ∀ x ∈ xs, x = r ∨ x ∈ rs) ∧ (e ≠ 0 → xs = []) := by
  unfold withQ at hw
  split at hw
  · rename_i hok
    split at hw
    · injection hw with e1 e2
      subst e1; subst e2
      exact ⟨rises_nil, by simp, fun h => by simp at h, fun _ => rfl⟩
    · rename_i hl
      injection hw with e1 e2
      subst e1; subst e2
      have hr := ins_rises (r := r) (without_rises (l := r.l) (mayR_rises h)) (fun x hx => (without_mem.1 hx).2)
      refine ⟨hr, by rw [ins_len]; omega, fun _ => ⟨mayR_of (fun x hx => ?_) hr (by rw [ins_len]; omega), find_mem hr (ins_mem.2 (Or.inl rfl)), fun x hx => ?_⟩, fun h => absurd rfl h⟩
      · rcases ins_mem.1 hx with rfl | hx
        · exact hok
        · exact mayR_okm h x (without_mem.1 hx).1
      · rcases ins_mem.1 hx with h | hx
        · exact Or.inl h
        · exact Or.inr (without_mem.1 hx).1
  · injection hw with e1 e2
    subst e1; subst e2
    exact ⟨rises_nil, by simp, fun h => by simp at h, fun _ => rfl⟩
end Go.Proofs.YtpdkkokgpdabhaaDoor
namespace Go.Proofs.YtpdkkokgpdabhaaDoor
open Go.RowKit Go.Maps
set_option linter.unusedSimpArgs false
set_option linter.unusedVariables false

set_option maxRecDepth 100000 in
set_option maxHeartbeats 8000000 in
theorem rorder_any (p : Option Addr) (n c : Nat) (rs : List Rt) (w : World) (h : RtsIn w p n c rs) : Calls Tryd.prog 5 #[.slice p n c] w (Ret (BoolM true w)) := by
  have hln := h.len
  obtain ⟨b, off, hp, hcs⟩ := h.sl.at_
  have hidx := fun W => Sl.idx (P := Tryd.prog) (cap := c) Tryd.underlying22 sizeRoots (fun h => (hp h).1) W .i64
  have HLT : Hid (0 < n → b < w.heap.size) := fun h => (hp h).2
  have HG := Lib.hid (fun i hi => h.get hcs i hi)
  have HLN := Lib.hid hln
  have HWF := Lib.hid h.wf
  clear h hln hp hcs
  go_enter Tryd.func5, Tryd.ntmps5
  go_wp2_with fail
  refine (awake_any _).mono ?_
  rintro _ w1 ⟨_, rfl, rfl, m1⟩
  have M1 := Lib.hid m1
  clear m1
  by_cases h40 : 40 < n
  · have hz : decide (40 < n) = true := by simpa using h40
    go_wp2
    go_ret
    exact .mk ⟨rfl, M1.out⟩
  have hz40 : decide (40 < n) = false := by simpa using h40
  have hn40 : n ≤ 40 := by omega
  clear h40
  go_wp2
  go_loopw [3, 4, 5] (fun av bv iv wr => ∃ (i m d k e : Nat) (o q : Option Addr) (ys : List Rt), i ≤ n ∧ iv = .int .i64 i ∧ av = .slice o m d ∧ bv = .slice q k e ∧ mayR ys = true ∧ (∀ x ∈ ys, ∃ j, j < i ∧ x.l = (rs.getD j default).l) ∧ RtsIn wr o m d ys ∧ RtsIn wr q k e ys ∧ Mod [] w wr) (fun _ _ iv _ => n - (intOf iv).toNat)
  case atStart => exact ⟨0, 0, 0, 0, 0, none, none, [], Nat.zero_le _, rfl, rfl, rfl, by decide, by simp, RtsIn.nil _, RtsIn.nil _, M1.out⟩
  case round =>
    clear M1
    obtain ⟨i, m, d, k, e, o, q, ys, hi, rfl, rfl, rfl, hmay, hnames, hia, hib, hm⟩ := hrel
    have HMAY := Lib.hid hmay
    have HNM := Lib.hid hnames
    have HIA := Lib.hid hia
    have HIB := Lib.hid hib
    have HM := Lib.hid hm
    have hm12 : m ≤ 12 := by rw [← hia.len]; exact mayR_len hmay
    have hk12 : k ≤ 12 := by rw [← hib.len]; exact mayR_len hmay
    clear hmay hnames hia hib hm
    by_cases hlt : i < n
    · obtain ⟨l, pg, ct, hr, hwf, d0, d1, d2⟩ := HG.out i hlt
      have hbl := HLT.out (by omega)
      have D0 := Lib.hid d0
      have D1 := Lib.hid d1
      have D2 := Lib.hid d2
      rw [← HM.out.cell (a := ⟨b, _, none⟩) hbl (by simp)] at d0 d1 d2
      have HRW := Lib.hid hwf
      have HR := Lib.hid hr
      have hj := fun W => hidx W i hlt
      have hwi : IntKind.i64.wrap ((i : Int) + 1) = (i : Int) + 1 := IntWalk.i64_in _ (by omega)
      have hsz : (strOfNums l).size = l.length := strOfNums_size l
      clear hr hwf
      by_cases h100 : 100 < l.length
      · have hz : decide (100 < l.length) = true := by simpa using h100
        go_wp2
        go_ret
        exact .mk ⟨rfl, HM.out⟩
      have hz100 : decide (100 < l.length) = false := by simpa using h100
      have HW1 := Lib.hid (rwith_any o m d ys ⟨l, pg, ct⟩ wr HIA.out HRW.out (mayR_rises HMAY.out) hm12)
      have HW2 := fun W hm => Lib.hid (qwith_any q k e ys ⟨l, pg, ct⟩ W (HIB.out.mod0 (w' := W) hm) HRW.out (by omega))
      unfold WithRes at HW1 HW2
      have HWO := Lib.hid (with_ok (r := ⟨l, pg, ct⟩) HMAY.out (xs := (withQ ys ⟨l, pg, ct⟩).1) (e := (withQ ys ⟨l, pg, ct⟩).2) rfl)
      generalize withQ ys ⟨l, pg, ct⟩ = V at *
      obtain ⟨xs, ec⟩ := V
      simp only at HWO HW1 HW2
      unfold Rt.val at HW1 HW2
      go_wp2_with fail
      refine HW1.out.mono ?_
      rintro _ w2 ⟨_, rfl, p2, n2, c2, rfl, in2, m2⟩
      have IN2 := Lib.hid in2
      have MW2 := Lib.hid m2
      have M2 := Lib.hid (HM.out.same m2)
      have HIA2 := Lib.hid (HIA.out.mod0 m2)
      have HIB2 := Lib.hid (HIB.out.mod0 m2)
      clear in2 m2 HW1 d0 d1 d2
      have d0 := (M2.out.cell (a := ⟨b, _, none⟩) hbl (by simp)).trans D0.out
      have d1 := (M2.out.cell (a := ⟨b, _, none⟩) hbl (by simp)).trans D1.out
      have d2 := (M2.out.cell (a := ⟨b, _, none⟩) hbl (by simp)).trans D2.out
      go_wp2_with fail
      refine (HW2 _ MW2.out).out.mono ?_
      rintro _ w3 ⟨_, rfl, p3, n3, c3, rfl, in3, m3⟩
      have IN3 := Lib.hid in3
      have IN2b := Lib.hid (IN2.out.mod0 m3)
      have M3 := Lib.hid (M2.out.same m3)
      have HIA3 := Lib.hid (HIA2.out.mod0 m3)
      have HIB3 := Lib.hid (HIB2.out.mod0 m3)
      clear in3 m3 HW2 d0 d1 d2
      have hee : (ec != ec) = false := by simp
      by_cases he0 : ec = 0
      · have h0 : (ec == 0) = true := by simpa using he0
        obtain ⟨g1, g2, g3, g4⟩ := HWO.out
        obtain ⟨g5, g6, g7⟩ := g3 he0
        have HX := Lib.hid g5
        have HXN : Hid (∀ x ∈ xs, ∃ j, j < i + 1 ∧ x.l = (rs.getD j default).l) := fun x hx => by
          rcases g7 x hx with rfl | hx
          · exact ⟨i, by omega, by rw [HR.out]⟩
          · obtain ⟨j, hj, hjl⟩ := HNM.out x hx
            exact ⟨j, by omega, hjl⟩
        clear g1 g2 g3 g4 g5 g6 g7 he0 HWO
        go_wp2
        go_roundw
        case rel => exact ⟨i + 1, n2, c2, n3, c3, p2, p3, xs, by omega, by go_num, rfl, rfl, HX.out, HXN.out, IN2b.out, IN3.out, M3.out⟩
        case measure => simp [intOf]; omega
      · have h0 : (ec == 0) = false := by simpa using he0
        have HNM2 : Hid (∀ x ∈ ys, ∃ j, j < i + 1 ∧ x.l = (rs.getD j default).l) := fun x hx => by
          obtain ⟨j, hj, hjl⟩ := HNM.out x hx
          exact ⟨j, by omega, hjl⟩
        clear he0 HWO
        go_wp2
        go_roundw
        case rel => exact ⟨i + 1, m, d, k, e, o, q, ys, by omega, by go_num, rfl, rfl, HMAY.out, HNM2.out, HIA3.out, HIB3.out, M3.out⟩
        case measure => simp [intOf]; omega
    · obtain rfl : i = n := by omega
      go_wp2_with fail
      refine (qrsame_any _ _ _ _ _ _ ys ys _ HIA.out HIB.out).mono ?_
      rintro _ w2 ⟨_, rfl, rfl, m2⟩
      rw [decide_eq_true rfl]
      have HIA2 := Lib.hid (HIA.out.mod0 m2)
      have M2 := Lib.hid (HM.out.same m2)
      clear m2
      go_wp2_with fail
      refine (rsmay_any _ _ _ ys _ HIA2.out).mono ?_
      rintro _ w3 ⟨_, rfl, rfl, m3⟩
      rw [HMAY.out]
      have HIA3 := Lib.hid (HIA2.out.mod0 m3)
      have M3 := Lib.hid (M2.out.same m3)
      have HS0 : Hid (∀ x ∈ ys, ∃ j, 0 ≤ j ∧ j < i ∧ x.l = (rs.getD j default).l) := fun x hx => by
        obtain ⟨j, h1, h2⟩ := HNM.out x hx
        exact ⟨j, by omega, h1, h2⟩
      clear m3 HIA HIB HIA2 HM M2 HMAY HNM hlt hi
      go_wp2
      go_loopw [3, 10] (fun av iv wz => ∃ (j m d : Nat) (o : Option Addr) (ys : List Rt), j ≤ i ∧ m ≤ 12 ∧ iv = .int .i64 j ∧ av = .slice o m d ∧ (∀ x ∈ ys, ∃ t, j ≤ t ∧ t < i ∧ x.l = (rs.getD t default).l) ∧ RtsIn wz o m d ys ∧ Mod [] w wz) (fun _ iv _ => i - (intOf iv).toNat)
      case atStart => exact ⟨0, m, d, o, ys, by omega, hm12, rfl, rfl, HS0.out, HIA3.out, M3.out⟩
      case round =>
        clear HIA3 M3 HS0
        obtain ⟨j, m', d', o', ys2, hj, hm', rfl, rfl, hnames, hia, hmd⟩ := hrel
        have HNM := Lib.hid hnames
        have HIA := Lib.hid hia
        have HM := Lib.hid hmd
        clear hnames hia hmd
        by_cases hlt : j < i
        · obtain ⟨l, pg, ct, hr, hwf, d0, d1, d2⟩ := HG.out j hlt
          have hbl := HLT.out (by omega)
          rw [← HM.out.cell (a := ⟨b, _, none⟩) hbl (by simp)] at d0
          have hjj := fun W => hidx W j hlt
          have hwi : IntKind.i64.wrap ((j : Int) + 1) = (j : Int) + 1 := IntWalk.i64_in _ (by omega)
          have HNEW : Hid (∀ x ∈ withoutR ys2 l, ∃ t, j + 1 ≤ t ∧ t < i ∧ x.l = (rs.getD t default).l) := fun x hx => by
            obtain ⟨h1, h2⟩ := without_mem.1 hx
            obtain ⟨t, g1, g2, g3⟩ := HNM.out x h1
            refine ⟨t, ?_, g2, g3⟩
            rcases Nat.eq_or_lt_of_le g1 with h | h
            · subst h
              rw [hr] at g3
              exact absurd g3 h2
            · omega
          have HL : Hid ((withoutR ys2 l).length ≤ ys2.length) := withoutR_len _ _
          have HWT := Lib.hid (rwithout_any o' m' d' ys2 l wr HIA.out hwf.1 (by omega))
          unfold RtsR at HWT
          clear hr hwf d1 d2
          go_wp2_with fail
          refine HWT.out.mono ?_
          rintro _ w5 ⟨_, rfl, p5, n5, c5, rfl, in5, m5⟩
          have IN5 := Lib.hid in5
          have M5 := Lib.hid (HM.out.same m5)
          have hn5 : n5 ≤ 12 := by rw [← in5.len]; have := HL.out; have := HIA.out.len; omega
          clear in5 m5 HWT
          go_wp2
          go_roundw
          case rel => exact ⟨j + 1, n5, c5, p5, withoutR ys2 l, by omega, hn5, by go_num, rfl, HNEW.out, IN5.out, M5.out⟩
          case measure => simp [intOf]; omega
        · obtain rfl : j = i := by omega
          have has : ys2 = [] := by
            cases ys2 with
            | nil => rfl
            | cons x t => obtain ⟨y, g1, g2, _⟩ := HNM.out x (by simp); omega
          have hm0 : m' = 0 := by rw [← HIA.out.len, has]; rfl
          subst hm0
          clear has
          go_wp2
          go_ret
          exact .mk ⟨rfl, HM.out⟩
end Go.Proofs.YtpdkkokgpdabhaaDoor
namespace Go.Proofs.YtpdkkokgpdabhaaDoor
open Go.RowKit Go.Deep Go.WideShapes

theorem row_own : ownKnob Tryd.prog.godebug = none := by kernel_rfl
theorem row_laidOut : laidOutB Tryd.prog = true := by kernel_rfl

section
variable {H : Type} {enc : TypeId × Value → H} {P : Program} {w : World} {base : Nat} {spare : Nat → Bool} {held : Bool}

theorem cell_spot {w : World} {a : Addr} {v : Value} (h : w.cell? a = some v) : a = ⟨a.block, a.off, none⟩ := by
  obtain ⟨b, o, s⟩ := a
  cases s with
  | none => rfl
  | some s => simp only [World.cell?] at h; split at h <;> simp at h

/-- A SLICE OF ELEMENTS OF c CELLS, OPENED: what an element is says 'hop'. -/
theorem open_rows {α : Type} [Inhabited α] (mk : α → List Value) (Wf : α → Prop) {T E c fuel len cap : Nat} {a : Option Addr} {x : DataW H × List MemPlace}
    (hT : P.underlying T = some (.slice E)) (hc : P.cellsOf E = c) (hc0 : 0 < c)
    (hop : ∀ n cs x, DataW.trod enc P w base spare held n E cs = some x → ∃ y : α, cs = mk y ∧ Wf y)
    (h : DataW.trod enc P w base spare held fuel T [.slice a len cap] = some x) :
    ∃ b off, ∃ l : Nat → α, (0 < len → a = some ⟨b, off, none⟩ ∧ b < w.heap.size) ∧ len ≤ cap ∧ cap ≤ maxLen ∧
      (∀ i, i < len → ∀ j, j < c → w.cell? ⟨b, off + i * c + j, none⟩ = (mk (l i))[j]?) ∧ ∀ i, i < len → Wf (l i) := by
  rcases open_slice hT h with ⟨h0, _⟩ | ⟨ad, ln, cp, m, n, D, Pl, hcs, hb, hl, hm, hmm, _, hx⟩
  · simp at h0; obtain ⟨rfl, rfl, rfl⟩ := h0
    exact ⟨0, 0, fun _ => default, by omega, by omega, by unfold maxLen; omega, by omega, by omega⟩
  · simp at hcs; obtain ⟨rfl, rfl, rfl⟩ := hcs
    have hlm : len ≤ m := by rw [hmm]; split <;> omega
    have hel : ∀ i, i < len → ∃ y : α, (∀ j, j < c → w.cell? ((ad.add (i * c)).add j) = (mk y)[j]?) ∧ (mk y).length = c ∧ Wf y := by
      intro i hi
      obtain ⟨cs', h1, h2⟩ := hx i (by omega)
      obtain ⟨y, rfl, hy⟩ := hop _ _ _ h2
      rw [hc] at h1
      obtain ⟨_, hlen, hcell⟩ := World.cells?_some h1
      exact ⟨y, hcell, hlen, hy⟩
    by_cases hz : 0 < len
    · obtain ⟨l, hl'⟩ := choose_lt (α := α) (p := fun i y => (∀ j, j < c → w.cell? ((ad.add (i * c)).add j) = (mk y)[j]?) ∧ (mk y).length = c ∧ Wf y) hel
      have hs : ad = ⟨ad.block, ad.off, none⟩ := by
        obtain ⟨h1, h2, _⟩ := hl' 0 hz
        have := h1 0 hc0
        simp only [Nat.zero_mul, Addr.add, if_true] at this
        rw [List.getElem?_eq_getElem (by omega)] at this
        exact cell_spot this
      have hadd : ∀ i j, (ad.add (i * c)).add j = ⟨ad.block, ad.off + i * c + j, none⟩ := by
        intro i j
        rw [hs]
        unfold Addr.add
        by_cases e1 : i * c = 0 <;> by_cases e2 : j = 0 <;> simp [e1, e2]
      refine ⟨ad.block, ad.off, l, fun _ => ⟨by rw [← hs], ?_⟩, hl, hm, fun i hi j hj => ?_, fun i hi => (hl' i hi).2.2⟩
      · obtain ⟨h1, h2, _⟩ := hl' 0 hz
        have := h1 0 hc0
        rw [hadd] at this
        rw [List.getElem?_eq_getElem (by omega)] at this
        unfold World.cell? at this
        split at this
        · rename_i hh; exact lt_of_at hh
        · cases this
      · rw [← hadd]; exact (hl' i hi).1 j hj
    · exact ⟨0, 0, fun _ => default, by omega, by omega, hm, by omega, by omega⟩

/-- An integer's cell, opened. -/
theorem open_intc {k : IntKind} {t fuel : Nat} {cs : List Value} {x : DataW H × List MemPlace} (ht : P.underlying t = some (.int k)) (h : DataW.trod enc P w base spare held fuel t cs = some x) : ∃ n, cs = [.int k n] ∧ (Lit.int k n).wf = true := by
  obtain ⟨n, rfl, _, hw⟩ := DataW.trod_int ht h
  exact ⟨n, rfl, hw⟩
end

theorem of_wf_u64 {x : Int} (h : (Lit.int .u64 x).wf = true) : 0 ≤ x ∧ x < 2 ^ 64 := by simp [Lit.wf, IntKind.min, IntKind.max, IntKind.signed, IntKind.bits] at h; omega
theorem of_wf_i64 {x : Int} (h : (Lit.int .i64 x).wf = true) : -9223372036854775808 ≤ x ∧ x ≤ 9223372036854775807 := by simp [Lit.wf, IntKind.min, IntKind.max, IntKind.signed, IntKind.bits] at h; omega
end Go.Proofs.YtpdkkokgpdabhaaDoor
namespace Go.Proofs.YtpdkkokgpdabhaaDoor
open Go.RowKit Go.Deep Go.WideShapes

section
variable {H : Type} {enc : TypeId × Value → H} {P : Program} {w : World} {base : Nat} {spare : Nat → Bool} {held : Bool}

/-- Nothing in these data takes more than the reach. -/
def Within (P : Program) (t : TypeId) (d : DataW H) : Prop := ∀ n ∈ d.weights P t, n ≤ reachBytes
theorem reach_all {e : TypeId} : ∀ {ds : List (DataW H)} {d : DataW H}, d ∈ ds → ∀ n ∈ d.weights P e, n ∈ DataW.weightsAll P e ds
  | [], _, h, _, _ => by simp at h
  | a :: r, d, h, n, hn => by
    rw [DataW.weightsAll, List.mem_append]
    rcases List.mem_cons.1 h with rfl | h
    · exact Or.inl hn
    · exact Or.inr (reach_all h n hn)
theorem Within.elems {t e : TypeId} {el sp : List (DataW H)} (ht : P.underlying t = some (.slice e)) (h : Within P t (.slice el sp)) : (el.length + sp.length) * P.bytesOf e ≤ reachBytes ∧ ∀ d ∈ el, Within P e d := by
  unfold Within at h
  rw [DataW.weights] at h
  simp only [ht] at h
  refine ⟨h _ (by simp), fun d hd n hn => h n ?_⟩
  simp only [List.mem_cons, List.mem_append]
  exact Or.inr (Or.inl (reach_all hd n hn))
theorem Within.field {t : TypeId} {fs : Array Field} {ds : List (DataW H)} (ht : P.underlying t = some (.struct fs)) (h : Within P t (.agg ds)) {j : Nat} {f : Field} {d : DataW H} (hf : fs[j]? = some f) (hd : ds[j]? = some d) : Within P f.type d := by
  unfold Within at h
  rw [DataW.weights] at h
  simp only [ht] at h
  intro n hn
  exact h n (DataW.weights_mem_each (by simp [hf]) hd n hn)
theorem reach_of_each {ts : List TypeId} {ds : List (DataW H)} (h : (DataW.weightsEach P ts ds).all (· ≤ reachBytes) = true) {j : Nat} {t : TypeId} {d : DataW H} (ht : ts[j]? = some t) (hd : ds[j]? = some d) : Within P t d := by
  intro n hn
  have := DataW.weights_mem_each ht hd n hn
  rw [List.all_eq_true] at h
  simpa using h n this

/-- A SLICE OF ELEMENTS OF c CELLS, OPENED, within the reach. -/
theorem open_rowsW {α : Type} [Inhabited α] (mk : α → List Value) (Wf : α → Prop) {T E c fuel len cap : Nat} {a : Option Addr} {x : DataW H × List MemPlace}
    (hT : P.underlying T = some (.slice E)) (hc : P.cellsOf E = c) (hc0 : 0 < c)
    (hop : ∀ n cs x, DataW.trod enc P w base spare held n E cs = some x → Within P E x.1 → ∃ y : α, cs = mk y ∧ Wf y)
    (h : DataW.trod enc P w base spare held fuel T [.slice a len cap] = some x) (hr : Within P T x.1) :
    ∃ b off, ∃ l : Nat → α, (0 < len → a = some ⟨b, off, none⟩ ∧ b < w.heap.size) ∧ len ≤ cap ∧ cap ≤ maxLen ∧
      (∀ i, i < len → ∀ j, j < c → w.cell? ⟨b, off + i * c + j, none⟩ = (mk (l i))[j]?) ∧ (∀ i, i < len → Wf (l i)) ∧ len * P.bytesOf E ≤ reachBytes := by
  rcases open_slice hT h with ⟨h0, _⟩ | ⟨ad, ln, cp, m, n, D, Pl, hcs, hb, hl, hm, hmm, hxd, hx⟩
  · simp at h0; obtain ⟨rfl, rfl, rfl⟩ := h0
    exact ⟨0, 0, fun _ => default, by omega, by omega, by unfold maxLen; omega, by omega, by omega, by simp⟩
  · simp at hcs; obtain ⟨rfl, rfl, rfl⟩ := hcs
    have hlm : len ≤ m := by rw [hmm]; split <;> omega
    rw [hxd] at hr
    obtain ⟨hr1, hr2⟩ := hr.elems hT
    have hrl : len * P.bytesOf E ≤ reachBytes := by
      refine Nat.le_trans (Nat.mul_le_mul_right _ ?_) hr1
      simp
    have hel : ∀ i, i < len → ∃ y : α, (∀ j, j < c → w.cell? ((ad.add (i * c)).add j) = (mk y)[j]?) ∧ (mk y).length = c ∧ Wf y := by
      intro i hi
      obtain ⟨cs', h1, h2⟩ := hx i (by omega)
      obtain ⟨y, rfl, hy⟩ := hop _ _ _ h2 (hr2 _ (by simp only [List.mem_map, List.mem_range]; exact ⟨i, hi, rfl⟩))
      rw [hc] at h1
      obtain ⟨_, hlen, hcell⟩ := World.cells?_some h1
      exact ⟨y, hcell, hlen, hy⟩
    by_cases hz : 0 < len
    · obtain ⟨l, hl'⟩ := choose_lt (α := α) (p := fun i y => (∀ j, j < c → w.cell? ((ad.add (i * c)).add j) = (mk y)[j]?) ∧ (mk y).length = c ∧ Wf y) hel
      have hs : ad = ⟨ad.block, ad.off, none⟩ := by
        obtain ⟨h1, h2, _⟩ := hl' 0 hz
        have := h1 0 hc0
        simp only [Nat.zero_mul, Addr.add, if_true] at this
        rw [List.getElem?_eq_getElem (by omega)] at this
        exact cell_spot this
      have hadd : ∀ i j, (ad.add (i * c)).add j = ⟨ad.block, ad.off + i * c + j, none⟩ := by
        intro i j
        rw [hs]
        unfold Addr.add
        by_cases e1 : i * c = 0 <;> by_cases e2 : j = 0 <;> simp [e1, e2]
      refine ⟨ad.block, ad.off, l, fun _ => ⟨by rw [← hs], ?_⟩, hl, hm, fun i hi j hj => ?_, fun i hi => (hl' i hi).2.2, hrl⟩
      · obtain ⟨h1, h2, _⟩ := hl' 0 hz
        have := h1 0 hc0
        rw [hadd] at this
        rw [List.getElem?_eq_getElem (by omega)] at this
        unfold World.cell? at this
        split at this
        · rename_i hh; exact lt_of_at hh
        · cases this
      · rw [← hadd]; exact (hl' i hi).1 j hj
    · exact ⟨0, 0, fun _ => default, by omega, by omega, hm, by omega, by omega, hrl⟩
/-- The cells of a slice of elements, in one row. -/
theorem flat_get {α : Type} (mk : α → List Value) (c : Nat) (hc0 : 0 < c) : ∀ (ys : List α), (∀ y ∈ ys, (mk y).length = c) → ∀ j u, (ys.flatMap mk)[j]? = some u → ∃ i, ∃ h : i < ys.length, j = i * c + j % c ∧ (mk ys[i])[j % c]? = some u
  | [], _, j, u, h => by simp at h
  | a :: r, hy, j, u, h => by
    have ha := hy a (by simp)
    rw [List.flatMap_cons] at h
    by_cases hj : j < c
    · rw [List.getElem?_append_left (by omega)] at h
      refine ⟨0, by simp, by rw [Nat.mod_eq_of_lt hj]; omega, ?_⟩
      rw [Nat.mod_eq_of_lt hj]; exact h
    · rw [List.getElem?_append_right (by omega), ha] at h
      obtain ⟨i, hi, h1, h2⟩ := flat_get mk c hc0 r (fun y hy' => hy y (by simp [hy'])) (j - c) u h
      have hmod : (j - c) % c = j % c := by
        have : j = j - c + c := by omega
        conv => rhs; rw [this]
        rw [Nat.add_mod_right]
      rw [hmod] at h1 h2
      exact ⟨i + 1, by simpa using hi, by rw [Nat.add_mul]; omega, by simpa using h2⟩
theorem sl_of_rows {α : Type} (mk : α → List Value) {c len cap b off : Nat} {a : Option Addr} {l : Nat → α} (hc0 : 0 < c) (hmk : ∀ y, (mk y).length = c) (hone : ∀ y, ∀ u ∈ mk y, u.oneCell' = true)
    (h1 : 0 < len → a = some ⟨b, off, none⟩ ∧ b < w.heap.size) (h2 : len ≤ cap) (h3 : cap ≤ maxLen) (h4 : ∀ i, i < len → ∀ j, j < c → w.cell? ⟨b, off + i * c + j, none⟩ = (mk (l i))[j]?) :
    Sl w c a len cap (((List.range len).map l).flatMap mk) := by
  have hlen : ∀ ys : List α, (ys.flatMap mk).length = ys.length * c := by
    intro ys
    induction ys with
    | nil => simp
    | cons y r ih => rw [List.flatMap_cons, List.length_append, hmk, ih, List.length_cons, Nat.add_mul]; omega
  refine ⟨by rw [hlen]; simp, h2, h3, ?_, b, off, h1, fun j u hj => ?_⟩
  · intro u hu
    simp only [List.mem_flatMap] at hu
    obtain ⟨y, _, hy⟩ := hu
    exact hone y u hy
  · obtain ⟨i, hi, e1, e2⟩ := flat_get mk c hc0 _ (fun y _ => hmk y) j u hj
    have hi2 : i < len := by simpa using hi
    have hjc : j % c < c := Nat.mod_lt _ hc0
    have := h4 i hi2 (j % c) hjc
    rw [show off + i * c + j % c = off + j from by omega] at this
    rw [this]
    simpa using e2
theorem flat1 {α : Type} (f : α → Value) : ∀ l : List α, l.flatMap (fun d => [f d]) = l.map f
  | [] => rfl
  | a :: r => by rw [List.flatMap_cons, flat1 f r]; rfl
end
end Go.Proofs.YtpdkkokgpdabhaaDoor
namespace Go.Proofs.YtpdkkokgpdabhaaDoor
open Go.ChangeShapes Go.WideShapes Go.ChangeAt Go.RowKit Go.Deep Go.Joins
set_option linter.unusedSimpArgs false
set_option linter.unusedVariables false

theorem of_wf_u8 {x : Int} (h : (Lit.int .u8 x).wf = true) : 0 ≤ x ∧ x < 256 := by simp [Lit.wf, IntKind.min, IntKind.max, IntKind.signed, IntKind.bits] at h; omega
theorem open_bytes {H : Type} {enc : TypeId × Value → H} {w : World} {base : Nat} {spare : Nat → Bool} {held : Bool} {fuel len cap : Nat} {a : Option Addr} {x : DataW H × List MemPlace}
    (h : DataW.trod enc Tryd.prog w base spare held fuel 23 [.slice a len cap] = some x) : ∃ l, BytesIn w a len cap l := by
  have : Inhabited Int := ⟨0⟩
  obtain ⟨b, off, l, h1, h2, h3, h4, h5⟩ := open_rows (mk := fun d : Int => [.int .u8 d])
    (Wf := fun d => 0 ≤ d ∧ d < 256) Tryd.underlying23 (c := 1) (by kernel_rfl) (by decide) (by
      intro n cs x hx
      obtain ⟨y, e, wy⟩ := open_intc Tryd.underlying5 hx
      exact ⟨y, e, of_wf_u8 wy⟩) h
  have hlen : ((List.range len).map l).length = len := by simp
  refine ⟨(List.range len).map l, ⟨by rw [bs_len, hlen]; omega, h2, h3, bs_one _, b, off, h1, fun j u hj => ?_⟩, by
    intro y hy
    simp at hy
    obtain ⟨i, hi, rfl⟩ := hy
    exact h5 i hi⟩
  have hjl : j < (bs ((List.range len).map l)).length := (List.getElem?_eq_some_iff.1 hj).1
  rw [bs_len, hlen] at hjl
  rw [bs_get (by rw [hlen]; exact hjl)] at hj
  have hd : ((List.range len).map l).getD j 0 = l j := by simp [hjl]
  rw [hd] at hj
  have := h4 j hjl 0 (by omega)
  simp at this hj
  rw [this, hj]
end Go.Proofs.YtpdkkokgpdabhaaDoor
namespace Go.Proofs.YtpdkkokgpdabhaaDoor
open Go.ChangeShapes Go.WideShapes Go.ChangeAt Go.RowKit Go.Deep Go.Joins
set_option linter.unusedSimpArgs false
set_option linter.unusedVariables false

section
variable {H : Type} {enc : TypeId × Value → H} {w : World} {base : Nat} {spare : Nat → Bool} {held : Bool}
theorem str_wf {l : List Int} {s : ByteArray} (e : s = strOfNums l) : l.length = s.data.toList.length := by rw [e, strOfNums_data, List.length_map]
theorem open_text {n : Nat} {cs : List Value} {x : DataW H × List MemPlace} (hx : DataW.trod enc Tryd.prog w base spare held n 9 cs = some x) (hr : Within Tryd.prog 9 x.1) :
    ∃ l, cs = [.string (strOfNums l)] ∧ WfL l ∧ l.length ≤ 1000000000000000 := by
  obtain ⟨s, h1, h2, h3⟩ := DataW.trod_string Tryd.underlying9 hx
  obtain ⟨l, hl, e⟩ := str_is s
  refine ⟨l, by rw [h1, e], hl, ?_⟩
  have e1 : x.1 = .lit (.string s.data.toList) := by rw [h2]
  rw [e1] at hr
  have := hr s.data.toList.length (by rw [DataW.weights]; simp)
  rw [str_wf e]
  unfold reachBytes at this
  omega
set_option maxRecDepth 100000 in
theorem open_rootc {n : Nat} {cs : List Value} {x : DataW H × List MemPlace} (hx : DataW.trod enc Tryd.prog w base spare held n 34 cs = some x) (hr : Within Tryd.prog 34 x.1) :
    ∃ d : Rt, cs = d.cells ∧ d.wf := by
  obtain ⟨y0, y1, y2, m, e, hl, g0, g1, g2⟩ := trod_struct3 Tryd.underlying34 hx
  rw [e] at hr
  have r0 := hr.field Tryd.underlying34 (j := 0) rfl rfl
  rw [show Tryd.prog.cellsOf 34 = 3 from by kernel_rfl] at hl
  match cs, hl with
  | [c0, c1, c2], _ =>
    simp only [show Tryd.prog.cellsOf 3 = 1 from by kernel_rfl, show Tryd.prog.cellsOf 9 = 1 from by kernel_rfl] at g0 g1 g2
    simp only [List.drop_zero, List.take_succ_cons, List.take_zero, List.drop_succ_cons] at g0 g1 g2
    obtain ⟨l, e0, w0, b0⟩ := open_text g0 r0
    obtain ⟨p, e1, _⟩ := open_intc Tryd.underlying3 g1
    obtain ⟨c, e2, _⟩ := open_intc Tryd.underlying3 g2
    simp at e0 e1 e2
    exact ⟨⟨l, p, c⟩, by simp [Rt.cells, e0, e1, e2], w0, b0⟩
/-- A list of roots. -/
theorem open_rootsW {fuel len cap : Nat} {a : Option Addr} {x : DataW H × List MemPlace}
    (h : DataW.trod enc Tryd.prog w base spare held fuel 22 [.slice a len cap] = some x) (hr : Within Tryd.prog 22 x.1) : ∃ rs, RtsIn w a len cap rs := by
  obtain ⟨b, off, l, h1, h2, h3, h4, h5, h6⟩ := open_rowsW (mk := Rt.cells)
    (Wf := fun d => d.wf) Tryd.underlying22 (c := 3) (by kernel_rfl) (by decide) (fun n cs x hx hr => open_rootc hx hr) h hr
  have hs := sl_of_rows Rt.cells (by decide) (fun y => rfl) (by intro y u hu; simp [Rt.cells] at hu; rcases hu with rfl | rfl | rfl <;> rfl) h1 h2 h3 h4
  refine ⟨(List.range len).map l, hs, fun r hr => ?_⟩
  simp at hr
  obtain ⟨i, hi, rfl⟩ := hr
  exact h5 i hi
end
set_option maxRecDepth 100000 in
/-- A root. -/
theorem open_root {H : Type} {enc : TypeId × Value → H} {w : World} {base : Nat} {spare : Nat → Bool} {held : Bool} {r : Reach} {b0 fuel : Nat} {v : Value} {x : DataW H × List MemPlace}
    (hv : Value.okWide Tryd.prog w r b0 34 v) (h : DataW.trod enc Tryd.prog w base spare held fuel 34 v.cells.toList = some x) (hr : Within Tryd.prog 34 x.1) :
    ∃ d : Rt, v = d.val ∧ d.wf := by
  obtain ⟨v0, v1, v2, y0, y1, y2, n, rfl, e, _, h0, h1, h2⟩ := open_agg3 (p := x.2) (d := x.1) Tryd.underlying34 (by kernel_rfl) (by kernel_rfl) hv ⟨fuel, h⟩
  rw [e] at hr
  have r0 := hr.field Tryd.underlying34 (j := 0) rfl rfl
  obtain ⟨l, e0, w0, b0⟩ := open_text h0 r0
  obtain ⟨p, e1, _⟩ := open_intc Tryd.underlying3 h1
  obtain ⟨c, e2, _⟩ := open_intc Tryd.underlying3 h2
  simp at e0 e1 e2
  exact ⟨⟨l, p, c⟩, by rw [e0, e1, e2]; rfl, w0, b0⟩
end Go.Proofs.YtpdkkokgpdabhaaDoor
namespace Go.Proofs.YtpdkkokgpdabhaaDoor
def layRow (zs : List Int) : Obj → Obj
  | .cells _ t frozen => .cells (zs.map fun z => Value.int .u8 z).toArray t frozen
  | o => o
noncomputable def laidWorld (os : Os) : World :=
  { World.holding Tryd.prog os ⟨#[], #[], []⟩ with heap := ((World.holding Tryd.prog os ⟨#[], #[], []⟩).heap.modify 1 (layRow (Pinned.utf8FirstZ.map Int.ofNat))).modify 2 (layRow ([128, 191, 160, 191, 128, 159, 144, 191, 128, 143] ++ List.replicate 22 0)) }
end Go.Proofs.YtpdkkokgpdabhaaDoor
