/- NodeMay: what the law's function returns. -/
import Derived.Test.YtbogdjjeipdbaaaDoorNodeCells
import Derived.Test.YtbogdjjeipdbaaaDoorLess
import Derived.Handy
namespace Go.Proofs.YtbogdjjeipdbaaaDoor
open Go.RowKit Go.Maps
set_option linter.unusedSimpArgs false
set_option linter.unusedVariables false

def rightAt (cs : List Cl) (i : Nat) : Bool := mayLeaf ((cs.drop i).take 1) && (i == 0 || less ((cs.map Cl.key).getD (i - 1) []) ((cs.map Cl.key).getD i []))
def rightTo (cs : List Cl) : Nat → Bool
  | 0 => decide (leafLen cs ≤ 1016)
  | i + 1 => rightTo cs i && rightAt cs i
theorem mayLeaf_one (c : Cl) : mayLeaf [c] = (mayCl c && mayKeyL c.key && decide (3 + clLen c ≤ 1016)) := by
  simp [mayLeaf, riseL, riseTo, riseAt, leafLen, lsum]
theorem rightTo_iff {cs : List Cl} : ∀ {n : Nat}, rightTo cs n = true ↔ leafLen cs ≤ 1016 ∧ ∀ i, i < n → rightAt cs i = true
  | 0 => by simp [rightTo]
  | n + 1 => by
    simp only [rightTo, Bool.and_eq_true, rightTo_iff (n := n)]
    constructor
    · rintro ⟨⟨h1, h2⟩, h3⟩
      refine ⟨h1, fun i hi => ?_⟩
      rcases Nat.lt_succ_iff_lt_or_eq.1 hi with h | rfl
      · exact h2 i h
      · exact h3
    · rintro ⟨h1, h2⟩
      exact ⟨⟨h1, fun i hi => h2 i (by omega)⟩, h2 n (by omega)⟩
theorem drop_one {cs : List Cl} {i : Nat} (hi : i < cs.length) : (cs.drop i).take 1 = [cs[i]] := by rw [List.drop_eq_getElem_cons hi]; rfl
theorem clLen_le {cs : List Cl} {i : Nat} (hi : i < cs.length) : clLen cs[i] ≤ lsum cs := by
  have h1 := lsum_take hi
  have h2 := lsum_take_le cs (i + 1)
  omega
theorem right_may (cs : List Cl) : rightTo cs cs.length = mayLeaf cs := by
  rw [Bool.eq_iff_iff, rightTo_iff]
  unfold mayLeaf
  simp only [Bool.and_eq_true, decide_eq_true_eq, List.all_eq_true]
  unfold riseL
  rw [riseTo_iff, List.length_map]
  constructor
  · rintro ⟨h1, h2⟩
    refine ⟨⟨fun c hc => ?_, fun i hi => ?_⟩, h1⟩
    · obtain ⟨i, hi, rfl⟩ := List.mem_iff_getElem.1 hc
      have := h2 i hi
      unfold rightAt at this
      rw [drop_one hi, mayLeaf_one] at this
      simp only [Bool.and_eq_true] at this
      exact this.1.1.1
    · have := h2 i hi
      unfold rightAt at this
      rw [drop_one hi, mayLeaf_one] at this
      simp only [Bool.and_eq_true] at this
      unfold riseAt
      rw [Bool.and_eq_true]
      refine ⟨?_, this.2⟩
      rw [getD_at (by simpa using hi)]; simpa using this.1.1.2
  · rintro ⟨⟨h1, h2⟩, h3⟩
    refine ⟨h3, fun i hi => ?_⟩
    have h4 := h2 i hi
    have e : (cs.map Cl.key).getD i [] = (cs[i]).key := by rw [getD_at (by simpa using hi)]; simp
    unfold riseAt at h4
    rw [Bool.and_eq_true, e] at h4
    unfold rightAt
    rw [drop_one hi, mayLeaf_one, e]
    simp only [Bool.and_eq_true, decide_eq_true_eq]
    have h5 := clLen_le hi
    unfold leafLen at h3
    exact ⟨⟨⟨h1 _ (List.getElem_mem hi), h4.1⟩, by omega⟩, h4.2⟩
theorem rightTo_false {cs : List Cl} {i : Nat} : rightTo cs i = false → rightTo cs (i + 1) = false := fun h => by simp [rightTo, h]

def mayF (A i : Nat) (cp : Option Addr) (cn cc : Nat) (p' : Option Addr) (x : Cv) (oi : Nat) (v : Value) (w : World) : Prop :=
  match oi with
  | 0 => v = .bool true
  | 1 => v = .bool true
  | 2 => v = .pointer (some ⟨A, 1, none⟩)
  | 3 => v = .slice cp cn cc
  | 4 => v = .int .i64 i
  | 5 => v = .int .i64 i
  | 6 => v = .int .i64 ((i : Int) + 1)
  | 7 => v = .slice p' 1 (cc - i)
  | 8 => v = .agg #[.bool false, .slice p' 1 (cc - i), .slice none 0 0, .slice none 0 0]
  | 9 => ∃ L, v = .iface 45 (.pointer (some ⟨L, 0, none⟩)) ∧ LeafAt w L [x]
  | 10 => v = .bool false
  | 11 => v = .bool false
  | 12 => v = .bool false
  | 13 => v = undef
  | 14 => v = undef
  | 15 => v = undef
  | 16 => v = undef
  | 17 => v = undef
  | 18 => v = undef
  | 19 => v = undef
  | 20 => v = undef
  | 21 => v = undef
  | 22 => v = undef
  | 23 => v = undef
  | 24 => v = undef
  | 25 => v = undef
  | 26 => v = undef
  | 27 => v = undef
  | 28 => v = undef
  | 29 => v = undef
  | 30 => v = undef
  | 31 => v = .bool false
  | 32 => v = .bool false
  | _ => True
theorem mayF_keep {A i : Nat} {cp : Option Addr} {cn cc : Nat} {p' : Option Addr} {x : Cv} {oi : Nat} {v : Value} {w w' : World} (hm : Mod [] w w') (hr : mayF A i cp cn cc p' x oi v w) : mayF A i cp cn cc p' x oi v w' := by
  have hk := Keep.of_mod hm
  unfold mayF at hr ⊢
  split at hr
  · exact hr
  · exact hr
  · exact hr
  · exact hr
  · exact hr
  · exact hr
  · exact hr
  · exact hr
  · exact hr
  · obtain ⟨L, h1, h2⟩ := hr; exact ⟨L, h1, h2.mod0 hm⟩
  · exact hr
  · exact hr
  · exact hr
  · exact hr
  · exact hr
  · exact hr
  · exact hr
  · exact hr
  · exact hr
  · exact hr
  · exact hr
  · exact hr
  · exact hr
  · exact hr
  · exact hr
  · exact hr
  · exact hr
  · exact hr
  · exact hr
  · exact hr
  · exact hr
  · exact hr
  · exact hr
  · trivial
def mayZ (A i : Nat) (cp : Option Addr) (cn cc : Nat) (p' : Option Addr) (x : Cv) (oi : Nat) (v : Value) (w : World) : Prop :=
  match oi with
  | 0 => v = .bool true
  | 1 => v = .bool true
  | 2 => v = .pointer (some ⟨A, 1, none⟩)
  | 3 => v = .slice cp cn cc
  | 4 => v = .int .i64 i
  | 5 => v = .int .i64 i
  | 6 => v = .int .i64 ((i : Int) + 1)
  | 7 => v = .slice p' 1 (cc - i)
  | 8 => v = .agg #[.bool false, .slice p' 1 (cc - i), .slice none 0 0, .slice none 0 0]
  | 9 => ∃ L, v = .iface 45 (.pointer (some ⟨L, 0, none⟩)) ∧ LeafAt w L [x]
  | 10 => v = .bool true
  | 11 => v = .bool true
  | 12 => v = .bool true
  | 13 => v = .int .i64 i
  | 14 => v = .bool true
  | 15 => v = .bool true
  | 16 => v = undef
  | 17 => v = undef
  | 18 => v = undef
  | 19 => v = undef
  | 20 => v = undef
  | 21 => v = undef
  | 22 => v = undef
  | 23 => v = undef
  | 24 => v = undef
  | 25 => v = undef
  | 26 => v = undef
  | 27 => v = undef
  | 28 => v = undef
  | 29 => v = undef
  | 30 => v = .bool true
  | 31 => v = .bool true
  | 32 => v = .bool true
  | _ => True
theorem mayZ_keep {A i : Nat} {cp : Option Addr} {cn cc : Nat} {p' : Option Addr} {x : Cv} {oi : Nat} {v : Value} {w w' : World} (hm : Mod [] w w') (hr : mayZ A i cp cn cc p' x oi v w) : mayZ A i cp cn cc p' x oi v w' := by
  have hk := Keep.of_mod hm
  unfold mayZ at hr ⊢
  split at hr
  · exact hr
  · exact hr
  · exact hr
  · exact hr
  · exact hr
  · exact hr
  · exact hr
  · exact hr
  · exact hr
  · obtain ⟨L, h1, h2⟩ := hr; exact ⟨L, h1, h2.mod0 hm⟩
  · exact hr
  · exact hr
  · exact hr
  · exact hr
  · exact hr
  · exact hr
  · exact hr
  · exact hr
  · exact hr
  · exact hr
  · exact hr
  · exact hr
  · exact hr
  · exact hr
  · exact hr
  · exact hr
  · exact hr
  · exact hr
  · exact hr
  · exact hr
  · exact hr
  · exact hr
  · exact hr
  · trivial
def mayL (A i : Nat) (cp : Option Addr) (cn cc : Nat) (p' : Option Addr) (x : Cv) (j b off : Nat) (xp yp : Option Addr) (xn xc yn yc : Nat) (LB : Bool) (oi : Nat) (v : Value) (w : World) : Prop :=
  match oi with
  | 0 => v = .bool true
  | 1 => v = .bool true
  | 2 => v = .pointer (some ⟨A, 1, none⟩)
  | 3 => v = .slice cp cn cc
  | 4 => v = .int .i64 i
  | 5 => v = .int .i64 i
  | 6 => v = .int .i64 ((i : Int) + 1)
  | 7 => v = .slice p' 1 (cc - i)
  | 8 => v = .agg #[.bool false, .slice p' 1 (cc - i), .slice none 0 0, .slice none 0 0]
  | 9 => ∃ L, v = .iface 45 (.pointer (some ⟨L, 0, none⟩)) ∧ LeafAt w L [x]
  | 10 => v = .bool true
  | 11 => v = .bool true
  | 12 => v = .bool true
  | 13 => v = .int .i64 i
  | 14 => v = .bool false
  | 15 => v = .bool false
  | 16 => v = .pointer (some ⟨A, 1, none⟩)
  | 17 => v = .slice cp cn cc
  | 18 => v = .int .i64 i
  | 19 => v = .int .i64 j
  | 20 => v = .pointer (some ⟨b, off + j * 4, none⟩)
  | 21 => v = .pointer (some ⟨b, off + j * 4, none⟩)
  | 22 => v = .slice yp yn yc
  | 23 => v = .pointer (some ⟨A, 1, none⟩)
  | 24 => v = .slice cp cn cc
  | 25 => v = .int .i64 i
  | 26 => v = .pointer (some ⟨b, off + i * 4, none⟩)
  | 27 => v = .pointer (some ⟨b, off + i * 4, none⟩)
  | 28 => v = .slice xp xn xc
  | 29 => v = .bool LB
  | 30 => v = .bool LB
  | 31 => v = .bool LB
  | 32 => v = .bool LB
  | _ => True
theorem mayL_keep {A i : Nat} {cp : Option Addr} {cn cc : Nat} {p' : Option Addr} {x : Cv} {j b off : Nat} {xp yp : Option Addr} {xn xc yn yc : Nat} {LB : Bool} {oi : Nat} {v : Value} {w w' : World} (hm : Mod [] w w') (hr : mayL A i cp cn cc p' x j b off xp yp xn xc yn yc LB oi v w) : mayL A i cp cn cc p' x j b off xp yp xn xc yn yc LB oi v w' := by
  have hk := Keep.of_mod hm
  unfold mayL at hr ⊢
  split at hr
  · exact hr
  · exact hr
  · exact hr
  · exact hr
  · exact hr
  · exact hr
  · exact hr
  · exact hr
  · exact hr
  · obtain ⟨L, h1, h2⟩ := hr; exact ⟨L, h1, h2.mod0 hm⟩
  · exact hr
  · exact hr
  · exact hr
  · exact hr
  · exact hr
  · exact hr
  · exact hr
  · exact hr
  · exact hr
  · exact hr
  · exact hr
  · exact hr
  · exact hr
  · exact hr
  · exact hr
  · exact hr
  · exact hr
  · exact hr
  · exact hr
  · exact hr
  · exact hr
  · exact hr
  · exact hr
  · trivial
set_option maxRecDepth 100000 in
set_option maxHeartbeats 16000000 in
theorem nmay_any (br : Bool) (cp : Option Addr) (cn cc : Nat) (xs : List Cv) (kp : Option Addr) (kn kc : Nat) (ks : List Bv) (qp : Option Addr) (qn qc : Nat) (kids : List Int) (w : World) (h : NdIn w br cp cn cc xs kp kn kc ks qp qn qc kids) :
    Calls Tryd.prog 4 #[.agg #[.bool br, .slice cp cn cc, .slice kp kn kc, .slice qp qn qc]] w (Ret (TrueR w)) := by
  have HA0 := Lib.hid (at_alloc w (.cells #[.bool br, .slice cp cn cc, .slice kp kn kc, .slice qp qn qc] 26))
  have HM0 := Lib.hid (Mod.of_alloc w (.cells #[.bool br, .slice cp cn cc, .slice kp kn kc, .slice qp qn qc] 26))
  have H := Lib.hid h
  have HXL := Lib.hid h.cells.len
  have HKL := Lib.hid h.keys.len
  have HLS : Hid (csz xs + kz ks + kids.length ≤ 5000 → lsum (xs.map Cv.pl) ≤ 45000 ∧ cn ≤ 5000) := fun hs => by
    have h1 := lsum_csz (xs := xs) fun x hx => ⟨(h.cells.io x hx).1.len, (h.cells.io x hx).2.len⟩
    have h5 : ∀ ys : List Cv, ys.length ≤ csz ys := fun ys => by
      induction ys with
      | nil => simp
      | cons a r ih => simp only [csz, List.map_cons, List.sum_cons, List.length_cons] at ih ⊢; omega
    have h7 := h5 xs
    rw [HXL.out] at h7
    exact ⟨by omega, by omega⟩
  clear h
  go_enter Tryd.func4, Tryd.ntmps4
  go_wp2_with fail
  obtain ⟨A, hA⟩ : ∃ A, A = w.heap.size := ⟨_, rfl⟩
  rw [← hA] at HA0 ⊢
  clear hA
  refine (awake_any _).mono ?_
  rintro _ w1 ⟨_, rfl, rfl, m1⟩
  have HA1 := Lib.hid (m1.at HA0.out (by simp))
  have HM1 : Hid (Mod [] w w1) := HM0.out.same m1
  clear m1 HA0 HM0
  have c0 : w1.cell? ⟨A, 0, none⟩ = some (.bool br) := cell_of_at HA1.out 0
  have c1 : w1.cell? ⟨A, 1, none⟩ = some (.slice cp cn cc) := cell_of_at HA1.out 1
  have c2 : w1.cell? ⟨A, 2, none⟩ = some (.slice kp kn kc) := cell_of_at HA1.out 2
  have c3 : w1.cell? ⟨A, 3, none⟩ = some (.slice qp qn qc) := cell_of_at HA1.out 3
  go_wp2_with fail
  refine (small_any br cp cn cc xs kp kn kc ks qp qn qc kids _ (H.out.mod0 HM1.out)).mono ?_
  rintro _ w2 ⟨_, rfl, S, rfl, hS, m2⟩
  have HS := Lib.hid hS
  have HA2 := Lib.hid (m2.at HA1.out (by simp))
  have HM2 : Hid (Mod [] w w2) := HM1.out.same m2
  clear m2 HA1 HM1 c0 c1 c2 c3 hS
  have c0 : w2.cell? ⟨A, 0, none⟩ = some (.bool br) := cell_of_at HA2.out 0
  cases S with
  | false =>
    go_wp2
    go_ret
    exact .mk ⟨rfl, HM2.out⟩
  | true =>
    obtain ⟨b1, b3⟩ := HLS.out (HS.out rfl)
    clear HS HLS
    cases br with
    | true =>
      go_wp2
      go_ret
      exact .mk ⟨rfl, HM2.out⟩
    | false =>
      have c1 : w2.cell? ⟨A, 1, none⟩ = some (.slice cp cn cc) := cell_of_at HA2.out 1
      have c2 : w2.cell? ⟨A, 2, none⟩ = some (.slice kp kn kc) := cell_of_at HA2.out 2
      have c3 : w2.cell? ⟨A, 3, none⟩ = some (.slice qp qn qc) := cell_of_at HA2.out 3
      go_wp2_with fail
      refine (of_any false cp cn cc xs kp kn kc ks qp qn qc kids _ (H.out.mod0 HM2.out) (fun _ => by omega)).mono ?_
      rintro _ w3 ⟨_, rfl, m3, hof⟩
      rw [if_neg (by simp)] at hof
      obtain ⟨L, rfl, hL⟩ := hof
      have HA3 := Lib.hid (m3.at HA2.out (by simp))
      have HM3 : Hid (Mod [] w w3) := HM2.out.same m3
      have hlb : leafLen (xs.map Cv.pl) ≤ 1000000000000 := by unfold leafLen; omega
      have HLE := Lib.hid (leaflen_any L xs w3 hL (by omega))
      clear m3 HA2 HM2 c0 c1 c2 c3 hL
      go_wp2_with fail
      refine HLE.out.mono ?_
      rintro _ w4 ⟨_, rfl, rfl, m4⟩
      have HA4 := Lib.hid (m4.at HA3.out (by simp))
      have HM4 : Hid (Mod [] w w4) := HM3.out.same m4
      have HR0 : Hid (rightTo (xs.map Cv.pl) 0 = decide ((leafLen (xs.map Cv.pl) : Int) ≤ 1016)) := by
        unfold Hid; show decide (leafLen (xs.map Cv.pl) ≤ 1016) = _; exact decide_eq_decide.2 (by omega)
      have HLB := Lib.hid hlb
      obtain ⟨LL, hLL⟩ : ∃ LL : Nat, LL = leafLen (xs.map Cv.pl) := ⟨_, rfl⟩
      rw [← hLL] at HR0 ⊢
      clear m4 HLE HA3 HM3 hLL hlb
      go_wp2
      go_loopw [3, 4] (fun rv iv wr => ∃ i : Nat, i ≤ cn ∧ iv = .int .i64 i ∧ rv = .bool (rightTo (xs.map Cv.pl) i) ∧ wr.heap[A]? = some (.cells #[.bool false, .slice cp cn cc, .slice kp kn kc, .slice qp qn qc] 26 (0, 0)) ∧ Mod [] w wr) (fun _ iv _ => cn - (intOf iv).toNat)
      case atStart => exact ⟨0, by omega, rfl, by rw [HR0.out], HA4.out, HM4.out⟩
      case round =>
        obtain ⟨i, hi, rfl, rfl, hat, hm⟩ := hrel
        have HAT := Lib.hid hat
        have HM := Lib.hid hm
        have c1 : wr.cell? ⟨A, 1, none⟩ = some (.slice cp cn cc) := cell_of_at hat 1
        have c0 : wr.cell? ⟨A, 0, none⟩ = some (.bool false) := cell_of_at hat 0
        have c2 : wr.cell? ⟨A, 2, none⟩ = some (.slice kp kn kc) := cell_of_at hat 2
        have c3 : wr.cell? ⟨A, 3, none⟩ = some (.slice qp qn qc) := cell_of_at hat 3
        clear hat hm HR0 HA4 HM4
        by_cases hlt : i < cn
        · have hwi : IntKind.i64.wrap ((i : Int) + 1) = (i : Int) + 1 := IntWalk.i64_in _ (by omega)
          cases hR : rightTo (xs.map Cv.pl) i with
          | false =>
            have HRN := Lib.hid (rightTo_false hR)
            clear hR
            go_wp2_with fail
            go_quiet (fail)
            go_wp2
            go_roundw
            case rel => exact ⟨i + 1, by omega, by go_num, by rw [HRN.out], HAT.out, HM.out.drewN⟩
            case measure => simp [intOf]; omega
          | true =>
            obtain ⟨x, hxx⟩ : ∃ x, xs[i]? = some x := ⟨_, List.getElem?_eq_getElem (by rw [HXL.out]; exact hlt)⟩
            obtain ⟨p', hsl, hone⟩ := H.out.cells.one hxx Tryd.underlying22 sizeRCells
            have hx2 := H.out.bcs x (List.mem_of_getElem? hxx)
            have hxl : i < (xs.map Cv.pl).length := by rw [List.length_map, HXL.out]; exact hlt
            have hxp : (xs.map Cv.pl)[i] = x.pl := by
              obtain ⟨h1, h2⟩ := List.getElem?_eq_some_iff.1 hxx
              simp [h2]
            have hcl : leafLen ([x].map Cv.pl) ≤ 1000000000000 := by
              have := clLen_le hxl
              rw [hxp] at this
              simp [leafLen, lsum]; omega
            have HND : Hid (NdIn wr false p' 1 (cc - i) [x] none 0 0 [] none 0 0 []) := by
              refine ⟨hone.mod0 HM.out, ⟨by simpa using Sl.nil _ 1, by simp⟩, by simpa using Sl.nil _ 1, by decide, by decide, by decide, fun y hy => ?_, by simp⟩
              simp at hy; subst hy; exact hx2
            have hat1 : mayLeaf (([x] : List Cv).map Cv.pl) = mayLeaf (((xs.map Cv.pl).drop i).take 1) := by rw [drop_one hxl, hxp]; rfl
            have HRS : Hid (rightTo (xs.map Cv.pl) (i + 1) = (mayLeaf (([x] : List Cv).map Cv.pl) && (i == 0 || less (((xs.map Cv.pl).map Cl.key).getD (i - 1) []) x.k.l))) := by
              unfold Hid
              show (rightTo (xs.map Cv.pl) i && rightAt (xs.map Cv.pl) i) = _
              rw [hR, Bool.true_and]; unfold rightAt; rw [← hat1]
              have e : ((xs.map Cv.pl).map Cl.key).getD i [] = x.k.l := by rw [getD_at (by rw [List.length_map]; exact hxl), List.getElem_map, hxp]; rfl
              rw [e]
            have HCL := Lib.hid hcl
            have HXX := Lib.hid hxx
            have HOF := fun W (hm : Mod [] wr W) => Lib.hid (of_any false p' 1 (cc - i) [x] none 0 0 [] none 0 0 [] W (HND.out.mod0 hm) (fun _ => by omega))
            have HMY := fun L' W h => Lib.hid (leafmay_any L' [x] W h HCL.out)
            obtain ⟨M, hM⟩ : ∃ M, M = mayLeaf (([x] : List Cv).map Cv.pl) := ⟨_, rfl⟩
            simp only [← hM] at HMY
            rw [← hM] at HRS
            have MD : Hid (Mod [] wr wr.drew) := Mod.of_drew wr
            have hA : A < wr.heap.size := lt_of_at HAT.out
            clear hone hx2 hxl hxp hcl hat1 hR hM hxx HND c0 c2 c3
            have hc1 := c1
            have hAl := hA
            clear c1 MD hA
            cases M with
            | false =>
              have HRN : Hid (rightTo (xs.map Cv.pl) (i + 1) = false) := by rw [HRS.out]; rfl
              clear HRS
              go_wp2_with fail
              refine par_region (by kernel_rfl) (fun oi vs w => mayF A i cp cn cc p' x oi (vs oi) w) (fun w' => Mod [] wr w') (by kernel_rfl) (fun j vs vs' w o _ h1 _ h2 => by rw [← h1]; exact h2) ⟨⟨⟨⟨⟨⟨⟨⟨⟨⟨⟨⟨⟨⟨⟨⟨⟨⟨⟨⟨⟨⟨⟨⟨⟨⟨⟨⟨⟨⟨⟨⟨⟨trivial, ?_⟩, ?_⟩, ?_⟩, ?_⟩, ?_⟩, ?_⟩, ?_⟩, ?_⟩, ?_⟩, ?_⟩, ?_⟩, ?_⟩, ?_⟩, ?_⟩, ?_⟩, ?_⟩, ?_⟩, ?_⟩, ?_⟩, ?_⟩, ?_⟩, ?_⟩, ?_⟩, ?_⟩, ?_⟩, ?_⟩, ?_⟩, ?_⟩, ?_⟩, ?_⟩, ?_⟩, ?_⟩, ?_⟩ (Mod.of_drew wr) ?_
              · intro o ho listed vs a w' inv hun haft K hK
                obtain rfl := Option.some.inj ho
                refine par_run rfl ?_
                have e0 := inv.oldU hun 3 32 [31, 12, 11, 1, 0] (by kernel_rfl) (by kernel_rfl)
                have INV := Lib.hid inv
                clear inv haft hun ho
                simp at e0
                go_simp
                exact hK _ _ INV.out.inv INV.out.val rfl
              · intro o ho listed vs a w' inv hun haft K hK
                obtain rfl := Option.some.inj ho
                refine par_run rfl ?_
                obtain ⟨e0, r0⟩ := inv.get haft 0 25 (by kernel_rfl) (by kernel_rfl)
                have INV := Lib.hid inv
                clear inv haft hun ho
                change vs 0 = .bool true at r0
                rw [r0] at e0
                have g0 := getD_opt e0
                go_simp
                exact hK _ _ INV.out.inv INV.out.val rfl
              · intro o ho listed vs a w' inv hun haft K hK
                obtain rfl := Option.some.inj ho
                obtain ⟨e0, r0⟩ := inv.get haft 1 26 (by kernel_rfl) (by kernel_rfl)
                have e1 := inv.old 1 (by kernel_rfl)
                have INV := Lib.hid inv
                clear inv haft hun ho
                change vs 1 = .bool true at r0
                rw [r0] at e0
                have g0 := getD_opt e0
                simp at e1
                refine par_guard rfl (by kernel_rfl) e0 ?_
                rw [if_pos rfl]
                go_simp
                exact hK _ _ INV.out.inv INV.out.val rfl
              · intro o ho listed vs a w' inv hun haft K hK
                obtain rfl := Option.some.inj ho
                obtain ⟨e0, r0⟩ := inv.get haft 1 26 (by kernel_rfl) (by kernel_rfl)
                obtain ⟨e1, r1⟩ := inv.get haft 2 27 (by kernel_rfl) (by kernel_rfl)
                have INV := Lib.hid inv
                clear inv haft hun ho
                change vs 1 = .bool true at r0
                rw [r0] at e0
                have g0 := getD_opt e0
                change vs 2 = .pointer (some ⟨A, 1, none⟩) at r1
                rw [r1] at e1
                have g1 := getD_opt e1
                have c1 := (INV.out.inv.cell (a := ⟨A, 1, none⟩) hAl (by simp)).trans hc1
                refine par_guard rfl (by kernel_rfl) e0 ?_
                rw [if_pos rfl]
                go_simp
                exact hK _ _ INV.out.inv INV.out.val rfl
              · intro o ho listed vs a w' inv hun haft K hK
                obtain rfl := Option.some.inj ho
                obtain ⟨e0, r0⟩ := inv.get haft 1 26 (by kernel_rfl) (by kernel_rfl)
                have e1 := inv.old 4 (by kernel_rfl)
                have INV := Lib.hid inv
                clear inv haft hun ho
                change vs 1 = .bool true at r0
                rw [r0] at e0
                have g0 := getD_opt e0
                simp at e1
                refine par_guard rfl (by kernel_rfl) e0 ?_
                rw [if_pos rfl]
                go_simp
                exact hK _ _ INV.out.inv INV.out.val rfl
              · intro o ho listed vs a w' inv hun haft K hK
                obtain rfl := Option.some.inj ho
                obtain ⟨e0, r0⟩ := inv.get haft 1 26 (by kernel_rfl) (by kernel_rfl)
                have e1 := inv.old 4 (by kernel_rfl)
                have INV := Lib.hid inv
                clear inv haft hun ho
                change vs 1 = .bool true at r0
                rw [r0] at e0
                have g0 := getD_opt e0
                simp at e1
                refine par_guard rfl (by kernel_rfl) e0 ?_
                rw [if_pos rfl]
                go_simp
                exact hK _ _ INV.out.inv INV.out.val rfl
              · intro o ho listed vs a w' inv hun haft K hK
                obtain rfl := Option.some.inj ho
                obtain ⟨e0, r0⟩ := inv.get haft 1 26 (by kernel_rfl) (by kernel_rfl)
                obtain ⟨e1, r1⟩ := inv.get haft 5 30 (by kernel_rfl) (by kernel_rfl)
                have INV := Lib.hid inv
                clear inv haft hun ho
                change vs 1 = .bool true at r0
                rw [r0] at e0
                have g0 := getD_opt e0
                change vs 5 = .int .i64 i at r1
                rw [r1] at e1
                have g1 := getD_opt e1
                refine par_guard rfl (by kernel_rfl) e0 ?_
                rw [if_pos rfl]
                go_simp
                exact hK _ _ INV.out.inv INV.out.val rfl
              · intro o ho listed vs a w' inv hun haft K hK
                obtain rfl := Option.some.inj ho
                obtain ⟨e0, r0⟩ := inv.get haft 1 26 (by kernel_rfl) (by kernel_rfl)
                obtain ⟨e1, r1⟩ := inv.get haft 3 28 (by kernel_rfl) (by kernel_rfl)
                obtain ⟨e2, r2⟩ := inv.get haft 4 29 (by kernel_rfl) (by kernel_rfl)
                obtain ⟨e3, r3⟩ := inv.get haft 6 31 (by kernel_rfl) (by kernel_rfl)
                have INV := Lib.hid inv
                clear inv haft hun ho
                change vs 1 = .bool true at r0
                rw [r0] at e0
                have g0 := getD_opt e0
                change vs 3 = .slice cp cn cc at r1
                rw [r1] at e1
                have g1 := getD_opt e1
                change vs 4 = .int .i64 i at r2
                rw [r2] at e2
                have g2 := getD_opt e2
                change vs 6 = .int .i64 ((i : Int) + 1) at r3
                rw [r3] at e3
                have g3 := getD_opt e3
                refine par_guard rfl (by kernel_rfl) e0 ?_
                rw [if_pos rfl]
                go_simp
                exact hK _ _ INV.out.inv INV.out.val rfl
              · intro o ho listed vs a w' inv hun haft K hK
                obtain rfl := Option.some.inj ho
                obtain ⟨e0, r0⟩ := inv.get haft 1 26 (by kernel_rfl) (by kernel_rfl)
                obtain ⟨e1, r1⟩ := inv.get haft 7 32 (by kernel_rfl) (by kernel_rfl)
                have INV := Lib.hid inv
                clear inv haft hun ho
                change vs 1 = .bool true at r0
                rw [r0] at e0
                have g0 := getD_opt e0
                change vs 7 = .slice p' 1 (cc - i) at r1
                rw [r1] at e1
                have g1 := getD_opt e1
                refine par_guard rfl (by kernel_rfl) e0 ?_
                rw [if_pos rfl]
                go_simp
                exact hK _ _ INV.out.inv INV.out.val rfl
              · intro o ho listed vs a w' inv hun haft K hK
                obtain rfl := Option.some.inj ho
                obtain ⟨e0, r0⟩ := inv.get haft 1 26 (by kernel_rfl) (by kernel_rfl)
                obtain ⟨e1, r1⟩ := inv.get haft 8 33 (by kernel_rfl) (by kernel_rfl)
                have INV := Lib.hid inv
                clear inv haft hun ho
                change vs 1 = .bool true at r0
                rw [r0] at e0
                have g0 := getD_opt e0
                change vs 8 = .agg #[.bool false, .slice p' 1 (cc - i), .slice none 0 0, .slice none 0 0] at r1
                rw [r1] at e1
                have g1 := getD_opt e1
                refine par_guard rfl (by kernel_rfl) e0 ?_
                rw [if_pos rfl]
                go_simp
                refine (HOF _ INV.out.inv).out.mono ?_
                rintro _ w3 ⟨_, rfl, m3, hof⟩
                rw [if_neg (by simp)] at hof
                obtain ⟨L5, rfl, hL5⟩ := hof
                exact hK _ _ (INV.out.inv.same m3) (fun j hj hl => mayF_keep m3 (INV.out.val j hj hl)) ⟨_, rfl, hL5⟩
              · intro o ho listed vs a w' inv hun haft K hK
                obtain rfl := Option.some.inj ho
                obtain ⟨e0, r0⟩ := inv.get haft 1 26 (by kernel_rfl) (by kernel_rfl)
                obtain ⟨e1, r1⟩ := inv.get haft 9 34 (by kernel_rfl) (by kernel_rfl)
                have INV := Lib.hid inv
                clear inv haft hun ho
                change vs 1 = .bool true at r0
                rw [r0] at e0
                have g0 := getD_opt e0
                have g1 := getD_opt e1
                refine par_guard rfl (by kernel_rfl) e0 ?_
                rw [if_pos rfl]
                obtain ⟨L5, h5, hL5⟩ := r1
                rw [h5] at e1
                have g1 := getD_opt e1
                have HL5 := Lib.hid hL5
                clear hL5 h5
                go_simp
                go_invoke
                go_simp
                refine (HMY _ _ HL5.out).out.mono ?_
                rintro _ w3 ⟨_, rfl, rfl, m3⟩
                exact hK _ _ (INV.out.inv.same m3) (fun j hj hl => mayF_keep m3 (INV.out.val j hj hl)) rfl
              · intro o ho listed vs a w' inv hun haft K hK
                obtain rfl := Option.some.inj ho
                refine par_run rfl ?_
                obtain ⟨e0, r0⟩ := inv.get haft 1 26 (by kernel_rfl) (by kernel_rfl)
                obtain ⟨e1, r1⟩ := inv.get haft 10 35 (by kernel_rfl) (by kernel_rfl)
                have INV := Lib.hid inv
                clear inv haft hun ho
                change vs 1 = .bool true at r0
                rw [r0] at e0
                have g0 := getD_opt e0
                change vs 10 = .bool false at r1
                rw [r1] at e1
                have g1 := getD_opt e1
                go_simp
                exact hK _ _ INV.out.inv INV.out.val rfl
              · intro o ho listed vs a w' inv hun haft K hK
                obtain rfl := Option.some.inj ho
                refine par_run rfl ?_
                obtain ⟨e0, r0⟩ := inv.get haft 11 36 (by kernel_rfl) (by kernel_rfl)
                have INV := Lib.hid inv
                clear inv haft hun ho
                change vs 11 = .bool false at r0
                rw [r0] at e0
                have g0 := getD_opt e0
                go_simp
                exact hK _ _ INV.out.inv INV.out.val rfl
              · intro o ho listed vs a w' inv hun haft K hK
                obtain rfl := Option.some.inj ho
                obtain ⟨e0, r0⟩ := inv.get haft 12 37 (by kernel_rfl) (by kernel_rfl)
                have INV := Lib.hid inv
                clear inv haft hun ho
                change vs 12 = .bool false at r0
                rw [r0] at e0
                have g0 := getD_opt e0
                exact par_skip rfl (by kernel_rfl) e0 (by simp [undef]) (hK _ _ INV.out.inv INV.out.val rfl)
              · intro o ho listed vs a w' inv hun haft K hK
                obtain rfl := Option.some.inj ho
                obtain ⟨e0, r0⟩ := inv.get haft 12 37 (by kernel_rfl) (by kernel_rfl)
                have INV := Lib.hid inv
                clear inv haft hun ho
                change vs 12 = .bool false at r0
                rw [r0] at e0
                have g0 := getD_opt e0
                exact par_skip rfl (by kernel_rfl) e0 (by simp [undef]) (hK _ _ INV.out.inv INV.out.val rfl)
              · intro o ho listed vs a w' inv hun haft K hK
                obtain rfl := Option.some.inj ho
                obtain ⟨e0, r0⟩ := inv.get haft 12 37 (by kernel_rfl) (by kernel_rfl)
                have INV := Lib.hid inv
                clear inv haft hun ho
                change vs 12 = .bool false at r0
                rw [r0] at e0
                have g0 := getD_opt e0
                exact par_skip rfl (by kernel_rfl) e0 (by simp [undef]) (hK _ _ INV.out.inv INV.out.val rfl)
              · intro o ho listed vs a w' inv hun haft K hK
                obtain rfl := Option.some.inj ho
                obtain ⟨e0, r0⟩ := inv.get haft 15 40 (by kernel_rfl) (by kernel_rfl)
                have INV := Lib.hid inv
                clear inv haft hun ho
                change vs 15 = undef at r0
                rw [r0] at e0
                have g0 := getD_opt e0
                exact par_skip rfl (by kernel_rfl) e0 (by simp [undef]) (hK _ _ INV.out.inv INV.out.val rfl)
              · intro o ho listed vs a w' inv hun haft K hK
                obtain rfl := Option.some.inj ho
                obtain ⟨e0, r0⟩ := inv.get haft 15 40 (by kernel_rfl) (by kernel_rfl)
                have INV := Lib.hid inv
                clear inv haft hun ho
                change vs 15 = undef at r0
                rw [r0] at e0
                have g0 := getD_opt e0
                exact par_skip rfl (by kernel_rfl) e0 (by simp [undef]) (hK _ _ INV.out.inv INV.out.val rfl)
              · intro o ho listed vs a w' inv hun haft K hK
                obtain rfl := Option.some.inj ho
                obtain ⟨e0, r0⟩ := inv.get haft 15 40 (by kernel_rfl) (by kernel_rfl)
                have INV := Lib.hid inv
                clear inv haft hun ho
                change vs 15 = undef at r0
                rw [r0] at e0
                have g0 := getD_opt e0
                exact par_skip rfl (by kernel_rfl) e0 (by simp [undef]) (hK _ _ INV.out.inv INV.out.val rfl)
              · intro o ho listed vs a w' inv hun haft K hK
                obtain rfl := Option.some.inj ho
                obtain ⟨e0, r0⟩ := inv.get haft 15 40 (by kernel_rfl) (by kernel_rfl)
                have INV := Lib.hid inv
                clear inv haft hun ho
                change vs 15 = undef at r0
                rw [r0] at e0
                have g0 := getD_opt e0
                exact par_skip rfl (by kernel_rfl) e0 (by simp [undef]) (hK _ _ INV.out.inv INV.out.val rfl)
              · intro o ho listed vs a w' inv hun haft K hK
                obtain rfl := Option.some.inj ho
                obtain ⟨e0, r0⟩ := inv.get haft 15 40 (by kernel_rfl) (by kernel_rfl)
                have INV := Lib.hid inv
                clear inv haft hun ho
                change vs 15 = undef at r0
                rw [r0] at e0
                have g0 := getD_opt e0
                exact par_skip rfl (by kernel_rfl) e0 (by simp [undef]) (hK _ _ INV.out.inv INV.out.val rfl)
              · intro o ho listed vs a w' inv hun haft K hK
                obtain rfl := Option.some.inj ho
                obtain ⟨e0, r0⟩ := inv.get haft 15 40 (by kernel_rfl) (by kernel_rfl)
                have INV := Lib.hid inv
                clear inv haft hun ho
                change vs 15 = undef at r0
                rw [r0] at e0
                have g0 := getD_opt e0
                exact par_skip rfl (by kernel_rfl) e0 (by simp [undef]) (hK _ _ INV.out.inv INV.out.val rfl)
              · intro o ho listed vs a w' inv hun haft K hK
                obtain rfl := Option.some.inj ho
                obtain ⟨e0, r0⟩ := inv.get haft 15 40 (by kernel_rfl) (by kernel_rfl)
                have INV := Lib.hid inv
                clear inv haft hun ho
                change vs 15 = undef at r0
                rw [r0] at e0
                have g0 := getD_opt e0
                exact par_skip rfl (by kernel_rfl) e0 (by simp [undef]) (hK _ _ INV.out.inv INV.out.val rfl)
              · intro o ho listed vs a w' inv hun haft K hK
                obtain rfl := Option.some.inj ho
                obtain ⟨e0, r0⟩ := inv.get haft 15 40 (by kernel_rfl) (by kernel_rfl)
                have INV := Lib.hid inv
                clear inv haft hun ho
                change vs 15 = undef at r0
                rw [r0] at e0
                have g0 := getD_opt e0
                exact par_skip rfl (by kernel_rfl) e0 (by simp [undef]) (hK _ _ INV.out.inv INV.out.val rfl)
              · intro o ho listed vs a w' inv hun haft K hK
                obtain rfl := Option.some.inj ho
                obtain ⟨e0, r0⟩ := inv.get haft 15 40 (by kernel_rfl) (by kernel_rfl)
                have INV := Lib.hid inv
                clear inv haft hun ho
                change vs 15 = undef at r0
                rw [r0] at e0
                have g0 := getD_opt e0
                exact par_skip rfl (by kernel_rfl) e0 (by simp [undef]) (hK _ _ INV.out.inv INV.out.val rfl)
              · intro o ho listed vs a w' inv hun haft K hK
                obtain rfl := Option.some.inj ho
                obtain ⟨e0, r0⟩ := inv.get haft 15 40 (by kernel_rfl) (by kernel_rfl)
                have INV := Lib.hid inv
                clear inv haft hun ho
                change vs 15 = undef at r0
                rw [r0] at e0
                have g0 := getD_opt e0
                exact par_skip rfl (by kernel_rfl) e0 (by simp [undef]) (hK _ _ INV.out.inv INV.out.val rfl)
              · intro o ho listed vs a w' inv hun haft K hK
                obtain rfl := Option.some.inj ho
                obtain ⟨e0, r0⟩ := inv.get haft 15 40 (by kernel_rfl) (by kernel_rfl)
                have INV := Lib.hid inv
                clear inv haft hun ho
                change vs 15 = undef at r0
                rw [r0] at e0
                have g0 := getD_opt e0
                exact par_skip rfl (by kernel_rfl) e0 (by simp [undef]) (hK _ _ INV.out.inv INV.out.val rfl)
              · intro o ho listed vs a w' inv hun haft K hK
                obtain rfl := Option.some.inj ho
                obtain ⟨e0, r0⟩ := inv.get haft 15 40 (by kernel_rfl) (by kernel_rfl)
                have INV := Lib.hid inv
                clear inv haft hun ho
                change vs 15 = undef at r0
                rw [r0] at e0
                have g0 := getD_opt e0
                exact par_skip rfl (by kernel_rfl) e0 (by simp [undef]) (hK _ _ INV.out.inv INV.out.val rfl)
              · intro o ho listed vs a w' inv hun haft K hK
                obtain rfl := Option.some.inj ho
                obtain ⟨e0, r0⟩ := inv.get haft 15 40 (by kernel_rfl) (by kernel_rfl)
                have INV := Lib.hid inv
                clear inv haft hun ho
                change vs 15 = undef at r0
                rw [r0] at e0
                have g0 := getD_opt e0
                exact par_skip rfl (by kernel_rfl) e0 (by simp [undef]) (hK _ _ INV.out.inv INV.out.val rfl)
              · intro o ho listed vs a w' inv hun haft K hK
                obtain rfl := Option.some.inj ho
                obtain ⟨e0, r0⟩ := inv.get haft 15 40 (by kernel_rfl) (by kernel_rfl)
                have INV := Lib.hid inv
                clear inv haft hun ho
                change vs 15 = undef at r0
                rw [r0] at e0
                have g0 := getD_opt e0
                exact par_skip rfl (by kernel_rfl) e0 (by simp [undef]) (hK _ _ INV.out.inv INV.out.val rfl)
              · intro o ho listed vs a w' inv hun haft K hK
                obtain rfl := Option.some.inj ho
                obtain ⟨e0, r0⟩ := inv.get haft 12 37 (by kernel_rfl) (by kernel_rfl)
                have INV := Lib.hid inv
                clear inv haft hun ho
                change vs 12 = .bool false at r0
                rw [r0] at e0
                have g0 := getD_opt e0
                exact par_skip rfl (by kernel_rfl) e0 (by simp [undef]) (hK _ _ INV.out.inv INV.out.val rfl)
              · intro o ho listed vs a w' inv hun haft K hK
                obtain rfl := Option.some.inj ho
                refine par_run rfl ?_
                obtain ⟨e0, r0⟩ := inv.get haft 12 37 (by kernel_rfl) (by kernel_rfl)
                have INV := Lib.hid inv
                clear inv haft hun ho
                change vs 12 = .bool false at r0
                rw [r0] at e0
                have g0 := getD_opt e0
                go_simp
                exact hK _ _ INV.out.inv INV.out.val rfl
              · intro o ho listed vs a w' inv hun haft K hK
                obtain rfl := Option.some.inj ho
                refine par_run rfl ?_
                obtain ⟨e0, r0⟩ := inv.get haft 31 56 (by kernel_rfl) (by kernel_rfl)
                have INV := Lib.hid inv
                clear inv haft hun ho
                change vs 31 = .bool false at r0
                rw [r0] at e0
                have g0 := getD_opt e0
                go_simp
                exact hK _ _ INV.out.inv INV.out.val rfl
              intro vs w2 X hm hr hslot hold hsize hdef
              have er := hslot 32 3 (by kernel_rfl)
              have h9 := hr 32 (by decide)
              change vs 32 = .bool false at h9
              rw [h9] at er
              clear h9
              have e0 := hold 0 (by kernel_rfl)
              have e1 := hold 1 (by kernel_rfl)
              have e2 := hold 2 (by kernel_rfl)
              have e4 := hold 4 (by kernel_rfl)
              have e5 := hold 5 (by kernel_rfl)
              have e6 := hold 6 (by kernel_rfl)
              have e7 := hold 7 (by kernel_rfl)
              have e8 := hold 8 (by kernel_rfl)
              have e9 := hold 9 (by kernel_rfl)
              have e10 := hold 10 (by kernel_rfl)
              have e11 := hold 11 (by kernel_rfl)
              have e12 := hold 12 (by kernel_rfl)
              have e13 := hold 13 (by kernel_rfl)
              have e14 := hold 14 (by kernel_rfl)
              have e15 := hold 15 (by kernel_rfl)
              have e16 := hold 16 (by kernel_rfl)
              have e17 := hold 17 (by kernel_rfl)
              have e18 := hold 18 (by kernel_rfl)
              have e19 := hold 19 (by kernel_rfl)
              have e20 := hold 20 (by kernel_rfl)
              have e21 := hold 21 (by kernel_rfl)
              have e22 := hold 22 (by kernel_rfl)
              have e23 := hold 23 (by kernel_rfl)
              have e24 := hold 24 (by kernel_rfl)
              have e57 := hold 57 (by kernel_rfl)
              have e58 := hold 58 (by kernel_rfl)
              have e59 := hold 59 (by kernel_rfl)
              have e60 := hold 60 (by kernel_rfl)
              have e61 := hold 61 (by kernel_rfl)
              simp only [Array.getD_eq_getD_getElem?, List.getElem?_toArray, List.getElem?_cons_zero, List.getElem?_cons_succ, Option.getD_some] at e0 e1 e2 e4 e5 e6 e7 e8 e9 e10 e11 e12 e13 e14 e15 e16 e17 e18 e19 e20 e21 e22 e23 e24 e57 e58 e59 e60 e61
              have MR := Lib.hid hm
              clear hr hslot hold hm
              obtain ⟨⟨xs⟩, df⟩ := X
              replace hdef : df = [] := hdef
              subst hdef
              replace hsize : xs.length = 62 := hsize
              obtain ⟨x0, xs0, rfl, hs0⟩ := cons_of hsize
              obtain ⟨x1, xs1, rfl, hs1⟩ := cons_of hs0
              obtain ⟨x2, xs2, rfl, hs2⟩ := cons_of hs1
              obtain ⟨x3, xs3, rfl, hs3⟩ := cons_of hs2
              obtain ⟨x4, xs4, rfl, hs4⟩ := cons_of hs3
              obtain ⟨x5, xs5, rfl, hs5⟩ := cons_of hs4
              obtain ⟨x6, xs6, rfl, hs6⟩ := cons_of hs5
              obtain ⟨x7, xs7, rfl, hs7⟩ := cons_of hs6
              obtain ⟨x8, xs8, rfl, hs8⟩ := cons_of hs7
              obtain ⟨x9, xs9, rfl, hs9⟩ := cons_of hs8
              obtain ⟨x10, xs10, rfl, hs10⟩ := cons_of hs9
              obtain ⟨x11, xs11, rfl, hs11⟩ := cons_of hs10
              obtain ⟨x12, xs12, rfl, hs12⟩ := cons_of hs11
              obtain ⟨x13, xs13, rfl, hs13⟩ := cons_of hs12
              obtain ⟨x14, xs14, rfl, hs14⟩ := cons_of hs13
              obtain ⟨x15, xs15, rfl, hs15⟩ := cons_of hs14
              obtain ⟨x16, xs16, rfl, hs16⟩ := cons_of hs15
              obtain ⟨x17, xs17, rfl, hs17⟩ := cons_of hs16
              obtain ⟨x18, xs18, rfl, hs18⟩ := cons_of hs17
              obtain ⟨x19, xs19, rfl, hs19⟩ := cons_of hs18
              obtain ⟨x20, xs20, rfl, hs20⟩ := cons_of hs19
              obtain ⟨x21, xs21, rfl, hs21⟩ := cons_of hs20
              obtain ⟨x22, xs22, rfl, hs22⟩ := cons_of hs21
              obtain ⟨x23, xs23, rfl, hs23⟩ := cons_of hs22
              obtain ⟨x24, xs24, rfl, hs24⟩ := cons_of hs23
              obtain ⟨x25, xs25, rfl, hs25⟩ := cons_of hs24
              obtain ⟨x26, xs26, rfl, hs26⟩ := cons_of hs25
              obtain ⟨x27, xs27, rfl, hs27⟩ := cons_of hs26
              obtain ⟨x28, xs28, rfl, hs28⟩ := cons_of hs27
              obtain ⟨x29, xs29, rfl, hs29⟩ := cons_of hs28
              obtain ⟨x30, xs30, rfl, hs30⟩ := cons_of hs29
              obtain ⟨x31, xs31, rfl, hs31⟩ := cons_of hs30
              obtain ⟨x32, xs32, rfl, hs32⟩ := cons_of hs31
              obtain ⟨x33, xs33, rfl, hs33⟩ := cons_of hs32
              obtain ⟨x34, xs34, rfl, hs34⟩ := cons_of hs33
              obtain ⟨x35, xs35, rfl, hs35⟩ := cons_of hs34
              obtain ⟨x36, xs36, rfl, hs36⟩ := cons_of hs35
              obtain ⟨x37, xs37, rfl, hs37⟩ := cons_of hs36
              obtain ⟨x38, xs38, rfl, hs38⟩ := cons_of hs37
              obtain ⟨x39, xs39, rfl, hs39⟩ := cons_of hs38
              obtain ⟨x40, xs40, rfl, hs40⟩ := cons_of hs39
              obtain ⟨x41, xs41, rfl, hs41⟩ := cons_of hs40
              obtain ⟨x42, xs42, rfl, hs42⟩ := cons_of hs41
              obtain ⟨x43, xs43, rfl, hs43⟩ := cons_of hs42
              obtain ⟨x44, xs44, rfl, hs44⟩ := cons_of hs43
              obtain ⟨x45, xs45, rfl, hs45⟩ := cons_of hs44
              obtain ⟨x46, xs46, rfl, hs46⟩ := cons_of hs45
              obtain ⟨x47, xs47, rfl, hs47⟩ := cons_of hs46
              obtain ⟨x48, xs48, rfl, hs48⟩ := cons_of hs47
              obtain ⟨x49, xs49, rfl, hs49⟩ := cons_of hs48
              obtain ⟨x50, xs50, rfl, hs50⟩ := cons_of hs49
              obtain ⟨x51, xs51, rfl, hs51⟩ := cons_of hs50
              obtain ⟨x52, xs52, rfl, hs52⟩ := cons_of hs51
              obtain ⟨x53, xs53, rfl, hs53⟩ := cons_of hs52
              obtain ⟨x54, xs54, rfl, hs54⟩ := cons_of hs53
              obtain ⟨x55, xs55, rfl, hs55⟩ := cons_of hs54
              obtain ⟨x56, xs56, rfl, hs56⟩ := cons_of hs55
              obtain ⟨x57, xs57, rfl, hs57⟩ := cons_of hs56
              obtain ⟨x58, xs58, rfl, hs58⟩ := cons_of hs57
              obtain ⟨x59, xs59, rfl, hs59⟩ := cons_of hs58
              obtain ⟨x60, xs60, rfl, hs60⟩ := cons_of hs59
              obtain ⟨x61, xs61, rfl, hs61⟩ := cons_of hs60
              obtain rfl := List.eq_nil_of_length_eq_zero hs61
              clear hsize hs0 hs1 hs2 hs3 hs4 hs5 hs6 hs7 hs8 hs9 hs10 hs11 hs12 hs13 hs14 hs15 hs16 hs17 hs18 hs19 hs20 hs21 hs22 hs23 hs24 hs25 hs26 hs27 hs28 hs29 hs30 hs31 hs32 hs33 hs34 hs35 hs36 hs37 hs38 hs39 hs40 hs41 hs42 hs43 hs44 hs45 hs46 hs47 hs48 hs49 hs50 hs51 hs52 hs53 hs54 hs55 hs56 hs57 hs58 hs59 hs60 hs61
              rw [show (Array.mk (x0 :: x1 :: x2 :: x3 :: x4 :: x5 :: x6 :: x7 :: x8 :: x9 :: x10 :: x11 :: x12 :: x13 :: x14 :: x15 :: x16 :: x17 :: x18 :: x19 :: x20 :: x21 :: x22 :: x23 :: x24 :: x25 :: x26 :: x27 :: x28 :: x29 :: x30 :: x31 :: x32 :: x33 :: x34 :: x35 :: x36 :: x37 :: x38 :: x39 :: x40 :: x41 :: x42 :: x43 :: x44 :: x45 :: x46 :: x47 :: x48 :: x49 :: x50 :: x51 :: x52 :: x53 :: x54 :: x55 :: x56 :: x57 :: x58 :: x59 :: x60 :: x61 :: []) : Array Value) = List.toArray (x0 :: x1 :: x2 :: x3 :: x4 :: x5 :: x6 :: x7 :: x8 :: x9 :: x10 :: x11 :: x12 :: x13 :: x14 :: x15 :: x16 :: x17 :: x18 :: x19 :: x20 :: x21 :: x22 :: x23 :: x24 :: x25 :: x26 :: x27 :: x28 :: x29 :: x30 :: x31 :: x32 :: x33 :: x34 :: x35 :: x36 :: x37 :: x38 :: x39 :: x40 :: x41 :: x42 :: x43 :: x44 :: x45 :: x46 :: x47 :: x48 :: x49 :: x50 :: x51 :: x52 :: x53 :: x54 :: x55 :: x56 :: x57 :: x58 :: x59 :: x60 :: x61 :: []) from rfl]
              change x0 = _ at e0
              subst e0
              change x1 = _ at e1
              subst e1
              change x2 = _ at e2
              subst e2
              change x4 = _ at e4
              subst e4
              change x5 = _ at e5
              subst e5
              change x6 = _ at e6
              subst e6
              change x7 = _ at e7
              subst e7
              change x8 = _ at e8
              subst e8
              change x9 = _ at e9
              subst e9
              change x10 = _ at e10
              subst e10
              change x11 = _ at e11
              subst e11
              change x12 = _ at e12
              subst e12
              change x13 = _ at e13
              subst e13
              change x14 = _ at e14
              subst e14
              change x15 = _ at e15
              subst e15
              change x16 = _ at e16
              subst e16
              change x17 = _ at e17
              subst e17
              change x18 = _ at e18
              subst e18
              change x19 = _ at e19
              subst e19
              change x20 = _ at e20
              subst e20
              change x21 = _ at e21
              subst e21
              change x22 = _ at e22
              subst e22
              change x23 = _ at e23
              subst e23
              change x24 = _ at e24
              subst e24
              change x57 = _ at e57
              subst e57
              change x58 = _ at e58
              subst e58
              change x59 = _ at e59
              subst e59
              change x60 = _ at e60
              subst e60
              change x61 = _ at e61
              subst e61
              change x3 = .bool false at er
              subst er
              go_wp2
              go_roundw
              case rel => exact ⟨i + 1, by omega, by go_num, by rw [HRN.out], MR.out.at HAT.out (by simp), HM.out.same MR.out⟩
              case measure => simp [intOf]; omega
            | true =>
              rcases Nat.eq_zero_or_pos i with h0 | h0
              · have HRN : Hid (rightTo (xs.map Cv.pl) (i + 1) = true) := by rw [HRS.out, h0]; rfl
                have hz : ((i : Int) == 0) = true := by simp [h0]
                clear HRS h0
                go_wp2_with fail
                refine par_region (by kernel_rfl) (fun oi vs w => mayZ A i cp cn cc p' x oi (vs oi) w) (fun w' => Mod [] wr w') (by kernel_rfl) (fun j vs vs' w o _ h1 _ h2 => by rw [← h1]; exact h2) ⟨⟨⟨⟨⟨⟨⟨⟨⟨⟨⟨⟨⟨⟨⟨⟨⟨⟨⟨⟨⟨⟨⟨⟨⟨⟨⟨⟨⟨⟨⟨⟨⟨trivial, ?_⟩, ?_⟩, ?_⟩, ?_⟩, ?_⟩, ?_⟩, ?_⟩, ?_⟩, ?_⟩, ?_⟩, ?_⟩, ?_⟩, ?_⟩, ?_⟩, ?_⟩, ?_⟩, ?_⟩, ?_⟩, ?_⟩, ?_⟩, ?_⟩, ?_⟩, ?_⟩, ?_⟩, ?_⟩, ?_⟩, ?_⟩, ?_⟩, ?_⟩, ?_⟩, ?_⟩, ?_⟩, ?_⟩ (Mod.of_drew wr) ?_
                · intro o ho listed vs a w' inv hun haft K hK
                  obtain rfl := Option.some.inj ho
                  refine par_run rfl ?_
                  have e0 := inv.oldU hun 3 32 [31, 12, 11, 1, 0] (by kernel_rfl) (by kernel_rfl)
                  have INV := Lib.hid inv
                  clear inv haft hun ho
                  simp at e0
                  go_simp
                  exact hK _ _ INV.out.inv INV.out.val rfl
                · intro o ho listed vs a w' inv hun haft K hK
                  obtain rfl := Option.some.inj ho
                  refine par_run rfl ?_
                  obtain ⟨e0, r0⟩ := inv.get haft 0 25 (by kernel_rfl) (by kernel_rfl)
                  have INV := Lib.hid inv
                  clear inv haft hun ho
                  change vs 0 = .bool true at r0
                  rw [r0] at e0
                  have g0 := getD_opt e0
                  go_simp
                  exact hK _ _ INV.out.inv INV.out.val rfl
                · intro o ho listed vs a w' inv hun haft K hK
                  obtain rfl := Option.some.inj ho
                  obtain ⟨e0, r0⟩ := inv.get haft 1 26 (by kernel_rfl) (by kernel_rfl)
                  have e1 := inv.old 1 (by kernel_rfl)
                  have INV := Lib.hid inv
                  clear inv haft hun ho
                  change vs 1 = .bool true at r0
                  rw [r0] at e0
                  have g0 := getD_opt e0
                  simp at e1
                  refine par_guard rfl (by kernel_rfl) e0 ?_
                  rw [if_pos rfl]
                  go_simp
                  exact hK _ _ INV.out.inv INV.out.val rfl
                · intro o ho listed vs a w' inv hun haft K hK
                  obtain rfl := Option.some.inj ho
                  obtain ⟨e0, r0⟩ := inv.get haft 1 26 (by kernel_rfl) (by kernel_rfl)
                  obtain ⟨e1, r1⟩ := inv.get haft 2 27 (by kernel_rfl) (by kernel_rfl)
                  have INV := Lib.hid inv
                  clear inv haft hun ho
                  change vs 1 = .bool true at r0
                  rw [r0] at e0
                  have g0 := getD_opt e0
                  change vs 2 = .pointer (some ⟨A, 1, none⟩) at r1
                  rw [r1] at e1
                  have g1 := getD_opt e1
                  have c1 := (INV.out.inv.cell (a := ⟨A, 1, none⟩) hAl (by simp)).trans hc1
                  refine par_guard rfl (by kernel_rfl) e0 ?_
                  rw [if_pos rfl]
                  go_simp
                  exact hK _ _ INV.out.inv INV.out.val rfl
                · intro o ho listed vs a w' inv hun haft K hK
                  obtain rfl := Option.some.inj ho
                  obtain ⟨e0, r0⟩ := inv.get haft 1 26 (by kernel_rfl) (by kernel_rfl)
                  have e1 := inv.old 4 (by kernel_rfl)
                  have INV := Lib.hid inv
                  clear inv haft hun ho
                  change vs 1 = .bool true at r0
                  rw [r0] at e0
                  have g0 := getD_opt e0
                  simp at e1
                  refine par_guard rfl (by kernel_rfl) e0 ?_
                  rw [if_pos rfl]
                  go_simp
                  exact hK _ _ INV.out.inv INV.out.val rfl
                · intro o ho listed vs a w' inv hun haft K hK
                  obtain rfl := Option.some.inj ho
                  obtain ⟨e0, r0⟩ := inv.get haft 1 26 (by kernel_rfl) (by kernel_rfl)
                  have e1 := inv.old 4 (by kernel_rfl)
                  have INV := Lib.hid inv
                  clear inv haft hun ho
                  change vs 1 = .bool true at r0
                  rw [r0] at e0
                  have g0 := getD_opt e0
                  simp at e1
                  refine par_guard rfl (by kernel_rfl) e0 ?_
                  rw [if_pos rfl]
                  go_simp
                  exact hK _ _ INV.out.inv INV.out.val rfl
                · intro o ho listed vs a w' inv hun haft K hK
                  obtain rfl := Option.some.inj ho
                  obtain ⟨e0, r0⟩ := inv.get haft 1 26 (by kernel_rfl) (by kernel_rfl)
                  obtain ⟨e1, r1⟩ := inv.get haft 5 30 (by kernel_rfl) (by kernel_rfl)
                  have INV := Lib.hid inv
                  clear inv haft hun ho
                  change vs 1 = .bool true at r0
                  rw [r0] at e0
                  have g0 := getD_opt e0
                  change vs 5 = .int .i64 i at r1
                  rw [r1] at e1
                  have g1 := getD_opt e1
                  refine par_guard rfl (by kernel_rfl) e0 ?_
                  rw [if_pos rfl]
                  go_simp
                  exact hK _ _ INV.out.inv INV.out.val rfl
                · intro o ho listed vs a w' inv hun haft K hK
                  obtain rfl := Option.some.inj ho
                  obtain ⟨e0, r0⟩ := inv.get haft 1 26 (by kernel_rfl) (by kernel_rfl)
                  obtain ⟨e1, r1⟩ := inv.get haft 3 28 (by kernel_rfl) (by kernel_rfl)
                  obtain ⟨e2, r2⟩ := inv.get haft 4 29 (by kernel_rfl) (by kernel_rfl)
                  obtain ⟨e3, r3⟩ := inv.get haft 6 31 (by kernel_rfl) (by kernel_rfl)
                  have INV := Lib.hid inv
                  clear inv haft hun ho
                  change vs 1 = .bool true at r0
                  rw [r0] at e0
                  have g0 := getD_opt e0
                  change vs 3 = .slice cp cn cc at r1
                  rw [r1] at e1
                  have g1 := getD_opt e1
                  change vs 4 = .int .i64 i at r2
                  rw [r2] at e2
                  have g2 := getD_opt e2
                  change vs 6 = .int .i64 ((i : Int) + 1) at r3
                  rw [r3] at e3
                  have g3 := getD_opt e3
                  refine par_guard rfl (by kernel_rfl) e0 ?_
                  rw [if_pos rfl]
                  go_simp
                  exact hK _ _ INV.out.inv INV.out.val rfl
                · intro o ho listed vs a w' inv hun haft K hK
                  obtain rfl := Option.some.inj ho
                  obtain ⟨e0, r0⟩ := inv.get haft 1 26 (by kernel_rfl) (by kernel_rfl)
                  obtain ⟨e1, r1⟩ := inv.get haft 7 32 (by kernel_rfl) (by kernel_rfl)
                  have INV := Lib.hid inv
                  clear inv haft hun ho
                  change vs 1 = .bool true at r0
                  rw [r0] at e0
                  have g0 := getD_opt e0
                  change vs 7 = .slice p' 1 (cc - i) at r1
                  rw [r1] at e1
                  have g1 := getD_opt e1
                  refine par_guard rfl (by kernel_rfl) e0 ?_
                  rw [if_pos rfl]
                  go_simp
                  exact hK _ _ INV.out.inv INV.out.val rfl
                · intro o ho listed vs a w' inv hun haft K hK
                  obtain rfl := Option.some.inj ho
                  obtain ⟨e0, r0⟩ := inv.get haft 1 26 (by kernel_rfl) (by kernel_rfl)
                  obtain ⟨e1, r1⟩ := inv.get haft 8 33 (by kernel_rfl) (by kernel_rfl)
                  have INV := Lib.hid inv
                  clear inv haft hun ho
                  change vs 1 = .bool true at r0
                  rw [r0] at e0
                  have g0 := getD_opt e0
                  change vs 8 = .agg #[.bool false, .slice p' 1 (cc - i), .slice none 0 0, .slice none 0 0] at r1
                  rw [r1] at e1
                  have g1 := getD_opt e1
                  refine par_guard rfl (by kernel_rfl) e0 ?_
                  rw [if_pos rfl]
                  go_simp
                  refine (HOF _ INV.out.inv).out.mono ?_
                  rintro _ w3 ⟨_, rfl, m3, hof⟩
                  rw [if_neg (by simp)] at hof
                  obtain ⟨L5, rfl, hL5⟩ := hof
                  exact hK _ _ (INV.out.inv.same m3) (fun j hj hl => mayZ_keep m3 (INV.out.val j hj hl)) ⟨_, rfl, hL5⟩
                · intro o ho listed vs a w' inv hun haft K hK
                  obtain rfl := Option.some.inj ho
                  obtain ⟨e0, r0⟩ := inv.get haft 1 26 (by kernel_rfl) (by kernel_rfl)
                  obtain ⟨e1, r1⟩ := inv.get haft 9 34 (by kernel_rfl) (by kernel_rfl)
                  have INV := Lib.hid inv
                  clear inv haft hun ho
                  change vs 1 = .bool true at r0
                  rw [r0] at e0
                  have g0 := getD_opt e0
                  have g1 := getD_opt e1
                  refine par_guard rfl (by kernel_rfl) e0 ?_
                  rw [if_pos rfl]
                  obtain ⟨L5, h5, hL5⟩ := r1
                  rw [h5] at e1
                  have g1 := getD_opt e1
                  have HL5 := Lib.hid hL5
                  clear hL5 h5
                  go_simp
                  go_invoke
                  go_simp
                  refine (HMY _ _ HL5.out).out.mono ?_
                  rintro _ w3 ⟨_, rfl, rfl, m3⟩
                  exact hK _ _ (INV.out.inv.same m3) (fun j hj hl => mayZ_keep m3 (INV.out.val j hj hl)) rfl
                · intro o ho listed vs a w' inv hun haft K hK
                  obtain rfl := Option.some.inj ho
                  refine par_run rfl ?_
                  obtain ⟨e0, r0⟩ := inv.get haft 1 26 (by kernel_rfl) (by kernel_rfl)
                  obtain ⟨e1, r1⟩ := inv.get haft 10 35 (by kernel_rfl) (by kernel_rfl)
                  have INV := Lib.hid inv
                  clear inv haft hun ho
                  change vs 1 = .bool true at r0
                  rw [r0] at e0
                  have g0 := getD_opt e0
                  change vs 10 = .bool true at r1
                  rw [r1] at e1
                  have g1 := getD_opt e1
                  go_simp
                  exact hK _ _ INV.out.inv INV.out.val rfl
                · intro o ho listed vs a w' inv hun haft K hK
                  obtain rfl := Option.some.inj ho
                  refine par_run rfl ?_
                  obtain ⟨e0, r0⟩ := inv.get haft 11 36 (by kernel_rfl) (by kernel_rfl)
                  have INV := Lib.hid inv
                  clear inv haft hun ho
                  change vs 11 = .bool true at r0
                  rw [r0] at e0
                  have g0 := getD_opt e0
                  go_simp
                  exact hK _ _ INV.out.inv INV.out.val rfl
                · intro o ho listed vs a w' inv hun haft K hK
                  obtain rfl := Option.some.inj ho
                  obtain ⟨e0, r0⟩ := inv.get haft 12 37 (by kernel_rfl) (by kernel_rfl)
                  have e1 := inv.old 4 (by kernel_rfl)
                  have INV := Lib.hid inv
                  clear inv haft hun ho
                  change vs 12 = .bool true at r0
                  rw [r0] at e0
                  have g0 := getD_opt e0
                  simp at e1
                  refine par_guard rfl (by kernel_rfl) e0 ?_
                  rw [if_pos rfl]
                  go_simp
                  exact hK _ _ INV.out.inv INV.out.val rfl
                · intro o ho listed vs a w' inv hun haft K hK
                  obtain rfl := Option.some.inj ho
                  obtain ⟨e0, r0⟩ := inv.get haft 12 37 (by kernel_rfl) (by kernel_rfl)
                  obtain ⟨e1, r1⟩ := inv.get haft 13 38 (by kernel_rfl) (by kernel_rfl)
                  have INV := Lib.hid inv
                  clear inv haft hun ho
                  change vs 12 = .bool true at r0
                  rw [r0] at e0
                  have g0 := getD_opt e0
                  change vs 13 = .int .i64 i at r1
                  rw [r1] at e1
                  have g1 := getD_opt e1
                  refine par_guard rfl (by kernel_rfl) e0 ?_
                  rw [if_pos rfl]
                  go_simp
                  exact hK _ _ INV.out.inv INV.out.val rfl
                · intro o ho listed vs a w' inv hun haft K hK
                  obtain rfl := Option.some.inj ho
                  obtain ⟨e0, r0⟩ := inv.get haft 12 37 (by kernel_rfl) (by kernel_rfl)
                  obtain ⟨e1, r1⟩ := inv.get haft 14 39 (by kernel_rfl) (by kernel_rfl)
                  have INV := Lib.hid inv
                  clear inv haft hun ho
                  change vs 12 = .bool true at r0
                  rw [r0] at e0
                  have g0 := getD_opt e0
                  change vs 14 = .bool true at r1
                  rw [r1] at e1
                  have g1 := getD_opt e1
                  refine par_guard rfl (by kernel_rfl) e0 ?_
                  rw [if_pos rfl]
                  go_simp
                  exact hK _ _ INV.out.inv INV.out.val rfl
                · intro o ho listed vs a w' inv hun haft K hK
                  obtain rfl := Option.some.inj ho
                  obtain ⟨e0, r0⟩ := inv.get haft 15 40 (by kernel_rfl) (by kernel_rfl)
                  have INV := Lib.hid inv
                  clear inv haft hun ho
                  change vs 15 = .bool true at r0
                  rw [r0] at e0
                  have g0 := getD_opt e0
                  exact par_skip rfl (by kernel_rfl) e0 (by simp [undef]) (hK _ _ INV.out.inv INV.out.val rfl)
                · intro o ho listed vs a w' inv hun haft K hK
                  obtain rfl := Option.some.inj ho
                  obtain ⟨e0, r0⟩ := inv.get haft 15 40 (by kernel_rfl) (by kernel_rfl)
                  have INV := Lib.hid inv
                  clear inv haft hun ho
                  change vs 15 = .bool true at r0
                  rw [r0] at e0
                  have g0 := getD_opt e0
                  exact par_skip rfl (by kernel_rfl) e0 (by simp [undef]) (hK _ _ INV.out.inv INV.out.val rfl)
                · intro o ho listed vs a w' inv hun haft K hK
                  obtain rfl := Option.some.inj ho
                  obtain ⟨e0, r0⟩ := inv.get haft 15 40 (by kernel_rfl) (by kernel_rfl)
                  have INV := Lib.hid inv
                  clear inv haft hun ho
                  change vs 15 = .bool true at r0
                  rw [r0] at e0
                  have g0 := getD_opt e0
                  exact par_skip rfl (by kernel_rfl) e0 (by simp [undef]) (hK _ _ INV.out.inv INV.out.val rfl)
                · intro o ho listed vs a w' inv hun haft K hK
                  obtain rfl := Option.some.inj ho
                  obtain ⟨e0, r0⟩ := inv.get haft 15 40 (by kernel_rfl) (by kernel_rfl)
                  have INV := Lib.hid inv
                  clear inv haft hun ho
                  change vs 15 = .bool true at r0
                  rw [r0] at e0
                  have g0 := getD_opt e0
                  exact par_skip rfl (by kernel_rfl) e0 (by simp [undef]) (hK _ _ INV.out.inv INV.out.val rfl)
                · intro o ho listed vs a w' inv hun haft K hK
                  obtain rfl := Option.some.inj ho
                  obtain ⟨e0, r0⟩ := inv.get haft 15 40 (by kernel_rfl) (by kernel_rfl)
                  have INV := Lib.hid inv
                  clear inv haft hun ho
                  change vs 15 = .bool true at r0
                  rw [r0] at e0
                  have g0 := getD_opt e0
                  exact par_skip rfl (by kernel_rfl) e0 (by simp [undef]) (hK _ _ INV.out.inv INV.out.val rfl)
                · intro o ho listed vs a w' inv hun haft K hK
                  obtain rfl := Option.some.inj ho
                  obtain ⟨e0, r0⟩ := inv.get haft 15 40 (by kernel_rfl) (by kernel_rfl)
                  have INV := Lib.hid inv
                  clear inv haft hun ho
                  change vs 15 = .bool true at r0
                  rw [r0] at e0
                  have g0 := getD_opt e0
                  exact par_skip rfl (by kernel_rfl) e0 (by simp [undef]) (hK _ _ INV.out.inv INV.out.val rfl)
                · intro o ho listed vs a w' inv hun haft K hK
                  obtain rfl := Option.some.inj ho
                  obtain ⟨e0, r0⟩ := inv.get haft 15 40 (by kernel_rfl) (by kernel_rfl)
                  have INV := Lib.hid inv
                  clear inv haft hun ho
                  change vs 15 = .bool true at r0
                  rw [r0] at e0
                  have g0 := getD_opt e0
                  exact par_skip rfl (by kernel_rfl) e0 (by simp [undef]) (hK _ _ INV.out.inv INV.out.val rfl)
                · intro o ho listed vs a w' inv hun haft K hK
                  obtain rfl := Option.some.inj ho
                  obtain ⟨e0, r0⟩ := inv.get haft 15 40 (by kernel_rfl) (by kernel_rfl)
                  have INV := Lib.hid inv
                  clear inv haft hun ho
                  change vs 15 = .bool true at r0
                  rw [r0] at e0
                  have g0 := getD_opt e0
                  exact par_skip rfl (by kernel_rfl) e0 (by simp [undef]) (hK _ _ INV.out.inv INV.out.val rfl)
                · intro o ho listed vs a w' inv hun haft K hK
                  obtain rfl := Option.some.inj ho
                  obtain ⟨e0, r0⟩ := inv.get haft 15 40 (by kernel_rfl) (by kernel_rfl)
                  have INV := Lib.hid inv
                  clear inv haft hun ho
                  change vs 15 = .bool true at r0
                  rw [r0] at e0
                  have g0 := getD_opt e0
                  exact par_skip rfl (by kernel_rfl) e0 (by simp [undef]) (hK _ _ INV.out.inv INV.out.val rfl)
                · intro o ho listed vs a w' inv hun haft K hK
                  obtain rfl := Option.some.inj ho
                  obtain ⟨e0, r0⟩ := inv.get haft 15 40 (by kernel_rfl) (by kernel_rfl)
                  have INV := Lib.hid inv
                  clear inv haft hun ho
                  change vs 15 = .bool true at r0
                  rw [r0] at e0
                  have g0 := getD_opt e0
                  exact par_skip rfl (by kernel_rfl) e0 (by simp [undef]) (hK _ _ INV.out.inv INV.out.val rfl)
                · intro o ho listed vs a w' inv hun haft K hK
                  obtain rfl := Option.some.inj ho
                  obtain ⟨e0, r0⟩ := inv.get haft 15 40 (by kernel_rfl) (by kernel_rfl)
                  have INV := Lib.hid inv
                  clear inv haft hun ho
                  change vs 15 = .bool true at r0
                  rw [r0] at e0
                  have g0 := getD_opt e0
                  exact par_skip rfl (by kernel_rfl) e0 (by simp [undef]) (hK _ _ INV.out.inv INV.out.val rfl)
                · intro o ho listed vs a w' inv hun haft K hK
                  obtain rfl := Option.some.inj ho
                  obtain ⟨e0, r0⟩ := inv.get haft 15 40 (by kernel_rfl) (by kernel_rfl)
                  have INV := Lib.hid inv
                  clear inv haft hun ho
                  change vs 15 = .bool true at r0
                  rw [r0] at e0
                  have g0 := getD_opt e0
                  exact par_skip rfl (by kernel_rfl) e0 (by simp [undef]) (hK _ _ INV.out.inv INV.out.val rfl)
                · intro o ho listed vs a w' inv hun haft K hK
                  obtain rfl := Option.some.inj ho
                  obtain ⟨e0, r0⟩ := inv.get haft 15 40 (by kernel_rfl) (by kernel_rfl)
                  have INV := Lib.hid inv
                  clear inv haft hun ho
                  change vs 15 = .bool true at r0
                  rw [r0] at e0
                  have g0 := getD_opt e0
                  exact par_skip rfl (by kernel_rfl) e0 (by simp [undef]) (hK _ _ INV.out.inv INV.out.val rfl)
                · intro o ho listed vs a w' inv hun haft K hK
                  obtain rfl := Option.some.inj ho
                  obtain ⟨e0, r0⟩ := inv.get haft 15 40 (by kernel_rfl) (by kernel_rfl)
                  have INV := Lib.hid inv
                  clear inv haft hun ho
                  change vs 15 = .bool true at r0
                  rw [r0] at e0
                  have g0 := getD_opt e0
                  exact par_skip rfl (by kernel_rfl) e0 (by simp [undef]) (hK _ _ INV.out.inv INV.out.val rfl)
                · intro o ho listed vs a w' inv hun haft K hK
                  obtain rfl := Option.some.inj ho
                  obtain ⟨e0, r0⟩ := inv.get haft 12 37 (by kernel_rfl) (by kernel_rfl)
                  obtain ⟨e1, r1⟩ := inv.get haft 15 40 (by kernel_rfl) (by kernel_rfl)
                  have INV := Lib.hid inv
                  clear inv haft hun ho
                  change vs 12 = .bool true at r0
                  rw [r0] at e0
                  have g0 := getD_opt e0
                  change vs 15 = .bool true at r1
                  rw [r1] at e1
                  have g1 := getD_opt e1
                  refine par_guard rfl (by kernel_rfl) e0 ?_
                  rw [if_pos rfl]
                  go_simp
                  exact hK _ _ INV.out.inv INV.out.val rfl
                · intro o ho listed vs a w' inv hun haft K hK
                  obtain rfl := Option.some.inj ho
                  refine par_run rfl ?_
                  obtain ⟨e0, r0⟩ := inv.get haft 12 37 (by kernel_rfl) (by kernel_rfl)
                  obtain ⟨e1, r1⟩ := inv.get haft 30 55 (by kernel_rfl) (by kernel_rfl)
                  have INV := Lib.hid inv
                  clear inv haft hun ho
                  change vs 12 = .bool true at r0
                  rw [r0] at e0
                  have g0 := getD_opt e0
                  change vs 30 = .bool true at r1
                  rw [r1] at e1
                  have g1 := getD_opt e1
                  go_simp
                  exact hK _ _ INV.out.inv INV.out.val rfl
                · intro o ho listed vs a w' inv hun haft K hK
                  obtain rfl := Option.some.inj ho
                  refine par_run rfl ?_
                  obtain ⟨e0, r0⟩ := inv.get haft 31 56 (by kernel_rfl) (by kernel_rfl)
                  have INV := Lib.hid inv
                  clear inv haft hun ho
                  change vs 31 = .bool true at r0
                  rw [r0] at e0
                  have g0 := getD_opt e0
                  go_simp
                  exact hK _ _ INV.out.inv INV.out.val rfl
                intro vs w2 X hm hr hslot hold hsize hdef
                have er := hslot 32 3 (by kernel_rfl)
                have h9 := hr 32 (by decide)
                change vs 32 = .bool true at h9
                rw [h9] at er
                clear h9
                have e0 := hold 0 (by kernel_rfl)
                have e1 := hold 1 (by kernel_rfl)
                have e2 := hold 2 (by kernel_rfl)
                have e4 := hold 4 (by kernel_rfl)
                have e5 := hold 5 (by kernel_rfl)
                have e6 := hold 6 (by kernel_rfl)
                have e7 := hold 7 (by kernel_rfl)
                have e8 := hold 8 (by kernel_rfl)
                have e9 := hold 9 (by kernel_rfl)
                have e10 := hold 10 (by kernel_rfl)
                have e11 := hold 11 (by kernel_rfl)
                have e12 := hold 12 (by kernel_rfl)
                have e13 := hold 13 (by kernel_rfl)
                have e14 := hold 14 (by kernel_rfl)
                have e15 := hold 15 (by kernel_rfl)
                have e16 := hold 16 (by kernel_rfl)
                have e17 := hold 17 (by kernel_rfl)
                have e18 := hold 18 (by kernel_rfl)
                have e19 := hold 19 (by kernel_rfl)
                have e20 := hold 20 (by kernel_rfl)
                have e21 := hold 21 (by kernel_rfl)
                have e22 := hold 22 (by kernel_rfl)
                have e23 := hold 23 (by kernel_rfl)
                have e24 := hold 24 (by kernel_rfl)
                have e57 := hold 57 (by kernel_rfl)
                have e58 := hold 58 (by kernel_rfl)
                have e59 := hold 59 (by kernel_rfl)
                have e60 := hold 60 (by kernel_rfl)
                have e61 := hold 61 (by kernel_rfl)
                simp only [Array.getD_eq_getD_getElem?, List.getElem?_toArray, List.getElem?_cons_zero, List.getElem?_cons_succ, Option.getD_some] at e0 e1 e2 e4 e5 e6 e7 e8 e9 e10 e11 e12 e13 e14 e15 e16 e17 e18 e19 e20 e21 e22 e23 e24 e57 e58 e59 e60 e61
                have MR := Lib.hid hm
                clear hr hslot hold hm
                obtain ⟨⟨xs⟩, df⟩ := X
                replace hdef : df = [] := hdef
                subst hdef
                replace hsize : xs.length = 62 := hsize
                obtain ⟨x0, xs0, rfl, hs0⟩ := cons_of hsize
                obtain ⟨x1, xs1, rfl, hs1⟩ := cons_of hs0
                obtain ⟨x2, xs2, rfl, hs2⟩ := cons_of hs1
                obtain ⟨x3, xs3, rfl, hs3⟩ := cons_of hs2
                obtain ⟨x4, xs4, rfl, hs4⟩ := cons_of hs3
                obtain ⟨x5, xs5, rfl, hs5⟩ := cons_of hs4
                obtain ⟨x6, xs6, rfl, hs6⟩ := cons_of hs5
                obtain ⟨x7, xs7, rfl, hs7⟩ := cons_of hs6
                obtain ⟨x8, xs8, rfl, hs8⟩ := cons_of hs7
                obtain ⟨x9, xs9, rfl, hs9⟩ := cons_of hs8
                obtain ⟨x10, xs10, rfl, hs10⟩ := cons_of hs9
                obtain ⟨x11, xs11, rfl, hs11⟩ := cons_of hs10
                obtain ⟨x12, xs12, rfl, hs12⟩ := cons_of hs11
                obtain ⟨x13, xs13, rfl, hs13⟩ := cons_of hs12
                obtain ⟨x14, xs14, rfl, hs14⟩ := cons_of hs13
                obtain ⟨x15, xs15, rfl, hs15⟩ := cons_of hs14
                obtain ⟨x16, xs16, rfl, hs16⟩ := cons_of hs15
                obtain ⟨x17, xs17, rfl, hs17⟩ := cons_of hs16
                obtain ⟨x18, xs18, rfl, hs18⟩ := cons_of hs17
                obtain ⟨x19, xs19, rfl, hs19⟩ := cons_of hs18
                obtain ⟨x20, xs20, rfl, hs20⟩ := cons_of hs19
                obtain ⟨x21, xs21, rfl, hs21⟩ := cons_of hs20
                obtain ⟨x22, xs22, rfl, hs22⟩ := cons_of hs21
                obtain ⟨x23, xs23, rfl, hs23⟩ := cons_of hs22
                obtain ⟨x24, xs24, rfl, hs24⟩ := cons_of hs23
                obtain ⟨x25, xs25, rfl, hs25⟩ := cons_of hs24
                obtain ⟨x26, xs26, rfl, hs26⟩ := cons_of hs25
                obtain ⟨x27, xs27, rfl, hs27⟩ := cons_of hs26
                obtain ⟨x28, xs28, rfl, hs28⟩ := cons_of hs27
                obtain ⟨x29, xs29, rfl, hs29⟩ := cons_of hs28
                obtain ⟨x30, xs30, rfl, hs30⟩ := cons_of hs29
                obtain ⟨x31, xs31, rfl, hs31⟩ := cons_of hs30
                obtain ⟨x32, xs32, rfl, hs32⟩ := cons_of hs31
                obtain ⟨x33, xs33, rfl, hs33⟩ := cons_of hs32
                obtain ⟨x34, xs34, rfl, hs34⟩ := cons_of hs33
                obtain ⟨x35, xs35, rfl, hs35⟩ := cons_of hs34
                obtain ⟨x36, xs36, rfl, hs36⟩ := cons_of hs35
                obtain ⟨x37, xs37, rfl, hs37⟩ := cons_of hs36
                obtain ⟨x38, xs38, rfl, hs38⟩ := cons_of hs37
                obtain ⟨x39, xs39, rfl, hs39⟩ := cons_of hs38
                obtain ⟨x40, xs40, rfl, hs40⟩ := cons_of hs39
                obtain ⟨x41, xs41, rfl, hs41⟩ := cons_of hs40
                obtain ⟨x42, xs42, rfl, hs42⟩ := cons_of hs41
                obtain ⟨x43, xs43, rfl, hs43⟩ := cons_of hs42
                obtain ⟨x44, xs44, rfl, hs44⟩ := cons_of hs43
                obtain ⟨x45, xs45, rfl, hs45⟩ := cons_of hs44
                obtain ⟨x46, xs46, rfl, hs46⟩ := cons_of hs45
                obtain ⟨x47, xs47, rfl, hs47⟩ := cons_of hs46
                obtain ⟨x48, xs48, rfl, hs48⟩ := cons_of hs47
                obtain ⟨x49, xs49, rfl, hs49⟩ := cons_of hs48
                obtain ⟨x50, xs50, rfl, hs50⟩ := cons_of hs49
                obtain ⟨x51, xs51, rfl, hs51⟩ := cons_of hs50
                obtain ⟨x52, xs52, rfl, hs52⟩ := cons_of hs51
                obtain ⟨x53, xs53, rfl, hs53⟩ := cons_of hs52
                obtain ⟨x54, xs54, rfl, hs54⟩ := cons_of hs53
                obtain ⟨x55, xs55, rfl, hs55⟩ := cons_of hs54
                obtain ⟨x56, xs56, rfl, hs56⟩ := cons_of hs55
                obtain ⟨x57, xs57, rfl, hs57⟩ := cons_of hs56
                obtain ⟨x58, xs58, rfl, hs58⟩ := cons_of hs57
                obtain ⟨x59, xs59, rfl, hs59⟩ := cons_of hs58
                obtain ⟨x60, xs60, rfl, hs60⟩ := cons_of hs59
                obtain ⟨x61, xs61, rfl, hs61⟩ := cons_of hs60
                obtain rfl := List.eq_nil_of_length_eq_zero hs61
                clear hsize hs0 hs1 hs2 hs3 hs4 hs5 hs6 hs7 hs8 hs9 hs10 hs11 hs12 hs13 hs14 hs15 hs16 hs17 hs18 hs19 hs20 hs21 hs22 hs23 hs24 hs25 hs26 hs27 hs28 hs29 hs30 hs31 hs32 hs33 hs34 hs35 hs36 hs37 hs38 hs39 hs40 hs41 hs42 hs43 hs44 hs45 hs46 hs47 hs48 hs49 hs50 hs51 hs52 hs53 hs54 hs55 hs56 hs57 hs58 hs59 hs60 hs61
                rw [show (Array.mk (x0 :: x1 :: x2 :: x3 :: x4 :: x5 :: x6 :: x7 :: x8 :: x9 :: x10 :: x11 :: x12 :: x13 :: x14 :: x15 :: x16 :: x17 :: x18 :: x19 :: x20 :: x21 :: x22 :: x23 :: x24 :: x25 :: x26 :: x27 :: x28 :: x29 :: x30 :: x31 :: x32 :: x33 :: x34 :: x35 :: x36 :: x37 :: x38 :: x39 :: x40 :: x41 :: x42 :: x43 :: x44 :: x45 :: x46 :: x47 :: x48 :: x49 :: x50 :: x51 :: x52 :: x53 :: x54 :: x55 :: x56 :: x57 :: x58 :: x59 :: x60 :: x61 :: []) : Array Value) = List.toArray (x0 :: x1 :: x2 :: x3 :: x4 :: x5 :: x6 :: x7 :: x8 :: x9 :: x10 :: x11 :: x12 :: x13 :: x14 :: x15 :: x16 :: x17 :: x18 :: x19 :: x20 :: x21 :: x22 :: x23 :: x24 :: x25 :: x26 :: x27 :: x28 :: x29 :: x30 :: x31 :: x32 :: x33 :: x34 :: x35 :: x36 :: x37 :: x38 :: x39 :: x40 :: x41 :: x42 :: x43 :: x44 :: x45 :: x46 :: x47 :: x48 :: x49 :: x50 :: x51 :: x52 :: x53 :: x54 :: x55 :: x56 :: x57 :: x58 :: x59 :: x60 :: x61 :: []) from rfl]
                change x0 = _ at e0
                subst e0
                change x1 = _ at e1
                subst e1
                change x2 = _ at e2
                subst e2
                change x4 = _ at e4
                subst e4
                change x5 = _ at e5
                subst e5
                change x6 = _ at e6
                subst e6
                change x7 = _ at e7
                subst e7
                change x8 = _ at e8
                subst e8
                change x9 = _ at e9
                subst e9
                change x10 = _ at e10
                subst e10
                change x11 = _ at e11
                subst e11
                change x12 = _ at e12
                subst e12
                change x13 = _ at e13
                subst e13
                change x14 = _ at e14
                subst e14
                change x15 = _ at e15
                subst e15
                change x16 = _ at e16
                subst e16
                change x17 = _ at e17
                subst e17
                change x18 = _ at e18
                subst e18
                change x19 = _ at e19
                subst e19
                change x20 = _ at e20
                subst e20
                change x21 = _ at e21
                subst e21
                change x22 = _ at e22
                subst e22
                change x23 = _ at e23
                subst e23
                change x24 = _ at e24
                subst e24
                change x57 = _ at e57
                subst e57
                change x58 = _ at e58
                subst e58
                change x59 = _ at e59
                subst e59
                change x60 = _ at e60
                subst e60
                change x61 = _ at e61
                subst e61
                change x3 = .bool true at er
                subst er
                go_wp2
                go_roundw
                case rel => exact ⟨i + 1, by omega, by go_num, by rw [HRN.out], MR.out.at HAT.out (by simp), HM.out.same MR.out⟩
                case measure => simp [intOf]; omega
              · obtain ⟨j, hj⟩ : ∃ j, i = j + 1 := ⟨i - 1, by omega⟩
                have hjn : j < cn := by omega
                obtain ⟨b, off, hp, hcs⟩ := (H.out.cells.mod0 HM.out).sl.at_
                have hidx := fun W => Sl.idx (P := Tryd.prog) (cap := cc) Tryd.underlying22 sizeRCells (fun h => (hp h).1) W .i64
                obtain ⟨yp, yn, yc, yl, e1, e2, e3, e4, e5, e6, hxs5, -, hyk, -, dy, -, -, -⟩ := (H.out.cells.mod0 HM.out).get hcs j hjn
                obtain ⟨xp, xn, xc, xl, f1, f2, f3, f4, f5, f6, hxs6, -, hxk, -, dx, -, -, -⟩ := (H.out.cells.mod0 HM.out).get hcs i hlt
                have HBL := (hp (by omega)).2
                have HKY : Hid (BytesIn wr yp yn yc yl) := hyk
                have HKX : Hid (BytesIn wr xp xn xc xl) := hxk
                have hidx1 := fun W => hidx W j hjn
                have hidx2 := fun W => hidx W i hlt
                have hw1 : IntKind.i64.wrap ((i : Int) - 1) = (j : Int) := by rw [IntWalk.i64_in _ (by omega)]; omega
                have hz : ((i : Int) == 0) = false := by simp; omega
                have HRN : Hid (rightTo (xs.map Cv.pl) (i + 1) = less yl xl) := by
                  have ey : ((xs.map Cv.pl).map Cl.key).getD (i - 1) [] = yl := by
                    rw [hj, Nat.add_sub_cancel, List.getD_eq_getElem?_getD, List.getElem?_map, List.getElem?_map, hxs5]; rfl
                  have ex : x.k.l = xl := by
                    have := HXX.out.symm.trans hxs6
                    rw [Option.some.inj this]
                  unfold Hid
                  rw [HRS.out, ey, ex, hj]; simp
                have HLE := fun W (hm : Mod [] wr W) => Lib.hid (qless_any yp xp yn xn yc xc yl xl W ⟨HKY.out.sl.mod hm (by simp), HKY.out.wf⟩ ⟨HKX.out.sl.mod hm (by simp), HKX.out.wf⟩)
                generalize less yl xl = LB at *
                clear HRS h0 hj hidx hp hcs hyk hxk hxs5 hxs6
                go_wp2_with fail
                refine par_region (by kernel_rfl) (fun oi vs w => mayL A i cp cn cc p' x j b off xp yp xn xc yn yc LB oi (vs oi) w) (fun w' => Mod [] wr w') (by kernel_rfl) (fun j vs vs' w o _ h1 _ h2 => by rw [← h1]; exact h2) ⟨⟨⟨⟨⟨⟨⟨⟨⟨⟨⟨⟨⟨⟨⟨⟨⟨⟨⟨⟨⟨⟨⟨⟨⟨⟨⟨⟨⟨⟨⟨⟨⟨trivial, ?_⟩, ?_⟩, ?_⟩, ?_⟩, ?_⟩, ?_⟩, ?_⟩, ?_⟩, ?_⟩, ?_⟩, ?_⟩, ?_⟩, ?_⟩, ?_⟩, ?_⟩, ?_⟩, ?_⟩, ?_⟩, ?_⟩, ?_⟩, ?_⟩, ?_⟩, ?_⟩, ?_⟩, ?_⟩, ?_⟩, ?_⟩, ?_⟩, ?_⟩, ?_⟩, ?_⟩, ?_⟩, ?_⟩ (Mod.of_drew wr) ?_
                · intro o ho listed vs a w' inv hun haft K hK
                  obtain rfl := Option.some.inj ho
                  refine par_run rfl ?_
                  have e0 := inv.oldU hun 3 32 [31, 12, 11, 1, 0] (by kernel_rfl) (by kernel_rfl)
                  have INV := Lib.hid inv
                  clear inv haft hun ho
                  simp at e0
                  go_simp
                  exact hK _ _ INV.out.inv INV.out.val rfl
                · intro o ho listed vs a w' inv hun haft K hK
                  obtain rfl := Option.some.inj ho
                  refine par_run rfl ?_
                  obtain ⟨e0, r0⟩ := inv.get haft 0 25 (by kernel_rfl) (by kernel_rfl)
                  have INV := Lib.hid inv
                  clear inv haft hun ho
                  change vs 0 = .bool true at r0
                  rw [r0] at e0
                  have g0 := getD_opt e0
                  go_simp
                  exact hK _ _ INV.out.inv INV.out.val rfl
                · intro o ho listed vs a w' inv hun haft K hK
                  obtain rfl := Option.some.inj ho
                  obtain ⟨e0, r0⟩ := inv.get haft 1 26 (by kernel_rfl) (by kernel_rfl)
                  have e1 := inv.old 1 (by kernel_rfl)
                  have INV := Lib.hid inv
                  clear inv haft hun ho
                  change vs 1 = .bool true at r0
                  rw [r0] at e0
                  have g0 := getD_opt e0
                  simp at e1
                  refine par_guard rfl (by kernel_rfl) e0 ?_
                  rw [if_pos rfl]
                  go_simp
                  exact hK _ _ INV.out.inv INV.out.val rfl
                · intro o ho listed vs a w' inv hun haft K hK
                  obtain rfl := Option.some.inj ho
                  obtain ⟨e0, r0⟩ := inv.get haft 1 26 (by kernel_rfl) (by kernel_rfl)
                  obtain ⟨e1, r1⟩ := inv.get haft 2 27 (by kernel_rfl) (by kernel_rfl)
                  have INV := Lib.hid inv
                  clear inv haft hun ho
                  change vs 1 = .bool true at r0
                  rw [r0] at e0
                  have g0 := getD_opt e0
                  change vs 2 = .pointer (some ⟨A, 1, none⟩) at r1
                  rw [r1] at e1
                  have g1 := getD_opt e1
                  have c1 := (INV.out.inv.cell (a := ⟨A, 1, none⟩) hAl (by simp)).trans hc1
                  refine par_guard rfl (by kernel_rfl) e0 ?_
                  rw [if_pos rfl]
                  go_simp
                  exact hK _ _ INV.out.inv INV.out.val rfl
                · intro o ho listed vs a w' inv hun haft K hK
                  obtain rfl := Option.some.inj ho
                  obtain ⟨e0, r0⟩ := inv.get haft 1 26 (by kernel_rfl) (by kernel_rfl)
                  have e1 := inv.old 4 (by kernel_rfl)
                  have INV := Lib.hid inv
                  clear inv haft hun ho
                  change vs 1 = .bool true at r0
                  rw [r0] at e0
                  have g0 := getD_opt e0
                  simp at e1
                  refine par_guard rfl (by kernel_rfl) e0 ?_
                  rw [if_pos rfl]
                  go_simp
                  exact hK _ _ INV.out.inv INV.out.val rfl
                · intro o ho listed vs a w' inv hun haft K hK
                  obtain rfl := Option.some.inj ho
                  obtain ⟨e0, r0⟩ := inv.get haft 1 26 (by kernel_rfl) (by kernel_rfl)
                  have e1 := inv.old 4 (by kernel_rfl)
                  have INV := Lib.hid inv
                  clear inv haft hun ho
                  change vs 1 = .bool true at r0
                  rw [r0] at e0
                  have g0 := getD_opt e0
                  simp at e1
                  refine par_guard rfl (by kernel_rfl) e0 ?_
                  rw [if_pos rfl]
                  go_simp
                  exact hK _ _ INV.out.inv INV.out.val rfl
                · intro o ho listed vs a w' inv hun haft K hK
                  obtain rfl := Option.some.inj ho
                  obtain ⟨e0, r0⟩ := inv.get haft 1 26 (by kernel_rfl) (by kernel_rfl)
                  obtain ⟨e1, r1⟩ := inv.get haft 5 30 (by kernel_rfl) (by kernel_rfl)
                  have INV := Lib.hid inv
                  clear inv haft hun ho
                  change vs 1 = .bool true at r0
                  rw [r0] at e0
                  have g0 := getD_opt e0
                  change vs 5 = .int .i64 i at r1
                  rw [r1] at e1
                  have g1 := getD_opt e1
                  refine par_guard rfl (by kernel_rfl) e0 ?_
                  rw [if_pos rfl]
                  go_simp
                  exact hK _ _ INV.out.inv INV.out.val rfl
                · intro o ho listed vs a w' inv hun haft K hK
                  obtain rfl := Option.some.inj ho
                  obtain ⟨e0, r0⟩ := inv.get haft 1 26 (by kernel_rfl) (by kernel_rfl)
                  obtain ⟨e1, r1⟩ := inv.get haft 3 28 (by kernel_rfl) (by kernel_rfl)
                  obtain ⟨e2, r2⟩ := inv.get haft 4 29 (by kernel_rfl) (by kernel_rfl)
                  obtain ⟨e3, r3⟩ := inv.get haft 6 31 (by kernel_rfl) (by kernel_rfl)
                  have INV := Lib.hid inv
                  clear inv haft hun ho
                  change vs 1 = .bool true at r0
                  rw [r0] at e0
                  have g0 := getD_opt e0
                  change vs 3 = .slice cp cn cc at r1
                  rw [r1] at e1
                  have g1 := getD_opt e1
                  change vs 4 = .int .i64 i at r2
                  rw [r2] at e2
                  have g2 := getD_opt e2
                  change vs 6 = .int .i64 ((i : Int) + 1) at r3
                  rw [r3] at e3
                  have g3 := getD_opt e3
                  refine par_guard rfl (by kernel_rfl) e0 ?_
                  rw [if_pos rfl]
                  go_simp
                  exact hK _ _ INV.out.inv INV.out.val rfl
                · intro o ho listed vs a w' inv hun haft K hK
                  obtain rfl := Option.some.inj ho
                  obtain ⟨e0, r0⟩ := inv.get haft 1 26 (by kernel_rfl) (by kernel_rfl)
                  obtain ⟨e1, r1⟩ := inv.get haft 7 32 (by kernel_rfl) (by kernel_rfl)
                  have INV := Lib.hid inv
                  clear inv haft hun ho
                  change vs 1 = .bool true at r0
                  rw [r0] at e0
                  have g0 := getD_opt e0
                  change vs 7 = .slice p' 1 (cc - i) at r1
                  rw [r1] at e1
                  have g1 := getD_opt e1
                  refine par_guard rfl (by kernel_rfl) e0 ?_
                  rw [if_pos rfl]
                  go_simp
                  exact hK _ _ INV.out.inv INV.out.val rfl
                · intro o ho listed vs a w' inv hun haft K hK
                  obtain rfl := Option.some.inj ho
                  obtain ⟨e0, r0⟩ := inv.get haft 1 26 (by kernel_rfl) (by kernel_rfl)
                  obtain ⟨e1, r1⟩ := inv.get haft 8 33 (by kernel_rfl) (by kernel_rfl)
                  have INV := Lib.hid inv
                  clear inv haft hun ho
                  change vs 1 = .bool true at r0
                  rw [r0] at e0
                  have g0 := getD_opt e0
                  change vs 8 = .agg #[.bool false, .slice p' 1 (cc - i), .slice none 0 0, .slice none 0 0] at r1
                  rw [r1] at e1
                  have g1 := getD_opt e1
                  refine par_guard rfl (by kernel_rfl) e0 ?_
                  rw [if_pos rfl]
                  go_simp
                  refine (HOF _ INV.out.inv).out.mono ?_
                  rintro _ w3 ⟨_, rfl, m3, hof⟩
                  rw [if_neg (by simp)] at hof
                  obtain ⟨L5, rfl, hL5⟩ := hof
                  exact hK _ _ (INV.out.inv.same m3) (fun j hj hl => mayL_keep m3 (INV.out.val j hj hl)) ⟨_, rfl, hL5⟩
                · intro o ho listed vs a w' inv hun haft K hK
                  obtain rfl := Option.some.inj ho
                  obtain ⟨e0, r0⟩ := inv.get haft 1 26 (by kernel_rfl) (by kernel_rfl)
                  obtain ⟨e1, r1⟩ := inv.get haft 9 34 (by kernel_rfl) (by kernel_rfl)
                  have INV := Lib.hid inv
                  clear inv haft hun ho
                  change vs 1 = .bool true at r0
                  rw [r0] at e0
                  have g0 := getD_opt e0
                  have g1 := getD_opt e1
                  refine par_guard rfl (by kernel_rfl) e0 ?_
                  rw [if_pos rfl]
                  obtain ⟨L5, h5, hL5⟩ := r1
                  rw [h5] at e1
                  have g1 := getD_opt e1
                  have HL5 := Lib.hid hL5
                  clear hL5 h5
                  go_simp
                  go_invoke
                  go_simp
                  refine (HMY _ _ HL5.out).out.mono ?_
                  rintro _ w3 ⟨_, rfl, rfl, m3⟩
                  exact hK _ _ (INV.out.inv.same m3) (fun j hj hl => mayL_keep m3 (INV.out.val j hj hl)) rfl
                · intro o ho listed vs a w' inv hun haft K hK
                  obtain rfl := Option.some.inj ho
                  refine par_run rfl ?_
                  obtain ⟨e0, r0⟩ := inv.get haft 1 26 (by kernel_rfl) (by kernel_rfl)
                  obtain ⟨e1, r1⟩ := inv.get haft 10 35 (by kernel_rfl) (by kernel_rfl)
                  have INV := Lib.hid inv
                  clear inv haft hun ho
                  change vs 1 = .bool true at r0
                  rw [r0] at e0
                  have g0 := getD_opt e0
                  change vs 10 = .bool true at r1
                  rw [r1] at e1
                  have g1 := getD_opt e1
                  go_simp
                  exact hK _ _ INV.out.inv INV.out.val rfl
                · intro o ho listed vs a w' inv hun haft K hK
                  obtain rfl := Option.some.inj ho
                  refine par_run rfl ?_
                  obtain ⟨e0, r0⟩ := inv.get haft 11 36 (by kernel_rfl) (by kernel_rfl)
                  have INV := Lib.hid inv
                  clear inv haft hun ho
                  change vs 11 = .bool true at r0
                  rw [r0] at e0
                  have g0 := getD_opt e0
                  go_simp
                  exact hK _ _ INV.out.inv INV.out.val rfl
                · intro o ho listed vs a w' inv hun haft K hK
                  obtain rfl := Option.some.inj ho
                  obtain ⟨e0, r0⟩ := inv.get haft 12 37 (by kernel_rfl) (by kernel_rfl)
                  have e1 := inv.old 4 (by kernel_rfl)
                  have INV := Lib.hid inv
                  clear inv haft hun ho
                  change vs 12 = .bool true at r0
                  rw [r0] at e0
                  have g0 := getD_opt e0
                  simp at e1
                  refine par_guard rfl (by kernel_rfl) e0 ?_
                  rw [if_pos rfl]
                  go_simp
                  exact hK _ _ INV.out.inv INV.out.val rfl
                · intro o ho listed vs a w' inv hun haft K hK
                  obtain rfl := Option.some.inj ho
                  obtain ⟨e0, r0⟩ := inv.get haft 12 37 (by kernel_rfl) (by kernel_rfl)
                  obtain ⟨e1, r1⟩ := inv.get haft 13 38 (by kernel_rfl) (by kernel_rfl)
                  have INV := Lib.hid inv
                  clear inv haft hun ho
                  change vs 12 = .bool true at r0
                  rw [r0] at e0
                  have g0 := getD_opt e0
                  change vs 13 = .int .i64 i at r1
                  rw [r1] at e1
                  have g1 := getD_opt e1
                  refine par_guard rfl (by kernel_rfl) e0 ?_
                  rw [if_pos rfl]
                  go_simp
                  exact hK _ _ INV.out.inv INV.out.val rfl
                · intro o ho listed vs a w' inv hun haft K hK
                  obtain rfl := Option.some.inj ho
                  obtain ⟨e0, r0⟩ := inv.get haft 12 37 (by kernel_rfl) (by kernel_rfl)
                  obtain ⟨e1, r1⟩ := inv.get haft 14 39 (by kernel_rfl) (by kernel_rfl)
                  have INV := Lib.hid inv
                  clear inv haft hun ho
                  change vs 12 = .bool true at r0
                  rw [r0] at e0
                  have g0 := getD_opt e0
                  change vs 14 = .bool false at r1
                  rw [r1] at e1
                  have g1 := getD_opt e1
                  refine par_guard rfl (by kernel_rfl) e0 ?_
                  rw [if_pos rfl]
                  go_simp
                  exact hK _ _ INV.out.inv INV.out.val rfl
                · intro o ho listed vs a w' inv hun haft K hK
                  obtain rfl := Option.some.inj ho
                  obtain ⟨e0, r0⟩ := inv.get haft 15 40 (by kernel_rfl) (by kernel_rfl)
                  have e1 := inv.old 1 (by kernel_rfl)
                  have INV := Lib.hid inv
                  clear inv haft hun ho
                  change vs 15 = .bool false at r0
                  rw [r0] at e0
                  have g0 := getD_opt e0
                  simp at e1
                  refine par_guard rfl (by kernel_rfl) e0 ?_
                  rw [if_pos rfl]
                  go_simp
                  exact hK _ _ INV.out.inv INV.out.val rfl
                · intro o ho listed vs a w' inv hun haft K hK
                  obtain rfl := Option.some.inj ho
                  obtain ⟨e0, r0⟩ := inv.get haft 15 40 (by kernel_rfl) (by kernel_rfl)
                  obtain ⟨e1, r1⟩ := inv.get haft 16 41 (by kernel_rfl) (by kernel_rfl)
                  have INV := Lib.hid inv
                  clear inv haft hun ho
                  change vs 15 = .bool false at r0
                  rw [r0] at e0
                  have g0 := getD_opt e0
                  change vs 16 = .pointer (some ⟨A, 1, none⟩) at r1
                  rw [r1] at e1
                  have g1 := getD_opt e1
                  have c1 := (INV.out.inv.cell (a := ⟨A, 1, none⟩) hAl (by simp)).trans hc1
                  refine par_guard rfl (by kernel_rfl) e0 ?_
                  rw [if_pos rfl]
                  go_simp
                  exact hK _ _ INV.out.inv INV.out.val rfl
                · intro o ho listed vs a w' inv hun haft K hK
                  obtain rfl := Option.some.inj ho
                  obtain ⟨e0, r0⟩ := inv.get haft 15 40 (by kernel_rfl) (by kernel_rfl)
                  have e1 := inv.old 4 (by kernel_rfl)
                  have INV := Lib.hid inv
                  clear inv haft hun ho
                  change vs 15 = .bool false at r0
                  rw [r0] at e0
                  have g0 := getD_opt e0
                  simp at e1
                  refine par_guard rfl (by kernel_rfl) e0 ?_
                  rw [if_pos rfl]
                  go_simp
                  exact hK _ _ INV.out.inv INV.out.val rfl
                · intro o ho listed vs a w' inv hun haft K hK
                  obtain rfl := Option.some.inj ho
                  obtain ⟨e0, r0⟩ := inv.get haft 15 40 (by kernel_rfl) (by kernel_rfl)
                  obtain ⟨e1, r1⟩ := inv.get haft 18 43 (by kernel_rfl) (by kernel_rfl)
                  have INV := Lib.hid inv
                  clear inv haft hun ho
                  change vs 15 = .bool false at r0
                  rw [r0] at e0
                  have g0 := getD_opt e0
                  change vs 18 = .int .i64 i at r1
                  rw [r1] at e1
                  have g1 := getD_opt e1
                  refine par_guard rfl (by kernel_rfl) e0 ?_
                  rw [if_pos rfl]
                  go_simp
                  exact hK _ _ INV.out.inv INV.out.val rfl
                · intro o ho listed vs a w' inv hun haft K hK
                  obtain rfl := Option.some.inj ho
                  obtain ⟨e0, r0⟩ := inv.get haft 15 40 (by kernel_rfl) (by kernel_rfl)
                  obtain ⟨e1, r1⟩ := inv.get haft 17 42 (by kernel_rfl) (by kernel_rfl)
                  obtain ⟨e2, r2⟩ := inv.get haft 19 44 (by kernel_rfl) (by kernel_rfl)
                  have INV := Lib.hid inv
                  clear inv haft hun ho
                  change vs 15 = .bool false at r0
                  rw [r0] at e0
                  have g0 := getD_opt e0
                  change vs 17 = .slice cp cn cc at r1
                  rw [r1] at e1
                  have g1 := getD_opt e1
                  change vs 19 = .int .i64 j at r2
                  rw [r2] at e2
                  have g2 := getD_opt e2
                  refine par_guard rfl (by kernel_rfl) e0 ?_
                  rw [if_pos rfl]
                  go_simp
                  exact hK _ _ INV.out.inv INV.out.val rfl
                · intro o ho listed vs a w' inv hun haft K hK
                  obtain rfl := Option.some.inj ho
                  obtain ⟨e0, r0⟩ := inv.get haft 15 40 (by kernel_rfl) (by kernel_rfl)
                  obtain ⟨e1, r1⟩ := inv.get haft 20 45 (by kernel_rfl) (by kernel_rfl)
                  have INV := Lib.hid inv
                  clear inv haft hun ho
                  change vs 15 = .bool false at r0
                  rw [r0] at e0
                  have g0 := getD_opt e0
                  change vs 20 = .pointer (some ⟨b, off + j * 4, none⟩) at r1
                  rw [r1] at e1
                  have g1 := getD_opt e1
                  refine par_guard rfl (by kernel_rfl) e0 ?_
                  rw [if_pos rfl]
                  go_simp
                  exact hK _ _ INV.out.inv INV.out.val rfl
                · intro o ho listed vs a w' inv hun haft K hK
                  obtain rfl := Option.some.inj ho
                  obtain ⟨e0, r0⟩ := inv.get haft 15 40 (by kernel_rfl) (by kernel_rfl)
                  obtain ⟨e1, r1⟩ := inv.get haft 21 46 (by kernel_rfl) (by kernel_rfl)
                  have INV := Lib.hid inv
                  clear inv haft hun ho
                  change vs 15 = .bool false at r0
                  rw [r0] at e0
                  have g0 := getD_opt e0
                  change vs 21 = .pointer (some ⟨b, off + j * 4, none⟩) at r1
                  rw [r1] at e1
                  have g1 := getD_opt e1
                  have cy := (INV.out.inv.cell (a := ⟨b, _, none⟩) HBL (by simp)).trans dy
                  refine par_guard rfl (by kernel_rfl) e0 ?_
                  rw [if_pos rfl]
                  go_simp
                  exact hK _ _ INV.out.inv INV.out.val rfl
                · intro o ho listed vs a w' inv hun haft K hK
                  obtain rfl := Option.some.inj ho
                  obtain ⟨e0, r0⟩ := inv.get haft 15 40 (by kernel_rfl) (by kernel_rfl)
                  have e1 := inv.old 1 (by kernel_rfl)
                  have INV := Lib.hid inv
                  clear inv haft hun ho
                  change vs 15 = .bool false at r0
                  rw [r0] at e0
                  have g0 := getD_opt e0
                  simp at e1
                  refine par_guard rfl (by kernel_rfl) e0 ?_
                  rw [if_pos rfl]
                  go_simp
                  exact hK _ _ INV.out.inv INV.out.val rfl
                · intro o ho listed vs a w' inv hun haft K hK
                  obtain rfl := Option.some.inj ho
                  obtain ⟨e0, r0⟩ := inv.get haft 15 40 (by kernel_rfl) (by kernel_rfl)
                  obtain ⟨e1, r1⟩ := inv.get haft 23 48 (by kernel_rfl) (by kernel_rfl)
                  have INV := Lib.hid inv
                  clear inv haft hun ho
                  change vs 15 = .bool false at r0
                  rw [r0] at e0
                  have g0 := getD_opt e0
                  change vs 23 = .pointer (some ⟨A, 1, none⟩) at r1
                  rw [r1] at e1
                  have g1 := getD_opt e1
                  have c1 := (INV.out.inv.cell (a := ⟨A, 1, none⟩) hAl (by simp)).trans hc1
                  refine par_guard rfl (by kernel_rfl) e0 ?_
                  rw [if_pos rfl]
                  go_simp
                  exact hK _ _ INV.out.inv INV.out.val rfl
                · intro o ho listed vs a w' inv hun haft K hK
                  obtain rfl := Option.some.inj ho
                  obtain ⟨e0, r0⟩ := inv.get haft 15 40 (by kernel_rfl) (by kernel_rfl)
                  have e1 := inv.old 4 (by kernel_rfl)
                  have INV := Lib.hid inv
                  clear inv haft hun ho
                  change vs 15 = .bool false at r0
                  rw [r0] at e0
                  have g0 := getD_opt e0
                  simp at e1
                  refine par_guard rfl (by kernel_rfl) e0 ?_
                  rw [if_pos rfl]
                  go_simp
                  exact hK _ _ INV.out.inv INV.out.val rfl
                · intro o ho listed vs a w' inv hun haft K hK
                  obtain rfl := Option.some.inj ho
                  obtain ⟨e0, r0⟩ := inv.get haft 15 40 (by kernel_rfl) (by kernel_rfl)
                  obtain ⟨e1, r1⟩ := inv.get haft 24 49 (by kernel_rfl) (by kernel_rfl)
                  obtain ⟨e2, r2⟩ := inv.get haft 25 50 (by kernel_rfl) (by kernel_rfl)
                  have INV := Lib.hid inv
                  clear inv haft hun ho
                  change vs 15 = .bool false at r0
                  rw [r0] at e0
                  have g0 := getD_opt e0
                  change vs 24 = .slice cp cn cc at r1
                  rw [r1] at e1
                  have g1 := getD_opt e1
                  change vs 25 = .int .i64 i at r2
                  rw [r2] at e2
                  have g2 := getD_opt e2
                  refine par_guard rfl (by kernel_rfl) e0 ?_
                  rw [if_pos rfl]
                  go_simp
                  exact hK _ _ INV.out.inv INV.out.val rfl
                · intro o ho listed vs a w' inv hun haft K hK
                  obtain rfl := Option.some.inj ho
                  obtain ⟨e0, r0⟩ := inv.get haft 15 40 (by kernel_rfl) (by kernel_rfl)
                  obtain ⟨e1, r1⟩ := inv.get haft 26 51 (by kernel_rfl) (by kernel_rfl)
                  have INV := Lib.hid inv
                  clear inv haft hun ho
                  change vs 15 = .bool false at r0
                  rw [r0] at e0
                  have g0 := getD_opt e0
                  change vs 26 = .pointer (some ⟨b, off + i * 4, none⟩) at r1
                  rw [r1] at e1
                  have g1 := getD_opt e1
                  refine par_guard rfl (by kernel_rfl) e0 ?_
                  rw [if_pos rfl]
                  go_simp
                  exact hK _ _ INV.out.inv INV.out.val rfl
                · intro o ho listed vs a w' inv hun haft K hK
                  obtain rfl := Option.some.inj ho
                  obtain ⟨e0, r0⟩ := inv.get haft 15 40 (by kernel_rfl) (by kernel_rfl)
                  obtain ⟨e1, r1⟩ := inv.get haft 27 52 (by kernel_rfl) (by kernel_rfl)
                  have INV := Lib.hid inv
                  clear inv haft hun ho
                  change vs 15 = .bool false at r0
                  rw [r0] at e0
                  have g0 := getD_opt e0
                  change vs 27 = .pointer (some ⟨b, off + i * 4, none⟩) at r1
                  rw [r1] at e1
                  have g1 := getD_opt e1
                  have cx := (INV.out.inv.cell (a := ⟨b, _, none⟩) HBL (by simp)).trans dx
                  refine par_guard rfl (by kernel_rfl) e0 ?_
                  rw [if_pos rfl]
                  go_simp
                  exact hK _ _ INV.out.inv INV.out.val rfl
                · intro o ho listed vs a w' inv hun haft K hK
                  obtain rfl := Option.some.inj ho
                  obtain ⟨e0, r0⟩ := inv.get haft 15 40 (by kernel_rfl) (by kernel_rfl)
                  obtain ⟨e1, r1⟩ := inv.get haft 22 47 (by kernel_rfl) (by kernel_rfl)
                  obtain ⟨e2, r2⟩ := inv.get haft 28 53 (by kernel_rfl) (by kernel_rfl)
                  have INV := Lib.hid inv
                  clear inv haft hun ho
                  change vs 15 = .bool false at r0
                  rw [r0] at e0
                  have g0 := getD_opt e0
                  change vs 22 = .slice yp yn yc at r1
                  rw [r1] at e1
                  have g1 := getD_opt e1
                  change vs 28 = .slice xp xn xc at r2
                  rw [r2] at e2
                  have g2 := getD_opt e2
                  refine par_guard rfl (by kernel_rfl) e0 ?_
                  rw [if_pos rfl]
                  go_simp
                  refine (HLE _ INV.out.inv).out.mono ?_
                  rintro _ w3 ⟨_, rfl, rfl, m3⟩
                  exact hK _ _ (INV.out.inv.same m3) (fun j hj hl => mayL_keep m3 (INV.out.val j hj hl)) rfl
                · intro o ho listed vs a w' inv hun haft K hK
                  obtain rfl := Option.some.inj ho
                  obtain ⟨e0, r0⟩ := inv.get haft 12 37 (by kernel_rfl) (by kernel_rfl)
                  obtain ⟨e1, r1⟩ := inv.get haft 15 40 (by kernel_rfl) (by kernel_rfl)
                  obtain ⟨e2, r2⟩ := inv.get haft 29 54 (by kernel_rfl) (by kernel_rfl)
                  have INV := Lib.hid inv
                  clear inv haft hun ho
                  change vs 12 = .bool true at r0
                  rw [r0] at e0
                  have g0 := getD_opt e0
                  change vs 15 = .bool false at r1
                  rw [r1] at e1
                  have g1 := getD_opt e1
                  change vs 29 = .bool LB at r2
                  rw [r2] at e2
                  have g2 := getD_opt e2
                  refine par_guard rfl (by kernel_rfl) e0 ?_
                  rw [if_pos rfl]
                  go_simp
                  exact hK _ _ INV.out.inv INV.out.val rfl
                · intro o ho listed vs a w' inv hun haft K hK
                  obtain rfl := Option.some.inj ho
                  refine par_run rfl ?_
                  obtain ⟨e0, r0⟩ := inv.get haft 12 37 (by kernel_rfl) (by kernel_rfl)
                  obtain ⟨e1, r1⟩ := inv.get haft 30 55 (by kernel_rfl) (by kernel_rfl)
                  have INV := Lib.hid inv
                  clear inv haft hun ho
                  change vs 12 = .bool true at r0
                  rw [r0] at e0
                  have g0 := getD_opt e0
                  change vs 30 = .bool LB at r1
                  rw [r1] at e1
                  have g1 := getD_opt e1
                  go_simp
                  exact hK _ _ INV.out.inv INV.out.val rfl
                · intro o ho listed vs a w' inv hun haft K hK
                  obtain rfl := Option.some.inj ho
                  refine par_run rfl ?_
                  obtain ⟨e0, r0⟩ := inv.get haft 31 56 (by kernel_rfl) (by kernel_rfl)
                  have INV := Lib.hid inv
                  clear inv haft hun ho
                  change vs 31 = .bool LB at r0
                  rw [r0] at e0
                  have g0 := getD_opt e0
                  go_simp
                  exact hK _ _ INV.out.inv INV.out.val rfl
                intro vs w2 X hm hr hslot hold hsize hdef
                have er := hslot 32 3 (by kernel_rfl)
                have h9 := hr 32 (by decide)
                change vs 32 = .bool LB at h9
                rw [h9] at er
                clear h9
                have e0 := hold 0 (by kernel_rfl)
                have e1 := hold 1 (by kernel_rfl)
                have e2 := hold 2 (by kernel_rfl)
                have e4 := hold 4 (by kernel_rfl)
                have e5 := hold 5 (by kernel_rfl)
                have e6 := hold 6 (by kernel_rfl)
                have e7 := hold 7 (by kernel_rfl)
                have e8 := hold 8 (by kernel_rfl)
                have e9 := hold 9 (by kernel_rfl)
                have e10 := hold 10 (by kernel_rfl)
                have e11 := hold 11 (by kernel_rfl)
                have e12 := hold 12 (by kernel_rfl)
                have e13 := hold 13 (by kernel_rfl)
                have e14 := hold 14 (by kernel_rfl)
                have e15 := hold 15 (by kernel_rfl)
                have e16 := hold 16 (by kernel_rfl)
                have e17 := hold 17 (by kernel_rfl)
                have e18 := hold 18 (by kernel_rfl)
                have e19 := hold 19 (by kernel_rfl)
                have e20 := hold 20 (by kernel_rfl)
                have e21 := hold 21 (by kernel_rfl)
                have e22 := hold 22 (by kernel_rfl)
                have e23 := hold 23 (by kernel_rfl)
                have e24 := hold 24 (by kernel_rfl)
                have e57 := hold 57 (by kernel_rfl)
                have e58 := hold 58 (by kernel_rfl)
                have e59 := hold 59 (by kernel_rfl)
                have e60 := hold 60 (by kernel_rfl)
                have e61 := hold 61 (by kernel_rfl)
                simp only [Array.getD_eq_getD_getElem?, List.getElem?_toArray, List.getElem?_cons_zero, List.getElem?_cons_succ, Option.getD_some] at e0 e1 e2 e4 e5 e6 e7 e8 e9 e10 e11 e12 e13 e14 e15 e16 e17 e18 e19 e20 e21 e22 e23 e24 e57 e58 e59 e60 e61
                have MR := Lib.hid hm
                clear hr hslot hold hm
                obtain ⟨⟨xs⟩, df⟩ := X
                replace hdef : df = [] := hdef
                subst hdef
                replace hsize : xs.length = 62 := hsize
                obtain ⟨x0, xs0, rfl, hs0⟩ := cons_of hsize
                obtain ⟨x1, xs1, rfl, hs1⟩ := cons_of hs0
                obtain ⟨x2, xs2, rfl, hs2⟩ := cons_of hs1
                obtain ⟨x3, xs3, rfl, hs3⟩ := cons_of hs2
                obtain ⟨x4, xs4, rfl, hs4⟩ := cons_of hs3
                obtain ⟨x5, xs5, rfl, hs5⟩ := cons_of hs4
                obtain ⟨x6, xs6, rfl, hs6⟩ := cons_of hs5
                obtain ⟨x7, xs7, rfl, hs7⟩ := cons_of hs6
                obtain ⟨x8, xs8, rfl, hs8⟩ := cons_of hs7
                obtain ⟨x9, xs9, rfl, hs9⟩ := cons_of hs8
                obtain ⟨x10, xs10, rfl, hs10⟩ := cons_of hs9
                obtain ⟨x11, xs11, rfl, hs11⟩ := cons_of hs10
                obtain ⟨x12, xs12, rfl, hs12⟩ := cons_of hs11
                obtain ⟨x13, xs13, rfl, hs13⟩ := cons_of hs12
                obtain ⟨x14, xs14, rfl, hs14⟩ := cons_of hs13
                obtain ⟨x15, xs15, rfl, hs15⟩ := cons_of hs14
                obtain ⟨x16, xs16, rfl, hs16⟩ := cons_of hs15
                obtain ⟨x17, xs17, rfl, hs17⟩ := cons_of hs16
                obtain ⟨x18, xs18, rfl, hs18⟩ := cons_of hs17
                obtain ⟨x19, xs19, rfl, hs19⟩ := cons_of hs18
                obtain ⟨x20, xs20, rfl, hs20⟩ := cons_of hs19
                obtain ⟨x21, xs21, rfl, hs21⟩ := cons_of hs20
                obtain ⟨x22, xs22, rfl, hs22⟩ := cons_of hs21
                obtain ⟨x23, xs23, rfl, hs23⟩ := cons_of hs22
                obtain ⟨x24, xs24, rfl, hs24⟩ := cons_of hs23
                obtain ⟨x25, xs25, rfl, hs25⟩ := cons_of hs24
                obtain ⟨x26, xs26, rfl, hs26⟩ := cons_of hs25
                obtain ⟨x27, xs27, rfl, hs27⟩ := cons_of hs26
                obtain ⟨x28, xs28, rfl, hs28⟩ := cons_of hs27
                obtain ⟨x29, xs29, rfl, hs29⟩ := cons_of hs28
                obtain ⟨x30, xs30, rfl, hs30⟩ := cons_of hs29
                obtain ⟨x31, xs31, rfl, hs31⟩ := cons_of hs30
                obtain ⟨x32, xs32, rfl, hs32⟩ := cons_of hs31
                obtain ⟨x33, xs33, rfl, hs33⟩ := cons_of hs32
                obtain ⟨x34, xs34, rfl, hs34⟩ := cons_of hs33
                obtain ⟨x35, xs35, rfl, hs35⟩ := cons_of hs34
                obtain ⟨x36, xs36, rfl, hs36⟩ := cons_of hs35
                obtain ⟨x37, xs37, rfl, hs37⟩ := cons_of hs36
                obtain ⟨x38, xs38, rfl, hs38⟩ := cons_of hs37
                obtain ⟨x39, xs39, rfl, hs39⟩ := cons_of hs38
                obtain ⟨x40, xs40, rfl, hs40⟩ := cons_of hs39
                obtain ⟨x41, xs41, rfl, hs41⟩ := cons_of hs40
                obtain ⟨x42, xs42, rfl, hs42⟩ := cons_of hs41
                obtain ⟨x43, xs43, rfl, hs43⟩ := cons_of hs42
                obtain ⟨x44, xs44, rfl, hs44⟩ := cons_of hs43
                obtain ⟨x45, xs45, rfl, hs45⟩ := cons_of hs44
                obtain ⟨x46, xs46, rfl, hs46⟩ := cons_of hs45
                obtain ⟨x47, xs47, rfl, hs47⟩ := cons_of hs46
                obtain ⟨x48, xs48, rfl, hs48⟩ := cons_of hs47
                obtain ⟨x49, xs49, rfl, hs49⟩ := cons_of hs48
                obtain ⟨x50, xs50, rfl, hs50⟩ := cons_of hs49
                obtain ⟨x51, xs51, rfl, hs51⟩ := cons_of hs50
                obtain ⟨x52, xs52, rfl, hs52⟩ := cons_of hs51
                obtain ⟨x53, xs53, rfl, hs53⟩ := cons_of hs52
                obtain ⟨x54, xs54, rfl, hs54⟩ := cons_of hs53
                obtain ⟨x55, xs55, rfl, hs55⟩ := cons_of hs54
                obtain ⟨x56, xs56, rfl, hs56⟩ := cons_of hs55
                obtain ⟨x57, xs57, rfl, hs57⟩ := cons_of hs56
                obtain ⟨x58, xs58, rfl, hs58⟩ := cons_of hs57
                obtain ⟨x59, xs59, rfl, hs59⟩ := cons_of hs58
                obtain ⟨x60, xs60, rfl, hs60⟩ := cons_of hs59
                obtain ⟨x61, xs61, rfl, hs61⟩ := cons_of hs60
                obtain rfl := List.eq_nil_of_length_eq_zero hs61
                clear hsize hs0 hs1 hs2 hs3 hs4 hs5 hs6 hs7 hs8 hs9 hs10 hs11 hs12 hs13 hs14 hs15 hs16 hs17 hs18 hs19 hs20 hs21 hs22 hs23 hs24 hs25 hs26 hs27 hs28 hs29 hs30 hs31 hs32 hs33 hs34 hs35 hs36 hs37 hs38 hs39 hs40 hs41 hs42 hs43 hs44 hs45 hs46 hs47 hs48 hs49 hs50 hs51 hs52 hs53 hs54 hs55 hs56 hs57 hs58 hs59 hs60 hs61
                rw [show (Array.mk (x0 :: x1 :: x2 :: x3 :: x4 :: x5 :: x6 :: x7 :: x8 :: x9 :: x10 :: x11 :: x12 :: x13 :: x14 :: x15 :: x16 :: x17 :: x18 :: x19 :: x20 :: x21 :: x22 :: x23 :: x24 :: x25 :: x26 :: x27 :: x28 :: x29 :: x30 :: x31 :: x32 :: x33 :: x34 :: x35 :: x36 :: x37 :: x38 :: x39 :: x40 :: x41 :: x42 :: x43 :: x44 :: x45 :: x46 :: x47 :: x48 :: x49 :: x50 :: x51 :: x52 :: x53 :: x54 :: x55 :: x56 :: x57 :: x58 :: x59 :: x60 :: x61 :: []) : Array Value) = List.toArray (x0 :: x1 :: x2 :: x3 :: x4 :: x5 :: x6 :: x7 :: x8 :: x9 :: x10 :: x11 :: x12 :: x13 :: x14 :: x15 :: x16 :: x17 :: x18 :: x19 :: x20 :: x21 :: x22 :: x23 :: x24 :: x25 :: x26 :: x27 :: x28 :: x29 :: x30 :: x31 :: x32 :: x33 :: x34 :: x35 :: x36 :: x37 :: x38 :: x39 :: x40 :: x41 :: x42 :: x43 :: x44 :: x45 :: x46 :: x47 :: x48 :: x49 :: x50 :: x51 :: x52 :: x53 :: x54 :: x55 :: x56 :: x57 :: x58 :: x59 :: x60 :: x61 :: []) from rfl]
                change x0 = _ at e0
                subst e0
                change x1 = _ at e1
                subst e1
                change x2 = _ at e2
                subst e2
                change x4 = _ at e4
                subst e4
                change x5 = _ at e5
                subst e5
                change x6 = _ at e6
                subst e6
                change x7 = _ at e7
                subst e7
                change x8 = _ at e8
                subst e8
                change x9 = _ at e9
                subst e9
                change x10 = _ at e10
                subst e10
                change x11 = _ at e11
                subst e11
                change x12 = _ at e12
                subst e12
                change x13 = _ at e13
                subst e13
                change x14 = _ at e14
                subst e14
                change x15 = _ at e15
                subst e15
                change x16 = _ at e16
                subst e16
                change x17 = _ at e17
                subst e17
                change x18 = _ at e18
                subst e18
                change x19 = _ at e19
                subst e19
                change x20 = _ at e20
                subst e20
                change x21 = _ at e21
                subst e21
                change x22 = _ at e22
                subst e22
                change x23 = _ at e23
                subst e23
                change x24 = _ at e24
                subst e24
                change x57 = _ at e57
                subst e57
                change x58 = _ at e58
                subst e58
                change x59 = _ at e59
                subst e59
                change x60 = _ at e60
                subst e60
                change x61 = _ at e61
                subst e61
                change x3 = .bool LB at er
                subst er
                go_wp2
                go_roundw
                case rel => exact ⟨i + 1, by omega, by go_num, by rw [HRN.out], MR.out.at HAT.out (by simp), HM.out.same MR.out⟩
                case measure => simp [intOf]; omega
        · obtain rfl : i = cn := by omega
          have HFIN : Hid (rightTo (xs.map Cv.pl) i = mayLeaf (xs.map Cv.pl)) := by
            unfold Hid; rw [← right_may, List.length_map, HXL.out]
          rw [HFIN.out]
          have HOF := Lib.hid (of_any false cp i cc xs kp kn kc ks qp qn qc kids wr (H.out.mod0 HM.out) (fun _ => by omega))
          have HMY := fun L' W h => Lib.hid (leafmay_any L' xs W h HLB.out)
          generalize mayLeaf (xs.map Cv.pl) = M at *
          go_wp2_with fail
          refine HOF.out.mono ?_
          rintro _ w5 ⟨_, rfl, m5, hof5⟩
          rw [if_neg (by simp)] at hof5
          obtain ⟨L5, rfl, hL5⟩ := hof5
          have HM5 : Hid (Mod [] w w5) := HM.out.same m5
          have HL5 := Lib.hid hL5
          clear m5 hL5 HOF
          go_wp2_with fail
          refine (HMY _ _ HL5.out).out.mono ?_
          rintro _ w6 ⟨_, rfl, rfl, m6⟩
          have HM6 : Hid (Mod [] w w6) := HM5.out.same m6
          clear m6
          go_wp2
          go_ret
          exact .mk ⟨by simp, HM6.out⟩
end Go.Proofs.YtbogdjjeipdbaaaDoor
