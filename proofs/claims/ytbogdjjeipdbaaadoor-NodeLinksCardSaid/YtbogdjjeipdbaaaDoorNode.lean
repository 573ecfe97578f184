/- Nodes: what they are, plainly and in memory; keys that rise; how long they are. -/
import Derived.Test.YtbogdjjeipdbaaaDoorCompare
import Derived.Test.YtbogdjjeipdbaaaDoorTrim
namespace Go.Proofs.YtbogdjjeipdbaaaDoor
open Go.RowKit Go.Maps
set_option linter.unusedSimpArgs false
set_option linter.unusedVariables false

/-- A slice of bytes, and its bytes. -/
structure Bv where
  p : Option Addr
  n : Nat
  c : Nat
  l : List Int
def Bv.val (k : Bv) : Value := .slice k.p k.n k.c
def Bv.In (w : World) (k : Bv) : Prop := BytesIn w k.p k.n k.c k.l
theorem Bv.In.mod {w w' : World} {S : List Nat} {k : Bv} (h : k.In w) (hm : Mod S w w') (hn : ∀ a, k.p = some a → 0 < k.n → a.block ∉ S) : k.In w' := ⟨BytesIn.sl h |>.mod hm hn, BytesIn.wf h⟩
theorem Bv.In.mod0 {w w' : World} {k : Bv} (h : k.In w) (hm : Mod [] w w') : k.In w' := h.mod hm (by simp)
theorem Bv.In.len {w : World} {k : Bv} (h : k.In w) : k.l.length = k.n := BytesIn.len h
structure KeysIn (w : World) (p : Option Addr) (n c : Nat) (ks : List Bv) : Prop where
  sl : Sl w 1 p n c (ks.map Bv.val)
  io : ∀ k ∈ ks, k.In w
theorem KeysIn.len {w : World} {p : Option Addr} {n c : Nat} {ks : List Bv} (h : KeysIn w p n c ks) : ks.length = n := by have := h.sl.len; simpa using this
theorem KeysIn.mod0 {w w' : World} {p : Option Addr} {n c : Nat} {ks : List Bv} (h : KeysIn w p n c ks) (hm : Mod [] w w') : KeysIn w' p n c ks := ⟨h.sl.mod hm (by simp), fun k hk => (h.io k hk).mod0 hm⟩
/-- A cell of a leaf. -/
structure Cv where
  k : Bv
  i : Bv
  size : Int
  head : Int
def Cv.cells (x : Cv) : List Value := [x.k.val, x.i.val, .int .i64 x.size, .int .i64 x.head]
def ccells (xs : List Cv) : List Value := xs.flatMap Cv.cells
theorem ccells_len (xs : List Cv) : (ccells xs).length = xs.length * 4 := by
  induction xs with
  | nil => rfl
  | cons a r ih => simp only [ccells, List.flatMap_cons, List.length_append, List.length_cons, Cv.cells, List.length_nil] at ih ⊢; omega
theorem ccells_append (a b : List Cv) : ccells (a ++ b) = ccells a ++ ccells b := by simp [ccells]
theorem ccells_one (xs : List Cv) : ∀ u ∈ ccells xs, u.oneCell' = true := by
  intro u hu; simp only [ccells, List.mem_flatMap, Cv.cells] at hu
  obtain ⟨x, _, hx⟩ := hu
  simp at hx; rcases hx with rfl | rfl | rfl | rfl <;> rfl
theorem ccells_at {xs : List Cv} : ∀ {i : Nat} (hi : i < xs.length) (j : Nat), j < 4 → (ccells xs)[i * 4 + j]? = (xs[i]).cells[j]? := by
  induction xs with
  | nil => intro i hi; simp at hi
  | cons a r ih =>
    intro i hi j hj
    have e : ccells (a :: r) = a.cells ++ ccells r := rfl
    rw [e]
    cases i with
    | zero => rw [List.getElem?_append_left (by simp [Cv.cells]; omega)]; simp
    | succ i =>
      rw [List.getElem?_append_right (by simp [Cv.cells]; omega)]
      have := ih (i := i) (by simpa using hi) j hj
      rw [show (i + 1) * 4 + j - a.cells.length = i * 4 + j from by simp [Cv.cells]; omega]
      simpa using this
structure CellsIn (w : World) (p : Option Addr) (n c : Nat) (xs : List Cv) : Prop where
  sl : Sl w 4 p n c (ccells xs)
  io : ∀ x ∈ xs, x.k.In w ∧ x.i.In w
theorem CellsIn.len {w : World} {p : Option Addr} {n c : Nat} {xs : List Cv} (h : CellsIn w p n c xs) : xs.length = n := by have := h.sl.len; rw [ccells_len] at this; omega
theorem CellsIn.mod0 {w w' : World} {p : Option Addr} {n c : Nat} {xs : List Cv} (h : CellsIn w p n c xs) (hm : Mod [] w w') : CellsIn w' p n c xs := ⟨h.sl.mod hm (by simp), fun x hx => ⟨(h.io x hx).1.mod0 hm, (h.io x hx).2.mod0 hm⟩⟩

/-! ### plainly -/
structure Cl where
  key : List Int
  inl : List Int
  size : Int
  head : Int
deriving DecidableEq
def Cv.pl (x : Cv) : Cl := ⟨x.k.l, x.i.l, x.size, x.head⟩
def mayKeyL (l : List Int) : Bool := decide (1 ≤ l.length) && decide (l.length ≤ 100)
def mayPgN (no : Int) : Bool := decide (2 ≤ no) && decide (no ≤ 2147483647)
def riseAt (ls : List (List Int)) (i : Nat) : Bool := mayKeyL (ls.getD i []) && (i == 0 || less (ls.getD (i - 1) []) (ls.getD i []))
def riseTo (ls : List (List Int)) : Nat → Bool
  | 0 => true
  | i + 1 => riseTo ls i && riseAt ls i
def riseL (ls : List (List Int)) : Bool := riseTo ls ls.length
theorem riseTo_le {ls : List (List Int)} : ∀ {n i : Nat}, riseTo ls n = true → i < n → riseAt ls i = true
  | 0, i, _, h => by omega
  | n + 1, i, h, hi => by
    simp only [riseTo, Bool.and_eq_true] at h
    rcases Nat.lt_succ_iff_lt_or_eq.1 hi with h1 | rfl
    · exact riseTo_le h.1 h1
    · exact h.2
theorem riseTo_iff {ls : List (List Int)} {n : Nat} : riseTo ls n = true ↔ ∀ i, i < n → riseAt ls i = true := by
  refine ⟨fun h i hi => riseTo_le h hi, fun h => ?_⟩
  induction n with
  | zero => rfl
  | succ n ih => simp only [riseTo, Bool.and_eq_true]; exact ⟨ih fun i hi => h i (by omega), h n (by omega)⟩
theorem riseL_bad {ls : List (List Int)} {i : Nat} (hi : i < ls.length) (h : riseAt ls i = false) : riseL ls = false := by
  cases hr : riseL ls with
  | false => rfl
  | true => rw [riseTo_le hr hi] at h; cases h
def mayCl (c : Cl) : Bool := if c.size = 0 ∧ c.head = 0 then decide (c.inl.length ≤ 200) else decide (200 < c.size) && decide (c.size ≤ 16384) && mayPgN c.head && decide (c.inl.length = 0)
def clLen (c : Cl) : Nat := 3 + c.key.length + (if c.size = 0 then c.inl.length else 6)
def lsum (cs : List Cl) : Nat := (cs.map clLen).sum
def leafLen (cs : List Cl) : Nat := 3 + lsum cs
theorem lsum_append (a b : List Cl) : lsum (a ++ b) = lsum a + lsum b := by simp [lsum]
theorem lsum_take {cs : List Cl} {i : Nat} (hi : i < cs.length) : lsum (cs.take (i + 1)) = lsum (cs.take i) + clLen cs[i] := by
  rw [List.take_succ_eq_append_getElem hi, lsum_append]; simp [lsum]
theorem lsum_take_le (cs : List Cl) (i : Nat) : lsum (cs.take i) ≤ lsum cs := by
  conv => rhs; rw [← List.take_append_drop i cs, lsum_append]
  omega
def ksum (ks : List (List Int)) : Nat := (ks.map fun k => 5 + k.length).sum
def brLen (ks : List (List Int)) : Nat := 7 + ksum ks
theorem ksum_append (a b : List (List Int)) : ksum (a ++ b) = ksum a + ksum b := by simp [ksum]
theorem ksum_take {ks : List (List Int)} {i : Nat} (hi : i < ks.length) : ksum (ks.take (i + 1)) = ksum (ks.take i) + (5 + (ks[i]).length) := by
  rw [List.take_succ_eq_append_getElem hi, ksum_append]; simp [ksum]
theorem ksum_take_le (ks : List (List Int)) (i : Nat) : ksum (ks.take i) ≤ ksum ks := by
  conv => rhs; rw [← List.take_append_drop i ks, ksum_append]
  omega
def mayLeaf (cs : List Cl) : Bool := cs.all mayCl && riseL (cs.map Cl.key) && decide (leafLen cs ≤ 1016)
def mayBr (ks : List (List Int)) (kids : List Int) : Bool := riseL ks && decide (kids.length = ks.length + 1) && kids.all mayPgN && decide (brLen ks ≤ 1016)

/-! ### keys -/
def BoolEq (b : Bool) (w : World) (v : Value) (w' : World) : Prop := v = .bool b ∧ w' = w
def IntEq (x : Int) (w : World) (v : Value) (w' : World) : Prop := v = .int .i64 x ∧ w' = w
set_option maxRecDepth 100000 in
theorem maykey_any (p : Option Addr) (n c : Nat) (l : List Int) (w : World) (hl : l.length = n) : Calls Tryd.prog 56 #[.slice p n c] w (Ret (BoolEq (mayKeyL l) w)) := by
  have HD : Hid (mayKeyL l = (decide (1 ≤ n) && decide (n ≤ 100))) := by unfold Hid mayKeyL; rw [hl]
  generalize mayKeyL l = B at *
  clear hl
  by_cases h1 : 1 ≤ n
  · by_cases h2 : n ≤ 100
    all_goals
      go_enter Tryd.func56, Tryd.ntmps56
      go_wp2
      go_ret
      exact .mk ⟨by rw [HD.out]; simp [h1, h2] <;> omega, rfl⟩
  · obtain rfl : n = 0 := by omega
    go_enter Tryd.func56, Tryd.ntmps56
    go_wp2
    go_ret
    exact .mk ⟨by rw [HD.out]; rfl, rfl⟩
set_option maxRecDepth 100000 in
theorem maypgn_any (no : Int) (w : World) : Calls Tryd.prog 45 #[.int .i64 no] w (Ret (BoolEq (mayPgN no) w)) := by
  have HD : Hid (mayPgN no = (decide (2 ≤ no) && decide (no ≤ 2147483647))) := rfl
  generalize mayPgN no = B at *
  go_enter Tryd.func45, Tryd.ntmps45
  go_wp2
  all_goals
    go_ret
    refine .mk ⟨congrArg Value.bool ?_, rfl⟩
    rw [HD.out, Bool.eq_iff_iff]
    simp only [Bool.and_eq_true, decide_eq_true_eq]
    first | omega | (simp; omega)

set_option maxRecDepth 100000 in
set_option maxHeartbeats 2000000 in
theorem rise_any (p : Option Addr) (n c : Nat) (ks : List Bv) (w : World) (h : KeysIn w p n c ks) : Calls Tryd.prog 41 #[.slice p n c] w (Ret (BoolEq (riseL (ks.map Bv.l)) w)) := by
  have hln := h.len
  have hcm := h.sl.capm; have hle := h.sl.le
  unfold maxLen at hcm
  obtain ⟨b, off, hp, hcs⟩ := h.sl.at_
  have hidx := fun W => Sl.idx (P := Tryd.prog) (cap := c) Tryd.underlying23 sizeRows (fun h => (hp h).1) W .i64
  simp only [Nat.mul_one] at hidx
  have HG : Hid (∀ i, i < n → ∃ kp kn kc kl, BytesIn w kp kn kc kl ∧ w.cell? ⟨b, off + i, none⟩ = some (.slice kp kn kc) ∧ (ks.map Bv.l).getD i [] = kl) := fun i hi => by
    have hk : i < ks.length := by omega
    refine ⟨_, _, _, _, h.io _ (List.getElem_mem hk), hcs i _ (by rw [List.getElem?_map, List.getElem?_eq_getElem hk]; rfl), ?_⟩
    rw [getD_at (by simpa using hk)]; simp
  have HRT : Hid (∀ i, riseTo (ks.map Bv.l) (i + 1) = (riseTo (ks.map Bv.l) i && riseAt (ks.map Bv.l) i)) := fun i => rfl
  have HBAD : Hid (∀ i, i < n → riseAt (ks.map Bv.l) i = false → riseL (ks.map Bv.l) = false) := fun i hi h => riseL_bad (by simpa using by omega) h
  have HALL : Hid (riseL (ks.map Bv.l) = riseTo (ks.map Bv.l) n) := by unfold Hid riseL; simp [hln]
  have HRA : Hid (∀ i, riseAt (ks.map Bv.l) i = (mayKeyL ((ks.map Bv.l).getD i []) && (i == 0 || less ((ks.map Bv.l).getD (i - 1) []) ((ks.map Bv.l).getD i [])))) := fun i => rfl
  generalize ks.map Bv.l = ls at *
  clear h hp hcs hln
  go_enter Tryd.func41, Tryd.ntmps41
  go_wp2
  go_loopw [7] (fun iv wr => ∃ i : Nat, i ≤ n ∧ iv = .int .i64 i ∧ riseTo ls i = true ∧ wr = w) (fun iv _ => n - (intOf iv).toNat)
  case atStart => exact ⟨0, by omega, rfl, rfl, rfl⟩
  case round =>
    obtain ⟨i, hi, rfl, hri, rfl⟩ := hrel
    have HRI := Lib.hid hri
    clear hri
    by_cases hlt : i < n
    · obtain ⟨kp, kn, kc, kl, hk, d0, ha⟩ := HG.out i hlt
      have HK := Lib.hid hk
      have HX := Lib.hid (HRA.out i)
      have HB := Lib.hid (HBAD.out i hlt)
      have HS := Lib.hid (HRT.out i)
      rw [HRI.out, Bool.true_and] at HS
      rw [ha] at HX
      have HKL : Hid (kl.length = kn) := HK.out.len
      clear hk ha
      go_wp2_with fail
      refine (maykey_any kp kn kc kl _ HKL.out).mono ?_
      rintro _ w1 ⟨_, rfl, rfl, rfl⟩
      generalize mayKeyL kl = M at *
      cases M with
      | false =>
        have HF : Hid (riseL ls = false) := HB.out (by rw [HX.out]; rfl)
        go_wp2
        go_ret
        exact .mk ⟨by rw [HF.out]; rfl, rfl⟩
      | true =>
        by_cases h0 : i = 0
        · subst h0
          have HT : Hid (riseTo ls (0 + 1) = true) := by rw [HS.out, HX.out]; rfl
          go_wp2
          go_roundw
          case rel => exact ⟨0 + 1, by omega, by go_num, HT.out, by first | rfl | trivial⟩
          case measure => simp [intOf]; omega
        · obtain ⟨j, rfl⟩ : ∃ j, i = j + 1 := ⟨i - 1, by omega⟩
          have hjn : j < n := by omega
          obtain ⟨jp, jn, jc, jl, hk1, d1, ha1⟩ := HG.out j hjn
          have HK1 := Lib.hid hk1
          have hw1 : IntKind.i64.wrap (((j + 1 : Nat) : Int) - 1) = (j : Int) := by rw [IntWalk.i64_in _ (by omega)]; omega
          have hidx1 := fun W => hidx W j hjn
          have HX2 : Hid (riseAt ls (j + 1) = less jl kl) := by
            unfold Hid; rw [HX.out, show j + 1 - 1 = j from by omega, ha1]; simp
          clear hk1 ha1
          have hj1 : ((j + 1 : Nat) : Int) > 0 := by omega
          have HCN := Lib.hid (cmpL_neg (l := jl) (k := kl) HK1.out.wf HK.out.wf)
          clear HX
          go_wp2_with fail
          refine (compare_any jp kp jn kn jc kc jl kl _ HK1.out HK.out).mono ?_
          rintro _ w2 ⟨_, rfl, rfl, rfl⟩
          generalize cmpL jl kl = C at *
          generalize less jl kl = L at *
          cases L with
          | true =>
            have hC : decide (0 ≤ C) = false := HCN.out
            have HT : Hid (riseTo ls (j + 1 + 1) = true) := by unfold Hid; rw [HS.out, HX2.out]
            go_wp2
            go_roundw
            case rel => exact ⟨j + 1 + 1, by omega, by go_num, HT.out, by first | rfl | trivial⟩
            case measure => simp [intOf]; omega
          | false =>
            have hC : decide (0 ≤ C) = true := HCN.out
            have HF : Hid (riseL ls = false) := HB.out HX2.out
            go_wp2
            go_ret
            exact .mk ⟨by rw [HF.out]; rfl, rfl⟩
    · obtain rfl : i = n := by omega
      go_wp2
      go_ret
      exact .mk ⟨by rw [HALL.out, HRI.out]; rfl, rfl⟩
end Go.Proofs.YtbogdjjeipdbaaaDoor
