/- Nodes: what they are, plainly and in memory; keys that rise; how long they are. Nodes: whether a cell, a leaf, a branch may be; how long they are. -/
import Derived.Test.YtgimdodbajhpoaaGreatDoorG12
import Derived.Test.YtgimdodbajhpoaaGreatDoorG21
import Derived.Test.YtgimdodbajhpoaaGreatDoorG06
namespace Go.Proofs.YtgimdodbajhpoaaGreatDoor
open Go.RowKit Go.Maps
set_option linter.unusedSimpArgs false
set_option linter.unusedVariables false

/-- A cell of a leaf. -/
structure Cv where
  k : Bv
  i : Bv
  size : Int
  head : Int
def Cv.cells (x : Cv) : List Value := [x.k.val, x.i.val, .int .i64 x.size, .int .i64 x.head]
def ccells (xs : List Cv) : List Value := xs.flatMap Cv.cells
theorem ccells_len (xs : List Cv) : (ccells xs).length = xs.length * 4 := by
  induction xs with
  | nil => rfl
  | cons a r ih => simp only [ccells, List.flatMap_cons, List.length_append, List.length_cons, Cv.cells, List.length_nil] at ih ⊢; omega
theorem ccells_append (a b : List Cv) : ccells (a ++ b) = ccells a ++ ccells b := by simp [ccells]
theorem ccells_one (xs : List Cv) : ∀ u ∈ ccells xs, u.oneCell' = true := by
  intro u hu; simp only [ccells, List.mem_flatMap, Cv.cells] at hu
  obtain ⟨x, _, hx⟩ := hu
  simp at hx; rcases hx with rfl | rfl | rfl | rfl <;> rfl
theorem ccells_at {xs : List Cv} : ∀ {i : Nat} (hi : i < xs.length) (j : Nat), j < 4 → (ccells xs)[i * 4 + j]? = (xs[i]).cells[j]? := by
  induction xs with
  | nil => intro i hi; simp at hi
  | cons a r ih =>
    intro i hi j hj
    have e : ccells (a :: r) = a.cells ++ ccells r := rfl
    rw [e]
    cases i with
    | zero => rw [List.getElem?_append_left (by simp [Cv.cells]; omega)]; simp
    | succ i =>
      rw [List.getElem?_append_right (by simp [Cv.cells]; omega)]
      have := ih (i := i) (by simpa using hi) j hj
      rw [show (i + 1) * 4 + j - a.cells.length = i * 4 + j from by simp [Cv.cells]; omega]
      simpa using this
structure CellsIn (w : World) (p : Option Addr) (n c : Nat) (xs : List Cv) : Prop where
  sl : Sl w 4 p n c (ccells xs)
  io : ∀ x ∈ xs, x.k.In w ∧ x.i.In w
theorem CellsIn.len {w : World} {p : Option Addr} {n c : Nat} {xs : List Cv} (h : CellsIn w p n c xs) : xs.length = n := by have := h.sl.len; rw [ccells_len] at this; omega
theorem CellsIn.mod0 {w w' : World} {p : Option Addr} {n c : Nat} {xs : List Cv} (h : CellsIn w p n c xs) (hm : Mod [] w w') : CellsIn w' p n c xs := ⟨h.sl.mod hm (by simp), fun x hx => ⟨(h.io x hx).1.mod0 hm, (h.io x hx).2.mod0 hm⟩⟩

/-! ### plainly -/
structure Cl where
  key : List Int
  inl : List Int
  size : Int
  head : Int
deriving DecidableEq
def Cv.pl (x : Cv) : Cl := ⟨x.k.l, x.i.l, x.size, x.head⟩
def mayKeyL (l : List Int) : Bool := decide (1 ≤ l.length) && decide (l.length ≤ 100)
def mayPgN (no : Int) : Bool := decide (2 ≤ no) && decide (no ≤ 2147483647)
def riseAt (ls : List (List Int)) (i : Nat) : Bool := mayKeyL (ls.getD i []) && (i == 0 || less (ls.getD (i - 1) []) (ls.getD i []))
def riseTo (ls : List (List Int)) : Nat → Bool
  | 0 => true
  | i + 1 => riseTo ls i && riseAt ls i
def riseL (ls : List (List Int)) : Bool := riseTo ls ls.length
theorem riseTo_le {ls : List (List Int)} : ∀ {n i : Nat}, riseTo ls n = true → i < n → riseAt ls i = true
  | 0, i, _, h => by omega
  | n + 1, i, h, hi => by
    simp only [riseTo, Bool.and_eq_true] at h
    rcases Nat.lt_succ_iff_lt_or_eq.1 hi with h1 | rfl
    · exact riseTo_le h.1 h1
    · exact h.2
theorem riseTo_iff {ls : List (List Int)} {n : Nat} : riseTo ls n = true ↔ ∀ i, i < n → riseAt ls i = true := by
  refine ⟨fun h i hi => riseTo_le h hi, fun h => ?_⟩
  induction n with
  | zero => rfl
  | succ n ih => simp only [riseTo, Bool.and_eq_true]; exact ⟨ih fun i hi => h i (by omega), h n (by omega)⟩
theorem riseL_bad {ls : List (List Int)} {i : Nat} (hi : i < ls.length) (h : riseAt ls i = false) : riseL ls = false := by
  cases hr : riseL ls with
  | false => rfl
  | true => rw [riseTo_le hr hi] at h; cases h
def mayCl (c : Cl) : Bool := if c.size = 0 ∧ c.head = 0 then decide (c.inl.length ≤ 200) else decide (200 < c.size) && decide (c.size ≤ 16384) && mayPgN c.head && decide (c.inl.length = 0)
def clLen (c : Cl) : Nat := 3 + c.key.length + (if c.size = 0 then c.inl.length else 6)
def lsum (cs : List Cl) : Nat := (cs.map clLen).sum
def leafLen (cs : List Cl) : Nat := 3 + lsum cs
theorem lsum_append (a b : List Cl) : lsum (a ++ b) = lsum a + lsum b := by simp [lsum]
theorem lsum_take {cs : List Cl} {i : Nat} (hi : i < cs.length) : lsum (cs.take (i + 1)) = lsum (cs.take i) + clLen cs[i] := by
  rw [List.take_succ_eq_append_getElem hi, lsum_append]; simp [lsum]
theorem lsum_take_le (cs : List Cl) (i : Nat) : lsum (cs.take i) ≤ lsum cs := by
  conv => rhs; rw [← List.take_append_drop i cs, lsum_append]
  omega
def ksum (ks : List (List Int)) : Nat := (ks.map fun k => 5 + k.length).sum
def brLen (ks : List (List Int)) : Nat := 7 + ksum ks
theorem ksum_append (a b : List (List Int)) : ksum (a ++ b) = ksum a + ksum b := by simp [ksum]
theorem ksum_take {ks : List (List Int)} {i : Nat} (hi : i < ks.length) : ksum (ks.take (i + 1)) = ksum (ks.take i) + (5 + (ks[i]).length) := by
  rw [List.take_succ_eq_append_getElem hi, ksum_append]; simp [ksum]
theorem ksum_take_le (ks : List (List Int)) (i : Nat) : ksum (ks.take i) ≤ ksum ks := by
  conv => rhs; rw [← List.take_append_drop i ks, ksum_append]
  omega
def mayLeaf (cs : List Cl) : Bool := cs.all mayCl && riseL (cs.map Cl.key) && decide (leafLen cs ≤ 1016)
def mayBr (ks : List (List Int)) (kids : List Int) : Bool := riseL ks && decide (kids.length = ks.length + 1) && kids.all mayPgN && decide (brLen ks ≤ 1016)

/-! ### keys -/
def BoolEq (b : Bool) (w : World) (v : Value) (w' : World) : Prop := v = .bool b ∧ w' = w
def IntEq (x : Int) (w : World) (v : Value) (w' : World) : Prop := v = .int .i64 x ∧ w' = w
set_option maxRecDepth 100000 in
theorem maykey_any (p : Option Addr) (n c : Nat) (l : List Int) (w : World) (hl : l.length = n) : Calls Tryz.prog 125 #[.slice p n c] w (Ret (BoolEq (mayKeyL l) w)) := by
  have HD : Hid (mayKeyL l = (decide (1 ≤ n) && decide (n ≤ 100))) := by unfold Hid mayKeyL; rw [hl]
  generalize mayKeyL l = B at *
  clear hl
  by_cases h1 : 1 ≤ n
  · by_cases h2 : n ≤ 100
    all_goals
      go_enter Tryz.func125, Tryz.ntmps125
      go_wp2
      go_ret
      exact .mk ⟨by rw [HD.out]; simp [h1, h2] <;> omega, rfl⟩
  · obtain rfl : n = 0 := by omega
    go_enter Tryz.func125, Tryz.ntmps125
    go_wp2
    go_ret
    exact .mk ⟨by rw [HD.out]; rfl, rfl⟩
set_option maxRecDepth 100000 in
theorem maypgn_any (no : Int) (w : World) : Calls Tryz.prog 123 #[.int .i64 no] w (Ret (BoolEq (mayPgN no) w)) := by
  have HD : Hid (mayPgN no = (decide (2 ≤ no) && decide (no ≤ 2147483647))) := rfl
  generalize mayPgN no = B at *
  go_enter Tryz.func123, Tryz.ntmps123
  go_wp2
  all_goals
    go_ret
    refine .mk ⟨congrArg Value.bool ?_, rfl⟩
    rw [HD.out, Bool.eq_iff_iff]
    simp only [Bool.and_eq_true, decide_eq_true_eq]
    first | omega | (simp; omega)

set_option maxRecDepth 100000 in
set_option maxHeartbeats 2000000 in
theorem rise_any (p : Option Addr) (n c : Nat) (ks : List Bv) (w : World) (h : KeysIn w p n c ks) : Calls Tryz.prog 120 #[.slice p n c] w (Ret (BoolEq (riseL (ks.map Bv.l)) w)) := by
  have hln := h.len
  have hcm := h.sl.capm; have hle := h.sl.le
  unfold maxLen at hcm
  obtain ⟨b, off, hp, hcs⟩ := h.sl.at_
  have hidx := fun W => Sl.idx (P := Tryz.prog) (cap := c) Tryz.underlying23 sizeRows (fun h => (hp h).1) W .i64
  simp only [Nat.mul_one] at hidx
  have HG : Hid (∀ i, i < n → ∃ kp kn kc kl, BytesIn w kp kn kc kl ∧ w.cell? ⟨b, off + i, none⟩ = some (.slice kp kn kc) ∧ (ks.map Bv.l).getD i [] = kl) := fun i hi => by
    have hk : i < ks.length := by omega
    refine ⟨_, _, _, _, h.io _ (List.getElem_mem hk), hcs i _ (by rw [List.getElem?_map, List.getElem?_eq_getElem hk]; rfl), ?_⟩
    rw [getD_at (by simpa using hk)]; simp
  have HRT : Hid (∀ i, riseTo (ks.map Bv.l) (i + 1) = (riseTo (ks.map Bv.l) i && riseAt (ks.map Bv.l) i)) := fun i => rfl
  have HBAD : Hid (∀ i, i < n → riseAt (ks.map Bv.l) i = false → riseL (ks.map Bv.l) = false) := fun i hi h => riseL_bad (by simpa using by omega) h
  have HALL : Hid (riseL (ks.map Bv.l) = riseTo (ks.map Bv.l) n) := by unfold Hid riseL; simp [hln]
  have HRA : Hid (∀ i, riseAt (ks.map Bv.l) i = (mayKeyL ((ks.map Bv.l).getD i []) && (i == 0 || less ((ks.map Bv.l).getD (i - 1) []) ((ks.map Bv.l).getD i [])))) := fun i => rfl
  generalize ks.map Bv.l = ls at *
  clear h hp hcs hln
  go_enter Tryz.func120, Tryz.ntmps120
  go_wp2
  go_loopw [7] (fun iv wr => ∃ i : Nat, i ≤ n ∧ iv = .int .i64 i ∧ riseTo ls i = true ∧ wr = w) (fun iv _ => n - (intOf iv).toNat)
  case atStart => exact ⟨0, by omega, rfl, rfl, rfl⟩
  case round =>
    obtain ⟨i, hi, rfl, hri, rfl⟩ := hrel
    have HRI := Lib.hid hri
    clear hri
    by_cases hlt : i < n
    · obtain ⟨kp, kn, kc, kl, hk, d0, ha⟩ := HG.out i hlt
      have HK := Lib.hid hk
      have HX := Lib.hid (HRA.out i)
      have HB := Lib.hid (HBAD.out i hlt)
      have HS := Lib.hid (HRT.out i)
      rw [HRI.out, Bool.true_and] at HS
      rw [ha] at HX
      have HKL : Hid (kl.length = kn) := HK.out.len
      clear hk ha
      go_wp2_with fail
      refine (maykey_any kp kn kc kl _ HKL.out).mono ?_
      rintro _ w1 ⟨_, rfl, rfl, rfl⟩
      generalize mayKeyL kl = M at *
      cases M with
      | false =>
        have HF : Hid (riseL ls = false) := HB.out (by rw [HX.out]; rfl)
        go_wp2
        go_ret
        exact .mk ⟨by rw [HF.out]; rfl, rfl⟩
      | true =>
        by_cases h0 : i = 0
        · subst h0
          have HT : Hid (riseTo ls (0 + 1) = true) := by rw [HS.out, HX.out]; rfl
          go_wp2
          go_roundw
          case rel => exact ⟨0 + 1, by omega, by go_num, HT.out, by first | rfl | trivial⟩
          case measure => simp [intOf]; omega
        · obtain ⟨j, rfl⟩ : ∃ j, i = j + 1 := ⟨i - 1, by omega⟩
          have hjn : j < n := by omega
          obtain ⟨jp, jn, jc, jl, hk1, d1, ha1⟩ := HG.out j hjn
          have HK1 := Lib.hid hk1
          have hw1 : IntKind.i64.wrap (((j + 1 : Nat) : Int) - 1) = (j : Int) := by rw [IntWalk.i64_in _ (by omega)]; omega
          have hidx1 := fun W => hidx W j hjn
          have HX2 : Hid (riseAt ls (j + 1) = less jl kl) := by
            unfold Hid; rw [HX.out, show j + 1 - 1 = j from by omega, ha1]; simp
          clear hk1 ha1
          have hj1 : ((j + 1 : Nat) : Int) > 0 := by omega
          have HCN := Lib.hid (cmpL_neg (l := jl) (k := kl) HK1.out.wf HK.out.wf)
          clear HX
          go_wp2_with fail
          refine (compare_any jp kp jn kn jc kc jl kl _ HK1.out HK.out).mono ?_
          rintro _ w2 ⟨_, rfl, rfl, rfl⟩
          generalize cmpL jl kl = C at *
          generalize less jl kl = L at *
          cases L with
          | true =>
            have hC : decide (0 ≤ C) = false := HCN.out
            have HT : Hid (riseTo ls (j + 1 + 1) = true) := by unfold Hid; rw [HS.out, HX2.out]
            go_wp2
            go_roundw
            case rel => exact ⟨j + 1 + 1, by omega, by go_num, HT.out, by first | rfl | trivial⟩
            case measure => simp [intOf]; omega
          | false =>
            have hC : decide (0 ≤ C) = true := HCN.out
            have HF : Hid (riseL ls = false) := HB.out HX2.out
            go_wp2
            go_ret
            exact .mk ⟨by rw [HF.out]; rfl, rfl⟩
    · obtain rfl : i = n := by omega
      go_wp2
      go_ret
      exact .mk ⟨by rw [HALL.out, HRI.out]; rfl, rfl⟩
end Go.Proofs.YtgimdodbajhpoaaGreatDoor
namespace Go.Proofs.YtgimdodbajhpoaaGreatDoor
open Go.RowKit Go.Maps
set_option linter.unusedSimpArgs false
set_option linter.unusedVariables false

structure LeafAt (w : World) (L : Nat) (xs : List Cv) : Prop where
  at_ : ∃ p n c, w.heap[L]? = some (.cells #[.slice p n c] 81 (0, 0)) ∧ CellsIn w p n c xs
theorem LeafAt.mod0 {w w' : World} {L : Nat} {xs : List Cv} (h : LeafAt w L xs) (hm : Mod [] w w') : LeafAt w' L xs := by
  obtain ⟨p, n, c, h1, h2⟩ := h
  exact ⟨p, n, c, hm.at h1 (by simp), h2.mod0 hm⟩
structure BrAt (w : World) (B : Nat) (ks : List Bv) (kids : List Int) : Prop where
  at_ : ∃ p n c q m d, w.heap[B]? = some (.cells #[.slice p n c, .slice q m d] 77 (0, 0)) ∧ KeysIn w p n c ks ∧ Sl w 1 q m d (kids.map (.int .i64))
theorem BrAt.mod0 {w w' : World} {B : Nat} {ks : List Bv} {kids : List Int} (h : BrAt w B ks kids) (hm : Mod [] w w') : BrAt w' B ks kids := by
  obtain ⟨p, n, c, q, m, d, h1, h2, h3⟩ := h
  exact ⟨p, n, c, q, m, d, hm.at h1 (by simp), h2.mod0 hm, h3.mod hm (by simp)⟩
/-- A block in which a node's parts lie. -/
def Nb (w : World) (b : Nat) : Prop := ∃ cs t, w.heap[b]? = some (.cells cs t (0, 0)) ∧ t ∈ [5, 40, 3, 82, 81, 77]
theorem Nb.mod {w w' : World} {S : List Nat} {b : Nat} (h : Nb w b) (hm : Mod S w w') (hS : ∀ b ∈ S, ¬ Nb w b) : Nb w' b := by
  have hn : b ∉ S := fun hb => hS b hb h
  obtain ⟨cs, t, h1, h2⟩ := h; exact ⟨cs, t, hm.at h1 hn, h2⟩
theorem Nb.of_bytes {w : World} {b : Nat} (h : IsBytes w b) : Nb w b := by obtain ⟨cs, h⟩ := h; exact ⟨cs, _, h, by simp⟩
theorem Nb.of_own {w : World} {base n size : Nat} {t : TypeId} {v : Value} {xs : List Value} (h : w.ownsRow base t size v n xs) (ht : t ∈ [5, 40, 3, 82, 81, 77]) : ∀ b, v.ownBlock = some b → Nb w b := by
  intro b hb
  rcases h.2 with ⟨e, _⟩ | ⟨g, cap, cur, e, _, hat, _⟩
  · rw [e] at hb; cases hb
  · rw [e] at hb; cases hb; exact ⟨_, _, hat, ht⟩
def NbS (w : World) (p : Option Addr) (n : Nat) : Prop := ∀ a, p = some a → 0 < n → Nb w a.block
theorem NbS.mod {w w' : World} {S : List Nat} {p : Option Addr} {n : Nat} (h : NbS w p n) (hm : Mod S w w') (hS : ∀ b ∈ S, ¬ Nb w b) : NbS w' p n := fun a ha hn => (h a ha hn).mod hm hS
theorem NbS.out {w : World} {S : List Nat} {p : Option Addr} {n : Nat} (h : NbS w p n) (hS : ∀ b ∈ S, ¬ Nb w b) : ∀ a, p = some a → 0 < n → a.block ∉ S := fun a ha hn hb => hS _ hb (h a ha hn)
theorem NbS.of_own {w : World} {base n m c size : Nat} {t : TypeId} {p : Option Addr} {xs : List Value} (h : w.ownsRow base t size (.slice p m c) n xs) (ht : t ∈ [5, 40, 3, 82, 81, 77]) : NbS w p m := by
  intro a ha _
  rcases h.2 with ⟨e, _⟩ | ⟨g, cap, cur, e, _, hat, _⟩
  · cases e; cases ha
  · cases e; cases ha; exact ⟨_, _, hat, ht⟩
/-- A row of bytes in such a block. -/
structure BvN (w : World) (k : Bv) : Prop where
  io : k.In w
  nb : NbS w k.p k.n
theorem BvN.mod {w w' : World} {S : List Nat} {k : Bv} (h : BvN w k) (hm : Mod S w w') (hS : ∀ b ∈ S, ¬ Nb w b) : BvN w' k := ⟨h.io.mod hm (h.nb.out hS), h.nb.mod hm hS⟩
theorem BvN.mod0 {w w' : World} {k : Bv} (h : BvN w k) (hm : Mod [] w w') : BvN w' k := h.mod hm (by simp)
structure CvN (w : World) (x : Cv) : Prop where
  k : BvN w x.k
  i : BvN w x.i
theorem CvN.mod {w w' : World} {S : List Nat} {x : Cv} (h : CvN w x) (hm : Mod S w w') (hS : ∀ b ∈ S, ¬ Nb w b) : CvN w' x := ⟨h.k.mod hm hS, h.i.mod hm hS⟩
/-- A leaf, and in which blocks it lies. -/
structure LeafN (w : World) (L : Nat) (xs : List Cv) : Prop where
  at_ : ∃ p n c, w.heap[L]? = some (.cells #[.slice p n c] 81 (0, 0)) ∧ Sl w 4 p n c (ccells xs) ∧ NbS w p n
  io : ∀ x ∈ xs, CvN w x
theorem LeafN.leaf {w : World} {L : Nat} {xs : List Cv} (h : LeafN w L xs) : LeafAt w L xs := by
  obtain ⟨⟨p, n, c, h1, h2, h3⟩, h4⟩ := h
  exact ⟨p, n, c, h1, ⟨h2, fun x hx => ⟨(h4 x hx).k.io, (h4 x hx).i.io⟩⟩⟩
theorem LeafN.mod {w w' : World} {S : List Nat} {L : Nat} {xs : List Cv} (h : LeafN w L xs) (hm : Mod S w w') (hS : ∀ b ∈ S, ¬ Nb w b) : LeafN w' L xs := by
  obtain ⟨⟨p, n, c, h1, h2, h3⟩, h4⟩ := h
  exact ⟨⟨p, n, c, hm.at h1 (fun hb => hS _ hb ⟨_, _, h1, by simp⟩), h2.mod hm (h3.out hS), h3.mod hm hS⟩, fun x hx => (h4 x hx).mod hm hS⟩
structure BrN (w : World) (B : Nat) (ks : List Bv) (kids : List Int) : Prop where
  at_ : ∃ p n c q m d, w.heap[B]? = some (.cells #[.slice p n c, .slice q m d] 77 (0, 0)) ∧ Sl w 1 p n c (ks.map Bv.val) ∧ NbS w p n ∧ Sl w 1 q m d (kids.map (.int .i64)) ∧ NbS w q m
  io : ∀ k ∈ ks, BvN w k
theorem BrN.br {w : World} {B : Nat} {ks : List Bv} {kids : List Int} (h : BrN w B ks kids) : BrAt w B ks kids := by
  obtain ⟨⟨p, n, c, q, m, d, h1, h2, h3, h4, h5⟩, h6⟩ := h
  exact ⟨p, n, c, q, m, d, h1, ⟨h2, fun x hx => (h6 x hx).io⟩, h4⟩
theorem BrN.mod {w w' : World} {S : List Nat} {B : Nat} {ks : List Bv} {kids : List Int} (h : BrN w B ks kids) (hm : Mod S w w') (hS : ∀ b ∈ S, ¬ Nb w b) : BrN w' B ks kids := by
  obtain ⟨⟨p, n, c, q, m, d, h1, h2, h3, h4, h5⟩, h6⟩ := h
  exact ⟨⟨p, n, c, q, m, d, hm.at h1 (fun hb => hS _ hb ⟨_, _, h1, by simp⟩), h2.mod hm (h3.out hS), h3.mod hm hS, h4.mod hm (h5.out hS), h5.mod hm hS⟩, fun x hx => (h6 x hx).mod hm hS⟩
/-- All that a branch is made of lies at or beyond a place. -/
structure BrA (base : Nat) (w : World) (B : Nat) (kv : List Bv) : Prop where
  hB : base ≤ B
  row : ∀ p n c q m d, w.heap[B]? = some (.cells #[.slice p n c, .slice q m d] 77 (0, 0)) → (∀ a, p = some a → base ≤ a.block) ∧ (∀ a, q = some a → base ≤ a.block)
  io : ∀ k ∈ kv, ∀ a, k.p = some a → base ≤ a.block
theorem BrA.mod {base : Nat} {w w' : World} {S : List Nat} {B : Nat} {kv : List Bv} (h : BrA base w B kv) (hm : Mod S w w') (hS : B ∉ S) (hl : B < w.heap.size) : BrA base w' B kv := ⟨h.hB, fun p n c q m d he => h.row p n c q m d (by rw [← hm.block B hl hS]; exact he), h.io⟩
theorem BrN.lt {w : World} {B : Nat} {ks : List Bv} {kids : List Int} (h : BrN w B ks kids) : B < w.heap.size := by obtain ⟨⟨p, n, c, q, m, d, h1, _⟩, _⟩ := h; exact lt_of_at h1
theorem BrN.turned {base : Nat} {w w' : World} {S : List Nat} {B : Nat} {ks : List Bv} {kids : List Int} (h : BrN w B ks kids) (ha : BrA base w B ks) (hm : Mod S w w') (hS : ∀ b ∈ S, b < base) : BrAt w' B ks kids := by
  obtain ⟨⟨p, n, c, q, m, d, h1, h2, h3, h4, h5⟩, h6⟩ := h
  have off : ∀ b, base ≤ b → b ∉ S := fun b hb hs => by have := hS b hs; omega
  obtain ⟨r1, r2⟩ := ha.row _ _ _ _ _ _ h1
  exact ⟨p, n, c, q, m, d, hm.at h1 (off _ ha.hB), ⟨h2.mod hm (fun a e _ => off _ (r1 a e)), fun k hk => (h6 k hk).io.mod hm (fun a e _ => off _ (ha.io k hk a e))⟩, h4.mod hm (fun a e _ => off _ (r2 a e))⟩
theorem BrA.le {base base' : Nat} {w : World} {B : Nat} {kv : List Bv} (h : BrA base w B kv) (hb : base' ≤ base) : BrA base' w B kv :=
  ⟨Nat.le_trans hb h.hB, fun p n c q m d he => ⟨fun a e => Nat.le_trans hb ((h.row p n c q m d he).1 a e), fun a e => Nat.le_trans hb ((h.row p n c q m d he).2 a e)⟩, fun k hk a e => Nat.le_trans hb (h.io k hk a e)⟩
/-- All that a leaf is made of lies at or beyond a place. -/
structure LeafA (base : Nat) (w : World) (L : Nat) (xs : List Cv) : Prop where
  hL : base ≤ L
  row : ∀ p n c, w.heap[L]? = some (.cells #[.slice p n c] 81 (0, 0)) → ∀ a, p = some a → base ≤ a.block
  io : ∀ x ∈ xs, (∀ a, x.k.p = some a → base ≤ a.block) ∧ ∀ a, x.i.p = some a → base ≤ a.block
theorem LeafA.mod {base : Nat} {w w' : World} {S : List Nat} {L : Nat} {xs : List Cv} (h : LeafA base w L xs) (hm : Mod S w w') (hS : L ∉ S) (hl : L < w.heap.size) : LeafA base w' L xs := ⟨h.hL, fun p n c he => h.row p n c (by rw [← hm.block L hl hS]; exact he), h.io⟩
theorem LeafA.le {base base' : Nat} {w : World} {L : Nat} {xs : List Cv} (h : LeafA base w L xs) (hb : base' ≤ base) : LeafA base' w L xs :=
  ⟨Nat.le_trans hb h.hL, fun p n c he a e => Nat.le_trans hb (h.row p n c he a e), fun x hx => ⟨fun a e => Nat.le_trans hb ((h.io x hx).1 a e), fun a e => Nat.le_trans hb ((h.io x hx).2 a e)⟩⟩
theorem LeafN.lt {w : World} {L : Nat} {xs : List Cv} (h : LeafN w L xs) : L < w.heap.size := by obtain ⟨⟨p, n, c, h1, _⟩, _⟩ := h; exact lt_of_at h1
theorem LeafN.turned {base : Nat} {w w' : World} {S : List Nat} {L : Nat} {xs : List Cv} (h : LeafN w L xs) (ha : LeafA base w L xs) (hm : Mod S w w') (hS : ∀ b ∈ S, b < base) : LeafAt w' L xs := by
  obtain ⟨⟨p, n, c, h1, h2, h3⟩, h4⟩ := h
  have off : ∀ b, base ≤ b → b ∉ S := fun b hb hs => by have := hS b hs; omega
  exact ⟨p, n, c, hm.at h1 (off _ ha.hL), ⟨h2.mod hm (fun a e _ => off _ (ha.row _ _ _ h1 a e)), fun x hx => ⟨(h4 x hx).k.io.mod hm (fun a e _ => off _ ((ha.io x hx).1 a e)), (h4 x hx).i.io.mod hm (fun a e _ => off _ ((ha.io x hx).2 a e))⟩⟩⟩
def IntMd (x : Int) (w : World) (v : Value) (w' : World) : Prop := v = .int .i64 x ∧ Mod [] w w'
theorem sizeCells (W : World) : (sizeOf (Tryz.prog.elem 79)).run Tryz.prog W = .ok 4 W := by kernel_rfl
theorem sizeKids (W : World) : (sizeOf (Tryz.prog.elem 24)).run Tryz.prog W = .ok 1 W := by kernel_rfl
/-- The cells of a leaf, one by one. -/
theorem CellsIn.get {w : World} {p : Option Addr} {n c : Nat} {xs : List Cv} (h : CellsIn w p n c xs) {b off : Nat} (hc : ∀ j u, (ccells xs)[j]? = some u → w.cell? ⟨b, off + j, none⟩ = some u) (i : Nat) (hi : i < n) :
    ∃ kp kn kc kl ip im ic il sz hd, xs[i]? = some ⟨⟨kp, kn, kc, kl⟩, ⟨ip, im, ic, il⟩, sz, hd⟩ ∧ (xs.map Cv.pl)[i]? = some ⟨kl, il, sz, hd⟩ ∧ BytesIn w kp kn kc kl ∧ BytesIn w ip im ic il ∧
      w.cell? ⟨b, off + i * 4, none⟩ = some (.slice kp kn kc) ∧ w.cell? ⟨b, off + i * 4 + 1, none⟩ = some (.slice ip im ic) ∧ w.cell? ⟨b, off + i * 4 + 2, none⟩ = some (.int .i64 sz) ∧ w.cell? ⟨b, off + i * 4 + 3, none⟩ = some (.int .i64 hd) := by
  have hk : i < xs.length := by rw [h.len]; exact hi
  obtain ⟨h1, h2⟩ := h.io _ (List.getElem_mem hk)
  have g := fun j hj => ccells_at hk j hj
  refine ⟨_, _, _, _, _, _, _, _, _, _, List.getElem?_eq_getElem hk, by rw [List.getElem?_map, List.getElem?_eq_getElem hk]; rfl, h1, h2, ?_, ?_, ?_, ?_⟩
  · have := hc (i * 4 + 0) _ ((g 0 (by omega)).trans rfl); exact this
  · rw [Nat.add_assoc]; exact hc (i * 4 + 1) _ ((g 1 (by omega)).trans rfl)
  · rw [Nat.add_assoc]; exact hc (i * 4 + 2) _ ((g 2 (by omega)).trans rfl)
  · rw [Nat.add_assoc]; exact hc (i * 4 + 3) _ ((g 3 (by omega)).trans rfl)

set_option maxRecDepth 100000 in
set_option maxHeartbeats 2000000 in
theorem cellmay_any (kp : Option Addr) (kn kc : Nat) (kl : List Int) (ip : Option Addr) (im ic : Nat) (il : List Int) (sz hd : Int) (w : World) (hil : il.length = im) :
    Calls Tryz.prog 133 #[.agg #[.slice kp kn kc, .slice ip im ic, .int .i64 sz, .int .i64 hd]] w (Ret (BoolM (mayCl ⟨kl, il, sz, hd⟩) w)) := by
  have HD : Hid (mayCl ⟨kl, il, sz, hd⟩ = if sz = 0 ∧ hd = 0 then decide (im ≤ 200) else decide (200 < sz) && decide (sz ≤ 16384) && mayPgN hd && decide (im = 0)) := by unfold Hid mayCl; rw [hil]
  generalize mayCl ⟨kl, il, sz, hd⟩ = B at *
  have HM : Hid (Mod [] w (w.alloc (.cells #[.slice kp kn kc, .slice ip im ic, .int .i64 sz, .int .i64 hd] 82))) := Mod.of_alloc w _
  have c1 : (w.alloc (.cells #[.slice kp kn kc, .slice ip im ic, .int .i64 sz, .int .i64 hd] 82)).cell? ⟨w.heap.size, 1, none⟩ = some (.slice ip im ic) := cell_of_at (at_alloc w _) 1
  have c2 : (w.alloc (.cells #[.slice kp kn kc, .slice ip im ic, .int .i64 sz, .int .i64 hd] 82)).cell? ⟨w.heap.size, 2, none⟩ = some (.int .i64 sz) := cell_of_at (at_alloc w _) 2
  have c3 : (w.alloc (.cells #[.slice kp kn kc, .slice ip im ic, .int .i64 sz, .int .i64 hd] 82)).cell? ⟨w.heap.size, 3, none⟩ = some (.int .i64 hd) := cell_of_at (at_alloc w _) 3
  clear hil
  by_cases hp : sz = 0 ∧ hd = 0
  · have HD2 : Hid (B = decide (im ≤ 200)) := by rw [HD.out]; exact if_pos hp
    obtain ⟨rfl, rfl⟩ := hp
    go_enter Tryz.func133, Tryz.ntmps133
    go_wp2
    go_ret
    exact .mk ⟨by rw [HD2.out]; by_cases h : im ≤ 200 <;> simp [h] <;> omega, HM.out⟩
  · have HD2 : Hid (B = (decide (200 < sz) && decide (sz ≤ 16384) && mayPgN hd && decide (im = 0))) := by rw [HD.out]; exact if_neg hp
    have hcond : (sz == 0) = false ∨ (sz == 0) = true ∧ (hd == 0) = false := by
      by_cases h : sz = 0
      · right; simp [h]; intro h2; exact hp ⟨h, h2⟩
      · left; simpa using h
    clear hp HD
    by_cases h1 : 200 < sz
    · have hz : (sz == 0) = false := by simp; omega
      by_cases h2 : sz ≤ 16384
      · clear hcond
        go_enter Tryz.func133, Tryz.ntmps133
        go_wp2_with fail
        refine (maypgn_any hd _).mono ?_
        rintro _ w1 ⟨_, rfl, rfl, rfl⟩
        generalize mayPgN hd = P at *
        cases P with
        | false =>
          go_wp2
          go_ret
          exact .mk ⟨by rw [HD2.out]; simp, HM.out⟩
        | true =>
          go_wp2
          go_ret
          exact .mk ⟨by rw [HD2.out]; by_cases h : im = 0 <;> simp [h, h1, h2] <;> omega, HM.out⟩
      · clear hcond
        go_enter Tryz.func133, Tryz.ntmps133
        go_wp2
        go_ret
        exact .mk ⟨by rw [HD2.out]; simp; intros; omega, HM.out⟩
    · rcases hcond with hz | ⟨hz, hy⟩
      all_goals
        go_enter Tryz.func133, Tryz.ntmps133
        go_wp2
        go_ret
        exact .mk ⟨by rw [HD2.out]; simp; intros; omega, HM.out⟩

set_option maxRecDepth 100000 in
set_option maxHeartbeats 2000000 in
theorem leaflen_any (L : Nat) (xs : List Cv) (w : World) (h : LeafAt w L xs) (hb : leafLen (xs.map Cv.pl) ≤ 1000000000000000000) :
    Calls Tryz.prog 129 #[.pointer (some ⟨L, 0, none⟩)] w (Ret (IntMd (leafLen (xs.map Cv.pl)) w)) := by
  obtain ⟨p, n, c, hat, hx⟩ := h
  have c0 : w.cell? ⟨L, 0, none⟩ = some (.slice p n c) := cell_of_at hat 0
  have hcm := hx.sl.capm; have hle := hx.sl.le
  unfold maxLen at hcm
  obtain ⟨b, off, hp, hcs⟩ := hx.sl.at_
  have hidx := fun W => Sl.idx (P := Tryz.prog) (cap := c) Tryz.underlying79 sizeCells (fun h => (hp h).1) W .i64
  have HLT : Hid (0 < n → b < w.heap.size) := fun h => (hp h).2
  have HG := Lib.hid (fun i hi => hx.get hcs i hi)
  have HLN : Hid ((xs.map Cv.pl).length = n) := by unfold Hid; rw [List.length_map]; exact hx.len
  have HLL : Hid (leafLen (xs.map Cv.pl) = 3 + lsum ((xs.map Cv.pl).take n)) := by unfold Hid leafLen; rw [List.take_of_length_le (by rw [HLN.out]; omega)]
  have HLE := Lib.hid (lsum_take_le (xs.map Cv.pl))
  have hb2 : 3 + lsum (xs.map Cv.pl) ≤ 1000000000000000000 := hb
  have HST : Hid (∀ i c, (xs.map Cv.pl)[i]? = some c → lsum ((xs.map Cv.pl).take (i + 1)) = lsum ((xs.map Cv.pl).take i) + clLen c) := fun i c h => by
    obtain ⟨h1, h2⟩ := List.getElem?_eq_some_iff.1 h
    rw [lsum_take h1, h2]
  generalize xs.map Cv.pl = cs at *
  clear hat hx hp hcs hb
  go_enter Tryz.func129, Tryz.ntmps129
  go_wp2
  go_loopw [3, 11] (fun nv iv wr => ∃ i : Nat, i ≤ n ∧ iv = .int .i64 i ∧ nv = .int .i64 ((3 + lsum (cs.take i) : Nat) : Int) ∧ Mod [] w wr) (fun _ iv _ => n - (intOf iv).toNat)
  case atStart => exact ⟨0, by omega, rfl, rfl, Mod.refl _ _⟩
  case round =>
    obtain ⟨i, hi, rfl, rfl, hm⟩ := hrel
    have HM := Lib.hid hm
    clear hm
    by_cases hlt : i < n
    · obtain ⟨kp, kn, kc, kl, ip, im, ic, il, sz, hd, _, hcl, hk, hii, d0, d1, d2, d3⟩ := HG.out i hlt
      have hbl := HLT.out (by omega)
      rw [← HM.out.cell (a := ⟨b, _, none⟩) hbl (by simp)] at d0 d1 d2 d3
      have hkl := hk.len; have hil := hii.len
      have HS := HST.out i _ hcl
      have hbnd := HLE.out (i + 1)
      rw [HS] at hbnd
      simp only [clLen, hkl, hil] at HS hbnd
      have HS' := Lib.hid HS
      have HM2 : Hid (Mod [] w (wr.alloc (.cells #[.slice kp kn kc, .slice ip im ic, .int .i64 sz, .int .i64 hd] 82))) := HM.out.alloc
      generalize hV : lsum (cs.take i) = V at *
      clear hk hii hkl hil HS hcl hV
      by_cases hz : sz = 0
      · subst hz
        simp only [if_true] at HS' hbnd
        have hw1 : IntKind.i64.wrap (3 + (kn : Int)) = ((3 + kn : Nat) : Int) := by rw [IntWalk.i64_in _ (by omega)]; omega
        have hw2 : IntKind.i64.wrap (((3 + V : Nat) : Int) + ((3 + kn : Nat) : Int)) = ((3 + V + (3 + kn) : Nat) : Int) := by rw [IntWalk.i64_in _ (by omega)]; omega
        have hw3 : IntKind.i64.wrap (((3 + V + (3 + kn) : Nat) : Int) + (im : Int)) = ((3 + (V + (3 + kn + im)) : Nat) : Int) := by rw [IntWalk.i64_in _ (by omega)]; omega
        go_wp2
        go_roundw
        case rel => exact ⟨i + 1, by omega, by go_num, by rw [HS'.out]; exact congrArg (Value.int .i64) (by omega), HM2.out⟩
        case measure => simp [intOf]; omega
      · rw [if_neg hz] at HS' hbnd
        have hz' : (sz == 0) = false := by simpa using hz
        have hw1 : IntKind.i64.wrap (3 + (kn : Int)) = ((3 + kn : Nat) : Int) := by rw [IntWalk.i64_in _ (by omega)]; omega
        have hw2 : IntKind.i64.wrap (((3 + V : Nat) : Int) + ((3 + kn : Nat) : Int)) = ((3 + V + (3 + kn) : Nat) : Int) := by rw [IntWalk.i64_in _ (by omega)]; omega
        have hw3 : IntKind.i64.wrap (((3 + V + (3 + kn) : Nat) : Int) + 6) = ((3 + (V + (3 + kn + 6)) : Nat) : Int) := by rw [IntWalk.i64_in _ (by omega)]; omega
        clear hz
        go_wp2
        go_roundw
        case rel => exact ⟨i + 1, by omega, by go_num, by rw [HS'.out]; exact congrArg (Value.int .i64) (by omega), HM2.out⟩
        case measure => simp [intOf]; omega
    · obtain rfl : i = n := by omega
      go_wp2
      go_ret
      exact .mk ⟨by rw [HLL.out]; rfl, HM.out⟩
end Go.Proofs.YtgimdodbajhpoaaGreatDoor
