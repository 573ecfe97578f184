/- A pager: what it is; a new one. -/
import Derived.Test.YtgimdodbajhpoaaDoorG07
import Derived.Test.YtgimdodbajhpoaaDoorG25
import Derived.Test.YtgimdodbajhpoaaDoorG22
namespace Go.Proofs.YtgimdodbajhpoaaDoor
open Go.RowKit Go.Maps
set_option linter.unusedSimpArgs false
set_option linter.unusedVariables false

/-- A pager, plainly. -/
structure Pm where
  s : PS
  gen : Int
  hor : Int
  f : List (Int × List Int)
/-- A fresh page's bytes in memory. -/
structure Fp where
  p : Option Addr
  n : Nat
  c : Nat
  l : List Int
def Fp.val (g : Fp) : Value := .slice g.p g.n g.c
def heldF (g : Fp) : DataW Value := .held g.val
/-- Block X is a pager over the disk in D; T: all blocks that are its own. -/
structure PgrIn (w : World) (X : Nat) (T : List Nat) (D : Nat) (m : Pm) (sb bm M : Nat) (fv : List (Int × Fp)) : Prop where
  at_ : w.heap[X]? = some (.cells #[.pointer (some ⟨D, 0, none⟩), .pointer (some ⟨sb, 0, none⟩), .int .u64 m.gen, .int .u64 m.hor, .map (some M)] 63 (0, 0))
  pool : PoolAt w sb bm m.s
  map : w.ownsMap Tryd.prog 3 heldR M fv.length (mapG heldF fv)
  nemap : M ≠ bm
  srt : SrtG fv
  fl : mapV Fp.l fv = m.f
  pg : ∀ x ∈ fv, BytesIn w x.2.p x.2.n x.2.c x.2.l ∧ (∀ a, x.2.p = some a → a.block ∈ T ∧ a.block ∉ [X, sb, bm, M]) ∧ (x.2.p = none → x.2.n = 0 ∧ x.2.c = 0)
  sub : ∀ b ∈ [X, sb, bm, M], b ∈ T
  lt : ∀ b ∈ T, b < w.heap.size
  small : ∀ x ∈ fv, x.2.n ≤ 1016 ∧ 0 ≤ x.1 ∧ x.1 < 2048
  g0 : 0 ≤ m.gen ∧ m.gen < 2 ^ 64
  h0 : 0 ≤ m.hor ∧ m.hor < 2 ^ 64
def PgrAt (w : World) (X : Nat) (T : List Nat) (D : Nat) (m : Pm) : Prop := ∃ sb bm M fv, PgrIn w X T D m sb bm M fv
theorem PgrIn.mod {w w' : World} {X : Nat} {T S : List Nat} {D : Nat} {m : Pm} {sb bm M : Nat} {fv : List (Int × Fp)} (h : PgrIn w X T D m sb bm M fv) (hm : Mod S w w') (hx : ∀ b ∈ T, b ∉ S) : PgrIn w' X T D m sb bm M fv :=
  ⟨hm.at h.at_ (hx _ (h.sub X (by simp))), h.pool.mod hm (hx _ (h.sub sb (by simp))) (hx _ (h.sub bm (by simp))), ownsMap_mod h.map hm (hx _ (h.sub M (by simp))), h.nemap, h.srt, h.fl,
    fun x hx2 => ⟨⟨(h.pg x hx2).1.sl.mod hm (fun a ha _ => hx _ ((h.pg x hx2).2.1 a ha).1), (h.pg x hx2).1.wf⟩, (h.pg x hx2).2⟩, h.sub, fun b hb => Nat.lt_of_lt_of_le (h.lt b hb) hm.size, h.small, h.g0, h.h0⟩
theorem PgrAt.mod {w w' : World} {X : Nat} {T S : List Nat} {D : Nat} {m : Pm} (h : PgrAt w X T D m) (hm : Mod S w w') (hx : ∀ b ∈ T, b ∉ S) : PgrAt w' X T D m := by
  obtain ⟨sb, bm, M, fv, h⟩ := h
  exact ⟨sb, bm, M, fv, h.mod hm hx⟩
theorem PgrAt.lt {w : World} {X : Nat} {T : List Nat} {D : Nat} {m : Pm} (h : PgrAt w X T D m) : ∀ b ∈ T, b < w.heap.size := by obtain ⟨sb, bm, M, fv, h⟩ := h; exact h.lt
theorem PgrIn.ne {w : World} {X : Nat} {T : List Nat} {D : Nat} {m : Pm} {sb bm M : Nat} {fv : List (Int × Fp)} (h : PgrIn w X T D m sb bm M fv) : X ≠ sb ∧ X ≠ bm ∧ X ≠ M ∧ sb ≠ M ∧ bm ≠ sb := by
  obtain ⟨es, c, hM, _⟩ := h.map
  obtain ⟨es2, c2, hB⟩ := h.pool.map.is_map
  refine ⟨fun e => ?_, fun e => ?_, fun e => ?_, fun e => ?_, h.pool.ne⟩
  · subst e; have := h.at_; rw [h.pool.at_] at this; injection this with this; injection this with _ this _; exact absurd this (by decide)
  · subst e; have := h.at_; rw [hB] at this; cases this
  · subst e; have := h.at_; rw [hM] at this; cases this
  · subst e; have := h.pool.at_; rw [hM] at this; cases this
theorem PgrIn.len {w : World} {X : Nat} {T : List Nat} {D : Nat} {m : Pm} {sb bm M : Nat} {fv : List (Int × Fp)} (h : PgrIn w X T D m sb bm M fv) : fv.length = m.f.length := by rw [← h.fl, mapV_len]

theorem PgrIn.few {w : World} {X : Nat} {T : List Nat} {D : Nat} {m : Pm} {sb bm M : Nat} {fv : List (Int × Fp)} (h : PgrIn w X T D m sb bm M fv) : fv.length ≤ 2048 := by
  have := h.srt.small (lo := 0) (hi := 2048) (fun x hx => (h.small x hx).2) (by omega)
  omega
def PgrNewR (D : Nat) (m : Pm) (w : World) (v : Value) (w' : World) : Prop := ∃ X T, v = .pointer (some ⟨X, 0, none⟩) ∧ PgrAt w' X T D m ∧ Mod [] w w' ∧ ∀ b ∈ T, w.heap.size ≤ b
set_option maxRecDepth 100000 in
set_option maxHeartbeats 1000000 in
theorem pgrnew_any (D sb bm : Nat) (s : PS) (gen hor : Int) (w : World) (h : PoolAt w sb bm s) (hg : 0 ≤ gen ∧ gen < 2 ^ 64) (hh : 0 ≤ hor ∧ hor < 2 ^ 64) :
    Calls Tryd.prog 7 #[.pointer (some ⟨D, 0, none⟩), .pointer (some ⟨sb, 0, none⟩), .int .u64 gen, .int .u64 hor] w (Ret (PgrNewR D ⟨s, gen, hor, []⟩ w)) := by
  have hmm := @run_makeMap Tryd.prog
  have H := Lib.hid h
  have HG := Lib.hid hg
  have HH := Lib.hid hh
  clear h hg hh
  go_enter Tryd.func7, Tryd.ntmps7
  go_wp2_with fail
  refine (pclone_any sb bm s w H.out).mono ?_
  rintro _ w1 ⟨_, rfl, sb1, bm1, rfl, hp1, m1, hb1, hb2⟩
  have HP1 := Lib.hid hp1
  have M1 := Lib.hid m1
  have HB1 := Lib.hid hb1
  have HB2 := Lib.hid hb2
  clear hp1 m1 hb1 hb2
  go_wp2
  go_ret
  have hmM : Mod [] w1 (w1.alloc (.map #[] 0)) := Mod.of_alloc _ _
  have hmX : Mod [] (w1.alloc (.map #[] 0)) ((w1.alloc (.map #[] 0)).alloc (.cells #[.pointer (some ⟨D, 0, none⟩), .pointer (some ⟨sb1, 0, none⟩), .int .u64 gen, .int .u64 hor, .map (some w1.heap.size)] 63)) := Mod.of_alloc _ _
  have hal : (w1.alloc (.map #[] 0)).heap.size = w1.heap.size + 1 := Array.size_push _
  have hsz := M1.out.size
  have hs1 := lt_of_at HP1.out.at_
  have hs2 := HP1.out.map.lt
  refine .mk ⟨(w1.alloc (.map #[] 0)).heap.size, [(w1.alloc (.map #[] 0)).heap.size, sb1, bm1, w1.heap.size], by rw [hal] <;> rfl, ⟨sb1, bm1, w1.heap.size, [], ⟨at_alloc _ _, (HP1.out.mod hmM (by simp) (by simp)).mod hmX (by simp) (by simp), ownsMap_mod (World.ownsMap_made _ _ _ _) hmX (by simp), by omega, by simp [SrtG], rfl, by simp, fun b hb => hb, ?_, by simp, HG.out, HH.out⟩⟩, (M1.out.same hmM).same hmX, ?_⟩
  · intro b hb
    have : ((w1.alloc (.map #[] 0)).alloc (.cells #[.pointer (some ⟨D, 0, none⟩), .pointer (some ⟨sb1, 0, none⟩), .int .u64 gen, .int .u64 hor, .map (some w1.heap.size)] 63)).heap.size = w1.heap.size + 2 := by rw [show w1.heap.size + 2 = (w1.alloc (.map #[] 0)).heap.size + 1 from by rw [hal]]; exact Array.size_push _
    rw [this]
    simp only [List.mem_cons, List.not_mem_nil, or_false, hal] at hb
    omega
  · intro b hb
    have := HB1.out; have := HB2.out
    simp only [List.mem_cons, List.not_mem_nil, or_false, hal] at hb
    omega
end Go.Proofs.YtgimdodbajhpoaaDoor
