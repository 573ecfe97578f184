/- A pager: what it is; a new one. A pager: Put. -/
import Derived.Test.YtgimdodbajhpoaaGreatDoorG06
import Derived.Test.YtgimdodbajhpoaaGreatDoorG13
import Derived.Test.YtgimdodbajhpoaaGreatDoorG28
import Derived.Test.YtgimdodbajhpoaaGreatDoorG20
import Derived.Test.YtgimdodbajhpoaaGreatDoorG22
namespace Go.Proofs.YtgimdodbajhpoaaGreatDoor
open Go.RowKit Go.Maps
set_option linter.unusedSimpArgs false
set_option linter.unusedVariables false

/-- A pager, plainly. -/
structure Pm where
  s : PS
  gen : Int
  hor : Int
  f : List (Int × List Int)
/-- A fresh page's bytes in memory. -/
structure Fp where
  p : Option Addr
  n : Nat
  c : Nat
  l : List Int
def Fp.val (g : Fp) : Value := .slice g.p g.n g.c
def heldF (g : Fp) : DataW Value := .held g.val
/-- Block X is a pager over the disk in D; T: all blocks that are its own. -/
structure PgrIn (w : World) (X : Nat) (T : List Nat) (D : Nat) (m : Pm) (sb bm M : Nat) (fv : List (Int × Fp)) : Prop where
  at_ : w.heap[X]? = some (.cells #[.pointer (some ⟨D, 0, none⟩), .pointer (some ⟨sb, 0, none⟩), .int .u64 m.gen, .int .u64 m.hor, .map (some M)] 73 (0, 0))
  pool : PoolAt w sb bm m.s
  map : w.ownsMap Tryz.prog 3 heldR M fv.length (mapG heldF fv)
  nemap : M ≠ bm
  srt : SrtG fv
  fl : mapV Fp.l fv = m.f
  pg : ∀ x ∈ fv, BytesIn w x.2.p x.2.n x.2.c x.2.l ∧ (∀ a, x.2.p = some a → a.block ∈ T ∧ a.block ∉ [X, sb, bm, M]) ∧ (x.2.p = none → x.2.n = 0 ∧ x.2.c = 0)
  sub : ∀ b ∈ [X, sb, bm, M], b ∈ T
  lt : ∀ b ∈ T, b < w.heap.size
  small : ∀ x ∈ fv, x.2.n ≤ 1016 ∧ 0 ≤ x.1 ∧ x.1 < 2048
  g0 : 0 ≤ m.gen ∧ m.gen < 2 ^ 64
  h0 : 0 ≤ m.hor ∧ m.hor < 2 ^ 64
def PgrAt (w : World) (X : Nat) (T : List Nat) (D : Nat) (m : Pm) : Prop := ∃ sb bm M fv, PgrIn w X T D m sb bm M fv
theorem PgrIn.mod {w w' : World} {X : Nat} {T S : List Nat} {D : Nat} {m : Pm} {sb bm M : Nat} {fv : List (Int × Fp)} (h : PgrIn w X T D m sb bm M fv) (hm : Mod S w w') (hx : ∀ b ∈ T, b ∉ S) : PgrIn w' X T D m sb bm M fv :=
  ⟨hm.at h.at_ (hx _ (h.sub X (by simp))), h.pool.mod hm (hx _ (h.sub sb (by simp))) (hx _ (h.sub bm (by simp))), ownsMap_mod h.map hm (hx _ (h.sub M (by simp))), h.nemap, h.srt, h.fl,
    fun x hx2 => ⟨⟨(h.pg x hx2).1.sl.mod hm (fun a ha _ => hx _ ((h.pg x hx2).2.1 a ha).1), (h.pg x hx2).1.wf⟩, (h.pg x hx2).2⟩, h.sub, fun b hb => Nat.lt_of_lt_of_le (h.lt b hb) hm.size, h.small, h.g0, h.h0⟩
theorem PgrAt.mod {w w' : World} {X : Nat} {T S : List Nat} {D : Nat} {m : Pm} (h : PgrAt w X T D m) (hm : Mod S w w') (hx : ∀ b ∈ T, b ∉ S) : PgrAt w' X T D m := by
  obtain ⟨sb, bm, M, fv, h⟩ := h
  exact ⟨sb, bm, M, fv, h.mod hm hx⟩
theorem PgrAt.lt {w : World} {X : Nat} {T : List Nat} {D : Nat} {m : Pm} (h : PgrAt w X T D m) : ∀ b ∈ T, b < w.heap.size := by obtain ⟨sb, bm, M, fv, h⟩ := h; exact h.lt
theorem PgrIn.ne {w : World} {X : Nat} {T : List Nat} {D : Nat} {m : Pm} {sb bm M : Nat} {fv : List (Int × Fp)} (h : PgrIn w X T D m sb bm M fv) : X ≠ sb ∧ X ≠ bm ∧ X ≠ M ∧ sb ≠ M ∧ bm ≠ sb := by
  obtain ⟨es, c, hM, _⟩ := h.map
  obtain ⟨es2, c2, hB⟩ := h.pool.map.is_map
  refine ⟨fun e => ?_, fun e => ?_, fun e => ?_, fun e => ?_, h.pool.ne⟩
  · subst e; have := h.at_; rw [h.pool.at_] at this; injection this with this; injection this with _ this _; exact absurd this (by decide)
  · subst e; have := h.at_; rw [hB] at this; cases this
  · subst e; have := h.at_; rw [hM] at this; cases this
  · subst e; have := h.pool.at_; rw [hM] at this; cases this
theorem PgrIn.len {w : World} {X : Nat} {T : List Nat} {D : Nat} {m : Pm} {sb bm M : Nat} {fv : List (Int × Fp)} (h : PgrIn w X T D m sb bm M fv) : fv.length = m.f.length := by rw [← h.fl, mapV_len]

theorem PgrIn.few {w : World} {X : Nat} {T : List Nat} {D : Nat} {m : Pm} {sb bm M : Nat} {fv : List (Int × Fp)} (h : PgrIn w X T D m sb bm M fv) : fv.length ≤ 2048 := by
  have := h.srt.small (lo := 0) (hi := 2048) (fun x hx => (h.small x hx).2) (by omega)
  omega
def PgrNewR (D : Nat) (m : Pm) (w : World) (v : Value) (w' : World) : Prop := ∃ X T, v = .pointer (some ⟨X, 0, none⟩) ∧ PgrAt w' X T D m ∧ Mod [] w w' ∧ ∀ b ∈ T, w.heap.size ≤ b
set_option maxRecDepth 100000 in
set_option maxHeartbeats 1000000 in
theorem pgrnew_any (D sb bm : Nat) (s : PS) (gen hor : Int) (w : World) (h : PoolAt w sb bm s) (hg : 0 ≤ gen ∧ gen < 2 ^ 64) (hh : 0 ≤ hor ∧ hor < 2 ^ 64) :
    Calls Tryz.prog 9 #[.pointer (some ⟨D, 0, none⟩), .pointer (some ⟨sb, 0, none⟩), .int .u64 gen, .int .u64 hor] w (Ret (PgrNewR D ⟨s, gen, hor, []⟩ w)) := by
  have hmm := @run_makeMap Tryz.prog
  have H := Lib.hid h
  have HG := Lib.hid hg
  have HH := Lib.hid hh
  clear h hg hh
  go_enter Tryz.func9, Tryz.ntmps9
  go_wp2_with fail
  refine (pclone_any sb bm s w H.out).mono ?_
  rintro _ w1 ⟨_, rfl, sb1, bm1, rfl, hp1, m1, hb1, hb2⟩
  have HP1 := Lib.hid hp1
  have M1 := Lib.hid m1
  have HB1 := Lib.hid hb1
  have HB2 := Lib.hid hb2
  clear hp1 m1 hb1 hb2
  go_wp2
  go_ret
  have hmM : Mod [] w1 (w1.alloc (.map #[] 0)) := Mod.of_alloc _ _
  have hmX : Mod [] (w1.alloc (.map #[] 0)) ((w1.alloc (.map #[] 0)).alloc (.cells #[.pointer (some ⟨D, 0, none⟩), .pointer (some ⟨sb1, 0, none⟩), .int .u64 gen, .int .u64 hor, .map (some w1.heap.size)] 73)) := Mod.of_alloc _ _
  have hal : (w1.alloc (.map #[] 0)).heap.size = w1.heap.size + 1 := Array.size_push _
  have hsz := M1.out.size
  have hs1 := lt_of_at HP1.out.at_
  have hs2 := HP1.out.map.lt
  refine .mk ⟨(w1.alloc (.map #[] 0)).heap.size, [(w1.alloc (.map #[] 0)).heap.size, sb1, bm1, w1.heap.size], by rw [hal] <;> rfl, ⟨sb1, bm1, w1.heap.size, [], ⟨at_alloc _ _, (HP1.out.mod hmM (by simp) (by simp)).mod hmX (by simp) (by simp), ownsMap_mod (World.ownsMap_made _ _ _ _) hmX (by simp), by omega, by simp [SrtG], rfl, by simp, fun b hb => hb, ?_, by simp, HG.out, HH.out⟩⟩, (M1.out.same hmM).same hmX, ?_⟩
  · intro b hb
    have : ((w1.alloc (.map #[] 0)).alloc (.cells #[.pointer (some ⟨D, 0, none⟩), .pointer (some ⟨sb1, 0, none⟩), .int .u64 gen, .int .u64 hor, .map (some w1.heap.size)] 73)).heap.size = w1.heap.size + 2 := by rw [show w1.heap.size + 2 = (w1.alloc (.map #[] 0)).heap.size + 1 from by rw [hal]]; exact Array.size_push _
    rw [this]
    simp only [List.mem_cons, List.not_mem_nil, or_false, hal] at hb
    omega
  · intro b hb
    have := HB1.out; have := HB2.out
    simp only [List.mem_cons, List.not_mem_nil, or_false, hal] at hb
    omega
end Go.Proofs.YtgimdodbajhpoaaGreatDoor
namespace Go.Proofs.YtgimdodbajhpoaaGreatDoor
open Go.RowKit Go.Maps
set_option linter.unusedSimpArgs false
set_option linter.unusedVariables false

/-- 'm[k] = v' at an operation within a region. -/
theorem oper_mapUpdate {P : Program} {w : World} {o : Oper} {a : Act} {K : Act → World → Prop} {Q : Exit → Act → World → Prop} (m x v : Operand) (t : TypeId) (hop : o.op = Op.mapUpdate t m x v) (mv key val : Value) (hm : a.eval m = mv) (hx : a.eval x = key) (hv : a.eval v = val)
    {u : Unit} {w' : World} (hrun : (Instr.mapUpdate t mv key val).run P w = .ok u w') (h : K (a.put o.dst undef) w') : o.wp P a w K Q := by
  unfold Oper.wp
  simp [execOp, hop, hm, hx, hv, hrun, Result.andThen]
  exact h
/-- A new page's bytes are put into the map. -/
theorem PgrIn.store {w w1 w2 : World} {X : Nat} {T : List Nat} {D : Nat} {m : Pm} {sb bm M : Nat} {fv : List (Int × Fp)} (h : PgrIn w X T D m sb bm M fv) (hm1 : Mod [] w w1) {p : Option Addr} {n c : Nat} {l : List Int}
    (hown : w1.ownsRow w.heap.size 5 1 (.slice p n c) n (bs l)) (hw : ∀ x ∈ l, 0 ≤ x ∧ x < 256) (hn : n ≤ 1016) {no : Int} (h0 : 0 ≤ no) (h1 : no < 2048) {nn : Nat}
    (hmap : w2.ownsMap Tryz.prog 3 heldR M nn ((mapG heldF fv).put (.int .i64 no) (.held (.slice p n c)))) (hm2 : Mod [M] w1 w2) :
    ∃ T' fv', PgrIn w2 X T' D ⟨m.s, m.gen, m.hor, insG no l m.f⟩ sb bm M fv' ∧ (∀ b ∈ T', b ∈ T ∨ (w.heap.size ≤ b ∧ IsBytes w2 b)) := by
  have h' := h.mod hm1 (by simp)
  have hT : ∀ a, p = some a → w.heap.size ≤ a.block ∧ a.block < w1.heap.size ∧ IsBytes w1 a.block := fun a ha => by
    rcases hown.2 with ⟨e, _⟩ | ⟨g, cap, cur, e, hb, hat, _⟩
    · rw [ha] at e; cases e
    · rw [ha] at e; cases e; exact ⟨hb, lt_of_at hat, _, hat⟩
  have hnil : p = none → n = 0 ∧ c = 0 := fun e => by
    rcases hown.2 with ⟨e2, _⟩ | ⟨g, cap, cur, e2, _⟩
    · cases e2; exact ⟨rfl, rfl⟩
    · rw [e] at e2; cases e2
  obtain ⟨n1, n2, n3, n4, n5⟩ := h'.ne
  have hput : (mapG heldF fv).put (.int .i64 no) (.held (.slice p n c)) = mapG heldF (insG no ⟨p, n, c, l⟩ fv) := put_mapG heldF h.srt no ⟨p, n, c, l⟩
  rw [hput] at hmap
  have htight := ownsMap_tight hmap
  rw [size_mapG] at htight
  have hMb := h.nemap
  refine ⟨T ++ (p.map (·.block)).toList, insG no ⟨p, n, c, l⟩ fv, ⟨hm2.at h'.at_ (by simpa using n3), h'.pool.mod hm2 (by simpa using n4) (by simpa using Ne.symm hMb), htight, h.nemap, h.srt.ins, ?_, ?_, ?_, ?_, ?_, h.g0, h.h0⟩, ?_⟩
  · rw [mapV_ins, h.fl]
  · intro x hx
    rcases mem_insG hx with rfl | hx
    · refine ⟨⟨((Sl.of_own hown (bs_one _)).1).mod hm2 (fun a ha _ => ?_), hw⟩, fun a ha => ⟨by have ha' : p = some a := ha; rw [ha']; simp, ?_⟩, hnil⟩
      · have := (hT a ha).1; have := h.lt M (h.sub M (by simp)); simp; omega
      · have h1 := (hT a ha).1
        intro hb
        have := h.lt _ (h.sub _ hb); omega
    · obtain ⟨g1, g2, g3⟩ := h'.pg x hx
      refine ⟨⟨g1.sl.mod hm2 (fun a ha _ => ?_), g1.wf⟩, fun a ha => ⟨List.mem_append_left _ (g2 a ha).1, (g2 a ha).2⟩, g3⟩
      have := (g2 a ha).2
      simp only [List.mem_cons, List.not_mem_nil, or_false, not_or] at this ⊢
      exact this.2.2.2
  · intro b hb; exact List.mem_append_left _ (h.sub b hb)
  · intro b hb
    rcases List.mem_append.1 hb with hb | hb
    · exact Nat.lt_of_lt_of_le (h'.lt b hb) hm2.size
    · cases p with
      | none => simp at hb
      | some a => simp at hb; rw [hb]; exact Nat.lt_of_lt_of_le (hT a rfl).2.1 hm2.size
  · intro x hx
    rcases mem_insG hx with rfl | hx
    · exact ⟨hn, h0, h1⟩
    · exact h.small x hx
  · intro b hb
    rcases List.mem_append.1 hb with hb | hb
    · exact Or.inl hb
    · cases p with
      | none => simp at hb
      | some a =>
        simp at hb; rw [hb]
        obtain ⟨q1, q2, cs, q3⟩ := hT a rfl
        refine Or.inr ⟨q1, cs, hm2.at q3 ?_⟩
        have := h.lt M (h.sub M (by simp)); simp; omega

def Pm.put (m : Pm) (l : List Int) : (Int × Int) × Pm :=
  if 1016 < l.length then ((0, 1), m) else if (m.s.alloc m.hor).1.2 = 0 then (((m.s.alloc m.hor).1.1, 0), ⟨(m.s.alloc m.hor).2, m.gen, m.hor, insG (m.s.alloc m.hor).1.1 l m.f⟩) else ((0, (m.s.alloc m.hor).1.2), ⟨(m.s.alloc m.hor).2, m.gen, m.hor, m.f⟩)
/-- What an act of a pager leaves. -/
def PgrR (X : Nat) (T : List Nat) (D : Nat) (m : Pm) (r : Value) (w : World) (v : Value) (w' : World) : Prop := v = r ∧ ∃ T', PgrAt w' X T' D m ∧ Mod T w w' ∧ ∀ b ∈ T', b ∈ T ∨ w.heap.size ≤ b
theorem PS.alloc_range {s : PS} {h : Int} (ho : s.Ok) (he : (s.alloc h).1.2 = 0) : 2 ≤ (s.alloc h).1.1 ∧ (s.alloc h).1.1 < 2048 := by
  have hc := ho.cap; have hl := ho.low; have hh := ho.high
  unfold PS.alloc at he ⊢
  cases hf : s.m.find? (fun p => decide (p.2 ≤ h)) with
  | some p =>
    have := ho.at_ p (List.mem_of_find?_eq_some hf)
    simp only; omega
  | none =>
    rw [hf] at he
    simp only at he ⊢
    split at he
    · simp at he
    · rename_i h2; rw [if_neg h2]; simp only; omega

/-- A pager whose pool's and whose pages' maps lie in these blocks. -/
def PgrAt3 (sb bm M : Nat) (w : World) (X : Nat) (T : List Nat) (D : Nat) (m : Pm) : Prop := ∃ fv, PgrIn w X T D m sb bm M fv
def PgrR3 (sb bm M : Nat) (X : Nat) (T : List Nat) (D : Nat) (m : Pm) (r : Value) (w : World) (v : Value) (w' : World) : Prop := v = r ∧ ∃ T', PgrAt3 sb bm M w' X T' D m ∧ Mod [sb, bm, M] w w' ∧ ∀ b ∈ T', b ∈ T ∨ (w.heap.size ≤ b ∧ IsBytes w' b)
set_option maxRecDepth 100000 in
set_option maxHeartbeats 4000000 in
theorem pgrput_in (X : Nat) (T : List Nat) (D : Nat) (m : Pm) (sb bm M : Nat) (p : Option Addr) (n c : Nat) (l : List Int) (w : World) (h : PgrAt3 sb bm M w X T D m) (hl : BytesIn w p n c l) (hpT : ∀ a, p = some a → 0 < n → a.block ∉ T) :
    Calls Tryz.prog 10 #[.pointer (some ⟨X, 0, none⟩), .slice p n c] w (Ret (PgrR3 sb bm M X T D (m.put l).2 (.tuple #[.int .i64 (m.put l).1.1, .int .i64 (m.put l).1.2]) w)) := by
  have hln := hl.len
  by_cases hbig : 1016 < n
  · have HV : Hid (m.put l = ((0, 1), m)) := by unfold Hid Pm.put; rw [if_pos (by omega)]
    have H := Lib.hid h
    have hz : decide (1016 < n) = true := by simpa using hbig
    clear h hl hln
    go_enter Tryz.func10, Tryz.ntmps10
    go_wp2
    go_ret2
    exact .mk ⟨by rw [HV.out] <;> rfl, T, by rw [HV.out]; exact H.out, Mod.refl _ _, fun b hb => Or.inl hb⟩
  have hz : decide (1016 < n) = false := by simpa using hbig
  obtain ⟨fv, h⟩ := h
  have c1 : w.cell? ⟨X, 1, none⟩ = some (.pointer (some ⟨sb, 0, none⟩)) := cell_of_at h.at_ 1
  have c3 : w.cell? ⟨X, 3, none⟩ = some (.int .u64 m.hor) := cell_of_at h.at_ 3
  have hXlt := lt_of_at h.at_
  have HV : Hid (m.put l = if (m.s.alloc m.hor).1.2 = 0 then (((m.s.alloc m.hor).1.1, 0), ⟨(m.s.alloc m.hor).2, m.gen, m.hor, insG (m.s.alloc m.hor).1.1 l m.f⟩) else ((0, (m.s.alloc m.hor).1.2), ⟨(m.s.alloc m.hor).2, m.gen, m.hor, m.f⟩)) := by unfold Hid Pm.put; rw [if_neg (by omega)]
  have HAR := Lib.hid (PS.alloc_range (h := m.hor) h.pool.ok)
  have HAL := fun W (hm : Mod [] w W) => Lib.hid (alloc_any sb bm m.s m.hor W (h.pool.mod hm (by simp) (by simp)))
  unfold AllocR at HAL
  have H := Lib.hid h
  have HL := Lib.hid hl
  have HLN := Lib.hid hln
  have hn16 : n ≤ 1016 := by omega
  obtain ⟨n1, n2, n3, n4, n5⟩ := h.ne
  have hXS : X ∉ [sb, bm] := by simp; exact ⟨n1, n2⟩
  generalize m.s.alloc m.hor = AL at *
  obtain ⟨⟨no, e⟩, s2⟩ := AL
  simp only at HV HAR HAL
  clear h hl hln hbig
  go_enter Tryz.func10, Tryz.ntmps10
  go_wp2
  go_region_held3 (fun w' => w'.cell? ⟨X, 1, none⟩ = some (.pointer (some ⟨sb, 0, none⟩)) ∧ w'.cell? ⟨X, 3, none⟩ = some (.int .u64 m.hor))
    (first
      | go_keep
      | (exact ⟨(M3.out.cell (a := ⟨X, 1, none⟩) hXlt hXS).trans c1, (M3.out.cell (a := ⟨X, 3, none⟩) hXlt hXS).trans c3⟩))
    (first
      | (go_at_call 24; refine (HAL _ (Mod.of_drew w)).out.mono ?_; rintro _ w3 ⟨_, rfl, rfl, h3, m3⟩; (have H3 := Lib.hid h3); (have M3 := Lib.hid ((Mod.of_drew w).mono (by simp) |>.same m3)); clear h3 m3)
      | fail)
  have hsbT : ∀ b ∈ [sb, bm], b ∈ T := fun b hb => H.out.sub b (by simp at hb ⊢; rcases hb with rfl | rfl <;> simp)
  have H4 : Hid (PgrIn w3 X T D ⟨s2, m.gen, m.hor, m.f⟩ sb bm M fv) := by
    have hm := M3.out
    have hh := H.out
    exact ⟨hm.at hh.at_ hXS, H3.out, ownsMap_mod hh.map hm (by simp; exact ⟨fun e => n4 e.symm, hh.nemap⟩), hh.nemap, hh.srt, hh.fl,
      fun x hx => ⟨⟨(hh.pg x hx).1.sl.mod hm (fun a ha _ hb => ((hh.pg x hx).2.1 a ha).2 (by simp at hb ⊢; rcases hb with e | e <;> simp [e])), (hh.pg x hx).1.wf⟩, (hh.pg x hx).2⟩, hh.sub, fun b hb => Nat.lt_of_lt_of_le (hh.lt b hb) hm.size, hh.small, hh.g0, hh.h0⟩
  have MT3 := Lib.hid (M3.out.mono (S' := [sb, bm, M]) (fun b hb => Or.inl (by simp at hb ⊢; rcases hb with e | e <;> simp [e])))
  by_cases he : e = 0
  · subst he
    have HV2 : Hid (m.put l = ((no, 0), ⟨s2, m.gen, m.hor, insG no l m.f⟩)) := by unfold Hid; rw [HV.out, if_pos rfl]
    obtain ⟨a1, a2⟩ := HAR.out rfl
    have c4 : w3.cell? ⟨X, 4, none⟩ = some (.map (some M)) := cell_of_at H4.out.at_ 4
    have hkey := keyOf_int_mk (P := Tryz.prog) Tryz.underlying3 (a := no) (WalkArith.wf_i64 (by omega))
    have HSL : Hid (Sl w3 1 p n c (bs l)) := HL.out.sl.mod M3.out (fun a ha h0 hb => hpT a ha h0 (hsbT _ hb))
    have hXlt3 := lt_of_at H4.out.at_
    clear HAL HAR
    go_wp2
    refine AnyT.start (S := fun w' => w'.cell? ⟨X, 4, none⟩ = some (.map (some M))) (by kernel_rfl) c4 (fun hS => ?_)
    refine AnyT.take (i := 0) (k := 1) (v := ?_) rfl (by kernel_rfl) (fun _ _ _ h => h) hS (Or.inl ⟨by rfl, fun w' hw' => ?_⟩) ?_
    rotate_left
    · go_simp
      try rfl
    simp only [Act.put, List.setIfInBounds_toArray, List.set_cons_zero, List.set_cons_succ]
    refine AnyT.take (i := 1) (k := 2) (v := ?_) rfl (by kernel_rfl) (fun _ _ _ h => h) hS (Or.inl ⟨by rfl, fun w' hw' => ?_⟩) ?_
    rotate_left
    · go_simp
      try rfl
    simp only [Act.put, List.setIfInBounds_toArray, List.set_cons_zero, List.set_cons_succ]
    refine AnyT.take (i := 2) (k := 3) (v := ?_) rfl (by kernel_rfl) (fun _ _ _ h => h) hS (Or.inl ⟨by rfl, fun w' hw' => ?_⟩) ?_
    rotate_left
    · go_simp
      try rfl
    simp only [Act.put, List.setIfInBounds_toArray, List.set_cons_zero, List.set_cons_succ]
    refine AnyT.take (i := 3) (k := 7) (v := ?_) rfl (by kernel_rfl) (fun _ _ _ h => h) hS (Or.inl ⟨by rfl, fun w' hw' => ?_⟩) ?_
    rotate_left
    · go_simp
      try rfl
    simp only [Act.put, List.setIfInBounds_toArray, List.set_cons_zero, List.set_cons_succ]
    refine AnyT.take (i := 4) (k := 7) (v := ?_) rfl (by kernel_rfl) (fun _ _ _ h => h) hS (Or.inl ⟨by rfl, fun w' hw' => ?_⟩) ?_
    rotate_left
    · go_simp
      try rfl
    simp only [Act.put, List.setIfInBounds_toArray, List.set_cons_zero, List.set_cons_succ]
    refine AnyT.take (i := 5) (k := 6) (v := ?_) rfl (by kernel_rfl) (fun _ _ _ h => h) hS (Or.inl ⟨by rfl, fun w' hw' => ?_⟩) ?_
    rotate_left
    · go_simp
      try rfl
    simp only [Act.put, List.setIfInBounds_toArray, List.set_cons_zero, List.set_cons_succ]
    clear hS
    refine AnyT.run (i := 6) (by kernel_rfl) rfl rfl (fun K hK => ?_)
    go_simp
    refine (clone_any2 p n c l w3.drew (HSL.out.mod (Mod.of_drew w3) (by simp)) (by omega)).mono ?_
    rintro _ w5 ⟨_, rfl, p5, n5, c5, rfl, e5, o5, m5⟩
    obtain rfl : n5 = n := by rw [e5, HLN.out]
    have O5 : Hid (w5.ownsRow w3.heap.size 5 1 (.slice p5 n5 c5) n5 (bs l)) := o5
    have M5 : Hid (Mod [] w3 w5) := (Mod.of_drew w3).same m5
    have hc5 := (M5.out.cell (a := ⟨X, 4, none⟩) hXlt3 (by simp)).trans c4
    refine hK _ _ (fun _ => hc5) ?_
    clear hK K e5 o5 m5
    obtain ⟨w6, hrun, own6, turn6⟩ := (ownsMap_mod H4.out.map M5.out (by simp)).store (t := 68) lawInt Tryz.underlying68 (by have := H4.out.few; unfold maxLen; omega) hkey (heldR_mk (.slice p5 n5 c5))
    have M6 : Hid (Mod [M] w5 w6) := Mod.of_grown turn6.grown
    refine AnyT.run (i := 7) (by kernel_rfl) rfl rfl (fun K hK => ?_)
    refine oper_mapUpdate _ _ _ _ rfl _ _ _ rfl rfl rfl hrun ?_
    refine hK _ _ (fun h => absurd h (by rw [show more _ _ = false from by kernel_rfl]; decide)) ?_
    clear hK K hrun hc5
    refine AnyT.done (by kernel_rfl) ?_ _
    have HST := Lib.hid (H4.out.store M5.out O5.out HL.out.wf hn16 (by omega) (by omega) own6 M6.out)
    clear own6 turn6
    go_wp2
    go_ret2
    obtain ⟨T', fv', g1, g2⟩ := HST.out
    refine .mk ⟨by rw [HV2.out] <;> rfl, T', by rw [HV2.out]; exact ⟨fv', g1⟩, (MT3.out.same (M5.out.mono (by simp))).same (M6.out.mono (fun b hb => Or.inl (by simp at hb ⊢; simp [hb]))), fun b hb => ?_⟩
    rcases g2 b hb with h | h
    · exact Or.inl h
    · exact Or.inr ⟨Nat.le_trans MT3.out.size h.1, h.2⟩
  · have HV2 : Hid (m.put l = ((0, e), ⟨s2, m.gen, m.hor, m.f⟩)) := by unfold Hid; rw [HV.out, if_neg he]
    have hne : (e != 0) = true := by simpa using he
    clear HAL HAR
    go_wp2
    go_ret2
    exact .mk ⟨by rw [HV2.out] <;> rfl, T, by rw [HV2.out]; exact ⟨fv, H4.out⟩, MT3.out, fun b hb => Or.inl hb⟩
theorem pgrput_any (X : Nat) (T : List Nat) (D : Nat) (m : Pm) (p : Option Addr) (n c : Nat) (l : List Int) (w : World) (h : PgrAt w X T D m) (hl : BytesIn w p n c l) (hpT : ∀ a, p = some a → 0 < n → a.block ∉ T) :
    Calls Tryz.prog 10 #[.pointer (some ⟨X, 0, none⟩), .slice p n c] w (Ret (PgrR X T D (m.put l).2 (.tuple #[.int .i64 (m.put l).1.1, .int .i64 (m.put l).1.2]) w)) := by
  obtain ⟨sb, bm, M, fv, h⟩ := h
  refine (pgrput_in X T D m sb bm M p n c l w ⟨fv, h⟩ hl hpT).mono ?_
  rintro _ w' ⟨v, rfl, hv, T', ⟨fv', h'⟩, hm, ht⟩
  exact .mk ⟨hv, T', ⟨sb, bm, M, fv', h'⟩, hm.mono (fun b hb => Or.inl (h.sub b (List.mem_cons_of_mem _ hb))), fun b hb => (ht b hb).elim Or.inl (fun x => Or.inr x.1)⟩
end Go.Proofs.YtgimdodbajhpoaaGreatDoor
