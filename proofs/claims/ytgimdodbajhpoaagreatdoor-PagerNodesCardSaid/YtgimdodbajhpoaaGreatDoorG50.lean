/- PagerNodes: a node that is put is read as it was, fresh and from the disk. -/
import Derived.Handy
import Derived.Test.YtgimdodbajhpoaaGreatDoorG49
import Derived.Test.YtgimdodbajhpoaaGreatDoorG32
import Derived.Test.YtgimdodbajhpoaaGreatDoorG31
import Derived.Test.YtgimdodbajhpoaaGreatDoorG28
import Derived.Test.YtgimdodbajhpoaaGreatDoorG36
import Derived.Test.YtgimdodbajhpoaaGreatDoorG48
import Derived.Test.YtgimdodbajhpoaaGreatDoorG20
namespace Go.Proofs.YtgimdodbajhpoaaGreatDoor
open Go.RowKit Go.Maps
set_option linter.unusedSimpArgs false
set_option linter.unusedVariables false

def pnM (l : List Int) : Pm := ⟨⟨10, 3, []⟩, 1, 0, [(2, l)]⟩
theorem pn_put {l : List Int} (h : l.length ≤ 1016) : (⟨⟨10, 2, []⟩, 1, 0, []⟩ : Pm).put l = ((2, 0), pnM l) := by
  unfold Pm.put; rw [if_neg (by omega)]; rfl
theorem pn_read (l : List Int) (k : Ck) : (pnM l).read k 2 = (pad 1016 l, 0) := rfl
theorem pn_load {l : List Int} (h : l.length ≤ 1016) : ((ck0 10).pushes (pnM l).f).load 2 = (pad 1016 l, 0) := by
  have hs : ((ck0 10).pushes (pnM l).f).seen 2 = fr 2 l := rfl
  have ht : ((ck0 10).pushes (pnM l).f).there 2 = true := rfl
  unfold Ck.load
  rw [hs, ht, okPage_fr h (by omega) (by omega), if_pos ⟨rfl, rfl⟩, fr_take h]
theorem conv_str {w : World} {p : Option Addr} {n c : Nat} {l : List Int} (h : Sl w 1 p n c (bs l)) (hn : 0 < n) : (convert 40 9 (.slice p n c)).run Tryz.prog w = .ok (.string (strOfNums l)) w := by
  obtain ⟨b, off, rfl, _, hc⟩ := h.addr hn
  have hl := h.len
  rw [bs_len, Nat.mul_one] at hl
  exact run_convert_bytes_arg w 40 5 Tryz.underlying40 Tryz.underlying5 b off n c l hl (fun i hi => hc i _ (bs_get (by omega))) 9 Tryz.underlying9
theorem brBytes_wf {ks : List (List Int)} {kids : List Int} (hk : ∀ k ∈ ks, k.length ≤ 100 ∧ ∀ x ∈ k, 0 ≤ x ∧ x < 256) : ∀ x ∈ brBytes ks kids, 0 ≤ x ∧ x < 256 := by
  intro x hx
  unfold brBytes brHead brBody at hx
  simp only [List.mem_append, List.mem_cons, List.mem_flatMap, List.mem_range] at hx
  rcases hx with (rfl | hx | hx) | ⟨j, hj, hx⟩
  · omega
  · exact be_wf _ _ x hx
  · exact be_wf _ _ x hx
  · have hm : ks.getD j [] ∈ ks := by rw [getD_at hj]; exact List.getElem_mem _
    unfold brPart at hx
    simp only [List.mem_append, List.mem_cons] at hx
    rcases hx with rfl | hx | hx
    · have := (hk _ hm).1; omega
    · exact (hk _ hm).2 x hx
    · exact be_wf _ _ x hx
theorem payBr_wf {ks : List (List Int)} {kids : List Int} (hm : mayBr ks kids = true) (hk : ∀ k ∈ ks, ∀ x ∈ k, 0 ≤ x ∧ x < 256) : ∀ x ∈ payBr ks kids, 0 ≤ x ∧ x < 256 := by
  unfold payBr; rw [if_pos hm]
  exact brBytes_wf (fun k hkm => ⟨(riseL_key (mayBr_spec hm).1 hkm).2, hk k hkm⟩)
theorem payLeaf_wf {cs : List Cl} (hm : mayLeaf cs = true) (hk : ∀ c ∈ cs, (∀ x ∈ c.key, 0 ≤ x ∧ x < 256) ∧ ∀ x ∈ c.inl, 0 ≤ x ∧ x < 256) : ∀ x ∈ payLeaf cs, 0 ≤ x ∧ x < 256 := by
  unfold payLeaf; rw [if_pos hm]
  intro x hx
  unfold leafBytes at hx
  simp only [List.mem_append, List.mem_cons, List.mem_flatMap] at hx
  rcases hx with rfl | hx | ⟨c, hc, hx⟩
  · omega
  · exact be_wf _ _ x hx
  · have h1 := (riseL_key (mayLeaf_spec hm).2.1 (List.mem_map_of_mem (f := Cl.key) hc)).2
    unfold cellBytes valBytes at hx
    simp only [List.mem_append, List.mem_cons] at hx
    rcases hx with rfl | hx | hx
    · omega
    · exact (hk c hc).1 x hx
    · split at hx
      · rcases List.mem_append.1 hx with hx | hx
        · exact be_wf _ _ x hx
        · exact (hk c hc).2 x hx
      · simp only [List.mem_append, List.mem_cons, List.not_mem_nil, or_false] at hx
        rcases hx with hx | hx | rfl | rfl
        · exact be_wf _ _ x hx
        · exact be_wf _ _ x hx
        · omega
        · omega
theorem nil_freedN (w : World) : FreedIn w none 0 0 [] := ⟨Sl.nil w 2, by simp⟩
/-- A pager without fresh pages needs no other blocks than its own four. -/
theorem PgrIn.shrink {w : World} {X : Nat} {T : List Nat} {D : Nat} {m : Pm} {sb bm M : Nat} {fv : List (Int × Fp)} (h : PgrIn w X T D m sb bm M fv) (hf : m.f = []) : PgrIn w X [X, sb, bm, M] D m sb bm M fv := by
  have hfv : fv = [] := by
    have := h.fl; rw [hf] at this
    cases fv with
    | nil => rfl
    | cons a r => simp [mapV] at this
  subst hfv
  exact ⟨h.at_, h.pool, h.map, h.nemap, h.srt, h.fl, by simp, fun b hb => hb, fun b hb => h.lt b (h.sub b hb), h.small, h.g0, h.h0⟩
/-- Bytes lie in none of a pager's own four blocks. -/
theorem PgrIn.not_bytes {w : World} {X : Nat} {T : List Nat} {D : Nat} {m : Pm} {sb bm M : Nat} {fv : List (Int × Fp)} (h : PgrIn w X T D m sb bm M fv) {p : Option Addr} {n c : Nat} {l : List Int} (hs : Sl w 1 p n c (bs l)) : ∀ a, p = some a → 0 < n → a.block ∉ [X, sb, bm, M] := by
  intro a ha hn hb
  obtain ⟨b, off, e, _, hc⟩ := hs.addr hn
  rw [e] at ha; cases ha
  have hl := hs.len
  rw [bs_len, Nat.mul_one] at hl
  have h0 := hc 0 _ (bs_get (by omega))
  rw [Nat.add_zero] at h0
  simp only [List.mem_cons, List.not_mem_nil, or_false] at hb
  rcases hb with rfl | rfl | rfl | rfl
  · rw [cell_of_at h.at_] at h0
    match off, h0 with
    | 0, h0 => simp at h0
    | 1, h0 => simp at h0
    | 2, h0 => simp at h0
    | 3, h0 => simp at h0
    | 4, h0 => simp at h0
    | _ + 5, h0 => simp at h0
  · rw [cell_of_at h.pool.at_] at h0
    match off, h0 with
    | 0, h0 => simp at h0
    | 1, h0 => simp at h0
    | 2, h0 => simp at h0
    | _ + 3, h0 => simp at h0
  · obtain ⟨es, ck, hb⟩ := h.pool.map.is_map
    simp [World.cell?, hb] at h0
  · obtain ⟨es, ck, hb, _⟩ := h.map
    simp [World.cell?, hb] at h0
def NPayR2 (l : List Int) (w : World) (v : Value) (w' : World) : Prop := ∃ p n c, v = .slice p n c ∧ n = l.length ∧ Sl w' 1 p n c (bs l) ∧ Mod [] w w'
def pnB (A B10 B13 : Nat) (cp : Option Addr) (cn cc : Nat) (kp : Option Addr) (kn kc : Nat) (qp : Option Addr) (qn qc : Nat) (PV : List Int) (oi : Nat) (v : Value) (w : World) : Prop :=
  match oi with
  | 0 => v = .bool true
  | 1 => v = .pointer (some ⟨A, 0, none⟩)
  | 2 => v = .bool true
  | 3 => v = .bool true
  | 4 => v = .bool true
  | 5 => v = .iface 49 (.pointer (some ⟨B10, 0, none⟩))
  | 6 => ∃ p n c, v = .slice p n c ∧ n = PV.length ∧ Sl w 1 p n c (bs PV)
  | 7 => v = .string (strOfNums PV)
  | 8 => v = .agg #[.bool true, .slice cp cn cc, .slice kp kn kc, .slice qp qn qc]
  | 9 => ∃ p n c, v = .slice p n c ∧ n = PV.length ∧ Sl w 1 p n c (bs PV)
  | 10 => v = .string (strOfNums PV)
  | 11 => v = .bool true
  | 12 => v = .bool true
  | 13 => v = .bool true
  | 14 => v = .iface 49 (.pointer (some ⟨B13, 0, none⟩))
  | 15 => ∃ p n c, v = .slice p n c ∧ n = PV.length ∧ Sl w 1 p n c (bs PV)
  | 16 => v = .string (strOfNums PV)
  | 17 => v = .agg #[.bool true, .slice cp cn cc, .slice kp kn kc, .slice qp qn qc]
  | 18 => ∃ p n c, v = .slice p n c ∧ n = PV.length ∧ Sl w 1 p n c (bs PV)
  | 19 => v = .string (strOfNums PV)
  | 20 => v = .bool true
  | 21 => v = .bool true
  | 22 => v = .bool true
  | _ => True
theorem pnB_keep {A B10 B13 : Nat} {cp : Option Addr} {cn cc : Nat} {kp : Option Addr} {kn kc : Nat} {qp : Option Addr} {qn qc : Nat} {PV : List Int} {oi : Nat} {v : Value} {w w' : World} (hm : Mod [] w w') (hr : pnB A B10 B13 cp cn cc kp kn kc qp qn qc PV oi v w) : pnB A B10 B13 cp cn cc kp kn kc qp qn qc PV oi v w' := by
  have hk := Keep.of_mod hm
  unfold pnB at hr ⊢
  split at hr
  · exact hr
  · exact hr
  · exact hr
  · exact hr
  · exact hr
  · exact hr
  · obtain ⟨p, n, c, h1, h2, h3⟩ := hr; exact ⟨p, n, c, h1, h2, h3.keep hk⟩
  · exact hr
  · exact hr
  · obtain ⟨p, n, c, h1, h2, h3⟩ := hr; exact ⟨p, n, c, h1, h2, h3.keep hk⟩
  · exact hr
  · exact hr
  · exact hr
  · exact hr
  · exact hr
  · obtain ⟨p, n, c, h1, h2, h3⟩ := hr; exact ⟨p, n, c, h1, h2, h3.keep hk⟩
  · exact hr
  · exact hr
  · obtain ⟨p, n, c, h1, h2, h3⟩ := hr; exact ⟨p, n, c, h1, h2, h3.keep hk⟩
  · exact hr
  · exact hr
  · exact hr
  · exact hr
  · trivial
def pnL (A B10 B13 : Nat) (cp : Option Addr) (cn cc : Nat) (kp : Option Addr) (kn kc : Nat) (qp : Option Addr) (qn qc : Nat) (PV : List Int) (oi : Nat) (v : Value) (w : World) : Prop :=
  match oi with
  | 0 => v = .bool false
  | 1 => v = .pointer (some ⟨A, 0, none⟩)
  | 2 => v = .bool false
  | 3 => v = .bool true
  | 4 => v = .bool true
  | 5 => v = .iface 78 (.pointer (some ⟨B10, 0, none⟩))
  | 6 => ∃ p n c, v = .slice p n c ∧ n = PV.length ∧ Sl w 1 p n c (bs PV)
  | 7 => v = .string (strOfNums PV)
  | 8 => v = .agg #[.bool false, .slice cp cn cc, .slice kp kn kc, .slice qp qn qc]
  | 9 => ∃ p n c, v = .slice p n c ∧ n = PV.length ∧ Sl w 1 p n c (bs PV)
  | 10 => v = .string (strOfNums PV)
  | 11 => v = .bool true
  | 12 => v = .bool true
  | 13 => v = .bool true
  | 14 => v = .iface 78 (.pointer (some ⟨B13, 0, none⟩))
  | 15 => ∃ p n c, v = .slice p n c ∧ n = PV.length ∧ Sl w 1 p n c (bs PV)
  | 16 => v = .string (strOfNums PV)
  | 17 => v = .agg #[.bool false, .slice cp cn cc, .slice kp kn kc, .slice qp qn qc]
  | 18 => ∃ p n c, v = .slice p n c ∧ n = PV.length ∧ Sl w 1 p n c (bs PV)
  | 19 => v = .string (strOfNums PV)
  | 20 => v = .bool true
  | 21 => v = .bool true
  | 22 => v = .bool true
  | _ => True
theorem pnL_keep {A B10 B13 : Nat} {cp : Option Addr} {cn cc : Nat} {kp : Option Addr} {kn kc : Nat} {qp : Option Addr} {qn qc : Nat} {PV : List Int} {oi : Nat} {v : Value} {w w' : World} (hm : Mod [] w w') (hr : pnL A B10 B13 cp cn cc kp kn kc qp qn qc PV oi v w) : pnL A B10 B13 cp cn cc kp kn kc qp qn qc PV oi v w' := by
  have hk := Keep.of_mod hm
  unfold pnL at hr ⊢
  split at hr
  · exact hr
  · exact hr
  · exact hr
  · exact hr
  · exact hr
  · exact hr
  · obtain ⟨p, n, c, h1, h2, h3⟩ := hr; exact ⟨p, n, c, h1, h2, h3.keep hk⟩
  · exact hr
  · exact hr
  · obtain ⟨p, n, c, h1, h2, h3⟩ := hr; exact ⟨p, n, c, h1, h2, h3.keep hk⟩
  · exact hr
  · exact hr
  · exact hr
  · exact hr
  · exact hr
  · obtain ⟨p, n, c, h1, h2, h3⟩ := hr; exact ⟨p, n, c, h1, h2, h3.keep hk⟩
  · exact hr
  · exact hr
  · obtain ⟨p, n, c, h1, h2, h3⟩ := hr; exact ⟨p, n, c, h1, h2, h3.keep hk⟩
  · exact hr
  · exact hr
  · exact hr
  · exact hr
  · trivial
set_option maxRecDepth 100000 in
set_option maxHeartbeats 16000000 in
theorem pnodes_br (cp : Option Addr) (cn cc : Nat) (xs : List Cv) (kp : Option Addr) (kn kc : Nat) (ks : List Bv) (qp : Option Addr) (qn qc : Nat) (kids : List Int) (w : World) (h : NdIn w true cp cn cc xs kp kn kc ks qp qn qc kids) :
    Calls Tryz.prog 3 #[.agg #[.bool true, .slice cp cn cc, .slice kp kn kc, .slice qp qn qc]] w (Ret (BoolM true w)) := by
  have HSML := Lib.hid (small_any true cp cn cc xs kp kn kc ks qp qn qc kids)
  have HN := Lib.hid h
  obtain ⟨W0, hW0⟩ : ∃ W0, W0 = w.alloc (.cells #[.bool true, .slice cp cn cc, .slice kp kn kc, .slice qp qn qc] 26) := ⟨_, rfl⟩
  have HM0 : Hid (Mod [] w W0) := by rw [hW0]; exact Mod.of_alloc w _
  have HA0 : Hid (W0.heap[w.heap.size]? = some (.cells #[.bool true, .slice cp cn cc, .slice kp kn kc, .slice qp qn qc] 26 (0, 0))) := by rw [hW0]; exact at_alloc w _
  clear h
  go_enter Tryz.func3, Tryz.ntmps3
  go_wp2_with fail
  rw [← hW0]
  clear hW0
  obtain ⟨A, hA⟩ : ∃ A, A = w.heap.size := ⟨_, rfl⟩
  rw [← hA] at HA0 ⊢
  have HAE := Lib.hid hA
  clear hA
  refine (awake_any _).mono ?_
  rintro _ w1 ⟨_, rfl, rfl, m1⟩
  have M1 := Lib.hid (HM0.out.same m1)
  have HA1 := Lib.hid (m1.at HA0.out (by simp))
  clear m1
  have a0 : w1.cell? ⟨A, 0, none⟩ = some (.bool true) := cell_of_at HA1.out 0
  have a1 : w1.cell? ⟨A, 1, none⟩ = some (.slice cp cn cc) := cell_of_at HA1.out 1
  have a2 : w1.cell? ⟨A, 2, none⟩ = some (.slice kp kn kc) := cell_of_at HA1.out 2
  have a3 : w1.cell? ⟨A, 3, none⟩ = some (.slice qp qn qc) := cell_of_at HA1.out 3
  go_wp2_with fail
  refine (HSML.out w1 (HN.out.mod0 M1.out)).mono ?_
  rintro _ w2 ⟨_, rfl, B, rfl, hsm, m2⟩
  have M2 := Lib.hid (M1.out.same m2)
  have HA2 := Lib.hid (m2.at HA1.out (by simp))
  have HSM : Hid (B = true → csz xs + kz ks + kids.length ≤ 5000) := hsm
  clear m2 hsm a0 a1 a2 a3
  have a0 : w2.cell? ⟨A, 0, none⟩ = some (.bool true) := cell_of_at HA2.out 0
  have a1 : w2.cell? ⟨A, 1, none⟩ = some (.slice cp cn cc) := cell_of_at HA2.out 1
  have a2 : w2.cell? ⟨A, 2, none⟩ = some (.slice kp kn kc) := cell_of_at HA2.out 2
  have a3 : w2.cell? ⟨A, 3, none⟩ = some (.slice qp qn qc) := cell_of_at HA2.out 3
  cases B with
  | false =>
    go_wp2
    go_ret
    exact .mk ⟨rfl, M2.out⟩
  | true =>
    have hsm := HSM.out rfl
    have HSMN := Lib.hid hsm
    clear hsm HSM
    go_wp2_with fail
    refine (qmay_br cp cn cc xs kp kn kc ks qp qn qc kids w2 (HN.out.mod0 M2.out) HSMN.out).mono ?_
    rintro _ w3 ⟨_, rfl, rfl, m3⟩
    have M3 := Lib.hid (M2.out.same m3)
    have HA3 := Lib.hid (m3.at HA2.out (by simp))
    clear m3 a0 a1 a2 a3
    obtain ⟨MB, hMB⟩ : ∃ MB, MB = mayBr (ks.map Bv.l) kids := ⟨_, rfl⟩
    rw [← hMB]
    have HMB := Lib.hid hMB
    clear hMB
    cases MB with
    | false =>
      go_wp2
      go_ret
      exact .mk ⟨rfl, M3.out⟩
    | true =>
      have HMAY : Hid ((Nd.br (ks.map Bv.l) kids).may = true) := HMB.out.symm
      go_wp2_with fail
      refine (pnew_any 10 2 none 0 0 [] _ (nil_freedN _)).mono ?_
      rintro _ w4 ⟨_, rfl, m4, h4⟩
      rw [show PS.new 10 2 [] = some ⟨10, 2, []⟩ from rfl] at h4
      obtain ⟨sb0, bm0, rfl, hp4, _, _⟩ := h4
      have HP4 := Lib.hid hp4
      have M4 := Lib.hid (M3.out.same m4)
      have HA4 := Lib.hid (m4.at HA3.out (by simp))
      clear m4 hp4
      go_wp2_with fail
      refine (dnew_any 10 10 w4 (by decide)).mono ?_
      rintro _ w5 ⟨_, rfl, D, Td, rfl, hd5, m5, hdb⟩
      have HD5 := Lib.hid hd5
      have HP5 := Lib.hid (HP4.out.mod m5 (by simp) (by simp))
      have M5 := Lib.hid (M4.out.same m5)
      have HA5 := Lib.hid (m5.at HA4.out (by simp))
      have HDL : Hid (∀ b ∈ Td, b < w5.heap.size) := by obtain ⟨gs, ws, vs, vw, M, DM, S, hh⟩ := hd5; exact hh.lt
      have HDW0 : Hid (∀ b ∈ Td, w.heap.size ≤ b) := fun b hb => by have := hdb b hb; have := M4.out.size; omega
      have HDB : Hid (∀ b ∈ Td, A < b) := fun b hb => by have := hdb b hb; have := lt_of_at HA4.out; omega
      clear m5 hd5 hdb
      go_wp2_with fail
      refine (pgrnew_any D sb0 bm0 ⟨10, 2, []⟩ 1 0 w5 HP5.out (by omega) (by omega)).mono ?_
      rintro _ w6 ⟨_, rfl, X, T0, rfl, hx6, m6, hxb⟩
      have HX6 : Hid (PgrAt w6 X T0 D ⟨⟨10, 2, []⟩, 1, 0, []⟩) := hx6
      have HD6 := Lib.hid (HD5.out.mod m6 (by simp))
      have M6 := Lib.hid (M5.out.same m6)
      have HTB : Hid (∀ b ∈ T0, w5.heap.size ≤ b) := hxb
      have HA6 := Lib.hid (m6.at HA5.out (by simp))
      have HS56 := Lib.hid m6.size
      clear m6 hx6 hxb
      have a0 : w6.cell? ⟨A, 0, none⟩ = some (.bool true) := cell_of_at HA6.out 0
      have a1 : w6.cell? ⟨A, 1, none⟩ = some (.slice cp cn cc) := cell_of_at HA6.out 1
      have a2 : w6.cell? ⟨A, 2, none⟩ = some (.slice kp kn kc) := cell_of_at HA6.out 2
      have a3 : w6.cell? ⟨A, 3, none⟩ = some (.slice qp qn qc) := cell_of_at HA6.out 3
      go_wp2_with fail
      refine (of_any true cp cn cc xs kp kn kc ks qp qn qc kids w6 (HN.out.mod0 M6.out) (by simp)).mono ?_
      rintro _ w7 ⟨_, rfl, m7, h7⟩
      rw [if_pos rfl] at h7
      obtain ⟨Bo, rfl, hbr7⟩ := h7
      have M7 := Lib.hid (M6.out.same m7)
      have HA7 := Lib.hid (m7.at HA6.out (by simp))
      obtain ⟨sb, bm, M, fv, hx6⟩ := HX6.out
      have HX7 : Hid (PgrIn w7 X [X, sb, bm, M] D ⟨⟨10, 2, []⟩, 1, 0, []⟩ sb bm M fv) := (hx6.shrink rfl).mod m7 (by simp)
      have HXT : Hid (∀ b ∈ [X, sb, bm, M], w5.heap.size ≤ b) := fun b hb => HTB.out b (hx6.sub b hb)
      have HD7 := Lib.hid (HD6.out.mod m7 (by simp))
      have HS7 : Hid (w5.heap.size ≤ w7.heap.size) := Nat.le_trans HS56.out m7.size
      have HPAY := Lib.hid (brpay_any Bo ks kids w7 hbr7 (by have := (mayBr_spec HMAY.out).2.2.2; omega))
      clear m7 hbr7 hx6 HX6 HTB a0 a1 a2 a3
      go_wp2_with fail
      refine HPAY.out.mono ?_
      rintro _ w8 ⟨_, rfl, p8, n8, c8, rfl, e8, z8, s8, m8⟩
      have HPL := Lib.hid (payBr_len (ks.map Bv.l) kids)
      have HPW : Hid (BytesIn w8 p8 n8 c8 (payBr (ks.map Bv.l) kids)) := ⟨s8, fun x hx => payBr_wf HMAY.out (fun k hk => by obtain ⟨b, hb, rfl⟩ := List.mem_map.1 hk; exact BytesIn.wf (HN.out.keys.io b hb)) x hx⟩
      have M8 := Lib.hid (M7.out.same m8)
      have HX8 := Lib.hid (HX7.out.mod m8 (by simp))
      have HM58 : Hid (w5.heap.size ≤ w8.heap.size) := Nat.le_trans HS7.out m8.size
      have HPO : Hid (∀ a, p8 = some a → 0 < n8 → a.block ∉ [X, sb, bm, M]) := fun a ha h0 => HX8.out.not_bytes s8 a ha h0
      have HD8 := Lib.hid (HD7.out.mod m8 (by simp))
      have HA8 := Lib.hid (m8.at HA7.out (by simp))
      have hpos : 0 < (payBr (ks.map Bv.l) kids).length := by
        unfold payBr; rw [if_pos (show mayBr (ks.map Bv.l) kids = true from HMAY.out)]; unfold brBytes brHead; simp
      obtain ⟨PV, hPV⟩ : ∃ PV, PV = payBr (ks.map Bv.l) kids := ⟨_, rfl⟩
      have HPV := Lib.hid hPV
      have HE8 : Hid (n8 = PV.length) := by rw [hPV]; exact e8
      have HPOS : Hid (0 < PV.length) := by rw [hPV]; exact hpos
      have HPL2 : Hid (PV.length ≤ 1016) := by rw [hPV]; exact HPL.out
      have HPW2 : Hid (BytesIn w8 p8 n8 c8 PV) := by rw [hPV]; exact HPW.out
      clear m8 s8 z8 hPV HPAY e8 hpos HPL HPW
      have HPUT := Lib.hid (pn_put HPL2.out)
      go_wp2_with fail
      refine (pgrput_in X _ D _ sb bm M p8 n8 c8 PV w8 ⟨fv, HX8.out⟩ HPW2.out HPO.out).mono ?_
      rintro _ w9 ⟨_, rfl, rfl, T9, hx9, m9, ht9⟩
      rw [HPUT.out] at hx9 ⊢
      simp only at hx9 ⊢
      have HX9 : Hid (PgrAt w9 X T9 D (pnM PV)) := by obtain ⟨fv, hh⟩ := hx9; exact ⟨sb, bm, M, fv, hh⟩
      have hlt5 : ∀ b ∈ [sb, bm, M], w5.heap.size ≤ b := fun b hb => HXT.out b (List.mem_cons_of_mem _ hb)
      have HD9 := Lib.hid (HD8.out.mod m9 (fun b hb hbs => by have := HDL.out b hb; have := hlt5 b hbs; omega))
      have hs5 : A < w5.heap.size := lt_of_at HA5.out
      have hs5w : w.heap.size ≤ w5.heap.size := M5.out.size
      have HA9 := Lib.hid (m9.at HA8.out (fun hb => by have := hlt5 A hb; omega))
      have M9 : Hid (Mod [] w w9) := M8.out.trans m9 (fun b hb => Or.inr (by have := hlt5 b hb; omega))
      have HT9 : Hid (∀ b ∈ T9, w5.heap.size ≤ b) := fun b hb => by
        rcases ht9 b hb with h | h
        · exact HXT.out b h
        · have := h.1; have := M8.out.size
          have h58 : w5.heap.size ≤ w8.heap.size := by have := HM58.out; omega
          omega
      have HNR := Lib.hid (pgrnode_any X T9 D Td (pnM PV) (ck0 10) 2 (.br (ks.map Bv.l) kids) w9 HX9.out HD9.out (by omega) (by rw [pn_read, HPV.out]; rfl) HMAY.out)
      have HS89 := Lib.hid m9.size
      clear hx9 m9 ht9 hlt5
      go_wp2_with fail
      refine HNR.out.mono ?_
      rintro _ w10 ⟨_, rfl, u10, rfl, h10, m10⟩
      obtain ⟨B10, kv10, rfl, hb10, ha10, hk10⟩ := h10
      have HAG := Lib.hid ha10
      have HB10 := Lib.hid hb10
      have HK10 := Lib.hid hk10
      have HX10 := Lib.hid (HX9.out.mod m10 (by simp))
      have HD10 := Lib.hid (HD9.out.mod m10 (by simp))
      have HA10 := Lib.hid (m10.at HA9.out (by simp))
      have M10 := Lib.hid (M9.out.same m10)
      clear hb10 ha10 hk10 m10 HNR
      go_wp2_with fail
      refine (dnode_no D Td (ck0 10) 2 w10 HD10.out (ck0_load 10 (by decide))).mono ?_
      rintro _ w11 ⟨_, rfl, rfl, m11⟩
      have HX11 := Lib.hid (HX10.out.mod m11 (by simp))
      have HD11 := Lib.hid (HD10.out.mod m11 (by simp))
      have HA11 := Lib.hid (m11.at HA10.out (by simp))
      have HB11 := Lib.hid (HB10.out.mod m11 (by simp))
      have HAG11 := Lib.hid (HAG.out.mod m11 (by simp) HB10.out.lt)
      have HDL11 : Hid (∀ b ∈ Td, b < w9.heap.size) := fun b hb => Nat.lt_of_lt_of_le (HDL.out b hb) (Nat.le_trans HM58.out HS89.out)
      have HDW : Hid (∀ b ∈ Td, w.heap.size ≤ b) := HDW0.out
      have M11 := Lib.hid (M10.out.same m11)
      clear m11
      go_wp2_with fail
      refine (flush_any X T9 D Td (pnM PV) (ck0 10) w11 HX11.out HD11.out (fun b hb hbt => by have := HDL.out b hb; have := HT9.out b hbt; omega) rfl rfl (by intro p hp; simp [pnM] at hp; rw [hp]; rfl) (by simp [pnM, ck0])).mono ?_
      rintro _ w12 ⟨_, rfl, rfl, Td12, hd12, m12, ht12⟩
      have hd12' := hd12
      have HX12 := Lib.hid (HX11.out.mod m12 (fun b hb hbt => by have := HDL.out b hbt; have := HT9.out b hb; omega))
      have HD12 := Lib.hid hd12
      have HA12 := Lib.hid (m12.at HA11.out (fun hb => by have := HDB.out A hb; omega))
      have HB12 := Lib.hid (HB11.out.turned HAG11.out m12 (fun b hb => HDL11.out b hb))
      have M12 : Hid (Mod [] w w12) := M11.out.trans m12 (fun b hb => Or.inr (by have := HDW.out b hb; omega))
      clear hd12 hd12' m12 ht12
      go_wp2_with fail
      refine (dnode_any D Td12 _ 2 (.br (ks.map Bv.l) kids) w12 HD12.out (by rw [pn_load HPL2.out, HPV.out]; rfl) HMAY.out).mono ?_
      rintro _ w13 ⟨_, rfl, u13, rfl, h13, m13⟩
      obtain ⟨B13, kv13, rfl, hb13, ha13, hk13⟩ := h13
      have HB13 := Lib.hid hb13.br
      have HK13 := Lib.hid hk13
      have HA13 := Lib.hid (m13.at HA12.out (by simp))
      have HC13 := Lib.hid (HB12.out.mod0 m13)
      have M13 := Lib.hid (M12.out.same m13)
      clear hb13 ha13 hk13 m13
      have a0 : w13.cell? ⟨A, 0, none⟩ = some (.bool true) := cell_of_at HA13.out 0
      have a1 : w13.cell? ⟨A, 1, none⟩ = some (.slice cp cn cc) := cell_of_at HA13.out 1
      have a2 : w13.cell? ⟨A, 2, none⟩ = some (.slice kp kn kc) := cell_of_at HA13.out 2
      have a3 : w13.cell? ⟨A, 3, none⟩ = some (.slice qp qn qc) := cell_of_at HA13.out 3
      have hAl : A < w13.heap.size := lt_of_at HA13.out
      have hta : ∀ (W : World) (v : Value), (Instr.typeAssert (.iface 49 v) 42 49 true).run Tryz.prog W = .ok (.tuple #[v, .bool true]) W := fun W v => by kernel_rfl
      have HPA : Hid (∀ W, Mod [] w13 W → Calls Tryz.prog 118 #[.pointer (some ⟨B10, 0, none⟩)] W (Ret (NPayR2 PV W))) := fun W hm => by
        have h := brpay_any B10 kv10 kids W (HC13.out.mod0 hm) (by rw [HK10.out]; have := (mayBr_spec HMAY.out).2.2.2; omega)
        rw [HK10.out, ← HPV.out] at h; exact h.mono fun _ _ ⟨v, e, p, n, c, q1, q2, q3, q4, q5⟩ => ⟨v, e, p, n, c, q1, q2, q4, q5⟩
      have HPB : Hid (∀ W, Mod [] w13 W → Calls Tryz.prog 118 #[.pointer (some ⟨B13, 0, none⟩)] W (Ret (NPayR2 PV W))) := fun W hm => by
        have h := brpay_any B13 kv13 kids W (HB13.out.mod0 hm) (by rw [HK13.out]; have := (mayBr_spec HMAY.out).2.2.2; omega)
        rw [HK13.out, ← HPV.out] at h; exact h.mono fun _ _ ⟨v, e, p, n, c, q1, q2, q3, q4, q5⟩ => ⟨v, e, p, n, c, q1, q2, q4, q5⟩
      have HPQ : Hid (∀ W, Mod [] w13 W → Calls Tryz.prog 15 #[.agg #[.bool true, .slice cp cn cc, .slice kp kn kc, .slice qp qn qc]] W (Ret (QPayR PV W))) := fun W hm => by
        have h := qpay_br cp cn cc xs kp kn kc ks qp qn qc kids W (HN.out.mod0 (M13.out.same hm)) HSMN.out HMB.out.symm
        rw [← HPV.out] at h; exact h
      unfold NPayR2 at HPA HPB
      unfold QPayR at HPQ
      go_wp2_with fail
      refine par_region (by kernel_rfl) (fun oi vs w => pnB A B10 B13 cp cn cc kp kn kc qp qn qc PV oi (vs oi) w) (fun w' => Mod [] w13 w') (by kernel_rfl) (fun j vs vs' w o _ h1 _ h2 => by rw [← h1]; exact h2) ⟨⟨⟨⟨⟨⟨⟨⟨⟨⟨⟨⟨⟨⟨⟨⟨⟨⟨⟨⟨⟨⟨⟨trivial, ?_⟩, ?_⟩, ?_⟩, ?_⟩, ?_⟩, ?_⟩, ?_⟩, ?_⟩, ?_⟩, ?_⟩, ?_⟩, ?_⟩, ?_⟩, ?_⟩, ?_⟩, ?_⟩, ?_⟩, ?_⟩, ?_⟩, ?_⟩, ?_⟩, ?_⟩, ?_⟩ (Mod.of_drew w13) ?_
      · intro o ho listed vs a w' inv hun haft K hK
        obtain rfl := Option.some.inj ho
        refine par_run rfl ?_
        have e0 := inv.old 16 (by kernel_rfl)
        have INV := Lib.hid inv
        clear inv haft hun ho
        simp at e0
        go_simp
        exact hK _ _ INV.out.inv INV.out.val rfl
      · intro o ho listed vs a w' inv hun haft K hK
        obtain rfl := Option.some.inj ho
        refine par_run rfl ?_
        have e0 := inv.old 1 (by kernel_rfl)
        have INV := Lib.hid inv
        clear inv haft hun ho
        simp at e0
        go_simp
        exact hK _ _ INV.out.inv INV.out.val rfl
      · intro o ho listed vs a w' inv hun haft K hK
        obtain rfl := Option.some.inj ho
        refine par_run rfl ?_
        obtain ⟨e0, r0⟩ := inv.get haft 1 98 (by kernel_rfl) (by kernel_rfl)
        have INV := Lib.hid inv
        clear inv haft hun ho
        change vs 1 = .pointer (some ⟨A, 0, none⟩) at r0
        rw [r0] at e0
        have g0 := getD_opt e0
        have c0 := (INV.out.inv.cell (a := ⟨A, 0, none⟩) hAl (by simp)).trans a0
        go_simp
        exact hK _ _ INV.out.inv INV.out.val rfl
      · intro o ho listed vs a w' inv hun haft K hK
        obtain rfl := Option.some.inj ho
        refine par_run rfl ?_
        obtain ⟨e0, r0⟩ := inv.get haft 0 97 (by kernel_rfl) (by kernel_rfl)
        obtain ⟨e1, r1⟩ := inv.get haft 2 99 (by kernel_rfl) (by kernel_rfl)
        have INV := Lib.hid inv
        clear inv haft hun ho
        change vs 0 = .bool true at r0
        rw [r0] at e0
        have g0 := getD_opt e0
        change vs 2 = .bool true at r1
        rw [r1] at e1
        have g1 := getD_opt e1
        go_simp
        exact hK _ _ INV.out.inv INV.out.val rfl
      · intro o ho listed vs a w' inv hun haft K hK
        obtain rfl := Option.some.inj ho
        refine par_run rfl ?_
        obtain ⟨e0, r0⟩ := inv.get haft 3 100 (by kernel_rfl) (by kernel_rfl)
        have INV := Lib.hid inv
        clear inv haft hun ho
        change vs 3 = .bool true at r0
        rw [r0] at e0
        have g0 := getD_opt e0
        go_simp
        exact hK _ _ INV.out.inv INV.out.val rfl
      · intro o ho listed vs a w' inv hun haft K hK
        obtain rfl := Option.some.inj ho
        obtain ⟨e0, r0⟩ := inv.get haft 4 101 (by kernel_rfl) (by kernel_rfl)
        have e1 := inv.old 9 (by kernel_rfl)
        have INV := Lib.hid inv
        clear inv haft hun ho
        change vs 4 = .bool true at r0
        rw [r0] at e0
        have g0 := getD_opt e0
        simp at e1
        refine par_guard rfl (by kernel_rfl) e0 ?_
        rw [if_pos rfl]
        go_simp
        exact hK _ _ INV.out.inv INV.out.val rfl
      · intro o ho listed vs a w' inv hun haft K hK
        obtain rfl := Option.some.inj ho
        obtain ⟨e0, r0⟩ := inv.get haft 4 101 (by kernel_rfl) (by kernel_rfl)
        obtain ⟨e1, r1⟩ := inv.get haft 5 102 (by kernel_rfl) (by kernel_rfl)
        have INV := Lib.hid inv
        clear inv haft hun ho
        change vs 4 = .bool true at r0
        rw [r0] at e0
        have g0 := getD_opt e0
        change vs 5 = .iface 49 (.pointer (some ⟨B10, 0, none⟩)) at r1
        rw [r1] at e1
        have g1 := getD_opt e1
        refine par_guard rfl (by kernel_rfl) e0 ?_
        rw [if_pos rfl]
        go_simp
        go_invoke
        go_simp
        refine (HPA.out _ INV.out.inv).mono ?_
        rintro _ w3 ⟨_, rfl, p3, n3, c3, rfl, e3, s3, m3⟩
        exact hK _ _ (INV.out.inv.same m3) (fun j hj hl => pnB_keep m3 (INV.out.val j hj hl)) ⟨_, _, _, rfl, e3, s3⟩
      · intro o ho listed vs a w' inv hun haft K hK
        obtain rfl := Option.some.inj ho
        obtain ⟨e0, r0⟩ := inv.get haft 4 101 (by kernel_rfl) (by kernel_rfl)
        obtain ⟨e1, r1⟩ := inv.get haft 6 103 (by kernel_rfl) (by kernel_rfl)
        have INV := Lib.hid inv
        clear inv haft hun ho
        change vs 4 = .bool true at r0
        rw [r0] at e0
        have g0 := getD_opt e0
        have g1 := getD_opt e1
        refine par_guard rfl (by kernel_rfl) e0 ?_
        rw [if_pos rfl]
        obtain ⟨p7, n7, c7, h7, q7, s7⟩ := r1
        rw [h7] at e1
        have g1 := getD_opt e1
        have hcv := conv_str s7 (by have := HPOS.out; omega)
        clear s7 h7 q7
        go_simp
        exact hK _ _ INV.out.inv INV.out.val rfl
      · intro o ho listed vs a w' inv hun haft K hK
        obtain rfl := Option.some.inj ho
        obtain ⟨e0, r0⟩ := inv.get haft 4 101 (by kernel_rfl) (by kernel_rfl)
        have e1 := inv.old 1 (by kernel_rfl)
        have INV := Lib.hid inv
        clear inv haft hun ho
        change vs 4 = .bool true at r0
        rw [r0] at e0
        have g0 := getD_opt e0
        simp at e1
        have c0 := (INV.out.inv.cell (a := ⟨A, 0, none⟩) hAl (by simp)).trans a0
        have c1 := (INV.out.inv.cell (a := ⟨A, 1, none⟩) hAl (by simp)).trans a1
        have c2 := (INV.out.inv.cell (a := ⟨A, 2, none⟩) hAl (by simp)).trans a2
        have c3 := (INV.out.inv.cell (a := ⟨A, 3, none⟩) hAl (by simp)).trans a3
        refine par_guard rfl (by kernel_rfl) e0 ?_
        rw [if_pos rfl]
        go_simp
        exact hK _ _ INV.out.inv INV.out.val rfl
      · intro o ho listed vs a w' inv hun haft K hK
        obtain rfl := Option.some.inj ho
        obtain ⟨e0, r0⟩ := inv.get haft 4 101 (by kernel_rfl) (by kernel_rfl)
        obtain ⟨e1, r1⟩ := inv.get haft 8 105 (by kernel_rfl) (by kernel_rfl)
        have INV := Lib.hid inv
        clear inv haft hun ho
        change vs 4 = .bool true at r0
        rw [r0] at e0
        have g0 := getD_opt e0
        change vs 8 = .agg #[.bool true, .slice cp cn cc, .slice kp kn kc, .slice qp qn qc] at r1
        rw [r1] at e1
        have g1 := getD_opt e1
        refine par_guard rfl (by kernel_rfl) e0 ?_
        rw [if_pos rfl]
        go_simp
        refine (HPQ.out _ INV.out.inv).mono ?_
        rintro _ w3 ⟨_, rfl, p3, n3, c3, rfl, e3, s3, m3⟩
        exact hK _ _ (INV.out.inv.same m3) (fun j hj hl => pnB_keep m3 (INV.out.val j hj hl)) ⟨_, _, _, rfl, e3, s3⟩
      · intro o ho listed vs a w' inv hun haft K hK
        obtain rfl := Option.some.inj ho
        obtain ⟨e0, r0⟩ := inv.get haft 4 101 (by kernel_rfl) (by kernel_rfl)
        obtain ⟨e1, r1⟩ := inv.get haft 9 106 (by kernel_rfl) (by kernel_rfl)
        have INV := Lib.hid inv
        clear inv haft hun ho
        change vs 4 = .bool true at r0
        rw [r0] at e0
        have g0 := getD_opt e0
        have g1 := getD_opt e1
        refine par_guard rfl (by kernel_rfl) e0 ?_
        rw [if_pos rfl]
        obtain ⟨p7, n7, c7, h7, q7, s7⟩ := r1
        rw [h7] at e1
        have g1 := getD_opt e1
        have hcv := conv_str s7 (by have := HPOS.out; omega)
        clear s7 h7 q7
        go_simp
        exact hK _ _ INV.out.inv INV.out.val rfl
      · intro o ho listed vs a w' inv hun haft K hK
        obtain rfl := Option.some.inj ho
        obtain ⟨e0, r0⟩ := inv.get haft 4 101 (by kernel_rfl) (by kernel_rfl)
        obtain ⟨e1, r1⟩ := inv.get haft 7 104 (by kernel_rfl) (by kernel_rfl)
        obtain ⟨e2, r2⟩ := inv.get haft 10 107 (by kernel_rfl) (by kernel_rfl)
        have INV := Lib.hid inv
        clear inv haft hun ho
        change vs 4 = .bool true at r0
        rw [r0] at e0
        have g0 := getD_opt e0
        change vs 7 = .string (strOfNums PV) at r1
        rw [r1] at e1
        have g1 := getD_opt e1
        change vs 10 = .string (strOfNums PV) at r2
        rw [r2] at e2
        have g2 := getD_opt e2
        refine par_guard rfl (by kernel_rfl) e0 ?_
        rw [if_pos rfl]
        go_simp
        exact hK _ _ INV.out.inv INV.out.val rfl
      · intro o ho listed vs a w' inv hun haft K hK
        obtain rfl := Option.some.inj ho
        refine par_run rfl ?_
        obtain ⟨e0, r0⟩ := inv.get haft 4 101 (by kernel_rfl) (by kernel_rfl)
        obtain ⟨e1, r1⟩ := inv.get haft 11 108 (by kernel_rfl) (by kernel_rfl)
        have INV := Lib.hid inv
        clear inv haft hun ho
        change vs 4 = .bool true at r0
        rw [r0] at e0
        have g0 := getD_opt e0
        change vs 11 = .bool true at r1
        rw [r1] at e1
        have g1 := getD_opt e1
        go_simp
        exact hK _ _ INV.out.inv INV.out.val rfl
      · intro o ho listed vs a w' inv hun haft K hK
        obtain rfl := Option.some.inj ho
        refine par_run rfl ?_
        obtain ⟨e0, r0⟩ := inv.get haft 12 109 (by kernel_rfl) (by kernel_rfl)
        have INV := Lib.hid inv
        clear inv haft hun ho
        change vs 12 = .bool true at r0
        rw [r0] at e0
        have g0 := getD_opt e0
        go_simp
        exact hK _ _ INV.out.inv INV.out.val rfl
      · intro o ho listed vs a w' inv hun haft K hK
        obtain rfl := Option.some.inj ho
        obtain ⟨e0, r0⟩ := inv.get haft 13 110 (by kernel_rfl) (by kernel_rfl)
        have e1 := inv.old 13 (by kernel_rfl)
        have INV := Lib.hid inv
        clear inv haft hun ho
        change vs 13 = .bool true at r0
        rw [r0] at e0
        have g0 := getD_opt e0
        simp at e1
        refine par_guard rfl (by kernel_rfl) e0 ?_
        rw [if_pos rfl]
        go_simp
        exact hK _ _ INV.out.inv INV.out.val rfl
      · intro o ho listed vs a w' inv hun haft K hK
        obtain rfl := Option.some.inj ho
        obtain ⟨e0, r0⟩ := inv.get haft 13 110 (by kernel_rfl) (by kernel_rfl)
        obtain ⟨e1, r1⟩ := inv.get haft 14 111 (by kernel_rfl) (by kernel_rfl)
        have INV := Lib.hid inv
        clear inv haft hun ho
        change vs 13 = .bool true at r0
        rw [r0] at e0
        have g0 := getD_opt e0
        change vs 14 = .iface 49 (.pointer (some ⟨B13, 0, none⟩)) at r1
        rw [r1] at e1
        have g1 := getD_opt e1
        refine par_guard rfl (by kernel_rfl) e0 ?_
        rw [if_pos rfl]
        go_simp
        go_invoke
        go_simp
        refine (HPB.out _ INV.out.inv).mono ?_
        rintro _ w3 ⟨_, rfl, p3, n3, c3, rfl, e3, s3, m3⟩
        exact hK _ _ (INV.out.inv.same m3) (fun j hj hl => pnB_keep m3 (INV.out.val j hj hl)) ⟨_, _, _, rfl, e3, s3⟩
      · intro o ho listed vs a w' inv hun haft K hK
        obtain rfl := Option.some.inj ho
        obtain ⟨e0, r0⟩ := inv.get haft 13 110 (by kernel_rfl) (by kernel_rfl)
        obtain ⟨e1, r1⟩ := inv.get haft 15 112 (by kernel_rfl) (by kernel_rfl)
        have INV := Lib.hid inv
        clear inv haft hun ho
        change vs 13 = .bool true at r0
        rw [r0] at e0
        have g0 := getD_opt e0
        have g1 := getD_opt e1
        refine par_guard rfl (by kernel_rfl) e0 ?_
        rw [if_pos rfl]
        obtain ⟨p7, n7, c7, h7, q7, s7⟩ := r1
        rw [h7] at e1
        have g1 := getD_opt e1
        have hcv := conv_str s7 (by have := HPOS.out; omega)
        clear s7 h7 q7
        go_simp
        exact hK _ _ INV.out.inv INV.out.val rfl
      · intro o ho listed vs a w' inv hun haft K hK
        obtain rfl := Option.some.inj ho
        obtain ⟨e0, r0⟩ := inv.get haft 13 110 (by kernel_rfl) (by kernel_rfl)
        have e1 := inv.old 1 (by kernel_rfl)
        have INV := Lib.hid inv
        clear inv haft hun ho
        change vs 13 = .bool true at r0
        rw [r0] at e0
        have g0 := getD_opt e0
        simp at e1
        have c0 := (INV.out.inv.cell (a := ⟨A, 0, none⟩) hAl (by simp)).trans a0
        have c1 := (INV.out.inv.cell (a := ⟨A, 1, none⟩) hAl (by simp)).trans a1
        have c2 := (INV.out.inv.cell (a := ⟨A, 2, none⟩) hAl (by simp)).trans a2
        have c3 := (INV.out.inv.cell (a := ⟨A, 3, none⟩) hAl (by simp)).trans a3
        refine par_guard rfl (by kernel_rfl) e0 ?_
        rw [if_pos rfl]
        go_simp
        exact hK _ _ INV.out.inv INV.out.val rfl
      · intro o ho listed vs a w' inv hun haft K hK
        obtain rfl := Option.some.inj ho
        obtain ⟨e0, r0⟩ := inv.get haft 13 110 (by kernel_rfl) (by kernel_rfl)
        obtain ⟨e1, r1⟩ := inv.get haft 17 114 (by kernel_rfl) (by kernel_rfl)
        have INV := Lib.hid inv
        clear inv haft hun ho
        change vs 13 = .bool true at r0
        rw [r0] at e0
        have g0 := getD_opt e0
        change vs 17 = .agg #[.bool true, .slice cp cn cc, .slice kp kn kc, .slice qp qn qc] at r1
        rw [r1] at e1
        have g1 := getD_opt e1
        refine par_guard rfl (by kernel_rfl) e0 ?_
        rw [if_pos rfl]
        go_simp
        refine (HPQ.out _ INV.out.inv).mono ?_
        rintro _ w3 ⟨_, rfl, p3, n3, c3, rfl, e3, s3, m3⟩
        exact hK _ _ (INV.out.inv.same m3) (fun j hj hl => pnB_keep m3 (INV.out.val j hj hl)) ⟨_, _, _, rfl, e3, s3⟩
      · intro o ho listed vs a w' inv hun haft K hK
        obtain rfl := Option.some.inj ho
        obtain ⟨e0, r0⟩ := inv.get haft 13 110 (by kernel_rfl) (by kernel_rfl)
        obtain ⟨e1, r1⟩ := inv.get haft 18 115 (by kernel_rfl) (by kernel_rfl)
        have INV := Lib.hid inv
        clear inv haft hun ho
        change vs 13 = .bool true at r0
        rw [r0] at e0
        have g0 := getD_opt e0
        have g1 := getD_opt e1
        refine par_guard rfl (by kernel_rfl) e0 ?_
        rw [if_pos rfl]
        obtain ⟨p7, n7, c7, h7, q7, s7⟩ := r1
        rw [h7] at e1
        have g1 := getD_opt e1
        have hcv := conv_str s7 (by have := HPOS.out; omega)
        clear s7 h7 q7
        go_simp
        exact hK _ _ INV.out.inv INV.out.val rfl
      · intro o ho listed vs a w' inv hun haft K hK
        obtain rfl := Option.some.inj ho
        obtain ⟨e0, r0⟩ := inv.get haft 13 110 (by kernel_rfl) (by kernel_rfl)
        obtain ⟨e1, r1⟩ := inv.get haft 16 113 (by kernel_rfl) (by kernel_rfl)
        obtain ⟨e2, r2⟩ := inv.get haft 19 116 (by kernel_rfl) (by kernel_rfl)
        have INV := Lib.hid inv
        clear inv haft hun ho
        change vs 13 = .bool true at r0
        rw [r0] at e0
        have g0 := getD_opt e0
        change vs 16 = .string (strOfNums PV) at r1
        rw [r1] at e1
        have g1 := getD_opt e1
        change vs 19 = .string (strOfNums PV) at r2
        rw [r2] at e2
        have g2 := getD_opt e2
        refine par_guard rfl (by kernel_rfl) e0 ?_
        rw [if_pos rfl]
        go_simp
        exact hK _ _ INV.out.inv INV.out.val rfl
      · intro o ho listed vs a w' inv hun haft K hK
        obtain rfl := Option.some.inj ho
        refine par_run rfl ?_
        obtain ⟨e0, r0⟩ := inv.get haft 13 110 (by kernel_rfl) (by kernel_rfl)
        obtain ⟨e1, r1⟩ := inv.get haft 20 117 (by kernel_rfl) (by kernel_rfl)
        have INV := Lib.hid inv
        clear inv haft hun ho
        change vs 13 = .bool true at r0
        rw [r0] at e0
        have g0 := getD_opt e0
        change vs 20 = .bool true at r1
        rw [r1] at e1
        have g1 := getD_opt e1
        go_simp
        exact hK _ _ INV.out.inv INV.out.val rfl
      · intro o ho listed vs a w' inv hun haft K hK
        obtain rfl := Option.some.inj ho
        refine par_run rfl ?_
        obtain ⟨e0, r0⟩ := inv.get haft 21 118 (by kernel_rfl) (by kernel_rfl)
        have INV := Lib.hid inv
        clear inv haft hun ho
        change vs 21 = .bool true at r0
        rw [r0] at e0
        have g0 := getD_opt e0
        go_simp
        exact hK _ _ INV.out.inv INV.out.val rfl
      intro vs w2 X hm hr hslot hold hsize hdef
      have er := hslot 22 2 (by kernel_rfl)
      have h9 := hr 22 (by decide)
      change vs 22 = .bool true at h9
      rw [h9] at er
      clear h9
      have MR := Lib.hid hm
      obtain ⟨g, hX, hg⟩ := frame_mix [false, false, true, false, false, false, false, false, false, false, false, false, false, false, false, false, false, false, false, false, false, false, false, false, false, false, false, false, false, false, false, false, false, false, false, false, false, false, false, false, false, false, false, false, false, false, false, false, false, false, false, false, false, false, false, false, false, false, false, false, false, false, false, false, false, false, false, false, false, false, false, false, false, false, false, false, false, false, false, false, false, false, false, false, false, false, false, false, false, false, false, false, false, false, false, false, false, true, true, true, true, true, true, true, true, true, true, true, true, true, true, true, true, true, true, true, true, true, true] (by rfl) hsize hdef hold (by kernel_rfl)
      rw [hg] at er
      clear hr hslot hold hm hg hsize hdef
      subst hX
      dsimp only [mixF]
      rw [er]
      clear er
      go_wp2
      go_ret
      exact .mk ⟨rfl, M13.out.same MR.out⟩
set_option maxRecDepth 100000 in
set_option maxHeartbeats 16000000 in
theorem pnodes_lf (cp : Option Addr) (cn cc : Nat) (xs : List Cv) (kp : Option Addr) (kn kc : Nat) (ks : List Bv) (qp : Option Addr) (qn qc : Nat) (kids : List Int) (w : World) (h : NdIn w false cp cn cc xs kp kn kc ks qp qn qc kids) :
    Calls Tryz.prog 3 #[.agg #[.bool false, .slice cp cn cc, .slice kp kn kc, .slice qp qn qc]] w (Ret (BoolM true w)) := by
  have HSML := Lib.hid (small_any false cp cn cc xs kp kn kc ks qp qn qc kids)
  have HN := Lib.hid h
  obtain ⟨W0, hW0⟩ : ∃ W0, W0 = w.alloc (.cells #[.bool false, .slice cp cn cc, .slice kp kn kc, .slice qp qn qc] 26) := ⟨_, rfl⟩
  have HM0 : Hid (Mod [] w W0) := by rw [hW0]; exact Mod.of_alloc w _
  have HA0 : Hid (W0.heap[w.heap.size]? = some (.cells #[.bool false, .slice cp cn cc, .slice kp kn kc, .slice qp qn qc] 26 (0, 0))) := by rw [hW0]; exact at_alloc w _
  clear h
  go_enter Tryz.func3, Tryz.ntmps3
  go_wp2_with fail
  rw [← hW0]
  clear hW0
  obtain ⟨A, hA⟩ : ∃ A, A = w.heap.size := ⟨_, rfl⟩
  rw [← hA] at HA0 ⊢
  have HAE := Lib.hid hA
  clear hA
  refine (awake_any _).mono ?_
  rintro _ w1 ⟨_, rfl, rfl, m1⟩
  have M1 := Lib.hid (HM0.out.same m1)
  have HA1 := Lib.hid (m1.at HA0.out (by simp))
  clear m1
  have a0 : w1.cell? ⟨A, 0, none⟩ = some (.bool false) := cell_of_at HA1.out 0
  have a1 : w1.cell? ⟨A, 1, none⟩ = some (.slice cp cn cc) := cell_of_at HA1.out 1
  have a2 : w1.cell? ⟨A, 2, none⟩ = some (.slice kp kn kc) := cell_of_at HA1.out 2
  have a3 : w1.cell? ⟨A, 3, none⟩ = some (.slice qp qn qc) := cell_of_at HA1.out 3
  go_wp2_with fail
  refine (HSML.out w1 (HN.out.mod0 M1.out)).mono ?_
  rintro _ w2 ⟨_, rfl, B, rfl, hsm, m2⟩
  have M2 := Lib.hid (M1.out.same m2)
  have HA2 := Lib.hid (m2.at HA1.out (by simp))
  have HSM : Hid (B = true → csz xs + kz ks + kids.length ≤ 5000) := hsm
  clear m2 hsm a0 a1 a2 a3
  have a0 : w2.cell? ⟨A, 0, none⟩ = some (.bool false) := cell_of_at HA2.out 0
  have a1 : w2.cell? ⟨A, 1, none⟩ = some (.slice cp cn cc) := cell_of_at HA2.out 1
  have a2 : w2.cell? ⟨A, 2, none⟩ = some (.slice kp kn kc) := cell_of_at HA2.out 2
  have a3 : w2.cell? ⟨A, 3, none⟩ = some (.slice qp qn qc) := cell_of_at HA2.out 3
  cases B with
  | false =>
    go_wp2
    go_ret
    exact .mk ⟨rfl, M2.out⟩
  | true =>
    have hsm := HSM.out rfl
    have HSMN := Lib.hid hsm
    clear hsm HSM
    go_wp2_with fail
    refine (qmay_leaf cp cn cc xs kp kn kc ks qp qn qc kids w2 (HN.out.mod0 M2.out) HSMN.out).mono ?_
    rintro _ w3 ⟨_, rfl, rfl, m3⟩
    have M3 := Lib.hid (M2.out.same m3)
    have HA3 := Lib.hid (m3.at HA2.out (by simp))
    clear m3 a0 a1 a2 a3
    obtain ⟨MB, hMB⟩ : ∃ MB, MB = mayLeaf (xs.map Cv.pl) := ⟨_, rfl⟩
    rw [← hMB]
    have HMB := Lib.hid hMB
    clear hMB
    cases MB with
    | false =>
      go_wp2
      go_ret
      exact .mk ⟨rfl, M3.out⟩
    | true =>
      have HMAY : Hid ((Nd.lf (xs.map Cv.pl)).may = true) := HMB.out.symm
      go_wp2_with fail
      refine (pnew_any 10 2 none 0 0 [] _ (nil_freedN _)).mono ?_
      rintro _ w4 ⟨_, rfl, m4, h4⟩
      rw [show PS.new 10 2 [] = some ⟨10, 2, []⟩ from rfl] at h4
      obtain ⟨sb0, bm0, rfl, hp4, _, _⟩ := h4
      have HP4 := Lib.hid hp4
      have M4 := Lib.hid (M3.out.same m4)
      have HA4 := Lib.hid (m4.at HA3.out (by simp))
      clear m4 hp4
      go_wp2_with fail
      refine (dnew_any 10 10 w4 (by decide)).mono ?_
      rintro _ w5 ⟨_, rfl, D, Td, rfl, hd5, m5, hdb⟩
      have HD5 := Lib.hid hd5
      have HP5 := Lib.hid (HP4.out.mod m5 (by simp) (by simp))
      have M5 := Lib.hid (M4.out.same m5)
      have HA5 := Lib.hid (m5.at HA4.out (by simp))
      have HDL : Hid (∀ b ∈ Td, b < w5.heap.size) := by obtain ⟨gs, ws, vs, vw, M, DM, S, hh⟩ := hd5; exact hh.lt
      have HDW0 : Hid (∀ b ∈ Td, w.heap.size ≤ b) := fun b hb => by have := hdb b hb; have := M4.out.size; omega
      have HDB : Hid (∀ b ∈ Td, A < b) := fun b hb => by have := hdb b hb; have := lt_of_at HA4.out; omega
      clear m5 hd5 hdb
      go_wp2_with fail
      refine (pgrnew_any D sb0 bm0 ⟨10, 2, []⟩ 1 0 w5 HP5.out (by omega) (by omega)).mono ?_
      rintro _ w6 ⟨_, rfl, X, T0, rfl, hx6, m6, hxb⟩
      have HX6 : Hid (PgrAt w6 X T0 D ⟨⟨10, 2, []⟩, 1, 0, []⟩) := hx6
      have HD6 := Lib.hid (HD5.out.mod m6 (by simp))
      have M6 := Lib.hid (M5.out.same m6)
      have HTB : Hid (∀ b ∈ T0, w5.heap.size ≤ b) := hxb
      have HA6 := Lib.hid (m6.at HA5.out (by simp))
      have HS56 := Lib.hid m6.size
      clear m6 hx6 hxb
      have a0 : w6.cell? ⟨A, 0, none⟩ = some (.bool false) := cell_of_at HA6.out 0
      have a1 : w6.cell? ⟨A, 1, none⟩ = some (.slice cp cn cc) := cell_of_at HA6.out 1
      have a2 : w6.cell? ⟨A, 2, none⟩ = some (.slice kp kn kc) := cell_of_at HA6.out 2
      have a3 : w6.cell? ⟨A, 3, none⟩ = some (.slice qp qn qc) := cell_of_at HA6.out 3
      go_wp2_with fail
      refine (of_any false cp cn cc xs kp kn kc ks qp qn qc kids w6 (HN.out.mod0 M6.out) (fun _ => by have := HSMN.out; have h1 := csz_len xs; have h2 := HN.out.cells.len; omega)).mono ?_
      rintro _ w7 ⟨_, rfl, m7, h7⟩
      rw [if_neg (by simp)] at h7
      obtain ⟨Bo, rfl, hbr7⟩ := h7
      have M7 := Lib.hid (M6.out.same m7)
      have HA7 := Lib.hid (m7.at HA6.out (by simp))
      obtain ⟨sb, bm, M, fv, hx6⟩ := HX6.out
      have HX7 : Hid (PgrIn w7 X [X, sb, bm, M] D ⟨⟨10, 2, []⟩, 1, 0, []⟩ sb bm M fv) := (hx6.shrink rfl).mod m7 (by simp)
      have HXT : Hid (∀ b ∈ [X, sb, bm, M], w5.heap.size ≤ b) := fun b hb => HTB.out b (hx6.sub b hb)
      have HD7 := Lib.hid (HD6.out.mod m7 (by simp))
      have HS7 : Hid (w5.heap.size ≤ w7.heap.size) := Nat.le_trans HS56.out m7.size
      have HPAY := Lib.hid (leafpay_any Bo xs w7 hbr7 (by have := (mayLeaf_spec HMAY.out).2.2; omega))
      clear m7 hbr7 hx6 HX6 HTB a0 a1 a2 a3
      go_wp2_with fail
      refine HPAY.out.mono ?_
      rintro _ w8 ⟨_, rfl, p8, n8, c8, rfl, e8, z8, s8, m8⟩
      have HPL := Lib.hid (payLeaf_len (xs.map Cv.pl))
      have HPW : Hid (BytesIn w8 p8 n8 c8 (payLeaf (xs.map Cv.pl))) := ⟨s8, fun x hx => payLeaf_wf HMAY.out (fun k hk => by obtain ⟨b, hb, rfl⟩ := List.mem_map.1 hk; exact ⟨(HN.out.cells.io b hb).1.wf, (HN.out.cells.io b hb).2.wf⟩) x hx⟩
      have M8 := Lib.hid (M7.out.same m8)
      have HX8 := Lib.hid (HX7.out.mod m8 (by simp))
      have HM58 : Hid (w5.heap.size ≤ w8.heap.size) := Nat.le_trans HS7.out m8.size
      have HPO : Hid (∀ a, p8 = some a → 0 < n8 → a.block ∉ [X, sb, bm, M]) := fun a ha h0 => HX8.out.not_bytes s8 a ha h0
      have HD8 := Lib.hid (HD7.out.mod m8 (by simp))
      have HA8 := Lib.hid (m8.at HA7.out (by simp))
      have hpos : 0 < (payLeaf (xs.map Cv.pl)).length := by
        unfold payLeaf; rw [if_pos (show mayLeaf (xs.map Cv.pl) = true from HMAY.out)]; unfold leafBytes; simp
      obtain ⟨PV, hPV⟩ : ∃ PV, PV = payLeaf (xs.map Cv.pl) := ⟨_, rfl⟩
      have HPV := Lib.hid hPV
      have HE8 : Hid (n8 = PV.length) := by rw [hPV]; exact e8
      have HPOS : Hid (0 < PV.length) := by rw [hPV]; exact hpos
      have HPL2 : Hid (PV.length ≤ 1016) := by rw [hPV]; exact HPL.out
      have HPW2 : Hid (BytesIn w8 p8 n8 c8 PV) := by rw [hPV]; exact HPW.out
      clear m8 s8 z8 hPV HPAY e8 hpos HPL HPW
      have HPUT := Lib.hid (pn_put HPL2.out)
      go_wp2_with fail
      refine (pgrput_in X _ D _ sb bm M p8 n8 c8 PV w8 ⟨fv, HX8.out⟩ HPW2.out HPO.out).mono ?_
      rintro _ w9 ⟨_, rfl, rfl, T9, hx9, m9, ht9⟩
      rw [HPUT.out] at hx9 ⊢
      simp only at hx9 ⊢
      have HX9 : Hid (PgrAt w9 X T9 D (pnM PV)) := by obtain ⟨fv, hh⟩ := hx9; exact ⟨sb, bm, M, fv, hh⟩
      have hlt5 : ∀ b ∈ [sb, bm, M], w5.heap.size ≤ b := fun b hb => HXT.out b (List.mem_cons_of_mem _ hb)
      have HD9 := Lib.hid (HD8.out.mod m9 (fun b hb hbs => by have := HDL.out b hb; have := hlt5 b hbs; omega))
      have hs5 : A < w5.heap.size := lt_of_at HA5.out
      have hs5w : w.heap.size ≤ w5.heap.size := M5.out.size
      have HA9 := Lib.hid (m9.at HA8.out (fun hb => by have := hlt5 A hb; omega))
      have M9 : Hid (Mod [] w w9) := M8.out.trans m9 (fun b hb => Or.inr (by have := hlt5 b hb; omega))
      have HT9 : Hid (∀ b ∈ T9, w5.heap.size ≤ b) := fun b hb => by
        rcases ht9 b hb with h | h
        · exact HXT.out b h
        · have := h.1; have := M8.out.size
          have h58 : w5.heap.size ≤ w8.heap.size := by have := HM58.out; omega
          omega
      have HNR := Lib.hid (pgrnode_any X T9 D Td (pnM PV) (ck0 10) 2 (.lf (xs.map Cv.pl)) w9 HX9.out HD9.out (by omega) (by rw [pn_read, HPV.out]; rfl) HMAY.out)
      have HS89 := Lib.hid m9.size
      clear hx9 m9 ht9 hlt5
      go_wp2_with fail
      refine HNR.out.mono ?_
      rintro _ w10 ⟨_, rfl, u10, rfl, h10, m10⟩
      obtain ⟨B10, kv10, rfl, hb10, ha10, hk10⟩ := h10
      have HAG := Lib.hid ha10
      have HB10 := Lib.hid hb10
      have HK10 := Lib.hid hk10
      have HX10 := Lib.hid (HX9.out.mod m10 (by simp))
      have HD10 := Lib.hid (HD9.out.mod m10 (by simp))
      have HA10 := Lib.hid (m10.at HA9.out (by simp))
      have M10 := Lib.hid (M9.out.same m10)
      clear hb10 ha10 hk10 m10 HNR
      go_wp2_with fail
      refine (dnode_no D Td (ck0 10) 2 w10 HD10.out (ck0_load 10 (by decide))).mono ?_
      rintro _ w11 ⟨_, rfl, rfl, m11⟩
      have HX11 := Lib.hid (HX10.out.mod m11 (by simp))
      have HD11 := Lib.hid (HD10.out.mod m11 (by simp))
      have HA11 := Lib.hid (m11.at HA10.out (by simp))
      have HB11 := Lib.hid (HB10.out.mod m11 (by simp))
      have HAG11 := Lib.hid (HAG.out.mod m11 (by simp) HB10.out.lt)
      have HDL11 : Hid (∀ b ∈ Td, b < w9.heap.size) := fun b hb => Nat.lt_of_lt_of_le (HDL.out b hb) (Nat.le_trans HM58.out HS89.out)
      have HDW : Hid (∀ b ∈ Td, w.heap.size ≤ b) := HDW0.out
      have M11 := Lib.hid (M10.out.same m11)
      clear m11
      go_wp2_with fail
      refine (flush_any X T9 D Td (pnM PV) (ck0 10) w11 HX11.out HD11.out (fun b hb hbt => by have := HDL.out b hb; have := HT9.out b hbt; omega) rfl rfl (by intro p hp; simp [pnM] at hp; rw [hp]; rfl) (by simp [pnM, ck0])).mono ?_
      rintro _ w12 ⟨_, rfl, rfl, Td12, hd12, m12, ht12⟩
      have hd12' := hd12
      have HX12 := Lib.hid (HX11.out.mod m12 (fun b hb hbt => by have := HDL.out b hbt; have := HT9.out b hb; omega))
      have HD12 := Lib.hid hd12
      have HA12 := Lib.hid (m12.at HA11.out (fun hb => by have := HDB.out A hb; omega))
      have HB12 := Lib.hid (HB11.out.turned HAG11.out m12 (fun b hb => HDL11.out b hb))
      have M12 : Hid (Mod [] w w12) := M11.out.trans m12 (fun b hb => Or.inr (by have := HDW.out b hb; omega))
      clear hd12 hd12' m12 ht12
      go_wp2_with fail
      refine (dnode_any D Td12 _ 2 (.lf (xs.map Cv.pl)) w12 HD12.out (by rw [pn_load HPL2.out, HPV.out]; rfl) HMAY.out).mono ?_
      rintro _ w13 ⟨_, rfl, u13, rfl, h13, m13⟩
      obtain ⟨B13, kv13, rfl, hb13, ha13, hk13⟩ := h13
      have HB13 := Lib.hid hb13.leaf
      have HK13 := Lib.hid hk13
      have HA13 := Lib.hid (m13.at HA12.out (by simp))
      have HC13 := Lib.hid (HB12.out.mod0 m13)
      have M13 := Lib.hid (M12.out.same m13)
      clear hb13 ha13 hk13 m13
      have a0 : w13.cell? ⟨A, 0, none⟩ = some (.bool false) := cell_of_at HA13.out 0
      have a1 : w13.cell? ⟨A, 1, none⟩ = some (.slice cp cn cc) := cell_of_at HA13.out 1
      have a2 : w13.cell? ⟨A, 2, none⟩ = some (.slice kp kn kc) := cell_of_at HA13.out 2
      have a3 : w13.cell? ⟨A, 3, none⟩ = some (.slice qp qn qc) := cell_of_at HA13.out 3
      have hAl : A < w13.heap.size := lt_of_at HA13.out
      have hta : ∀ (W : World) (v : Value), (Instr.typeAssert (.iface 78 v) 42 49 true).run Tryz.prog W = .ok (.tuple #[.pointer none, .bool false]) W := fun W v => by kernel_rfl
      have HPA : Hid (∀ W, Mod [] w13 W → Calls Tryz.prog 131 #[.pointer (some ⟨B10, 0, none⟩)] W (Ret (NPayR2 PV W))) := fun W hm => by
        have h := leafpay_any B10 kv10 W (HC13.out.mod0 hm) (by rw [HK10.out]; have := (mayLeaf_spec HMAY.out).2.2; omega)
        rw [HK10.out, ← HPV.out] at h; exact h.mono fun _ _ ⟨v, e, p, n, c, q1, q2, q3, q4, q5⟩ => ⟨v, e, p, n, c, q1, q2, q4, q5⟩
      have HPB : Hid (∀ W, Mod [] w13 W → Calls Tryz.prog 131 #[.pointer (some ⟨B13, 0, none⟩)] W (Ret (NPayR2 PV W))) := fun W hm => by
        have h := leafpay_any B13 kv13 W (HB13.out.mod0 hm) (by rw [HK13.out]; have := (mayLeaf_spec HMAY.out).2.2; omega)
        rw [HK13.out, ← HPV.out] at h; exact h.mono fun _ _ ⟨v, e, p, n, c, q1, q2, q3, q4, q5⟩ => ⟨v, e, p, n, c, q1, q2, q4, q5⟩
      have HPQ : Hid (∀ W, Mod [] w13 W → Calls Tryz.prog 15 #[.agg #[.bool false, .slice cp cn cc, .slice kp kn kc, .slice qp qn qc]] W (Ret (QPayR PV W))) := fun W hm => by
        have h := qpay_leaf cp cn cc xs kp kn kc ks qp qn qc kids W (HN.out.mod0 (M13.out.same hm)) HSMN.out HMB.out.symm
        rw [← HPV.out] at h; exact h
      unfold NPayR2 at HPA HPB
      unfold QPayR at HPQ
      go_wp2_with fail
      refine par_region (by kernel_rfl) (fun oi vs w => pnL A B10 B13 cp cn cc kp kn kc qp qn qc PV oi (vs oi) w) (fun w' => Mod [] w13 w') (by kernel_rfl) (fun j vs vs' w o _ h1 _ h2 => by rw [← h1]; exact h2) ⟨⟨⟨⟨⟨⟨⟨⟨⟨⟨⟨⟨⟨⟨⟨⟨⟨⟨⟨⟨⟨⟨⟨trivial, ?_⟩, ?_⟩, ?_⟩, ?_⟩, ?_⟩, ?_⟩, ?_⟩, ?_⟩, ?_⟩, ?_⟩, ?_⟩, ?_⟩, ?_⟩, ?_⟩, ?_⟩, ?_⟩, ?_⟩, ?_⟩, ?_⟩, ?_⟩, ?_⟩, ?_⟩, ?_⟩ (Mod.of_drew w13) ?_
      · intro o ho listed vs a w' inv hun haft K hK
        obtain rfl := Option.some.inj ho
        refine par_run rfl ?_
        have e0 := inv.old 16 (by kernel_rfl)
        have INV := Lib.hid inv
        clear inv haft hun ho
        simp at e0
        go_simp
        exact hK _ _ INV.out.inv INV.out.val rfl
      · intro o ho listed vs a w' inv hun haft K hK
        obtain rfl := Option.some.inj ho
        refine par_run rfl ?_
        have e0 := inv.old 1 (by kernel_rfl)
        have INV := Lib.hid inv
        clear inv haft hun ho
        simp at e0
        go_simp
        exact hK _ _ INV.out.inv INV.out.val rfl
      · intro o ho listed vs a w' inv hun haft K hK
        obtain rfl := Option.some.inj ho
        refine par_run rfl ?_
        obtain ⟨e0, r0⟩ := inv.get haft 1 98 (by kernel_rfl) (by kernel_rfl)
        have INV := Lib.hid inv
        clear inv haft hun ho
        change vs 1 = .pointer (some ⟨A, 0, none⟩) at r0
        rw [r0] at e0
        have g0 := getD_opt e0
        have c0 := (INV.out.inv.cell (a := ⟨A, 0, none⟩) hAl (by simp)).trans a0
        go_simp
        exact hK _ _ INV.out.inv INV.out.val rfl
      · intro o ho listed vs a w' inv hun haft K hK
        obtain rfl := Option.some.inj ho
        refine par_run rfl ?_
        obtain ⟨e0, r0⟩ := inv.get haft 0 97 (by kernel_rfl) (by kernel_rfl)
        obtain ⟨e1, r1⟩ := inv.get haft 2 99 (by kernel_rfl) (by kernel_rfl)
        have INV := Lib.hid inv
        clear inv haft hun ho
        change vs 0 = .bool false at r0
        rw [r0] at e0
        have g0 := getD_opt e0
        change vs 2 = .bool false at r1
        rw [r1] at e1
        have g1 := getD_opt e1
        go_simp
        exact hK _ _ INV.out.inv INV.out.val rfl
      · intro o ho listed vs a w' inv hun haft K hK
        obtain rfl := Option.some.inj ho
        refine par_run rfl ?_
        obtain ⟨e0, r0⟩ := inv.get haft 3 100 (by kernel_rfl) (by kernel_rfl)
        have INV := Lib.hid inv
        clear inv haft hun ho
        change vs 3 = .bool true at r0
        rw [r0] at e0
        have g0 := getD_opt e0
        go_simp
        exact hK _ _ INV.out.inv INV.out.val rfl
      · intro o ho listed vs a w' inv hun haft K hK
        obtain rfl := Option.some.inj ho
        obtain ⟨e0, r0⟩ := inv.get haft 4 101 (by kernel_rfl) (by kernel_rfl)
        have e1 := inv.old 9 (by kernel_rfl)
        have INV := Lib.hid inv
        clear inv haft hun ho
        change vs 4 = .bool true at r0
        rw [r0] at e0
        have g0 := getD_opt e0
        simp at e1
        refine par_guard rfl (by kernel_rfl) e0 ?_
        rw [if_pos rfl]
        go_simp
        exact hK _ _ INV.out.inv INV.out.val rfl
      · intro o ho listed vs a w' inv hun haft K hK
        obtain rfl := Option.some.inj ho
        obtain ⟨e0, r0⟩ := inv.get haft 4 101 (by kernel_rfl) (by kernel_rfl)
        obtain ⟨e1, r1⟩ := inv.get haft 5 102 (by kernel_rfl) (by kernel_rfl)
        have INV := Lib.hid inv
        clear inv haft hun ho
        change vs 4 = .bool true at r0
        rw [r0] at e0
        have g0 := getD_opt e0
        change vs 5 = .iface 78 (.pointer (some ⟨B10, 0, none⟩)) at r1
        rw [r1] at e1
        have g1 := getD_opt e1
        refine par_guard rfl (by kernel_rfl) e0 ?_
        rw [if_pos rfl]
        go_simp
        go_invoke
        go_simp
        refine (HPA.out _ INV.out.inv).mono ?_
        rintro _ w3 ⟨_, rfl, p3, n3, c3, rfl, e3, s3, m3⟩
        exact hK _ _ (INV.out.inv.same m3) (fun j hj hl => pnL_keep m3 (INV.out.val j hj hl)) ⟨_, _, _, rfl, e3, s3⟩
      · intro o ho listed vs a w' inv hun haft K hK
        obtain rfl := Option.some.inj ho
        obtain ⟨e0, r0⟩ := inv.get haft 4 101 (by kernel_rfl) (by kernel_rfl)
        obtain ⟨e1, r1⟩ := inv.get haft 6 103 (by kernel_rfl) (by kernel_rfl)
        have INV := Lib.hid inv
        clear inv haft hun ho
        change vs 4 = .bool true at r0
        rw [r0] at e0
        have g0 := getD_opt e0
        have g1 := getD_opt e1
        refine par_guard rfl (by kernel_rfl) e0 ?_
        rw [if_pos rfl]
        obtain ⟨p7, n7, c7, h7, q7, s7⟩ := r1
        rw [h7] at e1
        have g1 := getD_opt e1
        have hcv := conv_str s7 (by have := HPOS.out; omega)
        clear s7 h7 q7
        go_simp
        exact hK _ _ INV.out.inv INV.out.val rfl
      · intro o ho listed vs a w' inv hun haft K hK
        obtain rfl := Option.some.inj ho
        obtain ⟨e0, r0⟩ := inv.get haft 4 101 (by kernel_rfl) (by kernel_rfl)
        have e1 := inv.old 1 (by kernel_rfl)
        have INV := Lib.hid inv
        clear inv haft hun ho
        change vs 4 = .bool true at r0
        rw [r0] at e0
        have g0 := getD_opt e0
        simp at e1
        have c0 := (INV.out.inv.cell (a := ⟨A, 0, none⟩) hAl (by simp)).trans a0
        have c1 := (INV.out.inv.cell (a := ⟨A, 1, none⟩) hAl (by simp)).trans a1
        have c2 := (INV.out.inv.cell (a := ⟨A, 2, none⟩) hAl (by simp)).trans a2
        have c3 := (INV.out.inv.cell (a := ⟨A, 3, none⟩) hAl (by simp)).trans a3
        refine par_guard rfl (by kernel_rfl) e0 ?_
        rw [if_pos rfl]
        go_simp
        exact hK _ _ INV.out.inv INV.out.val rfl
      · intro o ho listed vs a w' inv hun haft K hK
        obtain rfl := Option.some.inj ho
        obtain ⟨e0, r0⟩ := inv.get haft 4 101 (by kernel_rfl) (by kernel_rfl)
        obtain ⟨e1, r1⟩ := inv.get haft 8 105 (by kernel_rfl) (by kernel_rfl)
        have INV := Lib.hid inv
        clear inv haft hun ho
        change vs 4 = .bool true at r0
        rw [r0] at e0
        have g0 := getD_opt e0
        change vs 8 = .agg #[.bool false, .slice cp cn cc, .slice kp kn kc, .slice qp qn qc] at r1
        rw [r1] at e1
        have g1 := getD_opt e1
        refine par_guard rfl (by kernel_rfl) e0 ?_
        rw [if_pos rfl]
        go_simp
        refine (HPQ.out _ INV.out.inv).mono ?_
        rintro _ w3 ⟨_, rfl, p3, n3, c3, rfl, e3, s3, m3⟩
        exact hK _ _ (INV.out.inv.same m3) (fun j hj hl => pnL_keep m3 (INV.out.val j hj hl)) ⟨_, _, _, rfl, e3, s3⟩
      · intro o ho listed vs a w' inv hun haft K hK
        obtain rfl := Option.some.inj ho
        obtain ⟨e0, r0⟩ := inv.get haft 4 101 (by kernel_rfl) (by kernel_rfl)
        obtain ⟨e1, r1⟩ := inv.get haft 9 106 (by kernel_rfl) (by kernel_rfl)
        have INV := Lib.hid inv
        clear inv haft hun ho
        change vs 4 = .bool true at r0
        rw [r0] at e0
        have g0 := getD_opt e0
        have g1 := getD_opt e1
        refine par_guard rfl (by kernel_rfl) e0 ?_
        rw [if_pos rfl]
        obtain ⟨p7, n7, c7, h7, q7, s7⟩ := r1
        rw [h7] at e1
        have g1 := getD_opt e1
        have hcv := conv_str s7 (by have := HPOS.out; omega)
        clear s7 h7 q7
        go_simp
        exact hK _ _ INV.out.inv INV.out.val rfl
      · intro o ho listed vs a w' inv hun haft K hK
        obtain rfl := Option.some.inj ho
        obtain ⟨e0, r0⟩ := inv.get haft 4 101 (by kernel_rfl) (by kernel_rfl)
        obtain ⟨e1, r1⟩ := inv.get haft 7 104 (by kernel_rfl) (by kernel_rfl)
        obtain ⟨e2, r2⟩ := inv.get haft 10 107 (by kernel_rfl) (by kernel_rfl)
        have INV := Lib.hid inv
        clear inv haft hun ho
        change vs 4 = .bool true at r0
        rw [r0] at e0
        have g0 := getD_opt e0
        change vs 7 = .string (strOfNums PV) at r1
        rw [r1] at e1
        have g1 := getD_opt e1
        change vs 10 = .string (strOfNums PV) at r2
        rw [r2] at e2
        have g2 := getD_opt e2
        refine par_guard rfl (by kernel_rfl) e0 ?_
        rw [if_pos rfl]
        go_simp
        exact hK _ _ INV.out.inv INV.out.val rfl
      · intro o ho listed vs a w' inv hun haft K hK
        obtain rfl := Option.some.inj ho
        refine par_run rfl ?_
        obtain ⟨e0, r0⟩ := inv.get haft 4 101 (by kernel_rfl) (by kernel_rfl)
        obtain ⟨e1, r1⟩ := inv.get haft 11 108 (by kernel_rfl) (by kernel_rfl)
        have INV := Lib.hid inv
        clear inv haft hun ho
        change vs 4 = .bool true at r0
        rw [r0] at e0
        have g0 := getD_opt e0
        change vs 11 = .bool true at r1
        rw [r1] at e1
        have g1 := getD_opt e1
        go_simp
        exact hK _ _ INV.out.inv INV.out.val rfl
      · intro o ho listed vs a w' inv hun haft K hK
        obtain rfl := Option.some.inj ho
        refine par_run rfl ?_
        obtain ⟨e0, r0⟩ := inv.get haft 12 109 (by kernel_rfl) (by kernel_rfl)
        have INV := Lib.hid inv
        clear inv haft hun ho
        change vs 12 = .bool true at r0
        rw [r0] at e0
        have g0 := getD_opt e0
        go_simp
        exact hK _ _ INV.out.inv INV.out.val rfl
      · intro o ho listed vs a w' inv hun haft K hK
        obtain rfl := Option.some.inj ho
        obtain ⟨e0, r0⟩ := inv.get haft 13 110 (by kernel_rfl) (by kernel_rfl)
        have e1 := inv.old 13 (by kernel_rfl)
        have INV := Lib.hid inv
        clear inv haft hun ho
        change vs 13 = .bool true at r0
        rw [r0] at e0
        have g0 := getD_opt e0
        simp at e1
        refine par_guard rfl (by kernel_rfl) e0 ?_
        rw [if_pos rfl]
        go_simp
        exact hK _ _ INV.out.inv INV.out.val rfl
      · intro o ho listed vs a w' inv hun haft K hK
        obtain rfl := Option.some.inj ho
        obtain ⟨e0, r0⟩ := inv.get haft 13 110 (by kernel_rfl) (by kernel_rfl)
        obtain ⟨e1, r1⟩ := inv.get haft 14 111 (by kernel_rfl) (by kernel_rfl)
        have INV := Lib.hid inv
        clear inv haft hun ho
        change vs 13 = .bool true at r0
        rw [r0] at e0
        have g0 := getD_opt e0
        change vs 14 = .iface 78 (.pointer (some ⟨B13, 0, none⟩)) at r1
        rw [r1] at e1
        have g1 := getD_opt e1
        refine par_guard rfl (by kernel_rfl) e0 ?_
        rw [if_pos rfl]
        go_simp
        go_invoke
        go_simp
        refine (HPB.out _ INV.out.inv).mono ?_
        rintro _ w3 ⟨_, rfl, p3, n3, c3, rfl, e3, s3, m3⟩
        exact hK _ _ (INV.out.inv.same m3) (fun j hj hl => pnL_keep m3 (INV.out.val j hj hl)) ⟨_, _, _, rfl, e3, s3⟩
      · intro o ho listed vs a w' inv hun haft K hK
        obtain rfl := Option.some.inj ho
        obtain ⟨e0, r0⟩ := inv.get haft 13 110 (by kernel_rfl) (by kernel_rfl)
        obtain ⟨e1, r1⟩ := inv.get haft 15 112 (by kernel_rfl) (by kernel_rfl)
        have INV := Lib.hid inv
        clear inv haft hun ho
        change vs 13 = .bool true at r0
        rw [r0] at e0
        have g0 := getD_opt e0
        have g1 := getD_opt e1
        refine par_guard rfl (by kernel_rfl) e0 ?_
        rw [if_pos rfl]
        obtain ⟨p7, n7, c7, h7, q7, s7⟩ := r1
        rw [h7] at e1
        have g1 := getD_opt e1
        have hcv := conv_str s7 (by have := HPOS.out; omega)
        clear s7 h7 q7
        go_simp
        exact hK _ _ INV.out.inv INV.out.val rfl
      · intro o ho listed vs a w' inv hun haft K hK
        obtain rfl := Option.some.inj ho
        obtain ⟨e0, r0⟩ := inv.get haft 13 110 (by kernel_rfl) (by kernel_rfl)
        have e1 := inv.old 1 (by kernel_rfl)
        have INV := Lib.hid inv
        clear inv haft hun ho
        change vs 13 = .bool true at r0
        rw [r0] at e0
        have g0 := getD_opt e0
        simp at e1
        have c0 := (INV.out.inv.cell (a := ⟨A, 0, none⟩) hAl (by simp)).trans a0
        have c1 := (INV.out.inv.cell (a := ⟨A, 1, none⟩) hAl (by simp)).trans a1
        have c2 := (INV.out.inv.cell (a := ⟨A, 2, none⟩) hAl (by simp)).trans a2
        have c3 := (INV.out.inv.cell (a := ⟨A, 3, none⟩) hAl (by simp)).trans a3
        refine par_guard rfl (by kernel_rfl) e0 ?_
        rw [if_pos rfl]
        go_simp
        exact hK _ _ INV.out.inv INV.out.val rfl
      · intro o ho listed vs a w' inv hun haft K hK
        obtain rfl := Option.some.inj ho
        obtain ⟨e0, r0⟩ := inv.get haft 13 110 (by kernel_rfl) (by kernel_rfl)
        obtain ⟨e1, r1⟩ := inv.get haft 17 114 (by kernel_rfl) (by kernel_rfl)
        have INV := Lib.hid inv
        clear inv haft hun ho
        change vs 13 = .bool true at r0
        rw [r0] at e0
        have g0 := getD_opt e0
        change vs 17 = .agg #[.bool false, .slice cp cn cc, .slice kp kn kc, .slice qp qn qc] at r1
        rw [r1] at e1
        have g1 := getD_opt e1
        refine par_guard rfl (by kernel_rfl) e0 ?_
        rw [if_pos rfl]
        go_simp
        refine (HPQ.out _ INV.out.inv).mono ?_
        rintro _ w3 ⟨_, rfl, p3, n3, c3, rfl, e3, s3, m3⟩
        exact hK _ _ (INV.out.inv.same m3) (fun j hj hl => pnL_keep m3 (INV.out.val j hj hl)) ⟨_, _, _, rfl, e3, s3⟩
      · intro o ho listed vs a w' inv hun haft K hK
        obtain rfl := Option.some.inj ho
        obtain ⟨e0, r0⟩ := inv.get haft 13 110 (by kernel_rfl) (by kernel_rfl)
        obtain ⟨e1, r1⟩ := inv.get haft 18 115 (by kernel_rfl) (by kernel_rfl)
        have INV := Lib.hid inv
        clear inv haft hun ho
        change vs 13 = .bool true at r0
        rw [r0] at e0
        have g0 := getD_opt e0
        have g1 := getD_opt e1
        refine par_guard rfl (by kernel_rfl) e0 ?_
        rw [if_pos rfl]
        obtain ⟨p7, n7, c7, h7, q7, s7⟩ := r1
        rw [h7] at e1
        have g1 := getD_opt e1
        have hcv := conv_str s7 (by have := HPOS.out; omega)
        clear s7 h7 q7
        go_simp
        exact hK _ _ INV.out.inv INV.out.val rfl
      · intro o ho listed vs a w' inv hun haft K hK
        obtain rfl := Option.some.inj ho
        obtain ⟨e0, r0⟩ := inv.get haft 13 110 (by kernel_rfl) (by kernel_rfl)
        obtain ⟨e1, r1⟩ := inv.get haft 16 113 (by kernel_rfl) (by kernel_rfl)
        obtain ⟨e2, r2⟩ := inv.get haft 19 116 (by kernel_rfl) (by kernel_rfl)
        have INV := Lib.hid inv
        clear inv haft hun ho
        change vs 13 = .bool true at r0
        rw [r0] at e0
        have g0 := getD_opt e0
        change vs 16 = .string (strOfNums PV) at r1
        rw [r1] at e1
        have g1 := getD_opt e1
        change vs 19 = .string (strOfNums PV) at r2
        rw [r2] at e2
        have g2 := getD_opt e2
        refine par_guard rfl (by kernel_rfl) e0 ?_
        rw [if_pos rfl]
        go_simp
        exact hK _ _ INV.out.inv INV.out.val rfl
      · intro o ho listed vs a w' inv hun haft K hK
        obtain rfl := Option.some.inj ho
        refine par_run rfl ?_
        obtain ⟨e0, r0⟩ := inv.get haft 13 110 (by kernel_rfl) (by kernel_rfl)
        obtain ⟨e1, r1⟩ := inv.get haft 20 117 (by kernel_rfl) (by kernel_rfl)
        have INV := Lib.hid inv
        clear inv haft hun ho
        change vs 13 = .bool true at r0
        rw [r0] at e0
        have g0 := getD_opt e0
        change vs 20 = .bool true at r1
        rw [r1] at e1
        have g1 := getD_opt e1
        go_simp
        exact hK _ _ INV.out.inv INV.out.val rfl
      · intro o ho listed vs a w' inv hun haft K hK
        obtain rfl := Option.some.inj ho
        refine par_run rfl ?_
        obtain ⟨e0, r0⟩ := inv.get haft 21 118 (by kernel_rfl) (by kernel_rfl)
        have INV := Lib.hid inv
        clear inv haft hun ho
        change vs 21 = .bool true at r0
        rw [r0] at e0
        have g0 := getD_opt e0
        go_simp
        exact hK _ _ INV.out.inv INV.out.val rfl
      intro vs w2 X hm hr hslot hold hsize hdef
      have er := hslot 22 2 (by kernel_rfl)
      have h9 := hr 22 (by decide)
      change vs 22 = .bool true at h9
      rw [h9] at er
      clear h9
      have MR := Lib.hid hm
      obtain ⟨g, hX, hg⟩ := frame_mix [false, false, true, false, false, false, false, false, false, false, false, false, false, false, false, false, false, false, false, false, false, false, false, false, false, false, false, false, false, false, false, false, false, false, false, false, false, false, false, false, false, false, false, false, false, false, false, false, false, false, false, false, false, false, false, false, false, false, false, false, false, false, false, false, false, false, false, false, false, false, false, false, false, false, false, false, false, false, false, false, false, false, false, false, false, false, false, false, false, false, false, false, false, false, false, false, false, true, true, true, true, true, true, true, true, true, true, true, true, true, true, true, true, true, true, true, true, true, true] (by rfl) hsize hdef hold (by kernel_rfl)
      rw [hg] at er
      clear hr hslot hold hm hg hsize hdef
      subst hX
      dsimp only [mixF]
      rw [er]
      clear er
      go_wp2
      go_ret
      exact .mk ⟨rfl, M13.out.same MR.out⟩
theorem pnodes_any (br : Bool) (cp : Option Addr) (cn cc : Nat) (xs : List Cv) (kp : Option Addr) (kn kc : Nat) (ks : List Bv) (qp : Option Addr) (qn qc : Nat) (kids : List Int) (w : World) (h : NdIn w br cp cn cc xs kp kn kc ks qp qn qc kids) :
    Calls Tryz.prog 3 #[.agg #[.bool br, .slice cp cn cc, .slice kp kn kc, .slice qp qn qc]] w (Ret (BoolM true w)) := by
  cases br with
  | true => exact pnodes_br cp cn cc xs kp kn kc ks qp qn qc kids w h
  | false => exact pnodes_lf cp cn cc xs kp kn kc ks qp qn qc kids w h
end Go.Proofs.YtgimdodbajhpoaaGreatDoor
