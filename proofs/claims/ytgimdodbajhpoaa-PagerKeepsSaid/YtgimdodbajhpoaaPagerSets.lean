/- PagerSets: a fresh page that is set says so; no other page is touched. -/
import Derived.Test.YtgimdodbajhpoaaPagerAwake
import Derived.Test.YtgimdodbajhpoaaBv
import Derived.Test.YtgimdodbajhpoaaFrame
import Derived.Deep.OwnRows
import Derived.Deep.DeepCutAuto
namespace Go.Proofs.Ytgimdodbajhpoaa
open Go.RowKit Go.Maps
set_option linter.unusedSimpArgs false
set_option linter.unusedVariables false

/-- The pager behind i puts. -/
def pmAt (ls : List (List Int)) (i : Nat) : Pm := ⟨⟨40, 2 + i, []⟩, 1, 0, (List.range i).map fun j : Nat => (2 + (j : Int), ls.getD j [])⟩
theorem insG_last {α : Type} {x : Int} {v : α} : ∀ {m : List (Int × α)}, (∀ p ∈ m, p.1 < x) → insG x v m = m ++ [(x, v)]
  | [], _ => rfl
  | a :: r, h => by
    have h1 := h a (by simp)
    unfold insG
    rw [if_neg (by omega), if_neg (by omega), insG_last (fun p hp => h p (by simp [hp]))]; rfl
theorem pmAt_put {ls : List (List Int)} {i : Nat} (hi : i < 38) {l : List Int} (hl : l = ls.getD i []) (hs : l.length ≤ 1016) : (pmAt ls i).put l = ((2 + (i : Int), 0), pmAt ls (i + 1)) := by
  have ha : (pmAt ls i).s.alloc (pmAt ls i).hor = ((2 + (i : Int), 0), ⟨40, 2 + (i : Int) + 1, []⟩) := by
    show (PS.alloc ⟨40, 2 + i, []⟩ 0) = _
    unfold PS.alloc
    simp only [List.find?_nil]
    rw [if_neg (by omega)]
  unfold Pm.put
  rw [if_neg (by omega), ha]
  simp only [if_pos]
  have hf : insG (2 + (i : Int)) l (pmAt ls i).f = (pmAt ls (i + 1)).f := by
    rw [insG_last]
    · unfold pmAt; simp only [List.range_succ, List.map_append, List.map_cons, List.map_nil, hl]
    · intro p hp
      unfold pmAt at hp
      simp only [List.mem_map, List.mem_range] at hp
      obtain ⟨j, hj, rfl⟩ := hp
      simp; omega
  rw [hf]
  have e : (2 + (i : Int) + 1) = 2 + ((i + 1 : Nat) : Int) := by omega
  rw [e]; rfl
theorem pmAt_look {ls : List (List Int)} {n : Nat} (x : Int) : lookG (pmAt ls n).f x = if 2 ≤ x ∧ x < 2 + n then some (ls.getD (x - 2).toNat []) else none := by
  have hs : SrtG (pmAt ls n).f := by
    unfold SrtG pmAt
    rw [List.pairwise_map]
    exact List.pairwise_lt_range.imp (fun h => by simp; omega)
  by_cases h : 2 ≤ x ∧ x < 2 + n
  · rw [if_pos h]
    have hm : (x, ls.getD (x - 2).toNat []) ∈ (pmAt ls n).f := by
      unfold pmAt
      simp only [List.mem_map, List.mem_range]
      exact ⟨(x - 2).toNat, by omega, by rw [show 2 + (((x - 2).toNat : Nat) : Int) = x by omega]⟩
    exact lookG_of_mem hs hm
  · rw [if_neg h]
    cases hl : lookG (pmAt ls n).f x with
    | none => rfl
    | some v =>
      exfalso
      have := lookG_mem hl
      unfold pmAt at this
      simp only [List.mem_map, List.mem_range] at this
      obtain ⟨j, hj, he⟩ := this
      injection he with e1 e2
      omega
theorem pmAt_srt (ls : List (List Int)) (n : Nat) : SrtG (pmAt ls n).f := by
  unfold SrtG pmAt
  rw [List.pairwise_map]
  exact List.pairwise_lt_range.imp (fun h => by simp; omega)
theorem pmAt_set_len {ls : List (List Int)} {n : Nat} {k : Int} {l : List Int} : ((pmAt ls n).set k l).2.f.length = n := by
  have hl : (pmAt ls n).f.length = n := by unfold pmAt; simp
  unfold Pm.set
  split
  · rename_i h
    show (insG k l (pmAt ls n).f).length = n
    have key : ∀ (m : List (Int × List Int)), SrtG m → (lookG m k).isSome = true → (insG k l m).length = m.length := by
      intro m
      induction m with
      | nil => intro _ h; simp [lookG] at h
      | cons a r ih =>
        intro hs hk
        obtain ⟨h1, h2⟩ := List.pairwise_cons.1 hs
        unfold insG
        by_cases c1 : k < a.1
        · exfalso
          obtain ⟨v, hv⟩ := Option.isSome_iff_exists.1 hk
          have := lookG_mem hv
          rcases List.mem_cons.1 this with e | e
          · rw [← e] at c1; simp at c1
          · have := h1 _ e; simp at this; omega
        · rw [if_neg c1]
          by_cases c2 : k = a.1
          · rw [if_pos c2]; rfl
          · rw [if_neg c2, List.length_cons, List.length_cons, ih h2]
            have e : (a.1 == k) = false := by simp; omega
            simp only [lookG, List.find?_cons, e] at hk ⊢
            exact hk
    rw [key _ (pmAt_srt ls n) h.1, hl]
  · exact hl
/-- What is read behind a Set. -/
theorem pmAt_set_read {ls : List (List Int)} {n : Nat} {k : Int} {l : List Int} (hl : l.length ≤ 1016) (hk : 2 ≤ k) {i : Nat} (hi : i < n) (ck : Ck) : ((pmAt ls n).set k l).2.read ck (2 + (i : Int)) = (pad 1016 (if 2 + (i : Int) = k then l else ls.getD i []), 0) := by
  unfold Pm.set
  have hlook : lookG (pmAt ls n).f (2 + (i : Int)) = some (ls.getD i []) := by
    rw [pmAt_look, if_pos (by omega)]; congr 2; omega
  split
  · rename_i h
    unfold Pm.read
    show (match lookG (insG k l (pmAt ls n).f) (2 + (i : Int)) with | some l => (pad 1016 l, 0) | none => ck.load (2 + (i : Int))) = _
    rw [lookG_ins (pmAt_srt ls n)]
    by_cases e : 2 + (i : Int) = k
    · rw [if_pos e, if_pos e]
    · rw [if_neg e, if_neg e, hlook]
  · rename_i h
    have e : ¬ (2 + (i : Int) = k) := fun e => h ⟨by rw [← e, hlook]; rfl, hl⟩
    unfold Pm.read
    rw [hlook, if_neg e]
theorem pmAt_set_code {ls : List (List Int)} {n : Nat} {k : Int} {l : List Int} (hl : l.length ≤ 1016) (hk : 2 ≤ k) : ((pmAt ls n).set k l).1 = if k < 2 + n then 0 else 1 := by
  unfold Pm.set
  rw [pmAt_look]
  by_cases h : k < 2 + n
  · rw [if_pos (by rw [if_pos ⟨hk, h⟩]; exact ⟨rfl, hl⟩), if_pos h]
  · rw [if_neg (by rw [if_neg (fun x => h x.2)]; simp), if_neg h]
def psE (P : Option Addr) (C wn : Nat) (qa : Option Addr) (wk k : Nat) (PP2 : Option Addr) (oi : Nat) (v : Value) (w : World) : Prop :=
  match oi with
  | 0 => v = .int .i64 0
  | 1 => v = .bool false
  | 2 => v = .bool false
  | 3 => v = .slice P 1016 C
  | 4 => v = .slice qa wn wk
  | 5 => v = .int .i64 wn
  | 6 => v = .slice P wn C
  | 7 => v = .slice qa wn wk
  | 8 => v = .bool true
  | 9 => v = .bool false
  | 10 => v = .bool false
  | 11 => v = .bool false
  | 12 => v = .slice P 1016 C
  | 13 => v = .slice qa wn wk
  | 14 => v = .int .i64 wn
  | 15 => v = .slice PP2 (1016 - wn) (C - wn)
  | 16 => v = .slice qa wn wk
  | 17 => v = .int .i64 wn
  | 18 => v = .int .i64 k
  | 19 => ∃ p c, v = .slice p k c ∧ Sl w 1 p k c (bs (List.replicate k 0)) ∧ p ≠ none
  | 20 => v = .bool true
  | 21 => v = .bool false
  | 22 => v = .bool false
  | _ => True
theorem psE_keep {P : Option Addr} {C wn : Nat} {qa : Option Addr} {wk k : Nat} {PP2 : Option Addr} {oi : Nat} {v : Value} {w w' : World} (hm : Mod [] w w') (hr : psE P C wn qa wk k PP2 oi v w) : psE P C wn qa wk k PP2 oi v w' := by
  have hk := Keep.of_mod hm
  unfold psE at hr ⊢
  split at hr
  · exact hr
  · exact hr
  · exact hr
  · exact hr
  · exact hr
  · exact hr
  · exact hr
  · exact hr
  · exact hr
  · exact hr
  · exact hr
  · exact hr
  · exact hr
  · exact hr
  · exact hr
  · exact hr
  · exact hr
  · exact hr
  · exact hr
  · obtain ⟨p, c, h1, h2, h3⟩ := hr; exact ⟨p, c, h1, h2.keep hk, h3⟩
  · exact hr
  · exact hr
  · exact hr
  · trivial
set_option maxRecDepth 100000 in
set_option maxHeartbeats 8000000 in
theorem psets_any (p : Option Addr) (n c : Nat) (ks : List Bv) (x : Int) (q : Option Addr) (m d : Nat) (l : List Int) (w : World) (h : KeysIn w p n c ks) (hx : 0 ≤ x ∧ x < 256) (hl : BytesIn w q m d l) :
    Calls Try.prog 3 #[.slice p n c, .int .u8 x, .slice q m d] w (Ret (BoolM true w)) := by
  have hlen := h.len
  have hlm := hl.len
  obtain ⟨b, off, hp, hcs⟩ := h.sl.at_
  have hidx := fun W => Sl.idx (P := Try.prog) (cap := c) Try.underlying22 sizeSl (fun h => (hp h).1) W .i64
  have HLT : Hid (0 < n → b < w.heap.size) := fun h => (hp h).2
  have HCE : Hid (∀ i, i < n → ∃ k : Bv, ks[i]? = some k ∧ w.cell? ⟨b, off + i, none⟩ = some (.slice k.p k.n k.c) ∧ BytesIn w k.p k.n k.c k.l) := fun i hi => by
    have hk : i < ks.length := by omega
    refine ⟨ks[i], List.getElem?_eq_getElem hk, hcs i _ (by rw [List.getElem?_map, List.getElem?_eq_getElem hk]; rfl), h.io _ (List.getElem_mem hk)⟩
  have HL := Lib.hid hl
  have HX := Lib.hid hx
  have HLM := Lib.hid hlm
  obtain ⟨ls, hls⟩ : ∃ ls, ls = ks.map Bv.l := ⟨_, rfl⟩
  have HLS : Hid (∀ i k, ks[i]? = some k → ls.getD i [] = k.l) := fun i k hk => by
    rw [hls, List.getD_eq_getElem?_getD, List.getElem?_map, hk]; rfl
  clear h hl hp hcs hlen hx hls hlm
  go_enter Try.func3, Try.ntmps3
  go_wp2_with fail
  refine (awake_any _).mono ?_
  rintro _ w1 ⟨_, rfl, rfl, m1⟩
  have M1 := Lib.hid m1
  clear m1
  by_cases h12 : 12 < n
  · have hz : decide (12 < n) = true := by simpa using h12
    have hzi : (12 : Int) < (n : Int) := by omega
    go_wp2
    go_ret
    exact .mk ⟨rfl, M1.out⟩
  have hz12 : decide (12 < n) = false := by simpa using h12
  have hzi12 : ¬ ((12 : Int) < (n : Int)) := by omega
  by_cases h1016 : 1016 < m
  · have hz : decide (1016 < m) = true := by simpa using h1016
    have hzi : (1016 : Int) < (m : Int) := by omega
    go_wp2
    go_ret
    exact .mk ⟨rfl, M1.out⟩
  have hz1016 : decide (1016 < m) = false := by simpa using h1016
  have hzi1016 : ¬ ((1016 : Int) < (m : Int)) := by omega
  have hn12 : n ≤ 12 := by omega
  have hm1016 : m ≤ 1016 := by omega
  clear h12 h1016
  go_wp2_with fail
  refine (pnew_any 40 2 none 0 0 [] w1 (nil_freed w1)).mono ?_
  rintro _ w2 ⟨_, rfl, m2, h2⟩
  rw [show PS.new 40 2 [] = some ⟨40, 2, []⟩ from rfl] at h2
  obtain ⟨sb, bm, rfl, hp2, _, _⟩ := h2
  have HP2 := Lib.hid hp2
  have M2 := Lib.hid (M1.out.same m2)
  clear m2 hp2
  go_wp2_with fail
  refine (dnew_any 40 40 w2 (by decide)).mono ?_
  rintro _ w3 ⟨_, rfl, D, Td, rfl, hd3, m3, hdb⟩
  have HD3 := Lib.hid hd3
  have HP3 := Lib.hid (HP2.out.mod m3 (by simp) (by simp))
  have M3 := Lib.hid (M2.out.same m3)
  have HDL : Hid (∀ b ∈ Td, b < w3.heap.size) := by obtain ⟨gs, ws, vs, vw, M, DM, S, hh⟩ := hd3; exact hh.lt
  clear m3 hd3 hdb
  go_wp2_with fail
  refine (pgrnew_any D sb bm ⟨40, 2, []⟩ 1 0 w3 HP3.out (by omega) (by omega)).mono ?_
  rintro _ w4 ⟨_, rfl, X, T0, rfl, hx4, m4, hxb⟩
  have HX4 : Hid (PgrAt w4 X T0 D (pmAt ls 0)) := hx4
  have HD4 := Lib.hid (HD3.out.mod m4 (by simp))
  have M4 := Lib.hid (M3.out.same m4)
  have HTB : Hid (∀ b ∈ T0, w3.heap.size ≤ b) := hxb
  have HS4 : Hid (w3.heap.size ≤ w4.heap.size) := m4.size
  clear m4 hx4 hxb
  go_wp2
  go_loopw [11] (fun iv wr => ∃ (i : Nat) (T : List Nat), i ≤ n ∧ iv = .int .i64 i ∧ (∀ j, j < i → (ls.getD j []).length ≤ 1016) ∧ PgrAt wr X T D (pmAt ls i) ∧ (∀ b ∈ T, w3.heap.size ≤ b) ∧ w3.heap.size ≤ wr.heap.size ∧ DiskAt wr D Td (ck0 40) ∧ Mod [] w wr) (fun iv _ => n - (intOf iv).toNat)
  case atStart => exact ⟨0, T0, by omega, rfl, by omega, HX4.out, HTB.out, HS4.out, HD4.out, M4.out⟩
  case round =>
    clear HX4 HTB HD4
    obtain ⟨i, T, hi, rfl, hsm, hxr, htb, hszr, hdr, hmr⟩ := hrel
    have HSR := Lib.hid hszr
    have HSM := Lib.hid hsm
    have HXR := Lib.hid hxr
    have HTB := Lib.hid htb
    have HDR := Lib.hid hdr
    have HMR := Lib.hid hmr
    clear hsm hxr htb hdr hmr hszr
    by_cases hlt : i < n
    · obtain ⟨k, hk, hcell, hio⟩ := HCE.out i hlt
      have hbl := HLT.out (by omega)
      rw [← HMR.out.cell (a := ⟨b, _, none⟩) hbl (by simp)] at hcell
      have hji := fun W => hidx W i hlt
      simp only [Nat.mul_one] at hji
      have hwi : IntKind.i64.wrap ((i : Int) + 1) = (i : Int) + 1 := IntWalk.i64_in _ (by omega)
      have HIO := Lib.hid hio
      have HKL := Lib.hid (HLS.out i k hk)
      obtain ⟨kp, kn, kc, kl⟩ := k
      simp only at hcell HIO HKL
      clear hio hk
      by_cases hbig : 1016 < kn
      · have hz : (1016 : Int) < (kn : Int) := by omega
        go_wp2
        go_ret
        exact .mk ⟨rfl, HMR.out⟩
      have hz : ¬ ((1016 : Int) < (kn : Int)) := by omega
      have HPUT := Lib.hid (pmAt_put (ls := ls) (i := i) (by omega) (l := kl) HKL.out.symm (by have := HIO.out.len; omega))
      have HPB : Hid (∀ a, kp = some a → 0 < kn → a.block ∉ T) := fun a ha h0 hb => by
        obtain ⟨b', o', e, hlt', _⟩ := HIO.out.sl.addr h0
        rw [e] at ha; cases ha
        have h1 : w3.heap.size ≤ b' := HTB.out _ hb
        have h2 := M3.out.size
        omega
      go_wp2_with fail
      refine (pgrput_any X T D (pmAt ls i) kp kn kc kl _ HXR.out ⟨HIO.out.sl.mod HMR.out (by simp), HIO.out.wf⟩ HPB.out).mono ?_
      rintro _ w5 ⟨_, rfl, rfl, T5, hx5, m5, ht5⟩
      rw [HPUT.out] at hx5 ⊢
      have HX5 : Hid (PgrAt w5 X T5 D (pmAt ls (i + 1))) := hx5
      have M5 := Lib.hid m5
      have hTd : ∀ b ∈ Td, b ∉ T := fun b hb ht => by have := HDL.out b hb; have := HTB.out b ht; omega
      have HD5 := Lib.hid (HDR.out.mod m5 hTd)
      have HMR5 : Hid (Mod [] w w5) := HMR.out.trans m5 (fun b hb => Or.inr (by have := HTB.out b hb; have := M3.out.size; omega))
      have HTB5 : Hid (∀ b ∈ T5, w3.heap.size ≤ b) := fun b hb => by
        rcases ht5 b hb with h | h
        · exact HTB.out b h
        · exact Nat.le_trans HSR.out h
      have HSR5 : Hid (w3.heap.size ≤ w5.heap.size) := Nat.le_trans HSR.out m5.size
      have HSM5 : Hid (∀ j, j < i + 1 → (ls.getD j []).length ≤ 1016) := fun j hj => by
        rcases Nat.lt_succ_iff_lt_or_eq.1 hj with h | rfl
        · exact HSM.out j h
        · rw [HKL.out]; have := HIO.out.len; omega
      clear hx5 m5 ht5 hTd
      simp only
      go_wp2
      go_roundw
      case rel => exact ⟨i + 1, T5, by omega, by go_num, HSM5.out, HX5.out, HTB5.out, HSR5.out, HD5.out, HMR5.out⟩
      case measure => simp [intOf]; omega
    · obtain rfl : i = n := by omega
      obtain ⟨K, hK⟩ : ∃ K : Int, K = 2 + x % 14 := ⟨_, rfl⟩
      have hx0 := HX.out.1
      have hx1 := HX.out.2
      have hwx : IntKind.i64.wrap x = x := IntWalk.i64_in _ (by omega)
      have hwK : IntKind.i64.wrap (2 + x % 14) = K := by rw [IntWalk.i64_in _ (by omega)]; exact hK.symm
      have hK2 : 2 ≤ K := by omega
      have hK3 : K < 16 := by omega
      have HSET := fun W hm h => Lib.hid (pgrset_any X T D (pmAt ls i) K q m d l W h ⟨HL.out.sl.mod (S := []) (w' := W) hm (by simp), HL.out.wf⟩ (by omega))
      have HKE := Lib.hid hK
      clear hK hlt
      go_wp2_with fail
      refine (HSET _ HMR.out HXR.out).out.mono ?_
      rintro _ w5 ⟨_, rfl, rfl, T5, hx5, m5, ht5⟩
      rw [pmAt_set_code (by have := HLM.out; omega) hK2]
      have HRD : Hid (∀ j, j < i → ((pmAt ls i).set K l).2.read (ck0 40) (2 + (j : Int)) = (pad 1016 (if 2 + (j : Int) = K then l else ls.getD j []), 0)) := fun j hj => pmAt_set_read (by have := HLM.out; omega) hK2 hj _
      have HFL : Hid (((pmAt ls i).set K l).2.f.length = i) := pmAt_set_len
      generalize ((pmAt ls i).set K l).2 = M2 at *
      have HX5 := Lib.hid hx5
      have hTd : ∀ b ∈ Td, b ∉ T := fun b hb ht => by have := HDL.out b hb; have := HTB.out b ht; omega
      have HD5 := Lib.hid (HDR.out.mod m5 hTd)
      have HMR5 : Hid (Mod [] w w5) := HMR.out.trans m5 (fun b hb => Or.inr (by have := HTB.out b hb; have := M3.out.size; omega))
      have hw2i : IntKind.i64.wrap (2 + (i : Int)) = 2 + (i : Int) := IntWalk.i64_in _ (by omega)
      clear hx5 m5 ht5 hTd HSET HXR HDR HMR HTB
      go_upto_region 18 with fail
      go_cut [13, 83] (fun _ s83 wx => s83 = .bool false ∧ w5 = wx)
      case first =>
        by_cases hKn : K < 2 + (i : Int)
        · rw [if_pos hKn]
          have hkb : decide (K < 2 + (i : Int)) = true := by simpa using hKn
          go_wp2_with fail
          go_meet
          exact ⟨by first | rfl | simp, rfl⟩
        · rw [if_neg hKn]
          have hkb : decide (K < 2 + (i : Int)) = false := by simpa using hKn
          go_wp2_with fail
          go_meet
          exact ⟨by first | rfl | simp, rfl⟩
      case rest =>
      obtain ⟨rfl, rfl⟩ := hcut
      go_wp2
      go_loopg [14] i (fun g jv wx => ∃ (j : Nat) (W0 : World), j ≤ i ∧ g = i - j ∧ W0 = wx ∧ jv = .int .i64 j ∧ PgrAt W0 X T5 D M2 ∧ DiskAt W0 D Td (ck0 40) ∧ Mod [] w W0)
      case atStart => exact ⟨0, _, by omega, rfl, rfl, rfl, HX5.out, HD5.out, HMR5.out⟩
      case round =>
        clear HX5 HD5 HMR5
        obtain ⟨j, W0, hj, rfl, rfl, rfl, hxz, hdz, hmz⟩ := hrel
        have HXZ := Lib.hid hxz
        have HDZ := Lib.hid hdz
        have HMZ := Lib.hid hmz
        clear hxz hdz hmz
        by_cases hlt : j < i
        · obtain ⟨kb, hk, hcell, hio⟩ := HCE.out j hlt
          have hbl := HLT.out (by omega)
          rw [← HMZ.out.cell (a := ⟨b, _, none⟩) hbl (by simp)] at hcell
          have hji := fun W => hidx W j hlt
          simp only [Nat.mul_one] at hji
          have hwi : IntKind.i64.wrap ((j : Int) + 1) = (j : Int) + 1 := IntWalk.i64_in _ (by omega)
          have hw2 : IntKind.i64.wrap (2 + (j : Int)) = 2 + (j : Int) := IntWalk.i64_in _ (by omega)
          have HIO := Lib.hid hio
          have HKL := Lib.hid (HLS.out j kb hk)
          have HRJ := Lib.hid (HRD.out j hlt)
          have hsm := HSM.out j hlt
          obtain ⟨kp, kn, kc, kl⟩ := kb
          simp only at hcell HIO HKL
          rw [HKL.out] at HRJ hsm
          clear hio hk
          go_upto_if 97 with fail
          go_cut [15] (fun s15 wx => W0 = wx ∧ ∃ (qa : Option Addr) (wn wk : Nat) (wl : List Int), s15 = .slice qa wn wk ∧ wn ≤ 1016 ∧ BytesIn w qa wn wk wl ∧ M2.read (ck0 40) (2 + (j : Int)) = (pad 1016 wl, 0))
          case first =>
            by_cases he : 2 + (j : Int) = K
            · rw [if_pos he] at HRJ
              have heb : ((2 + (j : Int)) == K) = true := by simpa using he
              clear he
              go_wp2_with fail
              go_meet
              exact ⟨rfl, _, _, _, _, rfl, hm1016, HL.out, HRJ.out⟩
            · rw [if_neg he] at HRJ
              have heb : ((2 + (j : Int)) == K) = false := by simpa using he
              clear he
              go_wp2_with fail
              go_meet
              exact ⟨rfl, _, _, _, _, rfl, by rw [← HIO.out.len]; exact hsm, HIO.out, HRJ.out⟩
          case rest =>
            clear HRJ HIO HKL hcell hji
            obtain ⟨rfl, qa, wn, wk, wl, rfl, hwn16, hwi2, hrj⟩ := hcut
            have HWI := Lib.hid hwi2
            have HRJ := Lib.hid hrj
            clear hwi2 hrj
            have HWL : Hid ((wl).length = wn) := HWI.out.len
            obtain ⟨k, hk⟩ : ∃ k, k = 1016 - wn := ⟨_, rfl⟩
            have hwk : IntKind.i64.wrap (1016 - (wn : Int)) = (k : Int) := by rw [IntWalk.i64_in _ (by omega)]; omega
            go_wp2_with fail
            refine (pgrread_any X T5 D Td M2 (ck0 40) (2 + (j : Int)) _ HXZ.out HDZ.out (by omega)).mono ?_
            rintro _ w7 ⟨_, rfl, P, n7, C, rfl, e7, b7, t7, m7⟩
            rw [HRJ.out] at e7 b7 t7 ⊢
            have hpl : (pad 1016 (wl)).length = 1016 := pad_len (by have := HWL.out; omega)
            obtain rfl : n7 = 1016 := by rw [e7]; exact hpl
            have B7 := Lib.hid b7
            have HX7 := Lib.hid (HXZ.out.mod m7 (by simp))
            have HD7 := Lib.hid (HDZ.out.mod m7 (by simp))
            have M7 := Lib.hid (HMZ.out.same m7)
            have rs1 := (b7.sl.sub_h Try.underlying23 sizeBytes wn .i64 hwn16).1
            have s1 := b7.sl.takeb Try.underlying23 sizeBytes hwn16
            obtain ⟨PP2, rs2, s2, _⟩ := b7.sl.sub_l Try.underlying23 sizeBytes wn .i64 hwn16
            have e1 : (pad 1016 (wl)).take wn = wl := by unfold pad; rw [← HWL.out, List.take_left]
            have e2 : (pad 1016 (wl)).drop wn = List.replicate k 0 := by unfold pad; rw [← HWL.out, List.drop_left, HWL.out, hk]
            rw [e1] at s1
            have s2' : Sl w7 1 PP2 (1016 - wn) (C - wn) (bs (List.replicate k 0)) := by rw [← e2]; simpa [bs, List.map_drop] using s2
            have HS1 : ∀ W, Mod [] w7 W → Hid _ := fun W hm => Lib.hid (qsame_any P qa wn wn C wk (wl) (wl) W (s1.mod hm (by simp)) (HWI.out.sl.mod (M7.out.same hm) (by simp)))
            simp only [decide_true] at HS1
            have HS2 : ∀ W, Mod [] w7 W → ∀ p c, Sl W 1 p k c (bs (List.replicate k 0)) → Hid _ := fun W hm p c hz => Lib.hid (qsame_any PP2 p (1016 - wn) k (C - wn) c (List.replicate k 0) (List.replicate k 0) W (s2'.mod hm (by simp)) hz)
            simp only [decide_true] at HS2
            unfold SameR at HS1 HS2
            have hmk : ∀ W : World, (Instr.makeSlice 23 (.int .i64 (k : Int)) (.int .i64 (k : Int))).run Try.prog W = .ok (.slice (some ⟨W.heap.size, 0, none⟩) k k) (W.alloc (.cells (bs (List.replicate k 0)).toArray 5)) := fun W => by
              have h := run_make_row' (P := Try.prog) 23 5 (.int .u8 0) 1 Try.underlying23 infoU8 rfl .i64 .i64 k (by omega) (by omega) W
              rw [h, madeCells_one, bs_replicate]
            have HZS : ∀ W : World, Sl (W.alloc (.cells (bs (List.replicate k 0)).toArray 5)) 1 (some ⟨W.heap.size, 0, none⟩) k k (bs (List.replicate k 0)) := fun W => Sl.new W _ _ 1 k (by rw [bs_len]; simp) (by unfold maxLen; omega) (bs_one _)
            clear e7 b7 t7 m7 s1 s2 s2' e1 e2 hpl hk
            simp only
            go_wp2
            refine par_region (by kernel_rfl) (fun oi vs w => psE P C wn qa wk k PP2 oi (vs oi) w) (fun w' => Mod [] w7 w') (by kernel_rfl) (fun j vs vs' w o _ h1 _ h2 => by rw [← h1]; exact h2) ⟨⟨⟨⟨⟨⟨⟨⟨⟨⟨⟨⟨⟨⟨⟨⟨⟨⟨⟨⟨⟨⟨⟨trivial, ?_⟩, ?_⟩, ?_⟩, ?_⟩, ?_⟩, ?_⟩, ?_⟩, ?_⟩, ?_⟩, ?_⟩, ?_⟩, ?_⟩, ?_⟩, ?_⟩, ?_⟩, ?_⟩, ?_⟩, ?_⟩, ?_⟩, ?_⟩, ?_⟩, ?_⟩, ?_⟩ (Mod.of_drew w7) ?_
            · intro o ho listed vs a w' inv hun haft K hK
              obtain rfl := Option.some.inj ho
              refine par_run rfl ?_
              have e0 := inv.old 17 (by kernel_rfl)
              have INV := Lib.hid inv
              clear inv haft hun ho
              simp at e0
              go_simp
              exact hK _ _ INV.out.inv INV.out.val rfl
            · intro o ho listed vs a w' inv hun haft K hK
              obtain rfl := Option.some.inj ho
              refine par_run rfl ?_
              obtain ⟨e0, r0⟩ := inv.get haft 0 106 (by kernel_rfl) (by kernel_rfl)
              have INV := Lib.hid inv
              clear inv haft hun ho
              change vs 0 = .int .i64 0 at r0
              rw [r0] at e0
              have g0 := getD_opt e0
              go_simp
              exact hK _ _ INV.out.inv INV.out.val rfl
            · intro o ho listed vs a w' inv hun haft K hK
              obtain rfl := Option.some.inj ho
              refine par_run rfl ?_
              obtain ⟨e0, r0⟩ := inv.get haft 1 107 (by kernel_rfl) (by kernel_rfl)
              have INV := Lib.hid inv
              clear inv haft hun ho
              change vs 1 = .bool false at r0
              rw [r0] at e0
              have g0 := getD_opt e0
              go_simp
              exact hK _ _ INV.out.inv INV.out.val rfl
            · intro o ho listed vs a w' inv hun haft K hK
              obtain rfl := Option.some.inj ho
              obtain ⟨e0, r0⟩ := inv.get haft 2 108 (by kernel_rfl) (by kernel_rfl)
              have e1 := inv.old 16 (by kernel_rfl)
              have INV := Lib.hid inv
              clear inv haft hun ho
              change vs 2 = .bool false at r0
              rw [r0] at e0
              have g0 := getD_opt e0
              simp at e1
              refine par_guard rfl (by kernel_rfl) e0 ?_
              rw [if_pos rfl]
              go_simp
              exact hK _ _ INV.out.inv INV.out.val rfl
            · intro o ho listed vs a w' inv hun haft K hK
              obtain rfl := Option.some.inj ho
              obtain ⟨e0, r0⟩ := inv.get haft 2 108 (by kernel_rfl) (by kernel_rfl)
              have e1 := inv.old 15 (by kernel_rfl)
              have INV := Lib.hid inv
              clear inv haft hun ho
              change vs 2 = .bool false at r0
              rw [r0] at e0
              have g0 := getD_opt e0
              simp at e1
              refine par_guard rfl (by kernel_rfl) e0 ?_
              rw [if_pos rfl]
              go_simp
              exact hK _ _ INV.out.inv INV.out.val rfl
            · intro o ho listed vs a w' inv hun haft K hK
              obtain rfl := Option.some.inj ho
              obtain ⟨e0, r0⟩ := inv.get haft 2 108 (by kernel_rfl) (by kernel_rfl)
              obtain ⟨e1, r1⟩ := inv.get haft 4 110 (by kernel_rfl) (by kernel_rfl)
              have INV := Lib.hid inv
              clear inv haft hun ho
              change vs 2 = .bool false at r0
              rw [r0] at e0
              have g0 := getD_opt e0
              change vs 4 = .slice qa wn wk at r1
              rw [r1] at e1
              have g1 := getD_opt e1
              refine par_guard rfl (by kernel_rfl) e0 ?_
              rw [if_pos rfl]
              go_simp
              exact hK _ _ INV.out.inv INV.out.val rfl
            · intro o ho listed vs a w' inv hun haft K hK
              obtain rfl := Option.some.inj ho
              obtain ⟨e0, r0⟩ := inv.get haft 2 108 (by kernel_rfl) (by kernel_rfl)
              obtain ⟨e1, r1⟩ := inv.get haft 3 109 (by kernel_rfl) (by kernel_rfl)
              obtain ⟨e2, r2⟩ := inv.get haft 5 111 (by kernel_rfl) (by kernel_rfl)
              have INV := Lib.hid inv
              clear inv haft hun ho
              change vs 2 = .bool false at r0
              rw [r0] at e0
              have g0 := getD_opt e0
              change vs 3 = .slice P 1016 C at r1
              rw [r1] at e1
              have g1 := getD_opt e1
              change vs 5 = .int .i64 wn at r2
              rw [r2] at e2
              have g2 := getD_opt e2
              refine par_guard rfl (by kernel_rfl) e0 ?_
              rw [if_pos rfl]
              go_simp
              exact hK _ _ INV.out.inv INV.out.val rfl
            · intro o ho listed vs a w' inv hun haft K hK
              obtain rfl := Option.some.inj ho
              obtain ⟨e0, r0⟩ := inv.get haft 2 108 (by kernel_rfl) (by kernel_rfl)
              have e1 := inv.old 15 (by kernel_rfl)
              have INV := Lib.hid inv
              clear inv haft hun ho
              change vs 2 = .bool false at r0
              rw [r0] at e0
              have g0 := getD_opt e0
              simp at e1
              refine par_guard rfl (by kernel_rfl) e0 ?_
              rw [if_pos rfl]
              go_simp
              exact hK _ _ INV.out.inv INV.out.val rfl
            · intro o ho listed vs a w' inv hun haft K hK
              obtain rfl := Option.some.inj ho
              obtain ⟨e0, r0⟩ := inv.get haft 2 108 (by kernel_rfl) (by kernel_rfl)
              obtain ⟨e1, r1⟩ := inv.get haft 6 112 (by kernel_rfl) (by kernel_rfl)
              obtain ⟨e2, r2⟩ := inv.get haft 7 113 (by kernel_rfl) (by kernel_rfl)
              have INV := Lib.hid inv
              clear inv haft hun ho
              change vs 2 = .bool false at r0
              rw [r0] at e0
              have g0 := getD_opt e0
              change vs 6 = .slice P wn C at r1
              rw [r1] at e1
              have g1 := getD_opt e1
              change vs 7 = .slice qa wn wk at r2
              rw [r2] at e2
              have g2 := getD_opt e2
              refine par_guard rfl (by kernel_rfl) e0 ?_
              rw [if_pos rfl]
              go_simp
              refine (HS1 _ INV.out.inv).out.mono ?_
              rintro _ w3 ⟨_, rfl, rfl, m3⟩
              exact hK _ _ (INV.out.inv.same m3) (fun j hj hl => psE_keep m3 (INV.out.val j hj hl)) rfl
            · intro o ho listed vs a w' inv hun haft K hK
              obtain rfl := Option.some.inj ho
              obtain ⟨e0, r0⟩ := inv.get haft 2 108 (by kernel_rfl) (by kernel_rfl)
              obtain ⟨e1, r1⟩ := inv.get haft 8 114 (by kernel_rfl) (by kernel_rfl)
              have INV := Lib.hid inv
              clear inv haft hun ho
              change vs 2 = .bool false at r0
              rw [r0] at e0
              have g0 := getD_opt e0
              change vs 8 = .bool true at r1
              rw [r1] at e1
              have g1 := getD_opt e1
              refine par_guard rfl (by kernel_rfl) e0 ?_
              rw [if_pos rfl]
              go_simp
              exact hK _ _ INV.out.inv INV.out.val rfl
            · intro o ho listed vs a w' inv hun haft K hK
              obtain rfl := Option.some.inj ho
              refine par_run rfl ?_
              obtain ⟨e0, r0⟩ := inv.get haft 2 108 (by kernel_rfl) (by kernel_rfl)
              obtain ⟨e1, r1⟩ := inv.get haft 9 115 (by kernel_rfl) (by kernel_rfl)
              have INV := Lib.hid inv
              clear inv haft hun ho
              change vs 2 = .bool false at r0
              rw [r0] at e0
              have g0 := getD_opt e0
              change vs 9 = .bool false at r1
              rw [r1] at e1
              have g1 := getD_opt e1
              go_simp
              exact hK _ _ INV.out.inv INV.out.val rfl
            · intro o ho listed vs a w' inv hun haft K hK
              obtain rfl := Option.some.inj ho
              refine par_run rfl ?_
              obtain ⟨e0, r0⟩ := inv.get haft 10 116 (by kernel_rfl) (by kernel_rfl)
              have INV := Lib.hid inv
              clear inv haft hun ho
              change vs 10 = .bool false at r0
              rw [r0] at e0
              have g0 := getD_opt e0
              go_simp
              exact hK _ _ INV.out.inv INV.out.val rfl
            · intro o ho listed vs a w' inv hun haft K hK
              obtain rfl := Option.some.inj ho
              obtain ⟨e0, r0⟩ := inv.get haft 11 117 (by kernel_rfl) (by kernel_rfl)
              have e1 := inv.old 16 (by kernel_rfl)
              have INV := Lib.hid inv
              clear inv haft hun ho
              change vs 11 = .bool false at r0
              rw [r0] at e0
              have g0 := getD_opt e0
              simp at e1
              refine par_guard rfl (by kernel_rfl) e0 ?_
              rw [if_pos rfl]
              go_simp
              exact hK _ _ INV.out.inv INV.out.val rfl
            · intro o ho listed vs a w' inv hun haft K hK
              obtain rfl := Option.some.inj ho
              obtain ⟨e0, r0⟩ := inv.get haft 11 117 (by kernel_rfl) (by kernel_rfl)
              have e1 := inv.old 15 (by kernel_rfl)
              have INV := Lib.hid inv
              clear inv haft hun ho
              change vs 11 = .bool false at r0
              rw [r0] at e0
              have g0 := getD_opt e0
              simp at e1
              refine par_guard rfl (by kernel_rfl) e0 ?_
              rw [if_pos rfl]
              go_simp
              exact hK _ _ INV.out.inv INV.out.val rfl
            · intro o ho listed vs a w' inv hun haft K hK
              obtain rfl := Option.some.inj ho
              obtain ⟨e0, r0⟩ := inv.get haft 11 117 (by kernel_rfl) (by kernel_rfl)
              obtain ⟨e1, r1⟩ := inv.get haft 13 119 (by kernel_rfl) (by kernel_rfl)
              have INV := Lib.hid inv
              clear inv haft hun ho
              change vs 11 = .bool false at r0
              rw [r0] at e0
              have g0 := getD_opt e0
              change vs 13 = .slice qa wn wk at r1
              rw [r1] at e1
              have g1 := getD_opt e1
              refine par_guard rfl (by kernel_rfl) e0 ?_
              rw [if_pos rfl]
              go_simp
              exact hK _ _ INV.out.inv INV.out.val rfl
            · intro o ho listed vs a w' inv hun haft K hK
              obtain rfl := Option.some.inj ho
              obtain ⟨e0, r0⟩ := inv.get haft 11 117 (by kernel_rfl) (by kernel_rfl)
              obtain ⟨e1, r1⟩ := inv.get haft 12 118 (by kernel_rfl) (by kernel_rfl)
              obtain ⟨e2, r2⟩ := inv.get haft 14 120 (by kernel_rfl) (by kernel_rfl)
              have INV := Lib.hid inv
              clear inv haft hun ho
              change vs 11 = .bool false at r0
              rw [r0] at e0
              have g0 := getD_opt e0
              change vs 12 = .slice P 1016 C at r1
              rw [r1] at e1
              have g1 := getD_opt e1
              change vs 14 = .int .i64 wn at r2
              rw [r2] at e2
              have g2 := getD_opt e2
              refine par_guard rfl (by kernel_rfl) e0 ?_
              rw [if_pos rfl]
              go_simp
              exact hK _ _ INV.out.inv INV.out.val rfl
            · intro o ho listed vs a w' inv hun haft K hK
              obtain rfl := Option.some.inj ho
              obtain ⟨e0, r0⟩ := inv.get haft 11 117 (by kernel_rfl) (by kernel_rfl)
              have e1 := inv.old 15 (by kernel_rfl)
              have INV := Lib.hid inv
              clear inv haft hun ho
              change vs 11 = .bool false at r0
              rw [r0] at e0
              have g0 := getD_opt e0
              simp at e1
              refine par_guard rfl (by kernel_rfl) e0 ?_
              rw [if_pos rfl]
              go_simp
              exact hK _ _ INV.out.inv INV.out.val rfl
            · intro o ho listed vs a w' inv hun haft K hK
              obtain rfl := Option.some.inj ho
              obtain ⟨e0, r0⟩ := inv.get haft 11 117 (by kernel_rfl) (by kernel_rfl)
              obtain ⟨e1, r1⟩ := inv.get haft 16 122 (by kernel_rfl) (by kernel_rfl)
              have INV := Lib.hid inv
              clear inv haft hun ho
              change vs 11 = .bool false at r0
              rw [r0] at e0
              have g0 := getD_opt e0
              change vs 16 = .slice qa wn wk at r1
              rw [r1] at e1
              have g1 := getD_opt e1
              refine par_guard rfl (by kernel_rfl) e0 ?_
              rw [if_pos rfl]
              go_simp
              exact hK _ _ INV.out.inv INV.out.val rfl
            · intro o ho listed vs a w' inv hun haft K hK
              obtain rfl := Option.some.inj ho
              obtain ⟨e0, r0⟩ := inv.get haft 11 117 (by kernel_rfl) (by kernel_rfl)
              obtain ⟨e1, r1⟩ := inv.get haft 17 123 (by kernel_rfl) (by kernel_rfl)
              have INV := Lib.hid inv
              clear inv haft hun ho
              change vs 11 = .bool false at r0
              rw [r0] at e0
              have g0 := getD_opt e0
              change vs 17 = .int .i64 wn at r1
              rw [r1] at e1
              have g1 := getD_opt e1
              refine par_guard rfl (by kernel_rfl) e0 ?_
              rw [if_pos rfl]
              go_simp
              exact hK _ _ INV.out.inv INV.out.val rfl
            · intro o ho listed vs a w' inv hun haft K hK
              obtain rfl := Option.some.inj ho
              obtain ⟨e0, r0⟩ := inv.get haft 11 117 (by kernel_rfl) (by kernel_rfl)
              obtain ⟨e1, r1⟩ := inv.get haft 18 124 (by kernel_rfl) (by kernel_rfl)
              have INV := Lib.hid inv
              clear inv haft hun ho
              change vs 11 = .bool false at r0
              rw [r0] at e0
              have g0 := getD_opt e0
              change vs 18 = .int .i64 k at r1
              rw [r1] at e1
              have g1 := getD_opt e1
              refine par_guard rfl (by kernel_rfl) e0 ?_
              rw [if_pos rfl]
              go_simp
              exact hK _ _ INV.out.inv.alloc (fun j hj hl => psE_keep (Mod.of_alloc _ _) (INV.out.val j hj hl)) ⟨_, _, rfl, HZS _, by simp⟩
            · intro o ho listed vs a w' inv hun haft K hK
              obtain rfl := Option.some.inj ho
              obtain ⟨e0, r0⟩ := inv.get haft 11 117 (by kernel_rfl) (by kernel_rfl)
              obtain ⟨e1, r1⟩ := inv.get haft 15 121 (by kernel_rfl) (by kernel_rfl)
              obtain ⟨e2, r2⟩ := inv.get haft 19 125 (by kernel_rfl) (by kernel_rfl)
              have INV := Lib.hid inv
              clear inv haft hun ho
              change vs 11 = .bool false at r0
              rw [r0] at e0
              have g0 := getD_opt e0
              change vs 15 = .slice PP2 (1016 - wn) (C - wn) at r1
              rw [r1] at e1
              have g1 := getD_opt e1
              obtain ⟨p2, c2, h2, s2, q2⟩ := r2
              rw [h2] at e2
              have g2 := getD_opt e2
              refine par_guard rfl (by kernel_rfl) e0 ?_
              rw [if_pos rfl]
              have HSZ := Lib.hid s2
              clear s2 q2
              go_simp
              refine (HS2 _ INV.out.inv p2 c2 HSZ.out).out.mono ?_
              rintro _ w3 ⟨_, rfl, rfl, m3⟩
              exact hK _ _ (INV.out.inv.same m3) (fun j hj hl => psE_keep m3 (INV.out.val j hj hl)) rfl
            · intro o ho listed vs a w' inv hun haft K hK
              obtain rfl := Option.some.inj ho
              obtain ⟨e0, r0⟩ := inv.get haft 11 117 (by kernel_rfl) (by kernel_rfl)
              obtain ⟨e1, r1⟩ := inv.get haft 20 126 (by kernel_rfl) (by kernel_rfl)
              have INV := Lib.hid inv
              clear inv haft hun ho
              change vs 11 = .bool false at r0
              rw [r0] at e0
              have g0 := getD_opt e0
              change vs 20 = .bool true at r1
              rw [r1] at e1
              have g1 := getD_opt e1
              refine par_guard rfl (by kernel_rfl) e0 ?_
              rw [if_pos rfl]
              go_simp
              exact hK _ _ INV.out.inv INV.out.val rfl
            · intro o ho listed vs a w' inv hun haft K hK
              obtain rfl := Option.some.inj ho
              refine par_run rfl ?_
              obtain ⟨e0, r0⟩ := inv.get haft 11 117 (by kernel_rfl) (by kernel_rfl)
              obtain ⟨e1, r1⟩ := inv.get haft 21 127 (by kernel_rfl) (by kernel_rfl)
              have INV := Lib.hid inv
              clear inv haft hun ho
              change vs 11 = .bool false at r0
              rw [r0] at e0
              have g0 := getD_opt e0
              change vs 21 = .bool false at r1
              rw [r1] at e1
              have g1 := getD_opt e1
              go_simp
              exact hK _ _ INV.out.inv INV.out.val rfl
            intro vs w2 X hm hr hslot hold hsize hdef
            have er := hslot 22 128 (by kernel_rfl)
            have h9 := hr 22 (by decide)
            change vs 22 = .bool false at h9
            rw [h9] at er
            clear h9
            have MR := Lib.hid hm
            obtain ⟨g, hX, hg⟩ := frame_mix [false, false, false, false, false, false, false, false, false, false, false, false, false, false, false, false, false, false, false, false, false, false, false, false, false, false, false, false, false, false, false, false, false, false, false, false, false, false, false, false, false, false, false, false, false, false, false, false, false, false, false, false, false, false, false, false, false, false, false, false, false, false, false, false, false, false, false, false, false, false, false, false, false, false, false, false, false, false, false, false, false, false, false, false, false, false, false, false, false, false, false, false, false, false, false, false, false, false, false, false, false, false, false, false, false, false, true, true, true, true, true, true, true, true, true, true, true, true, true, true, true, true, true, true, true, true, true, true, true, false, false, false, false, false, false] (by rfl) hsize hdef hold (by kernel_rfl)
            rw [hg] at er
            clear hr hslot hold hm hg hsize hdef
            subst hX
            dsimp only [mixF]
            rw [er]
            clear er
            have HX8 := Lib.hid (HX7.out.mod MR.out (by simp))
            have HD8 := Lib.hid (HD7.out.mod MR.out (by simp))
            have M8 := Lib.hid (M7.out.same MR.out)
            clear HS1 HS2 hmk HZS
            go_wp2
            go_roundg (i - (j + 1))
            case rel => exact ⟨j + 1, _, by omega, rfl, rfl, by go_num, HX8.out, HD8.out, M8.out⟩
            case measure => omega
        · obtain rfl : j = i := by omega
          go_wp2_with fail
          refine (pgrfresh_any X T5 D M2 _ HXZ.out).mono ?_
          rintro _ w7 ⟨_, rfl, p7, n7, c7, rfl, e7, o7, m7⟩
          obtain rfl : n7 = j := by rw [e7, List.length_map]; exact HFL.out
          have M7 := Lib.hid (HMZ.out.same m7)
          have hjj : ((n7 : Int) == (n7 : Int)) = true := by simp
          clear e7 o7 m7
          go_wp2
          go_ret
          exact .mk ⟨by first | rfl | (rw [hjj]) | simp, M7.out⟩
end Go.Proofs.Ytgimdodbajhpoaa
