/- PagerKeeps: what one pager wrote is kept, whatever another drops and puts. -/
import Derived.Test.YtgimdodbajhpoaaPagerKeepsP
import Derived.Test.YtgimdodbajhpoaaFull
import Derived.Test.YtgimdodbajhpoaaDiskWait
import Derived.Test.YtgimdodbajhpoaaFrame
import Derived.Deep.DeepCutAuto
namespace Go.Proofs.Ytgimdodbajhpoaa
open Go.RowKit Go.Maps
set_option linter.unusedSimpArgs false
set_option linter.unusedVariables false

theorem PgrAt.few {w : World} {X : Nat} {T : List Nat} {D : Nat} {m : Pm} (h : PgrAt w X T D m) : m.f.length ≤ 2048 := by
  obtain ⟨sb, bm, M, fv, h⟩ := h
  rw [← h.len]; exact h.few
def pkE (P : Option Addr) (C b o1 : Nat) (kp : Option Addr) (kn kc j i c : Nat) (p : Option Addr) (oi : Nat) (v : Value) (w : World) : Prop :=
  match oi with
  | 0 => v = .int .i64 0
  | 1 => v = .bool false
  | 2 => v = .bool false
  | 3 => v = .slice P 1016 C
  | 4 => v = .slice p i c
  | 5 => v = .int .i64 j
  | 6 => v = .pointer (some ⟨b, o1, none⟩)
  | 7 => v = .slice kp kn kc
  | 8 => v = .int .i64 kn
  | 9 => v = .slice P kn C
  | 10 => v = .slice p i c
  | 11 => v = .int .i64 j
  | 12 => v = .pointer (some ⟨b, o1, none⟩)
  | 13 => v = .slice kp kn kc
  | 14 => v = .bool true
  | 15 => v = .bool false
  | 16 => v = .bool false
  | _ => True
theorem pkE_keep {P : Option Addr} {C b o1 : Nat} {kp : Option Addr} {kn kc j i c : Nat} {p : Option Addr} {oi : Nat} {v : Value} {w w' : World} (hm : Mod [] w w') (hr : pkE P C b o1 kp kn kc j i c p oi v w) : pkE P C b o1 kp kn kc j i c p oi v w' := by
  have hk := Keep.of_mod hm
  unfold pkE at hr ⊢
  split at hr
  · exact hr
  · exact hr
  · exact hr
  · exact hr
  · exact hr
  · exact hr
  · exact hr
  · exact hr
  · exact hr
  · exact hr
  · exact hr
  · exact hr
  · exact hr
  · exact hr
  · exact hr
  · exact hr
  · exact hr
  · trivial
set_option maxRecDepth 100000 in
set_option maxHeartbeats 8000000 in
theorem pkeeps_any (p : Option Addr) (n c : Nat) (ks : List Bv) (q : Option Addr) (m d : Nat) (l : List Int) (r : Option Addr) (s e : Nat) (rs : List Bv) (w : World) (h : KeysIn w p n c ks) (hl : BytesIn w q m d l) (hr : KeysIn w r s e rs) :
    Calls Try.prog 4 #[.slice p n c, .slice q m d, .slice r s e] w (Ret (BoolM true w)) := by
  have hlen := h.len
  have hlm := hl.len
  have hrn := hr.len
  obtain ⟨b, off, hp, hcs⟩ := h.sl.at_
  have hidx := fun W => Sl.idx (P := Try.prog) (cap := c) Try.underlying22 sizeSl (fun h => (hp h).1) W .i64
  have HLT : Hid (0 < n → b < w.heap.size) := fun h => (hp h).2
  have HCE : Hid (∀ i, i < n → ∃ k : Bv, ks[i]? = some k ∧ w.cell? ⟨b, off + i, none⟩ = some (.slice k.p k.n k.c) ∧ BytesIn w k.p k.n k.c k.l) := fun i hi => by
    have hk : i < ks.length := by omega
    refine ⟨ks[i], List.getElem?_eq_getElem hk, hcs i _ (by rw [List.getElem?_map, List.getElem?_eq_getElem hk]; rfl), h.io _ (List.getElem_mem hk)⟩
  obtain ⟨b2, off2, hp2, hcs2⟩ := hr.sl.at_
  have hidr := fun W => Sl.idx (P := Try.prog) (cap := e) Try.underlying22 sizeSl (fun h => (hp2 h).1) W .i64
  have HLR : Hid (0 < s → b2 < w.heap.size) := fun h => (hp2 h).2
  have HCR : Hid (∀ i, i < s → ∃ k : Bv, w.cell? ⟨b2, off2 + i, none⟩ = some (.slice k.p k.n k.c) ∧ BytesIn w k.p k.n k.c k.l) := fun i hi => by
    have hk : i < rs.length := by omega
    refine ⟨rs[i], hcs2 i _ (by rw [List.getElem?_map, List.getElem?_eq_getElem hk]; rfl), hr.io _ (List.getElem_mem hk)⟩
  obtain ⟨b3, off3, hp3, hcs3⟩ := hl.sl.at_
  have hidd := fun W => Sl.idx (P := Try.prog) (cap := d) Try.underlying23 sizeBytes (fun h => (hp3 h).1) W .i64
  have HLD : Hid (0 < m → b3 < w.heap.size) := fun h => (hp3 h).2
  have HCD : Hid (∀ i, i < m → ∃ x, w.cell? ⟨b3, off3 + i, none⟩ = some (.int .u8 x) ∧ 0 ≤ x ∧ x < 256) := fun i hi => by
    have hk : i < l.length := by omega
    exact ⟨l[i], hcs3 i _ (by simp [bs, List.getElem?_eq_getElem hk]), hl.wf _ (List.getElem_mem hk)⟩
  obtain ⟨ls, hls⟩ : ∃ ls, ls = ks.map Bv.l := ⟨_, rfl⟩
  have HLS : Hid (∀ i k, ks[i]? = some k → ls.getD i [] = k.l) := fun i k hk => by
    rw [hls, List.getD_eq_getElem?_getD, List.getElem?_map, hk]; rfl
  clear h hl hr hp hcs hp2 hcs2 hp3 hcs3 hlen hlm hrn hls
  go_enter Try.func4, Try.ntmps4
  go_wp2_with fail
  refine (awake_any _).mono ?_
  rintro _ w1 ⟨_, rfl, rfl, m1⟩
  have M1 := Lib.hid m1
  clear m1
  by_cases h8 : 8 < n
  · have hz : decide (8 < n) = true := by simpa using h8
    have hzi : (8 : Int) < (n : Int) := by omega
    go_wp2
    go_ret
    exact .mk ⟨rfl, M1.out⟩
  have hz8 : decide (8 < n) = false := by simpa using h8
  have hzi8 : ¬ ((8 : Int) < (n : Int)) := by omega
  by_cases h12 : 12 < s
  · have hz : decide (12 < s) = true := by simpa using h12
    have hzi : (12 : Int) < (s : Int) := by omega
    go_wp2
    go_ret
    exact .mk ⟨rfl, M1.out⟩
  have hz12 : decide (12 < s) = false := by simpa using h12
  have hzi12 : ¬ ((12 : Int) < (s : Int)) := by omega
  by_cases h40 : 40 < m
  · have hz : decide (40 < m) = true := by simpa using h40
    have hzi : (40 : Int) < (m : Int) := by omega
    go_wp2
    go_ret
    exact .mk ⟨rfl, M1.out⟩
  have hz40 : decide (40 < m) = false := by simpa using h40
  have hzi40 : ¬ ((40 : Int) < (m : Int)) := by omega
  have hn8 : n ≤ 8 := by omega
  have hs12 : s ≤ 12 := by omega
  have hm40 : m ≤ 40 := by omega
  clear h8 h12 h40
  go_wp2_with fail
  refine (pnew_any 30 2 none 0 0 [] w1 (nil_freed w1)).mono ?_
  rintro _ w2 ⟨_, rfl, m2, h2⟩
  rw [show PS.new 30 2 [] = some ⟨30, 2, []⟩ from rfl] at h2
  obtain ⟨sb, bm, rfl, hp2, _, _⟩ := h2
  have HP2 := Lib.hid hp2
  have M2 := Lib.hid (M1.out.same m2)
  clear m2 hp2
  go_wp2_with fail
  refine (dnew_any 30 30 w2 (by decide)).mono ?_
  rintro _ w3 ⟨_, rfl, D, Td, rfl, hd3, m3, hdb⟩
  have HD3 := Lib.hid hd3
  have HP3 := Lib.hid (HP2.out.mod m3 (by simp) (by simp))
  have M3 := Lib.hid (M2.out.same m3)
  have HDL := Lib.hid hd3.lt
  clear m3 hd3
  have HDB := Lib.hid hdb
  clear hdb
  go_wp2_with fail
  refine (pgrnew_any D sb bm ⟨30, 2, []⟩ 1 0 w3 HP3.out (by omega) (by omega)).mono ?_
  rintro _ w4 ⟨_, rfl, X, T0, rfl, hx4, m4, hxb⟩
  have HX4 : Hid (PgrAt w4 X T0 D (pmK ls 0)) := hx4
  have HD4 := Lib.hid (HD3.out.mod m4 (by simp))
  have M4 := Lib.hid (M3.out.same m4)
  have HTB : Hid (∀ b ∈ T0, w3.heap.size ≤ b) := hxb
  have HS4 : Hid (w3.heap.size ≤ w4.heap.size) := m4.size
  have HDB3 : Hid (∀ b ∈ Td, w.heap.size ≤ b) := fun b hb => Nat.le_trans M2.out.size (HDB.out b hb)
  clear m4 hx4 hxb HDB
  go_wp2
  go_loopw [11] (fun iv wx => ∃ (i : Nat) (T : List Nat) (W0 : World), i ≤ n ∧ W0 = wx ∧ iv = .int .i64 i ∧ (∀ j, j < i → (ls.getD j []).length ≤ 1016) ∧ PgrAt W0 X T D (pmK ls i) ∧ (∀ b ∈ T, w3.heap.size ≤ b) ∧ w3.heap.size ≤ W0.heap.size ∧ DiskAt W0 D Td (ck0 30) ∧ Mod [] w W0) (fun iv _ => n - (intOf iv).toNat)
  case atStart => exact ⟨0, T0, _, by omega, rfl, rfl, by omega, HX4.out, HTB.out, HS4.out, HD4.out, M4.out⟩
  case round =>
    clear HX4 HTB HD4
    obtain ⟨i, T, W0, hi, rfl, rfl, hsm, hxr, htb, hszr, hdr, hmr⟩ := hrel
    have HSR := Lib.hid hszr
    have HSM := Lib.hid hsm
    have HXR := Lib.hid hxr
    have HTB := Lib.hid htb
    have HDR := Lib.hid hdr
    have HMR := Lib.hid hmr
    clear hsm hxr htb hdr hmr hszr
    by_cases hlt : i < n
    · obtain ⟨k, hk, hcell, hio⟩ := HCE.out i hlt
      have hbl := HLT.out (by omega)
      rw [← HMR.out.cell (a := ⟨b, _, none⟩) hbl (by simp)] at hcell
      have hji := fun W => hidx W i hlt
      simp only [Nat.mul_one] at hji
      have hwi : IntKind.i64.wrap ((i : Int) + 1) = (i : Int) + 1 := IntWalk.i64_in _ (by omega)
      have HIO := Lib.hid hio
      have HKL := Lib.hid (HLS.out i k hk)
      obtain ⟨kp, kn, kc, kl⟩ := k
      simp only at hcell HIO HKL
      clear hio hk
      by_cases hbig : 1016 < kn
      · have hz : (1016 : Int) < (kn : Int) := by omega
        go_wp2
        go_ret
        exact .mk ⟨rfl, HMR.out⟩
      have hz : ¬ ((1016 : Int) < (kn : Int)) := by omega
      have HPUT := Lib.hid (pmK_put (ls := ls) (i := i) (by omega) (l := kl) HKL.out.symm (by have := HIO.out.len; omega))
      have HPB : Hid (∀ a, kp = some a → 0 < kn → a.block ∉ T) := fun a ha h0 hb => by
        obtain ⟨b', o', e, hlt', _⟩ := HIO.out.sl.addr h0
        rw [e] at ha; cases ha
        have h1 : w3.heap.size ≤ b' := HTB.out _ hb
        have h2 := M3.out.size
        omega
      go_wp2_with fail
      refine (pgrput_any X T D (pmK ls i) kp kn kc kl _ HXR.out ⟨HIO.out.sl.mod HMR.out (by simp), HIO.out.wf⟩ HPB.out).mono ?_
      rintro _ w5 ⟨_, rfl, rfl, T5, hx5, m5, ht5⟩
      rw [HPUT.out] at hx5 ⊢
      have HX5 : Hid (PgrAt w5 X T5 D (pmK ls (i + 1))) := hx5
      have hTd : ∀ b ∈ Td, b ∉ T := fun b hb ht => by have := HDL.out b hb; have := HTB.out b ht; omega
      have HD5 := Lib.hid (HDR.out.mod m5 hTd)
      have HMR5 : Hid (Mod [] w w5) := HMR.out.trans m5 (fun b hb => Or.inr (by have := HTB.out b hb; have := M3.out.size; omega))
      have HTB5 : Hid (∀ b ∈ T5, w3.heap.size ≤ b) := fun b hb => by
        rcases ht5 b hb with h | h
        · exact HTB.out b h
        · exact Nat.le_trans HSR.out h
      have HSR5 : Hid (w3.heap.size ≤ w5.heap.size) := Nat.le_trans HSR.out m5.size
      have HSM5 : Hid (∀ j, j < i + 1 → (ls.getD j []).length ≤ 1016) := fun j hj => by
        rcases Nat.lt_succ_iff_lt_or_eq.1 hj with h | rfl
        · exact HSM.out j h
        · rw [HKL.out]; have := HIO.out.len; omega
      clear hx5 m5 ht5 hTd
      simp only
      go_wp2
      go_roundw
      case rel => exact ⟨i + 1, T5, _, by omega, rfl, by go_num, HSM5.out, HX5.out, HTB5.out, HSR5.out, HD5.out, HMR5.out⟩
      case measure => simp [intOf]; omega
    · obtain rfl : i = n := by omega
      clear hlt
      have hTd : ∀ b ∈ Td, b ∉ T := fun b hb ht => by have := HDL.out b hb; have := HTB.out b ht; omega
      have HFL1 := Lib.hid (flush_any X T D Td (pmK ls i) (ck0 30) _ HXR.out HDR.out hTd rfl rfl (fun p hp => by obtain ⟨j, hj, rfl⟩ := pmK_mem.1 hp; exact ck0_there' (by simp only; omega) (by simp only; omega)) (by rw [pmK_len]; show 0 + i ≤ 1000000; omega))
      clear HDR HSR
      go_wp2_with fail
      refine HFL1.out.mono ?_
      rintro _ w5 ⟨_, rfl, rfl, Td5, hd5, m5, ht5⟩
      have HX5 := Lib.hid (HXR.out.mod m5 (fun b hb ht => hTd b ht hb))
      have HTL := Lib.hid HXR.out.lt
      have HDB5 : Hid (∀ b ∈ Td5, w.heap.size ≤ b ∧ b ∉ T) := fun b hb => by
        rcases ht5 b hb with h | h
        · exact ⟨HDB3.out b h, hTd b h⟩
        · refine ⟨Nat.le_trans HMR.out.size h, fun ht => ?_⟩
          have := HTL.out b ht; omega
      have M5 : Hid (Mod [] w w5) := HMR.out.trans m5 (fun b hb => Or.inr (HDB3.out b hb))
      have HD5 := Lib.hid hd5
      clear hd5 m5 ht5 HFL1 hTd HXR HMR HDB3 HTL
      go_wp2_with fail
      refine (dsync_any D Td5 ((ck0 30).pushes (pmK ls i).f) _ HD5.out).mono ?_
      rintro _ w6 ⟨_, rfl, rfl, Td6, hd6, m6, ht6⟩
      rw [ckK_sync] at hd6 ⊢
      have HX6 := Lib.hid (HX5.out.mod m6 (fun b hb ht => (HDB5.out b ht).2 hb))
      have M6 : Hid (Mod [] w w6) := M5.out.trans m6 (fun b hb => Or.inr (HDB5.out b hb).1)
      have HDB6 : Hid (∀ b ∈ Td6, w.heap.size ≤ b) := fun b hb => by
        rcases ht6 b hb with h | h
        · exact (HDB5.out b h).1
        · exact Nat.le_trans M5.out.size h
      have HD6 := Lib.hid hd6
      have HDL6 := Lib.hid hd6.lt
      clear hd6 m6 ht6 HD5 HX5 HDB5 M5
      simp only
      go_wp2_with fail
      refine (pgrpool_any X T D (pmK ls i) _ HX6.out).mono ?_
      rintro _ w7 ⟨_, rfl, ⟨sb2, bm2, rfl, hp7, _, _⟩, rfl⟩
      have HP7 := Lib.hid hp7
      clear hp7
      go_wp2_with fail
      refine (pgrnew_any D sb2 bm2 (pmK ls i).s 2 1 w6 HP7.out (by omega) (by omega)).mono ?_
      rintro _ w8 ⟨_, rfl, X2, T2, rfl, hx8, m8, hxb8⟩
      have HX8 := Lib.hid hx8
      have HK8 : Hid (Kp i (2 + i) ⟨(pmK ls i).s, 2, 1, []⟩) := ⟨rfl, rfl, rfl, rfl, fun p hp => absurd hp List.not_mem_nil, fun p hp => absurd hp List.not_mem_nil⟩
      generalize (⟨(pmK ls i).s, 2, 1, []⟩ : Pm) = N0 at HX8 HK8
      have HD8 := Lib.hid (HD6.out.mod m8 (by simp))
      have M8 : Hid (Mod [] w w8) := M6.out.same m8
      have HT8 : Hid (∀ b ∈ T2, w6.heap.size ≤ b) := hxb8
      have HS8 : Hid (w6.heap.size ≤ w8.heap.size) := m8.size
      clear hx8 m8 hxb8 HX6 HD6 HP7
      go_wp2
      go_loopw [13] (fun jv wx => ∃ (j : Nat) (W0 : World) (N : Pm), j ≤ m ∧ W0 = wx ∧ jv = .int .i64 j ∧ PgrAt W0 X2 T2 D N ∧ Kp i (2 + i) N ∧ DiskAt W0 D Td6 (ckK ls i) ∧ Mod [] w W0 ∧ w6.heap.size ≤ W0.heap.size) (fun jv _ => m - (intOf jv).toNat)
      case atStart => exact ⟨0, _, _, by omega, rfl, rfl, HX8.out, HK8.out, HD8.out, M8.out, HS8.out⟩
      case round =>
        clear HX8 HK8 HD8 M8 HS8
        obtain ⟨j, W0, N, hj, rfl, rfl, hxz, hkz, hdz, hmz, hsz⟩ := hrel
        have HXZ := Lib.hid hxz
        have HKZ := Lib.hid hkz
        have HDZ := Lib.hid hdz
        have HMZ := Lib.hid hmz
        have HSZ := Lib.hid hsz
        clear hxz hkz hdz hmz hsz
        by_cases hlt : j < m
        · obtain ⟨x, hcell, hx0, hx1⟩ := HCD.out j hlt
          have hbl := HLD.out (by omega)
          rw [← HMZ.out.cell (a := ⟨b3, _, none⟩) hbl (by simp)] at hcell
          have hji := fun W => hidd W j hlt
          simp only [Nat.mul_one] at hji
          have hwi : IntKind.i64.wrap ((j : Int) + 1) = (j : Int) + 1 := IntWalk.i64_in _ (by omega)
          have hwx : IntKind.i64.wrap x = x := IntWalk.i64_in _ (by omega)
          have hwm : IntKind.i64.wrap (x % 12) = x % 12 := IntWalk.i64_in _ (by omega)
          go_wp2_with fail
          refine (pgrdrop_any X2 T2 D N (x % 12) _ HXZ.out (by omega)).mono ?_
          rintro _ w9 ⟨rfl, hx9, m9⟩
          have HX9 := Lib.hid hx9
          have HK9 := Lib.hid (HKZ.out.drop (x % 12))
          have HD9 := Lib.hid (HDZ.out.mod m9 (fun b hb ht => by have := HDL6.out b hb; have := HT8.out b ht; omega))
          have M9 : Hid (Mod [] w w9) := HMZ.out.trans m9 (fun b hb => Or.inr (by have := HT8.out b hb; have := M6.out.size; omega))
          have HS9 : Hid (w6.heap.size ≤ w9.heap.size) := Nat.le_trans HSZ.out m9.size
          clear hx9 m9
          go_wp2
          go_roundw
          case rel => exact ⟨j + 1, _, _, by omega, rfl, by go_num, HX9.out, HK9.out, HD9.out, M9.out, HS9.out⟩
          case measure => simp [intOf]; omega
        · obtain rfl : j = m := by omega
          clear hlt
          go_wp2
          go_loopw [14] (fun jv wx => ∃ (j : Nat) (W0 : World) (N : Pm) (T3 : List Nat), j ≤ s ∧ W0 = wx ∧ jv = .int .i64 j ∧ PgrAt W0 X2 T3 D N ∧ (∀ b ∈ T3, w6.heap.size ≤ b) ∧ Kp i (2 + i + j) N ∧ DiskAt W0 D Td6 (ckK ls i) ∧ Mod [] w W0 ∧ w6.heap.size ≤ W0.heap.size) (fun jv _ => s - (intOf jv).toNat)
          case atStart => exact ⟨0, _, _, _, by omega, rfl, rfl, HXZ.out, HT8.out, by simpa using HKZ.out, HDZ.out, HMZ.out, HSZ.out⟩
          case round =>
            clear HXZ HKZ HDZ HMZ HSZ HT8
            clear hj
            obtain ⟨j, W0, N, T3, hj, rfl, rfl, hxz, htz, hkz, hdz, hmz, hsz⟩ := hrel
            have HXZ := Lib.hid hxz
            have HTZ := Lib.hid htz
            have HKZ := Lib.hid hkz
            have HDZ := Lib.hid hdz
            have HMZ := Lib.hid hmz
            have HSZ := Lib.hid hsz
            clear hxz htz hkz hdz hmz hsz
            by_cases hlt : j < s
            · obtain ⟨k, hcell, hio⟩ := HCR.out j hlt
              have hbl := HLR.out (by omega)
              rw [← HMZ.out.cell (a := ⟨b2, _, none⟩) hbl (by simp)] at hcell
              have hblz : b2 < W0.heap.size := Nat.lt_of_lt_of_le hbl HMZ.out.size
              have hji := fun W => hidr W j hlt
              simp only [Nat.mul_one] at hji
              have hwi : IntKind.i64.wrap ((j : Int) + 1) = (j : Int) + 1 := IntWalk.i64_in _ (by omega)
              obtain ⟨kp, kn, kc, kl⟩ := k
              simp only at hcell hio
              have HIO : Hid (BytesIn W0 kp kn kc kl) := ⟨hio.sl.mod HMZ.out (by simp), hio.wf⟩
              obtain ⟨K, hK⟩ : ∃ K, K = min kn 1000 := ⟨_, rfl⟩
              have hK1 : K ≤ 1000 := by omega
              have hKm : min (kn : Int) 1000 = (K : Int) := by omega
              have HLTZ := Lib.hid HXZ.out.lt
              have hb2T : b2 ∉ T3 := fun hb => by have h1 := HTZ.out _ hb; have h2 := M6.out.size; omega
              clear hio hK
              go_upto_region 26 with fail
              go_region_held3 (fun w' => w'.cell? ⟨b2, off2 + j, none⟩ = some (.slice kp kn kc))
                (first
                  | go_keep
                  | (exact (M5.out.cell (a := ⟨b2, off2 + j, none⟩) (Nat.lt_of_lt_of_le hblz M3.out.size) hb2T).trans ((M3.out.cell (a := ⟨b2, off2 + j, none⟩) hblz (by simp)).trans hcell))
                  | (exact (M3.out.cell (a := ⟨b2, off2 + j, none⟩) hblz (by simp)).trans hcell))
                (first
                  | (go_at_call 18; refine (full_any kp kn kc K kl _ ⟨HIO.out.sl.mod (Mod.of_drew _) (by simp), HIO.out.wf⟩ hK1).mono ?_; rintro _ w3 ⟨_, rfl, g3, l3, rfl, hg3, hb3, m3⟩; (have B3 := Lib.hid hb3); (have G3 := Lib.hid hg3); (have M3 : Hid (Mod [] W0 w3) := (Mod.of_drew W0).same m3); clear hb3 hg3 m3)
                  | (go_at_call 9; refine (pgrput_any X2 T3 D N _ K K l3 _ (HXZ.out.mod M3.out (by simp)) B3.out (fun a ha _ hb => by cases ha; have h1 := HLTZ.out _ hb; have h2 := G3.out; simp at h1 h2; omega)).mono ?_; rintro _ w5 ⟨_, rfl, rfl, T5, hx5, m5, ht5⟩; (have HX5 := Lib.hid hx5); (have M5 := Lib.hid m5); (have HT5 := Lib.hid ht5); clear hx5 m5 ht5)
                  | fail)
              have HK5 := Lib.hid (HKZ.out.put (by omega) (by omega) (l := l3) (by have := B3.out.len; omega))
              have HKJ : Hid (Kp i (2 + (i : Int) + ((j + 1 : Nat) : Int)) (N.put l3).2) := by
                have e : 2 + (i : Int) + ((j + 1 : Nat) : Int) = 2 + i + j + 1 := by omega
                unfold Hid
                rw [e]; exact HK5.out
              have HTE : Hid (∀ b ∈ T5, w6.heap.size ≤ b) := fun b hb => by
                rcases HT5.out b hb with h | h
                · exact HTZ.out b h
                · exact Nat.le_trans HSZ.out (Nat.le_trans M3.out.size h)
              have HDE := Lib.hid ((HDZ.out.mod M3.out (by simp)).mod M5.out (fun b hb ht => by have := HDL6.out b hb; have := HTZ.out b ht; omega))
              have ME : Hid (Mod [] w w5) := (HMZ.out.same M3.out).trans M5.out (fun b hb => Or.inr (by have := HTZ.out b hb; have := M6.out.size; omega))
              have HSE : Hid (w6.heap.size ≤ w5.heap.size) := Nat.le_trans HSZ.out (Nat.le_trans M3.out.size M5.out.size)
              clear hji hcell
              go_wp2
              go_roundw
              case rel => exact ⟨j + 1, _, _, T5, by omega, rfl, by go_num, HX5.out, HTE.out, HKJ.out, HDE.out, ME.out, HSE.out⟩
              case measure => simp [intOf]; omega
            · obtain rfl : j = s := by omega
              clear hlt
              go_wp2_with fail
              refine (wait_any D Td6 (ckK ls i) _ HDZ.out (Nat.zero_le _)).mono ?_
              rintro _ w9 ⟨_, rfl, P9, n9, C9, rfl, e9, _, m9⟩
              obtain rfl : n9 = 0 := e9
              have HX9 := Lib.hid (HXZ.out.mod m9 (by simp))
              have HD9 := Lib.hid (HDZ.out.mod m9 (by simp))
              have M9 : Hid (Mod [] w w9) := HMZ.out.same m9
              have hdis : ∀ b ∈ Td6, b ∉ T3 := fun b hb ht => by have := HDL6.out b hb; have := HTZ.out b ht; omega
              have hNf := PgrAt.few HX9.out
              have HFL2 := Lib.hid (flush_any X2 T3 D Td6 N (ckK ls i) _ HX9.out HD9.out hdis rfl rfl (fun p hp => ckK_there (by have := HKZ.out.f p hp; omega) (by have := HKZ.out.f p hp; omega)) (by have e : (ckK ls i).wait.length = 0 := rfl; omega))
              clear m9 HXZ HDZ HMZ HSZ
              go_wp2_with fail
              refine HFL2.out.mono ?_
              rintro _ w10 ⟨_, rfl, rfl, Td10, hd10, m10, ht10⟩
              have HX10 := Lib.hid (HX9.out.mod m10 (fun b hb ht => hdis b ht hb))
              have HD10 := Lib.hid hd10
              have M10 : Hid (Mod [] w w10) := M9.out.trans m10 (fun b hb => Or.inr (HDB6.out b hb))
              clear hd10 m10 ht10 HFL2 HX9 HD9 hdis
              go_wp2_with fail
              refine (wait_any D Td10 ((ckK ls i).pushes N.f) _ HD10.out (by show ([] ++ N.f.map _).length ≤ _; rw [List.nil_append, List.length_map]; omega)).mono ?_
              rintro _ w11 ⟨_, rfl, P11, n11, C11, rfl, e11, o11, m11⟩
              have HX11 := Lib.hid (HX10.out.mod m11 (by simp))
              have HD11 := Lib.hid (HD10.out.mod m11 (by simp))
              have M11 : Hid (Mod [] w w11) := M10.out.same m11
              have hn11 : n11 ≤ 2048 := by
                rw [e11, List.length_map]
                show ([] ++ N.f.map _).length ≤ _
                rw [List.nil_append, List.length_map]; exact hNf
              have hS11 := (Sl.of_own o11 (ints_one _)).1
              obtain ⟨b4, off4, hp4, hcs4⟩ := hS11.at_
              have hid4 := fun W => Sl.idx (P := Try.prog) (cap := C11) Try.underlying40 sizeInts (fun h => (hp4 h).1) W .i64
              have HC4 : Hid (∀ k, k < n11 → ∃ id : Int, w11.cell? ⟨b4, off4 + k, none⟩ = some (.int .i64 id) ∧ 2 + (i : Int) ≤ id) := fun k hk => by
                obtain ⟨id, hid⟩ : ∃ id, (((ckK ls i).pushes N.f).wait.map (·.1))[k]? = some id := ⟨_, List.getElem?_eq_getElem (by omega)⟩
                refine ⟨id, hcs4 k _ (by unfold ints; rw [List.getElem?_map, hid]; rfl), ?_⟩
                obtain ⟨y, hy, rfl⟩ := List.mem_map.1 (List.mem_of_getElem? hid)
                have hy2 : y ∈ N.f.map (fun p => (p.1, fr p.1 p.2)) := hy
                obtain ⟨z, hz, rfl⟩ := List.mem_map.1 hy2
                exact (HKZ.out.f z hz).1
              clear e11 o11 m11 hS11 hp4 hcs4 HX10 HD10 M10 hNf
              go_wp2
              go_loopw [16] (fun jv wx => ∃ k : Nat, k ≤ n11 ∧ jv = .int .i64 k ∧ w11 = wx) (fun jv _ => n11 - (intOf jv).toNat)
              case atStart => exact ⟨0, by omega, rfl, rfl⟩
              case round =>
                obtain ⟨k, hk, rfl, rfl⟩ := hrel
                by_cases hlt : k < n11
                · obtain ⟨id, hcell, hge⟩ := HC4.out k hlt
                  have hji := fun W => hid4 W k hlt
                  simp only [Nat.mul_one] at hji
                  have hwi : IntKind.i64.wrap ((k : Int) + 1) = (k : Int) + 1 := IntWalk.i64_in _ (by omega)
                  have hw2 : IntKind.i64.wrap (2 + (i : Int)) = 2 + (i : Int) := IntWalk.i64_in _ (by omega)
                  have hni : ¬ (id < 2 + (i : Int)) := by omega
                  have hnd : decide (id < 2 + (i : Int)) = false := by simpa using hni
                  go_wp2
                  go_roundw
                  case rel => exact ⟨k + 1, by omega, by go_num, by first | rfl | trivial⟩
                  case measure => simp [intOf]; omega
                · obtain rfl : k = n11 := by omega
                  clear hlt HC4 hid4
                  go_wp2
                  go_loopw [17] (fun jv wx => ∃ (j : Nat) (W0 : World), j ≤ i ∧ W0 = wx ∧ jv = .int .i64 j ∧ PgrAt W0 X2 T3 D N ∧ DiskAt W0 D Td10 ((ckK ls i).pushes N.f) ∧ Mod [] w W0) (fun jv _ => i - (intOf jv).toNat)
                  case atStart => exact ⟨0, _, by omega, rfl, rfl, HX11.out, HD11.out, M11.out⟩
                  case round =>
                    clear HX11 HD11 M11
                    obtain ⟨j, W0, hj, rfl, rfl, hxz, hdz, hmz⟩ := hrel
                    have HXZ := Lib.hid hxz
                    have HDZ := Lib.hid hdz
                    have HMZ := Lib.hid hmz
                    clear hxz hdz hmz
                    by_cases hlt : j < i
                    · obtain ⟨kb, hk, hcell, hio⟩ := HCE.out j hlt
                      have hbl := HLT.out (by omega)
                      have hji := fun W => hidx W j hlt
                      simp only [Nat.mul_one] at hji
                      have hwi : IntKind.i64.wrap ((j : Int) + 1) = (j : Int) + 1 := IntWalk.i64_in _ (by omega)
                      have hw2 : IntKind.i64.wrap (2 + (j : Int)) = 2 + (j : Int) := IntWalk.i64_in _ (by omega)
                      have HRJ := Lib.hid (keeps_read HKZ.out hn8 hlt (HSM.out j hlt))
                      have hsm := HSM.out j hlt
                      have HIO := Lib.hid hio
                      have HKL := Lib.hid (HLS.out j kb hk)
                      obtain ⟨kp, kn, kc, kl⟩ := kb
                      simp only at hcell HIO HKL
                      rw [HKL.out] at HRJ hsm
                      have hwn16 : kn ≤ 1016 := by rw [← HIO.out.len]; exact hsm
                      clear hio hk
                      go_wp2_with fail
                      refine (pgrread_any X2 T3 D Td10 N ((ckK ls i).pushes N.f) (2 + (j : Int)) _ HXZ.out HDZ.out (by omega)).mono ?_
                      rintro _ w7 ⟨_, rfl, P, n7, C, rfl, e7, b7, t7, m7⟩
                      rw [HRJ.out] at e7 b7 t7 ⊢
                      have hpl : (pad 1016 kl).length = 1016 := pad_len (by have := HIO.out.len; omega)
                      obtain rfl : n7 = 1016 := by rw [e7]; exact hpl
                      have B7 := Lib.hid b7
                      have HX7 := Lib.hid (HXZ.out.mod m7 (by simp))
                      have HD7 := Lib.hid (HDZ.out.mod m7 (by simp))
                      have M7 := Lib.hid (HMZ.out.same m7)
                      have rs1 := (b7.sl.sub_h Try.underlying23 sizeBytes kn .i64 hwn16).1
                      have s1 := b7.sl.takeb Try.underlying23 sizeBytes hwn16
                      have e1 : (pad 1016 kl).take kn = kl := by unfold pad; rw [← HIO.out.len, List.take_left]
                      rw [e1] at s1
                      have HS1 : ∀ W, Mod [] w7 W → Hid _ := fun W hm => Lib.hid (qsame_any P kp kn kn C kc kl kl W (s1.mod hm (by simp)) (HIO.out.sl.mod (M7.out.same hm) (by simp)))
                      simp only [decide_true] at HS1
                      unfold SameR at HS1
                      rw [← M7.out.cell (a := ⟨b, _, none⟩) hbl (by simp)] at hcell
                      have hbl7 : b < w7.heap.size := Nat.lt_of_lt_of_le hbl M7.out.size
                      obtain ⟨o1, ho1⟩ : ∃ o1, o1 = off + j := ⟨_, rfl⟩
                      rw [← ho1] at hcell hji
                      clear e7 b7 t7 m7 s1 e1 hpl ho1 hbl hidx
                      have hbl := hbl7
                      clear hbl7
                      simp only
                      go_wp2
                      refine par_region (by kernel_rfl) (fun oi vs w => pkE P C b o1 kp kn kc j i c p oi (vs oi) w) (fun w' => Mod [] w7 w') (by kernel_rfl) (fun j vs vs' w o _ h1 _ h2 => by rw [← h1]; exact h2) ⟨⟨⟨⟨⟨⟨⟨⟨⟨⟨⟨⟨⟨⟨⟨⟨⟨trivial, ?_⟩, ?_⟩, ?_⟩, ?_⟩, ?_⟩, ?_⟩, ?_⟩, ?_⟩, ?_⟩, ?_⟩, ?_⟩, ?_⟩, ?_⟩, ?_⟩, ?_⟩, ?_⟩, ?_⟩ (Mod.of_drew w7) ?_
                      · intro o ho listed vs a w' inv hun haft K hK
                        obtain rfl := Option.some.inj ho
                        refine par_run rfl ?_
                        have e0 := inv.old 19 (by kernel_rfl)
                        have INV := Lib.hid inv
                        clear inv haft hun ho
                        simp at e0
                        go_simp
                        exact hK _ _ INV.out.inv INV.out.val rfl
                      · intro o ho listed vs a w' inv hun haft K hK
                        obtain rfl := Option.some.inj ho
                        refine par_run rfl ?_
                        obtain ⟨e0, r0⟩ := inv.get haft 0 148 (by kernel_rfl) (by kernel_rfl)
                        have INV := Lib.hid inv
                        clear inv haft hun ho
                        change vs 0 = .int .i64 0 at r0
                        rw [r0] at e0
                        have g0 := getD_opt e0
                        go_simp
                        exact hK _ _ INV.out.inv INV.out.val rfl
                      · intro o ho listed vs a w' inv hun haft K hK
                        obtain rfl := Option.some.inj ho
                        refine par_run rfl ?_
                        obtain ⟨e0, r0⟩ := inv.get haft 1 149 (by kernel_rfl) (by kernel_rfl)
                        have INV := Lib.hid inv
                        clear inv haft hun ho
                        change vs 1 = .bool false at r0
                        rw [r0] at e0
                        have g0 := getD_opt e0
                        go_simp
                        exact hK _ _ INV.out.inv INV.out.val rfl
                      · intro o ho listed vs a w' inv hun haft K hK
                        obtain rfl := Option.some.inj ho
                        obtain ⟨e0, r0⟩ := inv.get haft 2 150 (by kernel_rfl) (by kernel_rfl)
                        have e1 := inv.old 18 (by kernel_rfl)
                        have INV := Lib.hid inv
                        clear inv haft hun ho
                        change vs 2 = .bool false at r0
                        rw [r0] at e0
                        have g0 := getD_opt e0
                        simp at e1
                        refine par_guard rfl (by kernel_rfl) e0 ?_
                        rw [if_pos rfl]
                        go_simp
                        exact hK _ _ INV.out.inv INV.out.val rfl
                      · intro o ho listed vs a w' inv hun haft K hK
                        obtain rfl := Option.some.inj ho
                        obtain ⟨e0, r0⟩ := inv.get haft 2 150 (by kernel_rfl) (by kernel_rfl)
                        have e1 := inv.old 0 (by kernel_rfl)
                        have INV := Lib.hid inv
                        clear inv haft hun ho
                        change vs 2 = .bool false at r0
                        rw [r0] at e0
                        have g0 := getD_opt e0
                        simp at e1
                        refine par_guard rfl (by kernel_rfl) e0 ?_
                        rw [if_pos rfl]
                        go_simp
                        exact hK _ _ INV.out.inv INV.out.val rfl
                      · intro o ho listed vs a w' inv hun haft K hK
                        obtain rfl := Option.some.inj ho
                        obtain ⟨e0, r0⟩ := inv.get haft 2 150 (by kernel_rfl) (by kernel_rfl)
                        have e1 := inv.old 17 (by kernel_rfl)
                        have INV := Lib.hid inv
                        clear inv haft hun ho
                        change vs 2 = .bool false at r0
                        rw [r0] at e0
                        have g0 := getD_opt e0
                        simp at e1
                        refine par_guard rfl (by kernel_rfl) e0 ?_
                        rw [if_pos rfl]
                        go_simp
                        exact hK _ _ INV.out.inv INV.out.val rfl
                      · intro o ho listed vs a w' inv hun haft K hK
                        obtain rfl := Option.some.inj ho
                        obtain ⟨e0, r0⟩ := inv.get haft 2 150 (by kernel_rfl) (by kernel_rfl)
                        obtain ⟨e1, r1⟩ := inv.get haft 4 152 (by kernel_rfl) (by kernel_rfl)
                        obtain ⟨e2, r2⟩ := inv.get haft 5 153 (by kernel_rfl) (by kernel_rfl)
                        have INV := Lib.hid inv
                        clear inv haft hun ho
                        change vs 2 = .bool false at r0
                        rw [r0] at e0
                        have g0 := getD_opt e0
                        change vs 4 = .slice p i c at r1
                        rw [r1] at e1
                        have g1 := getD_opt e1
                        change vs 5 = .int .i64 j at r2
                        rw [r2] at e2
                        have g2 := getD_opt e2
                        refine par_guard rfl (by kernel_rfl) e0 ?_
                        rw [if_pos rfl]
                        go_simp
                        exact hK _ _ INV.out.inv INV.out.val rfl
                      · intro o ho listed vs a w' inv hun haft K hK
                        obtain rfl := Option.some.inj ho
                        obtain ⟨e0, r0⟩ := inv.get haft 2 150 (by kernel_rfl) (by kernel_rfl)
                        obtain ⟨e1, r1⟩ := inv.get haft 6 154 (by kernel_rfl) (by kernel_rfl)
                        have INV := Lib.hid inv
                        clear inv haft hun ho
                        change vs 2 = .bool false at r0
                        rw [r0] at e0
                        have g0 := getD_opt e0
                        change vs 6 = .pointer (some ⟨b, o1, none⟩) at r1
                        rw [r1] at e1
                        have g1 := getD_opt e1
                        have co1 := (INV.out.inv.cell (a := ⟨b, o1, none⟩) hbl (by simp)).trans hcell
                        refine par_guard rfl (by kernel_rfl) e0 ?_
                        rw [if_pos rfl]
                        go_simp
                        exact hK _ _ INV.out.inv INV.out.val rfl
                      · intro o ho listed vs a w' inv hun haft K hK
                        obtain rfl := Option.some.inj ho
                        obtain ⟨e0, r0⟩ := inv.get haft 2 150 (by kernel_rfl) (by kernel_rfl)
                        obtain ⟨e1, r1⟩ := inv.get haft 7 155 (by kernel_rfl) (by kernel_rfl)
                        have INV := Lib.hid inv
                        clear inv haft hun ho
                        change vs 2 = .bool false at r0
                        rw [r0] at e0
                        have g0 := getD_opt e0
                        change vs 7 = .slice kp kn kc at r1
                        rw [r1] at e1
                        have g1 := getD_opt e1
                        refine par_guard rfl (by kernel_rfl) e0 ?_
                        rw [if_pos rfl]
                        go_simp
                        exact hK _ _ INV.out.inv INV.out.val rfl
                      · intro o ho listed vs a w' inv hun haft K hK
                        obtain rfl := Option.some.inj ho
                        obtain ⟨e0, r0⟩ := inv.get haft 2 150 (by kernel_rfl) (by kernel_rfl)
                        obtain ⟨e1, r1⟩ := inv.get haft 3 151 (by kernel_rfl) (by kernel_rfl)
                        obtain ⟨e2, r2⟩ := inv.get haft 8 156 (by kernel_rfl) (by kernel_rfl)
                        have INV := Lib.hid inv
                        clear inv haft hun ho
                        change vs 2 = .bool false at r0
                        rw [r0] at e0
                        have g0 := getD_opt e0
                        change vs 3 = .slice P 1016 C at r1
                        rw [r1] at e1
                        have g1 := getD_opt e1
                        change vs 8 = .int .i64 kn at r2
                        rw [r2] at e2
                        have g2 := getD_opt e2
                        refine par_guard rfl (by kernel_rfl) e0 ?_
                        rw [if_pos rfl]
                        go_simp
                        exact hK _ _ INV.out.inv INV.out.val rfl
                      · intro o ho listed vs a w' inv hun haft K hK
                        obtain rfl := Option.some.inj ho
                        obtain ⟨e0, r0⟩ := inv.get haft 2 150 (by kernel_rfl) (by kernel_rfl)
                        have e1 := inv.old 0 (by kernel_rfl)
                        have INV := Lib.hid inv
                        clear inv haft hun ho
                        change vs 2 = .bool false at r0
                        rw [r0] at e0
                        have g0 := getD_opt e0
                        simp at e1
                        refine par_guard rfl (by kernel_rfl) e0 ?_
                        rw [if_pos rfl]
                        go_simp
                        exact hK _ _ INV.out.inv INV.out.val rfl
                      · intro o ho listed vs a w' inv hun haft K hK
                        obtain rfl := Option.some.inj ho
                        obtain ⟨e0, r0⟩ := inv.get haft 2 150 (by kernel_rfl) (by kernel_rfl)
                        have e1 := inv.old 17 (by kernel_rfl)
                        have INV := Lib.hid inv
                        clear inv haft hun ho
                        change vs 2 = .bool false at r0
                        rw [r0] at e0
                        have g0 := getD_opt e0
                        simp at e1
                        refine par_guard rfl (by kernel_rfl) e0 ?_
                        rw [if_pos rfl]
                        go_simp
                        exact hK _ _ INV.out.inv INV.out.val rfl
                      · intro o ho listed vs a w' inv hun haft K hK
                        obtain rfl := Option.some.inj ho
                        obtain ⟨e0, r0⟩ := inv.get haft 2 150 (by kernel_rfl) (by kernel_rfl)
                        obtain ⟨e1, r1⟩ := inv.get haft 10 158 (by kernel_rfl) (by kernel_rfl)
                        obtain ⟨e2, r2⟩ := inv.get haft 11 159 (by kernel_rfl) (by kernel_rfl)
                        have INV := Lib.hid inv
                        clear inv haft hun ho
                        change vs 2 = .bool false at r0
                        rw [r0] at e0
                        have g0 := getD_opt e0
                        change vs 10 = .slice p i c at r1
                        rw [r1] at e1
                        have g1 := getD_opt e1
                        change vs 11 = .int .i64 j at r2
                        rw [r2] at e2
                        have g2 := getD_opt e2
                        refine par_guard rfl (by kernel_rfl) e0 ?_
                        rw [if_pos rfl]
                        go_simp
                        exact hK _ _ INV.out.inv INV.out.val rfl
                      · intro o ho listed vs a w' inv hun haft K hK
                        obtain rfl := Option.some.inj ho
                        obtain ⟨e0, r0⟩ := inv.get haft 2 150 (by kernel_rfl) (by kernel_rfl)
                        obtain ⟨e1, r1⟩ := inv.get haft 12 160 (by kernel_rfl) (by kernel_rfl)
                        have INV := Lib.hid inv
                        clear inv haft hun ho
                        change vs 2 = .bool false at r0
                        rw [r0] at e0
                        have g0 := getD_opt e0
                        change vs 12 = .pointer (some ⟨b, o1, none⟩) at r1
                        rw [r1] at e1
                        have g1 := getD_opt e1
                        have co1 := (INV.out.inv.cell (a := ⟨b, o1, none⟩) hbl (by simp)).trans hcell
                        refine par_guard rfl (by kernel_rfl) e0 ?_
                        rw [if_pos rfl]
                        go_simp
                        exact hK _ _ INV.out.inv INV.out.val rfl
                      · intro o ho listed vs a w' inv hun haft K hK
                        obtain rfl := Option.some.inj ho
                        obtain ⟨e0, r0⟩ := inv.get haft 2 150 (by kernel_rfl) (by kernel_rfl)
                        obtain ⟨e1, r1⟩ := inv.get haft 9 157 (by kernel_rfl) (by kernel_rfl)
                        obtain ⟨e2, r2⟩ := inv.get haft 13 161 (by kernel_rfl) (by kernel_rfl)
                        have INV := Lib.hid inv
                        clear inv haft hun ho
                        change vs 2 = .bool false at r0
                        rw [r0] at e0
                        have g0 := getD_opt e0
                        change vs 9 = .slice P kn C at r1
                        rw [r1] at e1
                        have g1 := getD_opt e1
                        change vs 13 = .slice kp kn kc at r2
                        rw [r2] at e2
                        have g2 := getD_opt e2
                        refine par_guard rfl (by kernel_rfl) e0 ?_
                        rw [if_pos rfl]
                        go_simp
                        refine (HS1 _ INV.out.inv).out.mono ?_
                        rintro _ w3 ⟨_, rfl, rfl, m3⟩
                        exact hK _ _ (INV.out.inv.same m3) (fun j hj hl => pkE_keep m3 (INV.out.val j hj hl)) rfl
                      · intro o ho listed vs a w' inv hun haft K hK
                        obtain rfl := Option.some.inj ho
                        obtain ⟨e0, r0⟩ := inv.get haft 2 150 (by kernel_rfl) (by kernel_rfl)
                        obtain ⟨e1, r1⟩ := inv.get haft 14 162 (by kernel_rfl) (by kernel_rfl)
                        have INV := Lib.hid inv
                        clear inv haft hun ho
                        change vs 2 = .bool false at r0
                        rw [r0] at e0
                        have g0 := getD_opt e0
                        change vs 14 = .bool true at r1
                        rw [r1] at e1
                        have g1 := getD_opt e1
                        refine par_guard rfl (by kernel_rfl) e0 ?_
                        rw [if_pos rfl]
                        go_simp
                        exact hK _ _ INV.out.inv INV.out.val rfl
                      · intro o ho listed vs a w' inv hun haft K hK
                        obtain rfl := Option.some.inj ho
                        refine par_run rfl ?_
                        obtain ⟨e0, r0⟩ := inv.get haft 2 150 (by kernel_rfl) (by kernel_rfl)
                        obtain ⟨e1, r1⟩ := inv.get haft 15 163 (by kernel_rfl) (by kernel_rfl)
                        have INV := Lib.hid inv
                        clear inv haft hun ho
                        change vs 2 = .bool false at r0
                        rw [r0] at e0
                        have g0 := getD_opt e0
                        change vs 15 = .bool false at r1
                        rw [r1] at e1
                        have g1 := getD_opt e1
                        go_simp
                        exact hK _ _ INV.out.inv INV.out.val rfl
                      intro vs w2 X hm hr hslot hold hsize hdef
                      have er := hslot 16 164 (by kernel_rfl)
                      have h9 := hr 16 (by decide)
                      change vs 16 = .bool false at h9
                      rw [h9] at er
                      clear h9
                      have MR := Lib.hid hm
                      obtain ⟨g, hX, hg⟩ := frame_mix [false, false, false, false, false, false, false, false, false, false, false, false, false, false, false, false, false, false, false, false, false, false, false, false, false, false, false, false, false, false, false, false, false, false, false, false, false, false, false, false, false, false, false, false, false, false, false, false, false, false, false, false, false, false, false, false, false, false, false, false, false, false, false, false, false, false, false, false, false, false, false, false, false, false, false, false, false, false, false, false, false, false, false, false, false, false, false, false, false, false, false, false, false, false, false, false, false, false, false, false, false, false, false, false, false, false, false, false, false, false, false, false, false, false, false, false, false, false, false, false, false, false, false, false, false, false, false, false, false, false, false, false, false, false, false, false, false, false, false, false, false, false, false, false, false, false, false, false, true, true, true, true, true, true, true, true, true, true, true, true, true, true, true, true, true] (by rfl) hsize hdef hold (by kernel_rfl)
                      rw [hg] at er
                      clear hr hslot hold hm hg hsize hdef
                      subst hX
                      dsimp only [mixF]
                      rw [er]
                      clear er
                      have HX8 := Lib.hid (HX7.out.mod MR.out (by simp))
                      have HD8 := Lib.hid (HD7.out.mod MR.out (by simp))
                      have M8 := Lib.hid (M7.out.same MR.out)
                      clear HS1
                      go_wp2
                      go_roundw
                      case rel => exact ⟨j + 1, _, by omega, rfl, by go_num, HX8.out, HD8.out, M8.out⟩
                      case measure => simp [intOf]; omega
                    · obtain rfl : j = i := by omega
                      clear hlt
                      go_wp2
                      go_ret
                      exact .mk ⟨rfl, HMZ.out⟩
end Go.Proofs.Ytgimdodbajhpoaa
