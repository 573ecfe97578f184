/- Roots: the document's Pay. -/
import Derived.Test.YtpdkkokgpdabhaaDoorG11
import Derived.Test.YtpdkkokgpdabhaaDoorG12
import Derived.Test.YtpdkkokgpdabhaaDoorG13
namespace Go.Proofs.YtpdkkokgpdabhaaDoor
open Go.RowKit Go.Maps
set_option linter.unusedSimpArgs false
set_option linter.unusedVariables false

def rqE (p : Option Addr) (n c i b off : Nat) (pg ct : Int) (p9 : Option Addr) (M c9 B0 BB : Nat) (L : List Int) (ls : Array Bool) (vs : Nat → Value) (oi : Nat) (w : World) : Prop :=
  match oi with
  | 0 => vs 0 = .slice p9 M c9
  | 1 => vs 1 = .slice p n c
  | 2 => vs 2 = .int .i64 i
  | 3 => vs 3 = .pointer (some ⟨b, off + i * 3, none⟩)
  | 4 => vs 4 = .pointer (some ⟨b, off + i * 3 + 1, none⟩)
  | 5 => vs 5 = .int .i64 pg
  | 6 => vs 6 = .int .u64 pg
  | 7 => ∃ p c, vs 7 = .slice p 8 c ∧ (ls.getD 8 true = true ∨ Tl w B0 1 p 8 c (bs (be 8 pg)))
  | 8 => ∃ p c, vs 8 = .slice p 4 c ∧ (ls.getD 9 true = true ∨ Tl w B0 1 p 4 c (bs (be 4 pg)))
  | 9 => ∃ p c, vs 9 = .slice p (M + 4) c ∧ (ls.getD 18 true = true ∨ Tl w BB 1 p (M + 4) c (bs (L ++ be 4 pg)))
  | 10 => vs 10 = .slice p n c
  | 11 => vs 11 = .int .i64 i
  | 12 => vs 12 = .pointer (some ⟨b, off + i * 3, none⟩)
  | 13 => vs 13 = .pointer (some ⟨b, off + i * 3 + 2, none⟩)
  | 14 => vs 14 = .int .i64 ct
  | 15 => vs 15 = .int .u64 ct
  | 16 => ∃ p c, vs 16 = .slice p 8 c ∧ (ls.getD 17 true = true ∨ Tl w B0 1 p 8 c (bs (be 8 ct)))
  | 17 => ∃ p c, vs 17 = .slice p 4 c ∧ (ls.getD 18 true = true ∨ Tl w B0 1 p 4 c (bs (be 4 ct)))
  | 18 => ∃ p c, vs 18 = .slice p (M + 4 + 4) c ∧ Tl w BB 1 p (M + 4 + 4) c (bs (L ++ be 4 pg ++ be 4 ct))
  | 19 => ∃ p c, vs 19 = .slice p (M + 4 + 4) c ∧ Tl w BB 1 p (M + 4 + 4) c (bs (L ++ be 4 pg ++ be 4 ct))
  | _ => True
theorem rqE_keep {p : Option Addr} {n c i b off : Nat} {pg ct : Int} {p9 : Option Addr} {M c9 B0 BB : Nat} {L : List Int} {ls ls' : Array Bool} {vs : Nat → Value} {oi : Nat} {w w' : World} (hm : Mod [] w w') (hl : ∀ k, ls.getD k true = true → ls'.getD k true = true) (hr : rqE p n c i b off pg ct p9 M c9 B0 BB L ls vs oi w) : rqE p n c i b off pg ct p9 M c9 B0 BB L ls' vs oi w' := by
  unfold rqE at hr ⊢
  split at hr
  · exact hr
  · exact hr
  · exact hr
  · exact hr
  · exact hr
  · exact hr
  · exact hr
  · obtain ⟨p, c, h1, h2⟩ := hr; exact ⟨p, c, h1, h2.imp (hl _) (fun h => h.mod hm (by simp))⟩
  · obtain ⟨p, c, h1, h2⟩ := hr; exact ⟨p, c, h1, h2.imp (hl _) (fun h => h.mod hm (by simp))⟩
  · obtain ⟨p, c, h1, h2⟩ := hr; exact ⟨p, c, h1, h2.imp (hl _) (fun h => h.mod hm (by simp))⟩
  · exact hr
  · exact hr
  · exact hr
  · exact hr
  · exact hr
  · exact hr
  · obtain ⟨p, c, h1, h2⟩ := hr; exact ⟨p, c, h1, h2.imp (hl _) (fun h => h.mod hm (by simp))⟩
  · obtain ⟨p, c, h1, h2⟩ := hr; exact ⟨p, c, h1, h2.imp (hl _) (fun h => h.mod hm (by simp))⟩
  · obtain ⟨p, c, h1, h2⟩ := hr; exact ⟨p, c, h1, h2.mod hm (by simp)⟩
  · obtain ⟨p, c, h1, h2⟩ := hr; exact ⟨p, c, h1, h2.mod hm (by simp)⟩
  · trivial
theorem rqE_val {p : Option Addr} {n c i b off : Nat} {pg ct : Int} {p9 : Option Addr} {M c9 B0 BB : Nat} {L : List Int} {ls ls' : Array Bool} {vs : Nat → Value} {oi : Nat} {w w' : World} (n7 : oi ≠ 7) (n8 : oi ≠ 8) (n9 : oi ≠ 9) (n16 : oi ≠ 16) (n17 : oi ≠ 17) (n18 : oi ≠ 18) (n19 : oi ≠ 19) (hr : rqE p n c i b off pg ct p9 M c9 B0 BB L ls vs oi w) : rqE p n c i b off pg ct p9 M c9 B0 BB L ls' vs oi w' := by
  unfold rqE at hr ⊢
  split at hr
  · exact hr
  · exact hr
  · exact hr
  · exact hr
  · exact hr
  · exact hr
  · exact hr
  · exact (n7 rfl).elim
  · exact (n8 rfl).elim
  · exact (n9 rfl).elim
  · exact hr
  · exact hr
  · exact hr
  · exact hr
  · exact hr
  · exact hr
  · exact (n16 rfl).elim
  · exact (n17 rfl).elim
  · exact (n18 rfl).elim
  · exact (n19 rfl).elim
  · trivial
theorem rqE_loc {p : Option Addr} {n c i b off : Nat} {pg ct : Int} {p9 : Option Addr} {M c9 B0 BB : Nat} {L : List Int} {ls : Array Bool} {vs vs' : Nat → Value} {oi : Nat} {w : World} (h1 : vs oi = vs' oi)  (hr : rqE p n c i b off pg ct p9 M c9 B0 BB L ls vs oi w) : rqE p n c i b off pg ct p9 M c9 B0 BB L ls vs' oi w := by
  unfold rqE at hr ⊢
  split at hr
  · rw [← h1]; exact hr
  · rw [← h1]; exact hr
  · rw [← h1]; exact hr
  · rw [← h1]; exact hr
  · rw [← h1]; exact hr
  · rw [← h1]; exact hr
  · rw [← h1]; exact hr
  · rw [← h1]; exact hr
  · rw [← h1]; exact hr
  · rw [← h1]; exact hr
  · rw [← h1]; exact hr
  · rw [← h1]; exact hr
  · rw [← h1]; exact hr
  · rw [← h1]; exact hr
  · rw [← h1]; exact hr
  · rw [← h1]; exact hr
  · rw [← h1]; exact hr
  · rw [← h1]; exact hr
  · rw [← h1]; exact hr
  · rw [← h1]; exact hr
  · trivial
theorem rqE_app9 {p : Option Addr} {n c i b off : Nat} {pg ct : Int} {p9 : Option Addr} {M c9 B0 BB : Nat} {L : List Int} {ls ls' : Array Bool} {vs : Nat → Value} {oi : Nat} {w w' : World} {S : List Nat} (hm : Mod S w w') (hS : ∀ b ∈ S, b < B0) (hl : ∀ k, ls.getD k true = true → ls'.getD k true = true) (d8 : ls'.getD 8 true = true) (d9 : ls'.getD 9 true = true) (hi : ls.getD oi true = true) (u9 : ls.getD 9 true = false) (u18 : ls.getD 18 true = false) (u19 : ls.getD 19 true = false) (hr : rqE p n c i b off pg ct p9 M c9 B0 BB L ls vs oi w) : rqE p n c i b off pg ct p9 M c9 B0 BB L ls' vs oi w' := by
  unfold rqE at hr ⊢
  split at hr
  · exact hr
  · exact hr
  · exact hr
  · exact hr
  · exact hr
  · exact hr
  · exact hr
  · obtain ⟨p, c, h1, h2⟩ := hr; exact ⟨p, c, h1, Or.inl d8⟩
  · obtain ⟨p, c, h1, h2⟩ := hr; exact ⟨p, c, h1, Or.inl d9⟩
  · rw [u9] at hi; cases hi
  · exact hr
  · exact hr
  · exact hr
  · exact hr
  · exact hr
  · exact hr
  · obtain ⟨p, c, h1, h2⟩ := hr; exact ⟨p, c, h1, h2.imp (hl _) (fun h => h.mod hm (fun a ha hb => by have := (h.own a ha).2.1; have := hS _ hb; omega))⟩
  · obtain ⟨p, c, h1, h2⟩ := hr; exact ⟨p, c, h1, h2.imp (hl _) (fun h => h.mod hm (fun a ha hb => by have := (h.own a ha).2.1; have := hS _ hb; omega))⟩
  · rw [u18] at hi; cases hi
  · rw [u19] at hi; cases hi
  · trivial
theorem rqE_app18 {p : Option Addr} {n c i b off : Nat} {pg ct : Int} {p9 : Option Addr} {M c9 B0 BB : Nat} {L : List Int} {ls ls' : Array Bool} {vs : Nat → Value} {oi : Nat} {w w' : World} {S : List Nat} (hm : Mod S w w') (hl : ∀ k, ls.getD k true = true → ls'.getD k true = true) (d8 : ls'.getD 8 true = true) (d9 : ls'.getD 9 true = true) (d17 : ls'.getD 17 true = true) (d18 : ls'.getD 18 true = true) (hi : ls.getD oi true = true) (u18 : ls.getD 18 true = false) (u19 : ls.getD 19 true = false) (hr : rqE p n c i b off pg ct p9 M c9 B0 BB L ls vs oi w) : rqE p n c i b off pg ct p9 M c9 B0 BB L ls' vs oi w' := by
  unfold rqE at hr ⊢
  split at hr
  · exact hr
  · exact hr
  · exact hr
  · exact hr
  · exact hr
  · exact hr
  · exact hr
  · obtain ⟨p, c, h1, h2⟩ := hr; exact ⟨p, c, h1, Or.inl d8⟩
  · obtain ⟨p, c, h1, h2⟩ := hr; exact ⟨p, c, h1, Or.inl d9⟩
  · obtain ⟨p, c, h1, h2⟩ := hr; exact ⟨p, c, h1, Or.inl d18⟩
  · exact hr
  · exact hr
  · exact hr
  · exact hr
  · exact hr
  · exact hr
  · obtain ⟨p, c, h1, h2⟩ := hr; exact ⟨p, c, h1, Or.inl d17⟩
  · obtain ⟨p, c, h1, h2⟩ := hr; exact ⟨p, c, h1, Or.inl d18⟩
  · rw [u18] at hi; cases hi
  · rw [u19] at hi; cases hi
  · trivial
set_option maxRecDepth 100000 in
set_option maxHeartbeats 8000000 in
theorem qrpay_any (p : Option Addr) (n c : Nat) (rs : List Rt) (w : World) (h : RtsIn w p n c rs) : Calls Tryd.prog 14 #[.slice p n c] w (Ret (RPayR (payRs rs) w)) := by
  have HMAY := Lib.hid (qsmay_any p n c rs w h)
  by_cases hm : mayR rs = true
  · have HPV : Hid (payRs rs = rootsBytes rs) := if_pos hm
    have HME := Lib.hid hm
    have hln := h.len
    have h12 : n ≤ 12 := by rw [← hln]; exact mayR_len hm
    obtain ⟨b, off, hp, hcs⟩ := h.sl.at_
    have hidx := fun W => Sl.idx (P := Tryd.prog) (cap := c) Tryd.underlying22 sizeRoots (fun h => (hp h).1) W .i64
    have HLT : Hid (0 < n → b < w.heap.size) := fun h => (hp h).2
    have HG := Lib.hid (fun i hi => h.get hcs i hi)
    have HOK : Hid (∀ i, i < n → (rs.getD i default).ok = true) := fun i hi => mayR_ok hm (by omega)
    have HFT : Hid (∀ i, i < n → (rs.take (i + 1)).flatMap rootBytes = (rs.take i).flatMap rootBytes ++ rootBytes (rs.getD i default)) := fun i hi => flat_take (by omega)
    have HFL : Hid (∀ i, ((rs.take i).flatMap rootBytes).length ≤ 396) := fun i => by
      have h1 := flat_len (k := 0) (rs := rs.take i) (fun j hj => by
        rw [List.length_take] at hj
        have := (ok_spec (mayR_ok hm (i := j) (by omega))).1.2
        rw [List.getD_eq_getElem?_getD] at this ⊢
        rw [List.getElem?_take, if_pos (by omega)]; exact this)
      rw [List.length_take] at h1
      have := mayR_len hm
      omega
    have HALL : Hid (rs.take n = rs) := List.take_of_length_le (by omega)
    have HLEN := Lib.hid hln
    rw [hm] at HMAY
    unfold BoolM at HMAY
    have hw5 : IntKind.u8.wrap (n : Int) = (n : Int) := by rw [IntKind.wrap_u8]; omega
    clear h hm hp hcs hln
    go_enter Tryd.func14, Tryd.ntmps14
    go_wp2_with fail
    refine HMAY.out.mono ?_
    rintro _ w1 ⟨_, rfl, rfl, m1⟩
    have M1 := Lib.hid m1
    clear m1 HMAY
    have hcv := Lib.run_convert_bytes_const (P := Tryd.prog) w1 23 5 #[.int .u8 67, .int .u8 82, .int .u8 79, .int .u8 79] 4 4 Tryd.underlying23 uU8
    have OT := tl_mark w1 5 [67, 82, 79, 79] (4, 5) (by simp) (by simp)
    obtain ⟨pa, ca, wa, hra, hoa, hma, hna, -⟩ := app_bytes ((w1.alloc (.cells #[.int .u8 67, .int .u8 82, .int .u8 79, .int .u8 79] 5 (4, 5))).alloc (.cells #[.int .u8 n] 5)) w1.heap.size (some ⟨w1.heap.size, 0, none⟩) 4 4 [67, 82, 79, 79]
      (OT.mod (Mod.of_alloc _ _) (by simp)) (some ⟨(w1.alloc (.cells #[.int .u8 67, .int .u8 82, .int .u8 79, .int .u8 79] 5 (4, 5))).heap.size, 0, none⟩) 1 1 [(n : Int)] (Sl.one_new _ _ _ rfl) (by omega) (by simp; omega)
    have HOA : Hid (Tl wa w.heap.size 1 pa 5 ca (bs ([67, 82, 79, 79, (n : Int)] ++ (rs.take 0).flatMap rootBytes))) := by
      have := hoa.base_le M1.out.size
      simpa [Hid] using this
    have HMA : Hid (Mod [] w wa) := M1.out.trans ((((Mod.refl [] w1).alloc).alloc).trans hma (by simp)) (by simp)
    have hal : (w1.alloc (.cells #[.int .u8 67, .int .u8 82, .int .u8 79, .int .u8 79] 5 (4, 5))).heap.size = w1.heap.size + 1 := Array.size_push _
    rw [hal] at hra
    clear hoa hma hna OT hal
    go_wp2_with (first
      | (at_builtin; go_must (refine wpList_append_run rfl _ _ _ _ rfl _ _ _ _ rfl rfl hra ?_))
      | go_in)
    go_loopw [3, 4] (fun ov iv wr => ∃ (i m d : Nat) (o : Option Addr), i ≤ n ∧ iv = .int .i64 i ∧ ov = .slice o m d ∧ m = 5 + ((rs.take i).flatMap rootBytes).length ∧ Tl wr w.heap.size 1 o m d (bs ([67, 82, 79, 79, (n : Int)] ++ (rs.take i).flatMap rootBytes)) ∧ Mod [] w wr) (fun _ iv _ => n - (intOf iv).toNat)
    case atStart => exact ⟨0, 5, ca, pa, Nat.zero_le _, rfl, rfl, by simp, HOA.out, HMA.out⟩
    case round =>
      clear HOA HMA hra hcv
      obtain ⟨i, m, d, o, hi, rfl, rfl, hm, ht, hmd⟩ := hrel
      have HM := Lib.hid hmd
      have OT := Lib.hid ht
      have HML := Lib.hid hm
      have hm396 : m ≤ 401 := by have := HFL.out i; omega
      clear hmd ht hm
      by_cases hlt : i < n
      · obtain ⟨l, pg, ct, hr, hwf, d0, d1, d2⟩ := HG.out i hlt
        have hbl := HLT.out (by omega)
        have D1 := Lib.hid d1
        have D2 := Lib.hid d2
        have HBL : b < w.heap.size := hbl
        rw [← HM.out.cell (a := ⟨b, _, none⟩) hbl (by simp)] at d0
        have D0 := Lib.hid d0
        have hA2 : b < wr.heap.size := Nat.lt_of_lt_of_le hbl HM.out.size
        have HWF := Lib.hid hwf
        have HFT1 := Lib.hid (HFT.out i hlt)
        have hspec := HOK.out i hlt
        rw [hr] at hspec HFT1
        obtain ⟨⟨l1, l2⟩, ⟨g1, g2⟩, ⟨t1, t2⟩⟩ := ok_spec hspec
        simp only at l1 l2 g1 g2 t1 t2
        have hwi : IntKind.i64.wrap ((i : Int) + 1) = (i : Int) + 1 := IntWalk.i64_in _ (by omega)
        have j1 := fun W => hidx W i hlt
        have hsz : (strOfNums l).size = l.length := strOfNums_size l
        have hw8 : IntKind.u8.wrap (l.length : Int) = (l.length : Int) := by rw [IntKind.wrap_u8]; omega
        have HOB : Hid (∀ a, o = some a → w.heap.size ≤ a.block) := fun a ha => (OT.out.own a ha).2.1
        clear hr hwf hspec d0 d1 d2
        go_wp2
        refine AnyT.start (S := fun w' => w'.cell? ⟨b, off + i * 3, none⟩ = some (.string (strOfNums l))) (by kernel_rfl) D0.out (fun hS => ?_)
        refine AnyT.take (i := 0) (k := 9) (v := ?_) rfl (by kernel_rfl) (fun _ _ _ h => h) hS (Or.inl ⟨by rfl, fun w' hw' => ?_⟩) ?_
        rotate_left
        · go_simp
          try rfl
        simp only [Act.put, List.setIfInBounds_toArray, List.set_cons_zero, List.set_cons_succ]
        refine AnyT.take (i := 1) (k := 3) (v := ?_) rfl (by kernel_rfl) (fun _ _ _ h => h) hS (Or.inl ⟨by rfl, fun w' hw' => ?_⟩) ?_
        rotate_left
        · go_simp
          try rfl
        simp only [Act.put, List.setIfInBounds_toArray, List.set_cons_zero, List.set_cons_succ]
        refine AnyT.take (i := 2) (k := 3) (v := ?_) rfl (by kernel_rfl) (fun _ _ _ h => h) hS (Or.inl ⟨by rfl, fun w' hw' => ?_⟩) ?_
        rotate_left
        · go_simp
          try rfl
        simp only [Act.put, List.setIfInBounds_toArray, List.set_cons_zero, List.set_cons_succ]
        refine AnyT.take (i := 3) (k := 4) (v := ?_) rfl (by kernel_rfl) (fun _ _ _ h => h) hS (Or.inl ⟨by rfl, fun w' hw' => ?_⟩) ?_
        rotate_left
        · go_simp
          try rfl
        simp only [Act.put, List.setIfInBounds_toArray, List.set_cons_zero, List.set_cons_succ]
        refine AnyT.take (i := 4) (k := 5) (v := ?_) rfl (by kernel_rfl) (fun _ _ _ h => h) hS (Or.inl ⟨by rfl, fun w' hw' => ?_⟩) ?_
        rotate_left
        · go_simp
          try rfl
        simp only [Act.put, List.setIfInBounds_toArray, List.set_cons_zero, List.set_cons_succ]
        refine AnyT.take (i := 5) (k := 6) (v := ?_) rfl (by kernel_rfl) (fun _ _ _ h => h) hS (Or.inl ⟨by rfl, fun w' hw' => ?_⟩) ?_
        rotate_left
        · go_simp
          try rfl
        simp only [Act.put, List.setIfInBounds_toArray, List.set_cons_zero, List.set_cons_succ]
        refine AnyT.take (i := 6) (k := 7) (v := ?_) rfl (by kernel_rfl) (fun _ _ _ h => h) hS (Or.inl ⟨by rfl, fun w' hw' => ?_⟩) ?_
        rotate_left
        · go_simp
          try rfl
        simp only [Act.put, List.setIfInBounds_toArray, List.set_cons_zero, List.set_cons_succ]
        refine AnyT.take (i := 7) (k := 8) (v := ?_) rfl (by kernel_rfl) (fun _ _ _ h => h) hS (Or.inl ⟨by rfl, fun w' hw' => ?_⟩) ?_
        rotate_left
        · go_simp
          try rfl
        simp only [Act.put, List.setIfInBounds_toArray, List.set_cons_zero, List.set_cons_succ]
        refine AnyT.take (i := 10) (k := 12) (v := ?_) rfl (by kernel_rfl) (fun _ _ _ h => h) hS (Or.inl ⟨by rfl, fun w' hw' => ?_⟩) ?_
        rotate_left
        · go_simp
          try rfl
        simp only [Act.put, List.setIfInBounds_toArray, List.set_cons_zero, List.set_cons_succ]
        refine AnyT.take (i := 11) (k := 12) (v := ?_) rfl (by kernel_rfl) (fun _ _ _ h => h) hS (Or.inl ⟨by rfl, fun w' hw' => ?_⟩) ?_
        rotate_left
        · go_simp
          try rfl
        simp only [Act.put, List.setIfInBounds_toArray, List.set_cons_zero, List.set_cons_succ]
        refine AnyT.take (i := 12) (k := 13) (v := ?_) rfl (by kernel_rfl) (fun _ _ _ h => h) hS (Or.inl ⟨by rfl, fun w' hw' => ?_⟩) ?_
        rotate_left
        · go_simp
          try rfl
        simp only [Act.put, List.setIfInBounds_toArray, List.set_cons_zero, List.set_cons_succ]
        refine AnyT.take (i := 13) (k := 14) (v := ?_) rfl (by kernel_rfl) (fun _ _ _ h => h) hS (Or.inl ⟨by rfl, fun w' hw' => ?_⟩) ?_
        rotate_left
        · go_simp
          try rfl
        simp only [Act.put, List.setIfInBounds_toArray, List.set_cons_zero, List.set_cons_succ]
        refine AnyT.take (i := 14) (k := 15) (v := ?_) rfl (by kernel_rfl) (fun _ _ _ h => h) hS (Or.inl ⟨by rfl, fun w' hw' => ?_⟩) ?_
        rotate_left
        · go_simp
          try rfl
        simp only [Act.put, List.setIfInBounds_toArray, List.set_cons_zero, List.set_cons_succ]
        clear hS
        refine AnyT.run (i := 8) (by kernel_rfl) rfl rfl (fun K hK => ?_)
        go_simp
        have MC : Hid (Mod [] wr (wr.drew.alloc (.cells #[.int .u8 l.length] 5))) := (Mod.of_drew wr).alloc
        refine hK _ _ (fun _ => (MC.out.cell (a := ⟨b, _, none⟩) hA2 (by simp)).trans D0.out) ?_
        clear hK K
        obtain ⟨p6, c6, w6, hr6, ht6, hm6, hn6, hb6⟩ := app_bytes (wr.drew.alloc (.cells #[.int .u8 l.length] 5)) w.heap.size o m d _ (OT.out.mod MC.out (by simp)) (some ⟨wr.heap.size, 0, none⟩) 1 1 [(l.length : Int)] (Sl.one_new wr.drew _ _ rfl) (by omega) (HM.out.same MC.out).size
        have HT6 := Lib.hid ht6
        have MT6 : Hid (Mod [] w w6) := (OT.out.mod MC.out (by simp)).turned (w2 := w) rfl hm6 (HM.out.same MC.out)
        have M6 : Hid (Mod (o.map (·.block)).toList wr w6) := (MC.out.mono (by simp)).same hm6
        have K6 : Hid (w6.cell? ⟨b, off + i * 3, none⟩ = some (.string (strOfNums l))) := (M6.out.cell (a := ⟨b, _, none⟩) hA2 (by
          cases o with
          | none => simp
          | some a => have := HOB.out a rfl; simp; omega)).trans D0.out
        clear ht6 hm6 hn6 hb6
        refine AnyT.one (i := 9) (by kernel_rfl) rfl (fun K hK => ?_)
        refine step_append_run rfl _ _ _ _ rfl _ _ _ _ rfl rfl hr6 ?_
        refine hK _ _ (fun _ => K6.out) ?_
        clear hK K hr6
        obtain ⟨p9, c9, w9, hr9, ht9, hm9, hn9⟩ := app_text w6 w.heap.size p6 (m + 1) c6 _ HT6.out l HWF.out.1 (by omega) MT6.out.size
        have HT9 := Lib.hid ht9
        have MT9 : Hid (Mod [] w w9) := HT6.out.turned (w2 := w) rfl hm9 MT6.out
        have K9 : Hid (w9.cell? ⟨b, off + i * 3, none⟩ = some (.string (strOfNums l))) := ((hm9.cell (a := ⟨b, _, none⟩) (Nat.lt_of_lt_of_le HBL MT6.out.size) (by
          cases p6 with
          | none => simp
          | some a => have := (HT6.out.own a rfl).2.1; simp; omega))).trans K6.out
        clear ht9 hm9 hn9
        refine AnyT.one (i := 15) (by kernel_rfl) rfl (fun K hK => ?_)
        refine step_append_run rfl _ _ _ _ rfl _ _ _ _ rfl rfl hr9 ?_
        refine hK _ _ (fun _ => K9.out) ?_
        clear hK K hr9
        refine AnyT.run (i := 16) (by kernel_rfl) rfl rfl (fun K hK => ?_)
        go_simp
        refine hK _ _ (fun h => absurd h (by rw [show more _ _ = false from by kernel_rfl]; decide)) ?_
        clear hK K
        refine AnyT.done (by kernel_rfl) ?_ _
        obtain ⟨N, hN⟩ : ∃ N, N = 5 + ((rs.take (i + 1)).flatMap rootBytes).length := ⟨_, rfl⟩
        obtain ⟨M, hM⟩ : ∃ M, M = m + 1 + l.length := ⟨_, rfl⟩
        obtain ⟨L, hL⟩ : ∃ L, L = [67, 82, 79, 79, (n : Int)] ++ (rs.take i).flatMap rootBytes ++ [(l.length : Int)] ++ l := ⟨_, rfl⟩
        have HLB : Hid (L ++ be 4 pg ++ be 4 ct = [67, 82, 79, 79, (n : Int)] ++ (rs.take (i + 1)).flatMap rootBytes) := by
          unfold Hid; rw [hL, HFT1.out]; simp [rootBytes]
        have HNE : Hid (M + 4 + 4 = 5 + ((rs.take (i + 1)).flatMap rootBytes).length) := by
          unfold Hid; rw [HFT1.out, List.length_append, rootBytes_len, hM, HML.out]; simp; omega
        have hMle : M ≤ 401 := by have := HFL.out (i + 1); have := HNE.out; omega
        rw [← hM, ← hL] at HT9
        rw [← hM]
        obtain ⟨BB, hBB⟩ : ∃ BB, BB = w.heap.size := ⟨_, rfl⟩
        have HBB := Lib.hid hBB
        rw [← hBB] at HT9
        obtain ⟨B0, hB0⟩ : ∃ B0, B0 = w9.heap.size := ⟨_, rfl⟩
        have HB0 := Lib.hid hB0
        have HOB : ∀ x ∈ (p9.map (fun a : Addr => a.block)).toList, x < B0 := fun x hx => by
          cases p9 with
          | none => simp at hx
          | some a => simp at hx; have := (HT9.out.own a rfl).2.2; rw [hB0]; omega
        have hw10 : IntKind.u64.wrap pg = pg := by rw [IntKind.wrap_u64]; omega
        have hw11 : IntKind.u64.wrap ct = ct := by rw [IntKind.wrap_u64]; omega
        clear hN hM hL OT K6 HT6 M6 MT6 K9 hA2 HFT1 HM D0 hBB hB0 MC
        go_wp2_with fail
        refine par_region2 (by kernel_rfl) (fun ls oi vs w => rqE p n c i b off pg ct p9 M c9 B0 BB L ls vs oi w) (fun ls w' => Mod [] w w' ∧ B0 ≤ w'.heap.size ∧ (ls.getD 9 true = true ∨ Tl w' BB 1 p9 M c9 (bs L))) (by kernel_rfl) (fun ls j vs vs' w o ho h1 hd h2 => rqE_loc h1  h2) ⟨⟨⟨⟨⟨⟨⟨⟨⟨⟨⟨⟨⟨⟨⟨⟨⟨⟨⟨⟨trivial, ?_⟩, ?_⟩, ?_⟩, ?_⟩, ?_⟩, ?_⟩, ?_⟩, ?_⟩, ?_⟩, ?_⟩, ?_⟩, ?_⟩, ?_⟩, ?_⟩, ?_⟩, ?_⟩, ?_⟩, ?_⟩, ?_⟩, ?_⟩ ⟨MT9.out.same (Mod.of_drew w9), (by rw [HB0.out]; exact Nat.le_refl _), Or.inr (HT9.out.mod (Mod.of_drew w9) (by simp))⟩ ?_
        · intro o ho listed vs a w' inv hun haft K hK
          obtain rfl := Option.some.inj ho
          refine par_run rfl ?_
          have hun' : ∀ h : listed.getD 0 true = true, False := fun h => by rw [hun] at h; cases h
          have e0 := inv.oldU hun 3 19 [18, 9, 0] (by kernel_rfl) (by kernel_rfl)
          have INV := Lib.hid inv
          clear inv haft hun ho
          simp at e0
          have MO : ∀ k, listed.getD k true = true → (listed.setIfInBounds 0 true).getD k true = true := fun k h => set_mono h
          go_simp
          exact hK _ _ ⟨INV.out.inv.1, INV.out.inv.2.1, INV.out.inv.2.2.imp (MO _) id⟩ (fun j hj hl => rqE_keep (Mod.refl _ _) MO (INV.out.val j hj hl)) rfl
        · intro o ho listed vs a w' inv hun haft K hK
          obtain rfl := Option.some.inj ho
          refine par_run rfl ?_
          have hun' : ∀ h : listed.getD 1 true = true, False := fun h => by rw [hun] at h; cases h
          have e0 := inv.old 0 (by kernel_rfl)
          have INV := Lib.hid inv
          clear inv haft hun ho
          simp at e0
          have MO : ∀ k, listed.getD k true = true → (listed.setIfInBounds 1 true).getD k true = true := fun k h => set_mono h
          go_simp
          exact hK _ _ ⟨INV.out.inv.1, INV.out.inv.2.1, INV.out.inv.2.2.imp (MO _) id⟩ (fun j hj hl => rqE_keep (Mod.refl _ _) MO (INV.out.val j hj hl)) rfl
        · intro o ho listed vs a w' inv hun haft K hK
          obtain rfl := Option.some.inj ho
          refine par_run rfl ?_
          have hun' : ∀ h : listed.getD 2 true = true, False := fun h => by rw [hun] at h; cases h
          have e0 := inv.old 4 (by kernel_rfl)
          have INV := Lib.hid inv
          clear inv haft hun ho
          simp at e0
          have MO : ∀ k, listed.getD k true = true → (listed.setIfInBounds 2 true).getD k true = true := fun k h => set_mono h
          go_simp
          exact hK _ _ ⟨INV.out.inv.1, INV.out.inv.2.1, INV.out.inv.2.2.imp (MO _) id⟩ (fun j hj hl => rqE_keep (Mod.refl _ _) MO (INV.out.val j hj hl)) rfl
        · intro o ho listed vs a w' inv hun haft K hK
          obtain rfl := Option.some.inj ho
          refine par_run rfl ?_
          have hun' : ∀ h : listed.getD 3 true = true, False := fun h => by rw [hun] at h; cases h
          obtain ⟨e0, r0⟩ := inv.get haft 1 38 (by kernel_rfl) (by kernel_rfl)
          obtain ⟨e1, r1⟩ := inv.get haft 2 39 (by kernel_rfl) (by kernel_rfl)
          have INV := Lib.hid inv
          clear inv haft hun ho
          change vs 1 = .slice p n c at r0
          rw [r0] at e0
          have g0 := getD_opt e0
          change vs 2 = .int .i64 i at r1
          rw [r1] at e1
          have g1 := getD_opt e1
          have MO : ∀ k, listed.getD k true = true → (listed.setIfInBounds 3 true).getD k true = true := fun k h => set_mono h
          go_simp
          exact hK _ _ ⟨INV.out.inv.1, INV.out.inv.2.1, INV.out.inv.2.2.imp (MO _) id⟩ (fun j hj hl => rqE_keep (Mod.refl _ _) MO (INV.out.val j hj hl)) rfl
        · intro o ho listed vs a w' inv hun haft K hK
          obtain rfl := Option.some.inj ho
          refine par_run rfl ?_
          have hun' : ∀ h : listed.getD 4 true = true, False := fun h => by rw [hun] at h; cases h
          obtain ⟨e0, r0⟩ := inv.get haft 3 40 (by kernel_rfl) (by kernel_rfl)
          have INV := Lib.hid inv
          clear inv haft hun ho
          change vs 3 = .pointer (some ⟨b, off + i * 3, none⟩) at r0
          rw [r0] at e0
          have g0 := getD_opt e0
          have MO : ∀ k, listed.getD k true = true → (listed.setIfInBounds 4 true).getD k true = true := fun k h => set_mono h
          go_simp
          exact hK _ _ ⟨INV.out.inv.1, INV.out.inv.2.1, INV.out.inv.2.2.imp (MO _) id⟩ (fun j hj hl => rqE_keep (Mod.refl _ _) MO (INV.out.val j hj hl)) rfl
        · intro o ho listed vs a w' inv hun haft K hK
          obtain rfl := Option.some.inj ho
          refine par_run rfl ?_
          have hun' : ∀ h : listed.getD 5 true = true, False := fun h => by rw [hun] at h; cases h
          obtain ⟨e0, r0⟩ := inv.get haft 4 41 (by kernel_rfl) (by kernel_rfl)
          have INV := Lib.hid inv
          clear inv haft hun ho
          change vs 4 = .pointer (some ⟨b, off + i * 3 + 1, none⟩) at r0
          rw [r0] at e0
          have g0 := getD_opt e0
          have cy := (INV.out.inv.1.cell (a := ⟨b, _, none⟩) HBL (by simp)).trans D1.out
          have MO : ∀ k, listed.getD k true = true → (listed.setIfInBounds 5 true).getD k true = true := fun k h => set_mono h
          go_simp
          exact hK _ _ ⟨INV.out.inv.1, INV.out.inv.2.1, INV.out.inv.2.2.imp (MO _) id⟩ (fun j hj hl => rqE_keep (Mod.refl _ _) MO (INV.out.val j hj hl)) rfl
        · intro o ho listed vs a w' inv hun haft K hK
          obtain rfl := Option.some.inj ho
          refine par_run rfl ?_
          have hun' : ∀ h : listed.getD 6 true = true, False := fun h => by rw [hun] at h; cases h
          obtain ⟨e0, r0⟩ := inv.get haft 5 42 (by kernel_rfl) (by kernel_rfl)
          have INV := Lib.hid inv
          clear inv haft hun ho
          change vs 5 = .int .i64 pg at r0
          rw [r0] at e0
          have g0 := getD_opt e0
          have MO : ∀ k, listed.getD k true = true → (listed.setIfInBounds 6 true).getD k true = true := fun k h => set_mono h
          go_simp
          exact hK _ _ ⟨INV.out.inv.1, INV.out.inv.2.1, INV.out.inv.2.2.imp (MO _) id⟩ (fun j hj hl => rqE_keep (Mod.refl _ _) MO (INV.out.val j hj hl)) rfl
        · intro o ho listed vs a w' inv hun haft K hK
          obtain rfl := Option.some.inj ho
          refine par_run rfl ?_
          have hun' : ∀ h : listed.getD 7 true = true, False := fun h => by rw [hun] at h; cases h
          obtain ⟨e0, r0⟩ := inv.get haft 6 43 (by kernel_rfl) (by kernel_rfl)
          have INV := Lib.hid inv
          clear inv haft hun ho
          change vs 6 = .int .u64 pg at r0
          rw [r0] at e0
          have g0 := getD_opt e0
          have MO : ∀ k, listed.getD k true = true → (listed.setIfInBounds 7 true).getD k true = true := fun k h => set_mono h
          go_simp
          refine (qkey_any pg _ (by omega) (by omega)).mono ?_
          rintro _ w3 ⟨_, rfl, p3, n3, c3, rfl, e3, s3, m3⟩
          obtain rfl : n3 = (8) := by rw [e3]; exact be_len _ _
          exact hK _ _ ⟨INV.out.inv.1.same m3, Nat.le_trans INV.out.inv.2.1 m3.size, INV.out.inv.2.2.imp (MO _) (fun h => h.mod m3 (by simp))⟩ (fun j hj hl => rqE_keep m3 MO (INV.out.val j hj hl)) ⟨_, _, rfl, Or.inr ((Tl.of_key s3).base_le INV.out.inv.2.1)⟩
        · intro o ho listed vs a w' inv hun haft K hK
          obtain rfl := Option.some.inj ho
          refine par_run rfl ?_
          have hun' : ∀ h : listed.getD 8 true = true, False := fun h => by rw [hun] at h; cases h
          obtain ⟨e0, r0⟩ := inv.get haft 7 44 (by kernel_rfl) (by kernel_rfl)
          have INV := Lib.hid inv
          clear inv haft hun ho
          obtain ⟨p0, c0, h0, t0⟩ := r0
          rw [h0] at e0
          have s0 := t0.resolve_left hun'
          have g0 := getD_opt e0
          have MO : ∀ k, listed.getD k true = true → (listed.setIfInBounds 8 true).getD k true = true := fun k h => set_mono h
          obtain ⟨p', r', t', _⟩ := s0.sub_key 4 4 rfl (by omega) 4 rfl
          rw [be_drop] at t'
          have T' := Lib.hid t'
          clear t' s0
          go_simp
          exact hK _ _ ⟨INV.out.inv.1, INV.out.inv.2.1, INV.out.inv.2.2.imp (MO _) id⟩ (fun j hj hl => rqE_keep (Mod.refl _ _) MO (INV.out.val j hj hl)) ⟨_, _, rfl, Or.inr T'.out⟩
        · intro o ho listed vs a w' inv hun haft K hK
          obtain rfl := Option.some.inj ho
          refine par_run rfl ?_
          have hun' : ∀ h : listed.getD 9 true = true, False := fun h => by rw [hun] at h; cases h
          obtain ⟨e0, r0⟩ := inv.get haft 0 37 (by kernel_rfl) (by kernel_rfl)
          obtain ⟨e1, r1⟩ := inv.get haft 8 45 (by kernel_rfl) (by kernel_rfl)
          have un9 : listed.getD 9 true = false := hun
          have un18 : listed.getD 18 true = false := inv.unlisted hun [9] 18 (by kernel_rfl)
          have un19 : listed.getD 19 true = false := inv.unlisted hun [18,9] 19 (by kernel_rfl)
          have ld8 : listed.getD 8 true = true := ParInv2.lst haft 8 (by kernel_rfl)
          have INV := Lib.hid inv
          clear inv haft hun ho
          change vs 0 = .slice p9 M c9 at r0
          rw [r0] at e0
          have g0 := getD_opt e0
          obtain ⟨p1, c1, h1, t1⟩ := r1
          rw [h1] at e1
          have s1 := t1.resolve_left hun'
          have g1 := getD_opt e1
          have MO : ∀ k, listed.getD k true = true → (listed.setIfInBounds 9 true).getD k true = true := fun k h => set_mono h
          obtain ⟨p', c', w3, hr, ht', hm3, hn', hb'⟩ := app_bytes w' BB p9 M c9 L (INV.out.inv.2.2.resolve_left hun') p1 _ c1 _ s1.sl (by omega) (by rw [HBB.out]; exact INV.out.inv.1.size)
          have M3 := Lib.hid (Tl.turned (w2 := w') ((INV.out.inv.2.2.resolve_left hun')) (by rw [HBB.out]) hm3 INV.out.inv.1)
          refine oper_append_run _ _ _ _ rfl _ _ _ _ (by simpa [Act.eval] using g0) (by simpa [Act.eval] using g1) hr ?_
          refine hK _ _ ⟨M3.out, Nat.le_trans INV.out.inv.2.1 hm3.size, Or.inl (set_self)⟩ (fun j hj hl => rqE_app9 hm3 HOB MO (MO _ ld8) set_self hl un9 un18 un19 (INV.out.val j hj hl)) ⟨_, _, rfl, ?_⟩
          exact Or.inr ht'
        · intro o ho listed vs a w' inv hun haft K hK
          obtain rfl := Option.some.inj ho
          refine par_run rfl ?_
          have hun' : ∀ h : listed.getD 10 true = true, False := fun h => by rw [hun] at h; cases h
          have e0 := inv.old 0 (by kernel_rfl)
          have INV := Lib.hid inv
          clear inv haft hun ho
          simp at e0
          have MO : ∀ k, listed.getD k true = true → (listed.setIfInBounds 10 true).getD k true = true := fun k h => set_mono h
          go_simp
          exact hK _ _ ⟨INV.out.inv.1, INV.out.inv.2.1, INV.out.inv.2.2.imp (MO _) id⟩ (fun j hj hl => rqE_keep (Mod.refl _ _) MO (INV.out.val j hj hl)) rfl
        · intro o ho listed vs a w' inv hun haft K hK
          obtain rfl := Option.some.inj ho
          refine par_run rfl ?_
          have hun' : ∀ h : listed.getD 11 true = true, False := fun h => by rw [hun] at h; cases h
          have e0 := inv.old 4 (by kernel_rfl)
          have INV := Lib.hid inv
          clear inv haft hun ho
          simp at e0
          have MO : ∀ k, listed.getD k true = true → (listed.setIfInBounds 11 true).getD k true = true := fun k h => set_mono h
          go_simp
          exact hK _ _ ⟨INV.out.inv.1, INV.out.inv.2.1, INV.out.inv.2.2.imp (MO _) id⟩ (fun j hj hl => rqE_keep (Mod.refl _ _) MO (INV.out.val j hj hl)) rfl
        · intro o ho listed vs a w' inv hun haft K hK
          obtain rfl := Option.some.inj ho
          refine par_run rfl ?_
          have hun' : ∀ h : listed.getD 12 true = true, False := fun h => by rw [hun] at h; cases h
          obtain ⟨e0, r0⟩ := inv.get haft 10 47 (by kernel_rfl) (by kernel_rfl)
          obtain ⟨e1, r1⟩ := inv.get haft 11 48 (by kernel_rfl) (by kernel_rfl)
          have INV := Lib.hid inv
          clear inv haft hun ho
          change vs 10 = .slice p n c at r0
          rw [r0] at e0
          have g0 := getD_opt e0
          change vs 11 = .int .i64 i at r1
          rw [r1] at e1
          have g1 := getD_opt e1
          have MO : ∀ k, listed.getD k true = true → (listed.setIfInBounds 12 true).getD k true = true := fun k h => set_mono h
          go_simp
          exact hK _ _ ⟨INV.out.inv.1, INV.out.inv.2.1, INV.out.inv.2.2.imp (MO _) id⟩ (fun j hj hl => rqE_keep (Mod.refl _ _) MO (INV.out.val j hj hl)) rfl
        · intro o ho listed vs a w' inv hun haft K hK
          obtain rfl := Option.some.inj ho
          refine par_run rfl ?_
          have hun' : ∀ h : listed.getD 13 true = true, False := fun h => by rw [hun] at h; cases h
          obtain ⟨e0, r0⟩ := inv.get haft 12 49 (by kernel_rfl) (by kernel_rfl)
          have INV := Lib.hid inv
          clear inv haft hun ho
          change vs 12 = .pointer (some ⟨b, off + i * 3, none⟩) at r0
          rw [r0] at e0
          have g0 := getD_opt e0
          have MO : ∀ k, listed.getD k true = true → (listed.setIfInBounds 13 true).getD k true = true := fun k h => set_mono h
          go_simp
          exact hK _ _ ⟨INV.out.inv.1, INV.out.inv.2.1, INV.out.inv.2.2.imp (MO _) id⟩ (fun j hj hl => rqE_keep (Mod.refl _ _) MO (INV.out.val j hj hl)) rfl
        · intro o ho listed vs a w' inv hun haft K hK
          obtain rfl := Option.some.inj ho
          refine par_run rfl ?_
          have hun' : ∀ h : listed.getD 14 true = true, False := fun h => by rw [hun] at h; cases h
          obtain ⟨e0, r0⟩ := inv.get haft 13 50 (by kernel_rfl) (by kernel_rfl)
          have INV := Lib.hid inv
          clear inv haft hun ho
          change vs 13 = .pointer (some ⟨b, off + i * 3 + 2, none⟩) at r0
          rw [r0] at e0
          have g0 := getD_opt e0
          have cy := (INV.out.inv.1.cell (a := ⟨b, _, none⟩) HBL (by simp)).trans D2.out
          have MO : ∀ k, listed.getD k true = true → (listed.setIfInBounds 14 true).getD k true = true := fun k h => set_mono h
          go_simp
          exact hK _ _ ⟨INV.out.inv.1, INV.out.inv.2.1, INV.out.inv.2.2.imp (MO _) id⟩ (fun j hj hl => rqE_keep (Mod.refl _ _) MO (INV.out.val j hj hl)) rfl
        · intro o ho listed vs a w' inv hun haft K hK
          obtain rfl := Option.some.inj ho
          refine par_run rfl ?_
          have hun' : ∀ h : listed.getD 15 true = true, False := fun h => by rw [hun] at h; cases h
          obtain ⟨e0, r0⟩ := inv.get haft 14 51 (by kernel_rfl) (by kernel_rfl)
          have INV := Lib.hid inv
          clear inv haft hun ho
          change vs 14 = .int .i64 ct at r0
          rw [r0] at e0
          have g0 := getD_opt e0
          have MO : ∀ k, listed.getD k true = true → (listed.setIfInBounds 15 true).getD k true = true := fun k h => set_mono h
          go_simp
          exact hK _ _ ⟨INV.out.inv.1, INV.out.inv.2.1, INV.out.inv.2.2.imp (MO _) id⟩ (fun j hj hl => rqE_keep (Mod.refl _ _) MO (INV.out.val j hj hl)) rfl
        · intro o ho listed vs a w' inv hun haft K hK
          obtain rfl := Option.some.inj ho
          refine par_run rfl ?_
          have hun' : ∀ h : listed.getD 16 true = true, False := fun h => by rw [hun] at h; cases h
          obtain ⟨e0, r0⟩ := inv.get haft 15 52 (by kernel_rfl) (by kernel_rfl)
          have INV := Lib.hid inv
          clear inv haft hun ho
          change vs 15 = .int .u64 ct at r0
          rw [r0] at e0
          have g0 := getD_opt e0
          have MO : ∀ k, listed.getD k true = true → (listed.setIfInBounds 16 true).getD k true = true := fun k h => set_mono h
          go_simp
          refine (qkey_any ct _ (by omega) (by omega)).mono ?_
          rintro _ w3 ⟨_, rfl, p3, n3, c3, rfl, e3, s3, m3⟩
          obtain rfl : n3 = (8) := by rw [e3]; exact be_len _ _
          exact hK _ _ ⟨INV.out.inv.1.same m3, Nat.le_trans INV.out.inv.2.1 m3.size, INV.out.inv.2.2.imp (MO _) (fun h => h.mod m3 (by simp))⟩ (fun j hj hl => rqE_keep m3 MO (INV.out.val j hj hl)) ⟨_, _, rfl, Or.inr ((Tl.of_key s3).base_le INV.out.inv.2.1)⟩
        · intro o ho listed vs a w' inv hun haft K hK
          obtain rfl := Option.some.inj ho
          refine par_run rfl ?_
          have hun' : ∀ h : listed.getD 17 true = true, False := fun h => by rw [hun] at h; cases h
          obtain ⟨e0, r0⟩ := inv.get haft 16 53 (by kernel_rfl) (by kernel_rfl)
          have INV := Lib.hid inv
          clear inv haft hun ho
          obtain ⟨p0, c0, h0, t0⟩ := r0
          rw [h0] at e0
          have s0 := t0.resolve_left hun'
          have g0 := getD_opt e0
          have MO : ∀ k, listed.getD k true = true → (listed.setIfInBounds 17 true).getD k true = true := fun k h => set_mono h
          obtain ⟨p', r', t', _⟩ := s0.sub_key 4 4 rfl (by omega) 4 rfl
          rw [be_drop] at t'
          have T' := Lib.hid t'
          clear t' s0
          go_simp
          exact hK _ _ ⟨INV.out.inv.1, INV.out.inv.2.1, INV.out.inv.2.2.imp (MO _) id⟩ (fun j hj hl => rqE_keep (Mod.refl _ _) MO (INV.out.val j hj hl)) ⟨_, _, rfl, Or.inr T'.out⟩
        · intro o ho listed vs a w' inv hun haft K hK
          obtain rfl := Option.some.inj ho
          refine par_run rfl ?_
          have hun' : ∀ h : listed.getD 18 true = true, False := fun h => by rw [hun] at h; cases h
          obtain ⟨e0, r0⟩ := inv.get haft 9 46 (by kernel_rfl) (by kernel_rfl)
          obtain ⟨e1, r1⟩ := inv.get haft 17 54 (by kernel_rfl) (by kernel_rfl)
          have un18 : listed.getD 18 true = false := hun
          have un19 : listed.getD 19 true = false := inv.unlisted hun [18] 19 (by kernel_rfl)
          have ld9 : listed.getD 9 true = true := ParInv2.lst haft 9 (by kernel_rfl)
          have ld17 : listed.getD 17 true = true := ParInv2.lst haft 17 (by kernel_rfl)
          have ld8 : listed.getD 8 true = true := inv.lstTo [8] 9 8 (by kernel_rfl) ld9
          have INV := Lib.hid inv
          clear inv haft hun ho
          obtain ⟨p0, c0, h0, t0⟩ := r0
          rw [h0] at e0
          have s0 := t0.resolve_left hun'
          have g0 := getD_opt e0
          obtain ⟨p1, c1, h1, t1⟩ := r1
          rw [h1] at e1
          have s1 := t1.resolve_left hun'
          have g1 := getD_opt e1
          have MO : ∀ k, listed.getD k true = true → (listed.setIfInBounds 18 true).getD k true = true := fun k h => set_mono h
          obtain ⟨p', c', w3, hr, ht', hm3, hn', hb'⟩ := app_bytes w' BB p0 _ c0 _ s0 p1 _ c1 _ s1.sl (by omega) (by rw [HBB.out]; exact INV.out.inv.1.size)
          have M3 := Lib.hid (Tl.turned (w2 := w') (s0) (by rw [HBB.out]) hm3 INV.out.inv.1)
          refine oper_append_run _ _ _ _ rfl _ _ _ _ (by simpa [Act.eval] using g0) (by simpa [Act.eval] using g1) hr ?_
          refine hK _ _ ⟨M3.out, Nat.le_trans INV.out.inv.2.1 hm3.size, Or.inl (MO _ ld9)⟩ (fun j hj hl => rqE_app18 hm3  MO (MO _ ld8) (MO _ ld9) (MO _ ld17) set_self hl un18 un19 (INV.out.val j hj hl)) ⟨_, _, rfl, ?_⟩
          exact ht'
        · intro o ho listed vs a w' inv hun haft K hK
          obtain rfl := Option.some.inj ho
          refine par_run rfl ?_
          have hun' : ∀ h : listed.getD 19 true = true, False := fun h => by rw [hun] at h; cases h
          obtain ⟨e0, r0⟩ := inv.get haft 18 55 (by kernel_rfl) (by kernel_rfl)
          have INV := Lib.hid inv
          clear inv haft hun ho
          obtain ⟨p0, c0, h0, t0⟩ := r0
          rw [h0] at e0
          have s0 := t0
          have g0 := getD_opt e0
          have MO : ∀ k, listed.getD k true = true → (listed.setIfInBounds 19 true).getD k true = true := fun k h => set_mono h
          go_simp
          exact hK _ _ ⟨INV.out.inv.1, INV.out.inv.2.1, INV.out.inv.2.2.imp (MO _) id⟩ (fun j hj hl => rqE_keep (Mod.refl _ _) MO (INV.out.val j hj hl)) ⟨_, _, rfl, s0⟩
        intro ls vs w2 X hall hm hr hslot hold hsize hdef
        have er := hslot 19 3 (by kernel_rfl)
        obtain ⟨p8, c8, h9, T9⟩ := hr 19 (by decide)
        rw [h9] at er
        clear h9
        have e0 := hold 0 (by kernel_rfl)
        have e1 := hold 1 (by kernel_rfl)
        have e2 := hold 2 (by kernel_rfl)
        have e4 := hold 4 (by kernel_rfl)
        have e5 := hold 5 (by kernel_rfl)
        have e6 := hold 6 (by kernel_rfl)
        have e7 := hold 7 (by kernel_rfl)
        have e8 := hold 8 (by kernel_rfl)
        have e9 := hold 9 (by kernel_rfl)
        have e10 := hold 10 (by kernel_rfl)
        have e11 := hold 11 (by kernel_rfl)
        have e12 := hold 12 (by kernel_rfl)
        have e13 := hold 13 (by kernel_rfl)
        have e14 := hold 14 (by kernel_rfl)
        have e15 := hold 15 (by kernel_rfl)
        have e16 := hold 16 (by kernel_rfl)
        have e17 := hold 17 (by kernel_rfl)
        have e18 := hold 18 (by kernel_rfl)
        have e19 := hold 19 (by kernel_rfl)
        have e20 := hold 20 (by kernel_rfl)
        have e21 := hold 21 (by kernel_rfl)
        have e22 := hold 22 (by kernel_rfl)
        have e23 := hold 23 (by kernel_rfl)
        have e24 := hold 24 (by kernel_rfl)
        have e25 := hold 25 (by kernel_rfl)
        have e26 := hold 26 (by kernel_rfl)
        have e27 := hold 27 (by kernel_rfl)
        have e28 := hold 28 (by kernel_rfl)
        have e29 := hold 29 (by kernel_rfl)
        have e30 := hold 30 (by kernel_rfl)
        have e31 := hold 31 (by kernel_rfl)
        have e32 := hold 32 (by kernel_rfl)
        have e33 := hold 33 (by kernel_rfl)
        have e34 := hold 34 (by kernel_rfl)
        have e35 := hold 35 (by kernel_rfl)
        have e36 := hold 36 (by kernel_rfl)
        have e56 := hold 56 (by kernel_rfl)
        simp only [Array.getD_eq_getD_getElem?, List.getElem?_toArray, List.getElem?_cons_zero, List.getElem?_cons_succ, Option.getD_some] at e0 e1 e2 e4 e5 e6 e7 e8 e9 e10 e11 e12 e13 e14 e15 e16 e17 e18 e19 e20 e21 e22 e23 e24 e25 e26 e27 e28 e29 e30 e31 e32 e33 e34 e35 e36 e56
        have MR := Lib.hid hm
        clear hr hslot hold hm
        obtain ⟨⟨xs⟩, df⟩ := X
        replace hdef : df = [] := hdef
        subst hdef
        replace hsize : xs.length = 57 := hsize
        obtain ⟨x0, xs0, rfl, hs0⟩ := cons_of hsize
        obtain ⟨x1, xs1, rfl, hs1⟩ := cons_of hs0
        obtain ⟨x2, xs2, rfl, hs2⟩ := cons_of hs1
        obtain ⟨x3, xs3, rfl, hs3⟩ := cons_of hs2
        obtain ⟨x4, xs4, rfl, hs4⟩ := cons_of hs3
        obtain ⟨x5, xs5, rfl, hs5⟩ := cons_of hs4
        obtain ⟨x6, xs6, rfl, hs6⟩ := cons_of hs5
        obtain ⟨x7, xs7, rfl, hs7⟩ := cons_of hs6
        obtain ⟨x8, xs8, rfl, hs8⟩ := cons_of hs7
        obtain ⟨x9, xs9, rfl, hs9⟩ := cons_of hs8
        obtain ⟨x10, xs10, rfl, hs10⟩ := cons_of hs9
        obtain ⟨x11, xs11, rfl, hs11⟩ := cons_of hs10
        obtain ⟨x12, xs12, rfl, hs12⟩ := cons_of hs11
        obtain ⟨x13, xs13, rfl, hs13⟩ := cons_of hs12
        obtain ⟨x14, xs14, rfl, hs14⟩ := cons_of hs13
        obtain ⟨x15, xs15, rfl, hs15⟩ := cons_of hs14
        obtain ⟨x16, xs16, rfl, hs16⟩ := cons_of hs15
        obtain ⟨x17, xs17, rfl, hs17⟩ := cons_of hs16
        obtain ⟨x18, xs18, rfl, hs18⟩ := cons_of hs17
        obtain ⟨x19, xs19, rfl, hs19⟩ := cons_of hs18
        obtain ⟨x20, xs20, rfl, hs20⟩ := cons_of hs19
        obtain ⟨x21, xs21, rfl, hs21⟩ := cons_of hs20
        obtain ⟨x22, xs22, rfl, hs22⟩ := cons_of hs21
        obtain ⟨x23, xs23, rfl, hs23⟩ := cons_of hs22
        obtain ⟨x24, xs24, rfl, hs24⟩ := cons_of hs23
        obtain ⟨x25, xs25, rfl, hs25⟩ := cons_of hs24
        obtain ⟨x26, xs26, rfl, hs26⟩ := cons_of hs25
        obtain ⟨x27, xs27, rfl, hs27⟩ := cons_of hs26
        obtain ⟨x28, xs28, rfl, hs28⟩ := cons_of hs27
        obtain ⟨x29, xs29, rfl, hs29⟩ := cons_of hs28
        obtain ⟨x30, xs30, rfl, hs30⟩ := cons_of hs29
        obtain ⟨x31, xs31, rfl, hs31⟩ := cons_of hs30
        obtain ⟨x32, xs32, rfl, hs32⟩ := cons_of hs31
        obtain ⟨x33, xs33, rfl, hs33⟩ := cons_of hs32
        obtain ⟨x34, xs34, rfl, hs34⟩ := cons_of hs33
        obtain ⟨x35, xs35, rfl, hs35⟩ := cons_of hs34
        obtain ⟨x36, xs36, rfl, hs36⟩ := cons_of hs35
        obtain ⟨x37, xs37, rfl, hs37⟩ := cons_of hs36
        obtain ⟨x38, xs38, rfl, hs38⟩ := cons_of hs37
        obtain ⟨x39, xs39, rfl, hs39⟩ := cons_of hs38
        obtain ⟨x40, xs40, rfl, hs40⟩ := cons_of hs39
        obtain ⟨x41, xs41, rfl, hs41⟩ := cons_of hs40
        obtain ⟨x42, xs42, rfl, hs42⟩ := cons_of hs41
        obtain ⟨x43, xs43, rfl, hs43⟩ := cons_of hs42
        obtain ⟨x44, xs44, rfl, hs44⟩ := cons_of hs43
        obtain ⟨x45, xs45, rfl, hs45⟩ := cons_of hs44
        obtain ⟨x46, xs46, rfl, hs46⟩ := cons_of hs45
        obtain ⟨x47, xs47, rfl, hs47⟩ := cons_of hs46
        obtain ⟨x48, xs48, rfl, hs48⟩ := cons_of hs47
        obtain ⟨x49, xs49, rfl, hs49⟩ := cons_of hs48
        obtain ⟨x50, xs50, rfl, hs50⟩ := cons_of hs49
        obtain ⟨x51, xs51, rfl, hs51⟩ := cons_of hs50
        obtain ⟨x52, xs52, rfl, hs52⟩ := cons_of hs51
        obtain ⟨x53, xs53, rfl, hs53⟩ := cons_of hs52
        obtain ⟨x54, xs54, rfl, hs54⟩ := cons_of hs53
        obtain ⟨x55, xs55, rfl, hs55⟩ := cons_of hs54
        obtain ⟨x56, xs56, rfl, hs56⟩ := cons_of hs55
        obtain rfl := List.eq_nil_of_length_eq_zero hs56
        clear hsize hs0 hs1 hs2 hs3 hs4 hs5 hs6 hs7 hs8 hs9 hs10 hs11 hs12 hs13 hs14 hs15 hs16 hs17 hs18 hs19 hs20 hs21 hs22 hs23 hs24 hs25 hs26 hs27 hs28 hs29 hs30 hs31 hs32 hs33 hs34 hs35 hs36 hs37 hs38 hs39 hs40 hs41 hs42 hs43 hs44 hs45 hs46 hs47 hs48 hs49 hs50 hs51 hs52 hs53 hs54 hs55 hs56
        rw [show (Array.mk (x0 :: x1 :: x2 :: x3 :: x4 :: x5 :: x6 :: x7 :: x8 :: x9 :: x10 :: x11 :: x12 :: x13 :: x14 :: x15 :: x16 :: x17 :: x18 :: x19 :: x20 :: x21 :: x22 :: x23 :: x24 :: x25 :: x26 :: x27 :: x28 :: x29 :: x30 :: x31 :: x32 :: x33 :: x34 :: x35 :: x36 :: x37 :: x38 :: x39 :: x40 :: x41 :: x42 :: x43 :: x44 :: x45 :: x46 :: x47 :: x48 :: x49 :: x50 :: x51 :: x52 :: x53 :: x54 :: x55 :: x56 :: []) : Array Value) = List.toArray (x0 :: x1 :: x2 :: x3 :: x4 :: x5 :: x6 :: x7 :: x8 :: x9 :: x10 :: x11 :: x12 :: x13 :: x14 :: x15 :: x16 :: x17 :: x18 :: x19 :: x20 :: x21 :: x22 :: x23 :: x24 :: x25 :: x26 :: x27 :: x28 :: x29 :: x30 :: x31 :: x32 :: x33 :: x34 :: x35 :: x36 :: x37 :: x38 :: x39 :: x40 :: x41 :: x42 :: x43 :: x44 :: x45 :: x46 :: x47 :: x48 :: x49 :: x50 :: x51 :: x52 :: x53 :: x54 :: x55 :: x56 :: []) from rfl]
        change x0 = _ at e0
        subst e0
        change x1 = _ at e1
        subst e1
        change x2 = _ at e2
        subst e2
        change x4 = _ at e4
        subst e4
        change x5 = _ at e5
        subst e5
        change x6 = _ at e6
        subst e6
        change x7 = _ at e7
        subst e7
        change x8 = _ at e8
        subst e8
        change x9 = _ at e9
        subst e9
        change x10 = _ at e10
        subst e10
        change x11 = _ at e11
        subst e11
        change x12 = _ at e12
        subst e12
        change x13 = _ at e13
        subst e13
        change x14 = _ at e14
        subst e14
        change x15 = _ at e15
        subst e15
        change x16 = _ at e16
        subst e16
        change x17 = _ at e17
        subst e17
        change x18 = _ at e18
        subst e18
        change x19 = _ at e19
        subst e19
        change x20 = _ at e20
        subst e20
        change x21 = _ at e21
        subst e21
        change x22 = _ at e22
        subst e22
        change x23 = _ at e23
        subst e23
        change x24 = _ at e24
        subst e24
        change x25 = _ at e25
        subst e25
        change x26 = _ at e26
        subst e26
        change x27 = _ at e27
        subst e27
        change x28 = _ at e28
        subst e28
        change x29 = _ at e29
        subst e29
        change x30 = _ at e30
        subst e30
        change x31 = _ at e31
        subst e31
        change x32 = _ at e32
        subst e32
        change x33 = _ at e33
        subst e33
        change x34 = _ at e34
        subst e34
        change x35 = _ at e35
        subst e35
        change x36 = _ at e36
        subst e36
        change x56 = _ at e56
        subst e56
        change x3 = .slice p8 (M + 4 + 4) c8 at er
        subst er
        have HT9 := Lib.hid T9
        have HMN := Lib.hid MR.1
        clear T9 MR hall
        go_wp2
        go_roundw
        case rel => exact ⟨i + 1, M + 4 + 4, c8, p8, by omega, by go_num, rfl, HNE.out, by
          have := HT9.out
          rw [HBB.out, HLB.out] at this
          exact this, HMN.out⟩
        case measure => simp [intOf]; omega
      · obtain rfl : i = n := by omega
        go_wp2
        go_ret
        rw [HALL.out] at HML OT
        have hb : [67, 82, 79, 79, (i : Int)] ++ rs.flatMap rootBytes = rootsBytes rs := by unfold rootsBytes; rw [HLEN.out]
        refine .mk ⟨o, m, d, rfl, ?_, ⟨fun e => ?_, fun e => ?_⟩, ?_, HM.out⟩
        · rw [HPV.out, ← hb, HML.out]; simp; omega
        · have := (OT.out.nil e).1; have := HML.out; omega
        · rw [HPV.out] at e; simp [rootsBytes] at e
        · rw [HPV.out, ← hb]; exact OT.out
  · have HPV : Hid (payRs rs = []) := if_neg hm
    have hm' : mayR rs = false := by simpa using hm
    rw [hm'] at HMAY
    clear hm hm' h
    go_enter Tryd.func14, Tryd.ntmps14
    go_wp2_with fail
    refine HMAY.out.mono ?_
    rintro _ w1 ⟨_, rfl, rfl, m1⟩
    have M1 := Lib.hid m1
    clear m1
    go_wp2
    go_ret
    exact .mk ⟨none, 0, 0, rfl, by rw [HPV.out] <;> rfl, by rw [HPV.out]; simp, by rw [HPV.out]; exact Tl.none' _ _ _, M1.out⟩
end Go.Proofs.YtpdkkokgpdabhaaDoor
