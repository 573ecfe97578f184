/- What a node's page says: a cell, a leaf. -/
import Derived.Test.YtgimdodbajhpoaaGreatDoorG35
import Derived.Test.YtgimdodbajhpoaaGreatDoorG23
import Derived.Test.YtgimdodbajhpoaaGreatDoorG22
import Derived.Test.YtgimdodbajhpoaaGreatDoorG09
namespace Go.Proofs.YtgimdodbajhpoaaGreatDoor
open Go.RowKit Go.Maps
set_option linter.unusedSimpArgs false
set_option linter.unusedVariables false

def valBytes (c : Cl) : List Int := if c.size = 0 then be 2 c.inl.length ++ c.inl else be 2 c.size ++ (be 4 c.head ++ [0, 0])
def cellBytes (c : Cl) : List Int := (c.key.length : Int) :: (c.key ++ valBytes c)
def leafBytes (cs : List Cl) : List Int := 1 :: (be 2 cs.length ++ cs.flatMap cellBytes)
def payLeaf (cs : List Cl) : List Int := if mayLeaf cs = true then leafBytes cs else []
theorem valBytes_len (c : Cl) : (valBytes c).length = if c.size = 0 then 2 + c.inl.length else 8 := by unfold valBytes; split <;> simp [be_len]
theorem cellBytes_len (c : Cl) : (cellBytes c).length = clLen c := by
  unfold cellBytes clLen
  simp only [List.length_cons, List.length_append, valBytes_len]
  split <;> omega
theorem flatCells_len : ∀ cs : List Cl, (cs.flatMap cellBytes).length = lsum cs
  | [] => rfl
  | c :: r => by rw [List.flatMap_cons, List.length_append, cellBytes_len, flatCells_len r]; simp [lsum]
theorem leafBytes_len (cs : List Cl) : (leafBytes cs).length = leafLen cs := by
  unfold leafBytes leafLen
  simp only [List.length_cons, List.length_append, be_len, flatCells_len]; omega
theorem payLeaf_len (cs : List Cl) : (payLeaf cs).length ≤ 1016 := by
  unfold payLeaf; split
  · rename_i h
    rw [leafBytes_len]
    simp only [mayLeaf, Bool.and_eq_true, decide_eq_true_eq] at h; exact h.2
  · simp
theorem mayCl_spec {c : Cl} (h : mayCl c = true) : (c.size = 0 → c.head = 0 ∧ c.inl.length ≤ 200) ∧ (c.size ≠ 0 → (200 < c.size ∧ c.size ≤ 16384) ∧ (2 ≤ c.head ∧ c.head ≤ 2147483647) ∧ c.inl.length = 0) := by
  unfold mayCl at h
  split at h
  · rename_i h1
    exact ⟨fun _ => ⟨h1.2, by simpa using h⟩, fun h2 => absurd h1.1 h2⟩
  · simp only [mayPgN, Bool.and_eq_true, decide_eq_true_eq] at h
    exact ⟨fun h2 => by omega, fun _ => ⟨⟨h.1.1.1, h.1.1.2⟩, ⟨h.1.2.1, h.1.2.2⟩, h.2⟩⟩
theorem mayLeaf_spec {cs : List Cl} (h : mayLeaf cs = true) : (∀ c ∈ cs, mayCl c = true) ∧ riseL (cs.map Cl.key) = true ∧ leafLen cs ≤ 1016 := by
  simp only [mayLeaf, Bool.and_eq_true, decide_eq_true_eq, List.all_eq_true] at h
  exact ⟨h.1.1, h.1.2, h.2⟩
theorem riseL_key {ls : List (List Int)} (h : riseL ls = true) {k : List Int} (hk : k ∈ ls) : 1 ≤ k.length ∧ k.length ≤ 100 := by
  obtain ⟨i, hi, rfl⟩ := List.mem_iff_getElem.1 hk
  have := riseTo_le (n := ls.length) h hi
  simp only [riseAt, Bool.and_eq_true, mayKeyL, decide_eq_true_eq] at this
  rw [getD_at hi] at this; exact this.1
def valR (A : Nat) (sz hd : Int) (BB : List Int) (oi : Nat) (v : Value) (w : World) : Prop :=
  match oi with
  | 0 => v = .pointer (some ⟨A, 2, none⟩)
  | 1 => v = .int .i64 sz
  | 2 => v = .int .i64 (sz / 256)
  | 3 => v = .int .u8 (sz / 256)
  | 4 => v = .pointer (some ⟨A, 2, none⟩)
  | 5 => v = .int .i64 sz
  | 6 => v = .int .u8 (sz % 256)
  | 7 => ∃ p c, v = .slice p 2 c ∧ Sl w 1 p 2 c (bs [sz / 256, sz % 256]) ∧ p ≠ none
  | 8 => v = .pointer (some ⟨A, 3, none⟩)
  | 9 => v = .int .i64 hd
  | 10 => v = .int .u32 hd
  | 11 => ∃ p c, v = .slice p 4 c ∧ Sl w 1 p 4 c (bs (be 4 hd)) ∧ p ≠ none
  | 12 => ∃ p c, v = .slice p 2 c ∧ Sl w 1 p 2 c (bs [0, 0]) ∧ p ≠ none
  | 13 => ∃ p l, v = .slice p 3 3 ∧ PartsAt w p 3 3 l ∧ flat l = BB
  | 14 => ∃ p c, v = .slice p 8 c ∧ Sl w 1 p 8 c (bs BB) ∧ p ≠ none
  | 15 => ∃ p c, v = .slice p 8 c ∧ Sl w 1 p 8 c (bs BB) ∧ p ≠ none
  | _ => True
theorem valR_keep {A : Nat} {sz hd : Int} {BB : List Int} {oi : Nat} {v : Value} {w w' : World} (hm : Mod [] w w') (hr : valR A sz hd BB oi v w) : valR A sz hd BB oi v w' := by
  have hk := Keep.of_mod hm
  unfold valR at hr ⊢
  split at hr
  · exact hr
  · exact hr
  · exact hr
  · exact hr
  · exact hr
  · exact hr
  · exact hr
  · obtain ⟨p, c, h1, h2, h3⟩ := hr; exact ⟨p, c, h1, h2.keep hk, h3⟩
  · exact hr
  · exact hr
  · exact hr
  · obtain ⟨p, c, h1, h2, h3⟩ := hr; exact ⟨p, c, h1, h2.keep hk, h3⟩
  · obtain ⟨p, c, h1, h2, h3⟩ := hr; exact ⟨p, c, h1, h2.keep hk, h3⟩
  · obtain ⟨p, l, h1, h2, h3⟩ := hr; exact ⟨p, l, h1, ⟨h2.sl.keep hk, fun x hx => (h2.each x hx).keep hk⟩, h3⟩
  · obtain ⟨p, c, h1, h2, h3⟩ := hr; exact ⟨p, c, h1, h2.keep hk, h3⟩
  · obtain ⟨p, c, h1, h2, h3⟩ := hr; exact ⟨p, c, h1, h2.keep hk, h3⟩
  · trivial
set_option maxRecDepth 100000 in
set_option maxHeartbeats 4000000 in
theorem value_any (kp : Option Addr) (kn kc : Nat) (kl : List Int) (ip : Option Addr) (im ic : Nat) (il : List Int) (sz hd : Int) (w : World) (hi : BytesIn w ip im ic il) (hm : mayCl ⟨kl, il, sz, hd⟩ = true) :
    Calls Tryz.prog 132 #[.agg #[.slice kp kn kc, .slice ip im ic, .int .i64 sz, .int .i64 hd]] w (Ret (ValR (valBytes ⟨kl, il, sz, hd⟩) w)) := by
  have hil := hi.len
  have hil' := hil
  obtain ⟨s1, s2⟩ := mayCl_spec hm
  simp only at s1 s2
  have hat := at_alloc w (.cells #[.slice kp kn kc, .slice ip im ic, .int .i64 sz, .int .i64 hd] 82)
  have c1 : (w.alloc (.cells #[.slice kp kn kc, .slice ip im ic, .int .i64 sz, .int .i64 hd] 82)).cell? ⟨w.heap.size, 1, none⟩ = some (.slice ip im ic) := cell_of_at hat 1
  have c2 : (w.alloc (.cells #[.slice kp kn kc, .slice ip im ic, .int .i64 sz, .int .i64 hd] 82)).cell? ⟨w.heap.size, 2, none⟩ = some (.int .i64 sz) := cell_of_at hat 2
  have c3 : (w.alloc (.cells #[.slice kp kn kc, .slice ip im ic, .int .i64 sz, .int .i64 hd] 82)).cell? ⟨w.heap.size, 3, none⟩ = some (.int .i64 hd) := cell_of_at hat 3
  have HM := Lib.hid (Mod.of_alloc w (.cells #[.slice kp kn kc, .slice ip im ic, .int .i64 sz, .int .i64 hd] 82))
  have HAT := Lib.hid hat
  have HI : Hid (BytesIn (w.alloc (.cells #[.slice kp kn kc, .slice ip im ic, .int .i64 sz, .int .i64 hd] 82)) ip im ic il) := ⟨hi.sl.mod HM.out (by simp), hi.wf⟩
  have hAl : w.heap.size < (w.alloc (.cells #[.slice kp kn kc, .slice ip im ic, .int .i64 sz, .int .i64 hd] 82)).heap.size := lt_of_at hat
  obtain ⟨i0, hi0, hz0, hz1, hz2⟩ := info_parts infoU8
  by_cases hz : sz = 0
  · obtain ⟨s3, s4⟩ := s1 hz
    have HV : Hid (valBytes ⟨kl, il, sz, hd⟩ = be 2 im ++ il) := by unfold Hid valBytes; rw [if_pos hz, hil]
    have HB2 := Lib.hid (be2_of (n := im) (by omega) (by omega))
    have hz' : (sz == 0) = true := by simpa using hz
    have him : im ≤ 200 := by omega
    have hw8 : IntKind.u8.wrap ((im : Int) / 256) = (im : Int) / 256 := by rw [IntKind.wrap_u8]; omega
    have hw9 : IntKind.u8.wrap (im : Int) = (im : Int) % 256 := IntKind.wrap_u8 _
    clear hi hil hm hat hz s1 s2 s3 s4
    have HO : Hid (((w.alloc (.cells #[.slice kp kn kc, .slice ip im ic, .int .i64 sz, .int .i64 hd] 82)).alloc (.cells #[.int .u8 ((im : Int) / 256), .int .u8 ((im : Int) % 256)] 5)).ownsRow w.heap.size 5 1 (.slice (some ⟨w.heap.size + 1, 0, none⟩) 2 2) 2 (bs [(im : Int) / 256, (im : Int) % 256])) := by
      have h := own_row (w.alloc (.cells #[.slice kp kn kc, .slice ip im ic, .int .i64 sz, .int .i64 hd] 82)) (bs [(im : Int) / 256, (im : Int) % 256]) 5 w.heap.size (by simp) (by simp [bs, maxLen])
      unfold Hid; simpa [bs] using h
    have HM2 : Hid (Mod [] w ((w.alloc (.cells #[.slice kp kn kc, .slice ip im ic, .int .i64 sz, .int .i64 hd] 82)).alloc (.cells #[.int .u8 ((im : Int) / 256), .int .u8 ((im : Int) % 256)] 5))) := HM.out.alloc
    have HI2 : Hid (Sl ((w.alloc (.cells #[.slice kp kn kc, .slice ip im ic, .int .i64 sz, .int .i64 hd] 82)).alloc (.cells #[.int .u8 ((im : Int) / 256), .int .u8 ((im : Int) % 256)] 5)) 1 ip im ic (bs il)) := HI.out.sl.mod (Mod.of_alloc _ _) (by simp)
    have HLL : Hid (2 + im = (be 2 im ++ il).length) := by unfold Hid; rw [List.length_append, be_len, hil']
    have hbase : w.heap.size ≤ ((w.alloc (.cells #[.slice kp kn kc, .slice ip im ic, .int .i64 sz, .int .i64 hd] 82)).alloc (.cells #[.int .u8 ((im : Int) / 256), .int .u8 ((im : Int) % 256)] 5)).heap.size := HM2.out.size
    clear hil'
    go_enter Tryz.func132, Tryz.ntmps132
    go_wp2_with (first
      | (at_builtin; (refine wpList_append_src _ rfl _ _ _ rfl w.heap.size 5 i0 _ 1 1 Tryz.underlying40 hi0 hz0 hz1 hz2 rfl (by omega) (.slice (some ⟨w.heap.size + 1, 0, none⟩) 2 2) 2 _ rfl HO.out _ _ _ _ rfl HI2.out (2 + im) rfl (by unfold maxLen; omega) (by omega) hbase ?_); intro p3 c3 w3 hown3 hgrow3 hnil3 hlie3; (have HO3 := Lib.hid hown3); (have HM3 : Hid (Mod [] w w3) := HM2.out.trans (Mod.of_grown' hgrow3) (fun b hb => Or.inr (by simp [Value.ownBlock] at hb; omega))); clear hown3 hgrow3 hnil3 hlie3)
      | go_in)
    go_ret
    refine .mk ⟨p3, 2 + im, c3, rfl, by rw [HV.out]; exact HLL.out, ?_, HM3.out⟩
    rw [HV.out, HB2.out, bs_append]
    exact (Sl.of_own HO3.out (by rw [← bs_append]; exact bs_one _)).1
  · obtain ⟨⟨s3, s4⟩, ⟨s5, s6⟩, -⟩ := s2 hz
    have HV : Hid (valBytes ⟨kl, il, sz, hd⟩ = be 2 sz ++ (be 4 hd ++ [0, 0])) := by unfold Hid valBytes; rw [if_neg hz]
    have HB2 := Lib.hid (be2_of (n := sz) (by omega) (by omega))
    have hz' : (sz == 0) = false := by simpa using hz
    have hw8 : IntKind.u8.wrap (sz / 256) = sz / 256 := by rw [IntKind.wrap_u8]; omega
    have hw9 : IntKind.u8.wrap sz = sz % 256 := IntKind.wrap_u8 _
    have hw10 : IntKind.u32.wrap hd = hd := by rw [IntKind.wrap_u32]; omega
    obtain ⟨BB, hBB⟩ : ∃ BB, BB = be 2 sz ++ (be 4 hd ++ [0, 0]) := ⟨_, rfl⟩
    have HBB : Hid ([sz / 256, sz % 256] ++ (be 4 hd ++ [0, 0]) = BB) := by unfold Hid; rw [hBB, HB2.out]
    have HBL : Hid (BB.length = 8) := by unfold Hid; rw [hBB]; simp [be_len]
    rw [← hBB] at HV
    clear hi hil hm hat hz s1 s2 hBB hil'
    go_enter Tryz.func132, Tryz.ntmps132
    go_wp2_with fail
    generalize (w.alloc (.cells #[.slice kp kn kc, .slice ip im ic, .int .i64 sz, .int .i64 hd] 82)) = w1 at *
    generalize w.heap.size = A at *
    have hc2 := c2
    have hc3 := c3
    clear c1 c2 c3
    refine par_region (by kernel_rfl) (fun oi vs w => valR A sz hd BB oi (vs oi) w) (fun w' => Mod [] w1 w') (by kernel_rfl) (fun j vs vs' w o _ h1 _ h2 => by rw [← h1]; exact h2) ⟨⟨⟨⟨⟨⟨⟨⟨⟨⟨⟨⟨⟨⟨⟨⟨trivial, ?_⟩, ?_⟩, ?_⟩, ?_⟩, ?_⟩, ?_⟩, ?_⟩, ?_⟩, ?_⟩, ?_⟩, ?_⟩, ?_⟩, ?_⟩, ?_⟩, ?_⟩, ?_⟩ (Mod.of_drew w1) ?_
    · intro o ho listed vs a w' inv hun haft K hK
      obtain rfl := Option.some.inj ho
      refine par_run rfl ?_
      have e0 := inv.old 1 (by kernel_rfl)
      have INV := Lib.hid inv
      clear inv haft hun ho
      simp at e0
      go_simp
      exact hK _ _ INV.out.inv INV.out.val rfl
    · intro o ho listed vs a w' inv hun haft K hK
      obtain rfl := Option.some.inj ho
      refine par_run rfl ?_
      obtain ⟨e0, r0⟩ := inv.get haft 0 19 (by kernel_rfl) (by kernel_rfl)
      have INV := Lib.hid inv
      clear inv haft hun ho
      change vs 0 = .pointer (some ⟨A, 2, none⟩) at r0
      rw [r0] at e0
      have g0 := getD_opt e0
      have c2 := (INV.out.inv.cell (a := ⟨A, 2, none⟩) hAl (by simp)).trans hc2
      go_simp
      exact hK _ _ INV.out.inv INV.out.val rfl
    · intro o ho listed vs a w' inv hun haft K hK
      obtain rfl := Option.some.inj ho
      refine par_run rfl ?_
      obtain ⟨e0, r0⟩ := inv.get haft 1 20 (by kernel_rfl) (by kernel_rfl)
      have INV := Lib.hid inv
      clear inv haft hun ho
      change vs 1 = .int .i64 sz at r0
      rw [r0] at e0
      have g0 := getD_opt e0
      go_simp
      exact hK _ _ INV.out.inv INV.out.val rfl
    · intro o ho listed vs a w' inv hun haft K hK
      obtain rfl := Option.some.inj ho
      refine par_run rfl ?_
      obtain ⟨e0, r0⟩ := inv.get haft 2 21 (by kernel_rfl) (by kernel_rfl)
      have INV := Lib.hid inv
      clear inv haft hun ho
      change vs 2 = .int .i64 (sz / 256) at r0
      rw [r0] at e0
      have g0 := getD_opt e0
      go_simp
      exact hK _ _ INV.out.inv INV.out.val rfl
    · intro o ho listed vs a w' inv hun haft K hK
      obtain rfl := Option.some.inj ho
      refine par_run rfl ?_
      have e0 := inv.old 1 (by kernel_rfl)
      have INV := Lib.hid inv
      clear inv haft hun ho
      simp at e0
      go_simp
      exact hK _ _ INV.out.inv INV.out.val rfl
    · intro o ho listed vs a w' inv hun haft K hK
      obtain rfl := Option.some.inj ho
      refine par_run rfl ?_
      obtain ⟨e0, r0⟩ := inv.get haft 4 23 (by kernel_rfl) (by kernel_rfl)
      have INV := Lib.hid inv
      clear inv haft hun ho
      change vs 4 = .pointer (some ⟨A, 2, none⟩) at r0
      rw [r0] at e0
      have g0 := getD_opt e0
      have c2 := (INV.out.inv.cell (a := ⟨A, 2, none⟩) hAl (by simp)).trans hc2
      go_simp
      exact hK _ _ INV.out.inv INV.out.val rfl
    · intro o ho listed vs a w' inv hun haft K hK
      obtain rfl := Option.some.inj ho
      refine par_run rfl ?_
      obtain ⟨e0, r0⟩ := inv.get haft 5 24 (by kernel_rfl) (by kernel_rfl)
      have INV := Lib.hid inv
      clear inv haft hun ho
      change vs 5 = .int .i64 sz at r0
      rw [r0] at e0
      have g0 := getD_opt e0
      go_simp
      exact hK _ _ INV.out.inv INV.out.val rfl
    · intro o ho listed vs a w' inv hun haft K hK
      obtain rfl := Option.some.inj ho
      refine par_run rfl ?_
      obtain ⟨e0, r0⟩ := inv.get haft 3 22 (by kernel_rfl) (by kernel_rfl)
      obtain ⟨e1, r1⟩ := inv.get haft 6 25 (by kernel_rfl) (by kernel_rfl)
      have INV := Lib.hid inv
      clear inv haft hun ho
      change vs 3 = .int .u8 (sz / 256) at r0
      rw [r0] at e0
      have g0 := getD_opt e0
      change vs 6 = .int .u8 (sz % 256) at r1
      rw [r1] at e1
      have g1 := getD_opt e1
      go_simp
      exact hK _ _ INV.out.inv.alloc (fun j hj hl => valR_keep (Mod.of_alloc _ _) (INV.out.val j hj hl)) ⟨_, _, rfl, lit_bytes _ [sz / 256, sz % 256] _ (by simp), by simp⟩
    · intro o ho listed vs a w' inv hun haft K hK
      obtain rfl := Option.some.inj ho
      refine par_run rfl ?_
      have e0 := inv.old 1 (by kernel_rfl)
      have INV := Lib.hid inv
      clear inv haft hun ho
      simp at e0
      go_simp
      exact hK _ _ INV.out.inv INV.out.val rfl
    · intro o ho listed vs a w' inv hun haft K hK
      obtain rfl := Option.some.inj ho
      refine par_run rfl ?_
      obtain ⟨e0, r0⟩ := inv.get haft 8 27 (by kernel_rfl) (by kernel_rfl)
      have INV := Lib.hid inv
      clear inv haft hun ho
      change vs 8 = .pointer (some ⟨A, 3, none⟩) at r0
      rw [r0] at e0
      have g0 := getD_opt e0
      have c3 := (INV.out.inv.cell (a := ⟨A, 3, none⟩) hAl (by simp)).trans hc3
      go_simp
      exact hK _ _ INV.out.inv INV.out.val rfl
    · intro o ho listed vs a w' inv hun haft K hK
      obtain rfl := Option.some.inj ho
      refine par_run rfl ?_
      obtain ⟨e0, r0⟩ := inv.get haft 9 28 (by kernel_rfl) (by kernel_rfl)
      have INV := Lib.hid inv
      clear inv haft hun ho
      change vs 9 = .int .i64 hd at r0
      rw [r0] at e0
      have g0 := getD_opt e0
      go_simp
      exact hK _ _ INV.out.inv INV.out.val rfl
    · intro o ho listed vs a w' inv hun haft K hK
      obtain rfl := Option.some.inj ho
      refine par_run rfl ?_
      obtain ⟨e0, r0⟩ := inv.get haft 10 29 (by kernel_rfl) (by kernel_rfl)
      have INV := Lib.hid inv
      clear inv haft hun ho
      change vs 10 = .int .u32 hd at r0
      rw [r0] at e0
      have g0 := getD_opt e0
      go_simp
      refine (put32_any hd _ (by omega) (by omega)).mono ?_
      rintro _ w3 ⟨_, rfl, p3, n3, c3, rfl, e3, s3, m3⟩
      obtain rfl : n3 = 4 := by rw [e3]; exact be_len _ _
      have t3 := s3
      exact hK _ _ (INV.out.inv.same m3) (fun j hj hl => valR_keep m3 (INV.out.val j hj hl)) ⟨_, _, rfl, t3, fun e => by obtain ⟨_, _, h, _⟩ := t3.addr (by omega); rw [e] at h; cases h⟩
    · intro o ho listed vs a w' inv hun haft K hK
      obtain rfl := Option.some.inj ho
      refine par_run rfl ?_
      have INV := Lib.hid inv
      clear inv haft hun ho
      go_simp
      exact hK _ _ INV.out.inv.alloc (fun j hj hl => valR_keep (Mod.of_alloc _ _) (INV.out.val j hj hl)) ⟨_, _, rfl, lit_bytes _ [0, 0] _ (by simp), by simp⟩
    · intro o ho listed vs a w' inv hun haft K hK
      obtain rfl := Option.some.inj ho
      refine par_run rfl ?_
      obtain ⟨e0, r0⟩ := inv.get haft 7 26 (by kernel_rfl) (by kernel_rfl)
      obtain ⟨e1, r1⟩ := inv.get haft 11 30 (by kernel_rfl) (by kernel_rfl)
      obtain ⟨e2, r2⟩ := inv.get haft 12 31 (by kernel_rfl) (by kernel_rfl)
      have INV := Lib.hid inv
      clear inv haft hun ho
      obtain ⟨p0, c0, h0, s0, q0⟩ := r0
      rw [h0] at e0
      have g0 := getD_opt e0
      obtain ⟨p1, c1, h1, s1, q1⟩ := r1
      rw [h1] at e1
      have g1 := getD_opt e1
      obtain ⟨p2, c2, h2, s2, q2⟩ := r2
      rw [h2] at e2
      have g2 := getD_opt e2
      have PA : Hid (∀ T, _) := fun T => PartsAt.three' w' T s0 s1 s2
      clear s0 h0 s1 h1 s2 h2
      go_simp
      exact hK _ _ INV.out.inv.alloc (fun j hj hl => valR_keep (Mod.of_alloc _ _) (INV.out.val j hj hl)) ⟨_, _, rfl, PA.out _, by rw [flat3']; exact HBB.out⟩
    · intro o ho listed vs a w' inv hun haft K hK
      obtain rfl := Option.some.inj ho
      refine par_run rfl ?_
      obtain ⟨e0, r0⟩ := inv.get haft 13 32 (by kernel_rfl) (by kernel_rfl)
      have INV := Lib.hid inv
      clear inv haft hun ho
      obtain ⟨p0, l0, h0, pa, hfl⟩ := r0
      rw [h0] at e0
      have g0 := getD_opt e0
      go_simp
      refine (concat_any p0 3 3 l0 _ pa (by rw [hfl, HBL.out]; decide)).mono ?_
      rintro _ w3 ⟨_, rfl, p3, n3, c3, rfl, e3, s3, m3⟩
      rw [hfl] at e3 s3
      obtain rfl : n3 = 8 := by rw [e3]; exact HBL.out
      have t3 := (Sl.of_own s3 (bs_one _)).1
      exact hK _ _ (INV.out.inv.same m3) (fun j hj hl => valR_keep m3 (INV.out.val j hj hl)) ⟨_, _, rfl, t3, fun e => by obtain ⟨_, _, h, _⟩ := t3.addr (by omega); rw [e] at h; cases h⟩
    · intro o ho listed vs a w' inv hun haft K hK
      obtain rfl := Option.some.inj ho
      refine par_run rfl ?_
      obtain ⟨e0, r0⟩ := inv.get haft 14 33 (by kernel_rfl) (by kernel_rfl)
      have INV := Lib.hid inv
      clear inv haft hun ho
      obtain ⟨p0, c0, h0, s0, q0⟩ := r0
      rw [h0] at e0
      have g0 := getD_opt e0
      go_simp
      exact hK _ _ INV.out.inv INV.out.val ⟨_, _, rfl, s0, q0⟩
    intro vs w2 X hm hr hslot hold hsize hdef
    obtain ⟨p9, c9, h9, s9, q9⟩ := hr 15 (by decide)
    have M9 : Hid (Mod [] w w2) := HM.out.same hm
    have S9 := Lib.hid s9
    have hX2 := hslot 15 2 (by kernel_rfl)
    have HD := Lib.hid hdef
    rw [h9] at hX2
    clear h9 hr hm s9 hslot hold hsize hdef
    go_wp2
    refine bodyPost_ret (results_tmp rfl _ _ _) HD.out ?_
    rw [hX2]
    exact .mk ⟨p9, 8, c9, rfl, by rw [HV.out, HBL.out], by rw [HV.out]; exact S9.out, M9.out⟩
end Go.Proofs.YtgimdodbajhpoaaGreatDoor
