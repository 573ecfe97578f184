/- bytes.Clone. The reader of a page. -/
import Derived.Test.YtgimdodbajhpoaaGreatDoorG11
import Derived.Test.YtgimdodbajhpoaaGreatDoorG21
import Derived.Test.YtgimdodbajhpoaaGreatDoorG08
namespace Go.Proofs.YtgimdodbajhpoaaGreatDoor
open Go.RowKit Go.Maps
set_option linter.unusedSimpArgs false
set_option linter.unusedVariables false

set_option maxRecDepth 100000 in
theorem clone_any (p : Option Addr) (n c : Nat) (l : List Int) (w : World) (h : Sl w 1 p n c (bs l)) (hn : n ≤ 1073741824) (hnil : p = none → n = 0 ∧ c = 0) :
    Calls Tryz.prog 25 #[.slice p n c] w (Ret (BytesR l w)) := by
  have hln : l.length = n := by have := h.len; rw [bs_len] at this; omega
  have q22 : ∀ (W : World) (a : Option Addr) (n c n' c' : Nat), (binOp .eql 40 (.slice a n c) (.slice none n' c')).run Tryz.prog W = .ok (.bool a.isNone) W := fun W a n c n' c' => Lib.run_eql_slice_nil W _ _ a n c n' c' Tryz.underlying40
  cases p with
  | none =>
    obtain ⟨rfl, rfl⟩ := hnil rfl
    have HL : Hid (l = []) := List.eq_nil_of_length_eq_zero hln
    go_enter Tryz.func25, Tryz.ntmps25
    go_wp2
    go_ret
    exact .mk ⟨none, 0, 0, rfl, by rw [HL.out]; rfl, by rw [HL.out]; exact World.ownsRow_nil _ _ _ _, Mod.refl _ _⟩
  | some a =>
    obtain ⟨i0, hi0, hz0, hz1, hz2⟩ := info_parts infoU8
    have HS : Hid (Sl (w.alloc (.cells #[] 5)) 1 (some a) n c (bs l)) := h.mod (Mod.of_alloc w _) (by simp)
    have HO : Hid ((w.alloc (.cells #[] 5)).ownsRow w.heap.size 5 1 (.slice (some ⟨w.heap.size, 0, none⟩) 0 0) 0 []) := own_row w [] _ _ (Nat.le_refl _) (by simp)
    have HLN := Lib.hid hln
    have hs : w.heap.size ≤ (w.alloc (.cells #[] 5)).heap.size := (Mod.of_alloc w _).size
    clear h hln hnil
    go_enter Tryz.func25, Tryz.ntmps25
    go_wp2_with (first
      | (at_builtin; (refine wpList_append_src _ rfl _ _ _ rfl w.heap.size 5 i0 _ 1 1 Tryz.underlying40 hi0 hz0 hz1 hz2 rfl (by omega) (.slice (some ⟨w.heap.size, 0, none⟩) 0 0) 0 [] rfl HO.out _ _ _ _ rfl HS.out n (by omega) (by unfold maxLen; omega) (by omega) hs ?_); intro p' c' w1 hown1 hgrow hnil hlie; (have HO1 := Lib.hid hown1); (have HM1 : Hid (Mod [] w w1) := (Mod.of_alloc w _).trans (Mod.of_grown' hgrow) (by simp [Value.ownBlock])); clear hown1 hgrow hnil hlie)
      | go_in)
    go_ret
    exact .mk ⟨p', n, c', rfl, HLN.out.symm, HO1.out, HM1.out⟩
/-- .. whatever a nil slice's capacity is said to be. -/
theorem clone_any2 (p : Option Addr) (n c : Nat) (l : List Int) (w : World) (h : Sl w 1 p n c (bs l)) (hn : n ≤ 1073741824) :
    Calls Tryz.prog 25 #[.slice p n c] w (Ret (BytesR l w)) := by
  cases p with
  | some a => exact clone_any (some a) n c l w h hn (by simp)
  | none =>
    have hn0 : n = 0 := by
      rcases Nat.eq_zero_or_pos n with h0 | h0
      · exact h0
      · obtain ⟨_, _, e, _⟩ := h.addr h0; cases e
    subst hn0
    have HL : Hid (l = []) := List.eq_nil_of_length_eq_zero (by have := h.len; rw [bs_len] at this; omega)
    have q22 : ∀ (W : World) (a : Option Addr) (n c n' c' : Nat), (binOp .eql 40 (.slice a n c) (.slice none n' c')).run Tryz.prog W = .ok (.bool a.isNone) W := fun W a n c n' c' => Lib.run_eql_slice_nil W _ _ a n c n' c' Tryz.underlying40
    clear h
    go_enter Tryz.func25, Tryz.ntmps25
    go_wp2
    go_ret
    exact .mk ⟨none, 0, 0, rfl, by rw [HL.out]; rfl, by rw [HL.out]; exact World.ownsRow_nil _ _ _ _, Mod.refl _ _⟩
end Go.Proofs.YtgimdodbajhpoaaGreatDoor
namespace Go.Proofs.YtgimdodbajhpoaaGreatDoor
open Go.RowKit Go.Maps
set_option linter.unusedSimpArgs false
set_option linter.unusedVariables false

theorem infoInt : (Tryz.prog.info? 3).map (fun i => (i.zero, i.size, i.bytes)) = some (some (.int .i64 0), 1, 8) := by kernel_rfl
theorem run_make8 (k : Nat) (hk : k ≤ 1000000) (W : World) : (Instr.makeSlice 40 (.int .i64 k) (.int .i64 k)).run Tryz.prog W = .ok (.slice (some ⟨W.heap.size, 0, none⟩) k k) (W.alloc (.cells (bs (List.replicate k 0)).toArray 5)) := by
  obtain ⟨i1, hi1, hy0, hy1, hy2⟩ := info_parts infoU8
  have h := run_makeSlice (P := Tryz.prog) W 40 5 i1 (.int .u8 0) Tryz.underlying40 hi1 hy0 .i64 .i64 k k (by omega) (by omega) (by rw [hy1]; simp [maxLen]; omega) (by rw [hy2]; simp; omega) (by omega)
  rw [h, hy1]
  simp only [Int.toNat_natCast, Nat.mul_one]
  rw [show (Value.int IntKind.u8 0).cells = #[Value.int IntKind.u8 0] from rfl, madeCells_one, bs_replicate]
def zs (k : Nat) : List Int := List.replicate k 0
theorem zs_wf (k : Nat) : ∀ x ∈ zs k, 0 ≤ x ∧ x < 256 := by intro x hx; rw [List.eq_of_mem_replicate hx]; omega
/-- Block R is a reader of these bytes. -/
structure RdAt (w : World) (R N : Nat) (l : List Int) (bad : Bool) : Prop where
  at_ : ∃ p n c, w.heap[R]? = some (.cells #[.slice p n c, .bool bad] 108 (0, 0)) ∧ BytesIn w p n c l ∧ ∀ a, p = some a → 0 < n → a.block < N
theorem RdAt.mod {w w' : World} {R N : Nat} {l : List Int} {bad : Bool} {S : List Nat} (h : RdAt w R N l bad) (hm : Mod S w w') (hR : R ∉ S) (hS : ∀ b ∈ S, N ≤ b) : RdAt w' R N l bad := by
  obtain ⟨p, n, c, h1, h2, h3⟩ := h
  exact ⟨p, n, c, hm.at h1 hR, ⟨h2.sl.mod hm (fun a ha hn hs => by have := h3 a ha hn; have := hS _ hs; omega), h2.wf⟩, h3⟩
theorem RdAt.lt {w : World} {R N : Nat} {l : List Int} {bad : Bool} (h : RdAt w R N l bad) : R < w.heap.size := by
  obtain ⟨p, n, c, h1, _⟩ := h; exact lt_of_at h1
theorem RdAt.bad_cell {w : World} {R N : Nat} {l : List Int} {bad : Bool} (h : RdAt w R N l bad) : w.cell? ⟨R, 1, none⟩ = some (.bool bad) := by
  obtain ⟨p, n, c, h1, _⟩ := h; exact cell_of_at h1 1
def tk (l : List Int) (k : Nat) : List Int := if k ≤ l.length then l.take k else zs k
def rdr (l : List Int) (k : Nat) : List Int := if k ≤ l.length then l.drop k else l
def bd (l : List Int) (bad : Bool) (k : Nat) : Bool := if k ≤ l.length then bad else true
theorem tk_len (l : List Int) (k : Nat) : (tk l k).length = k := by unfold tk; split <;> simp [zs]; omega
theorem rdr_len (l : List Int) (k : Nat) : (rdr l k).length ≤ l.length := by unfold rdr; split <;> simp
theorem BytesIn.ne_of {w : World} {p : Option Addr} {n c : Nat} {l : List Int} (h : BytesIn w p n c l) {R : Nat} {a : Value} {b : Bool} {T : TypeId} {p2 : Option Addr} {n2 c2 : Nat} (hR : w.heap[R]? = some (.cells #[.slice p2 n2 c2, .bool b] T (0, 0))) : ∀ a, p = some a → 0 < n → a.block ∉ [R] := by
  intro a ha hn hm
  have hl := h.len
  simp at hm
  obtain ⟨b', o, hp, _, hc⟩ := h.sl.addr hn
  rw [ha] at hp; cases hp
  simp only at hm; subst hm
  have h0 := hc 0 _ (bs_get (by omega))
  rw [Nat.add_zero, cell_of_at hR] at h0
  match o, h0 with
  | 0, h0 => simp at h0
  | 1, h0 => simp at h0
  | _ + 2, h0 => simp at h0
def TakeR (R N : Nat) (l : List Int) (bad : Bool) (k : Nat) (w : World) (v : Value) (w' : World) : Prop :=
  ∃ q d, v = .slice q k d ∧ BytesIn w' q k d (tk l k) ∧ (∀ a, q = some a → w.heap.size ≤ a.block ∧ IsBytes w' a.block) ∧ RdAt w' R N (rdr l k) (bd l bad k) ∧ Mod [R] w w'
set_option maxRecDepth 100000 in
set_option maxHeartbeats 4000000 in
theorem take_any (R N : Nat) (l : List Int) (bad : Bool) (k : Nat) (w : World) (h : RdAt w R N l bad) (hk : k ≤ 1000000) :
    Calls Tryz.prog 47 #[.pointer (some ⟨R, 0, none⟩), .int .i64 k] w (Ret (TakeR R N l bad k w)) := by
  obtain ⟨p, n, c, hat, hb, hN⟩ := h
  have HNB := Lib.hid hN
  clear hN
  have hln := hb.len
  have c0 : w.cell? ⟨R, 0, none⟩ = some (.slice p n c) := cell_of_at hat 0
  have f0 : w.frozen? ⟨R, 0, none⟩ = false := free_of_at hat 0
  have f1 : w.frozen? ⟨R, 1, none⟩ = false := free_of_at hat 1
  have hcm := hb.sl.capm; have hle := hb.sl.le
  unfold maxLen at hcm
  have hRl := lt_of_at hat
  have HNE := Lib.hid (hb.ne_of (a := .bool true) hat)
  have HAT := Lib.hid hat
  have HB := Lib.hid hb
  have HLN := Lib.hid hln
  by_cases hkn : k ≤ n
  · have r1 : ∀ W : World, (Instr.slice 40 (.slice p n c) none (some (.int .i64 k)) (some (.int .i64 k))).run Tryz.prog W = .ok (.slice p k k) W := fun W => by
      rw [run_slice_hm W _ _ _ _ Tryz.underlying40 .i64 .i64 k k (by omega) (by omega) (by omega), sizeBytes]
      cases p <;> simp [Result.andThen, sliced, Addr.add]
    obtain ⟨p2, r2, s2, hp2⟩ := hb.sl.sub_l Tryz.underlying40 sizeBytes k .i64 hkn
    have HTK : Hid (tk l k = l.take k) := by unfold Hid tk; rw [if_pos (by omega)]
    have HRD : Hid (rdr l k = l.drop k) := by unfold Hid rdr; rw [if_pos (by omega)]
    have HBD : Hid (bd l bad k = bad) := by unfold Hid bd; rw [if_pos (by omega)]
    have HS1 : Hid (Sl w 1 p k k (bs (l.take k))) := by
      obtain ⟨h1, h2, h3, h4, b, off, h5, h6⟩ := hb.sl
      refine ⟨by rw [bs_len, List.length_take]; omega, Nat.le_refl _, by unfold maxLen; omega, bs_one _, b, off, fun h => h5 (by omega), fun j u hj => h6 j u ?_⟩
      have hj' := (List.getElem?_eq_some_iff.1 hj).1
      rw [bs_len, List.length_take] at hj'
      simp only [bs, List.getElem?_map, List.getElem?_take, if_pos (show j < k by omega)] at hj ⊢; exact hj
    have HP : Hid (p = none → k = 0 ∧ k = 0) := fun he => by
      rcases Nat.eq_zero_or_pos n with h0 | h0
      · exact ⟨by omega, by omega⟩
      · obtain ⟨b, o, hp, _⟩ := hb.sl.addr h0; rw [he] at hp; cases hp
    have HS2 : Hid (BytesIn w p2 (n - k) (c - k) (l.drop k)) := ⟨by rw [Nat.mul_one] at s2; simpa [bs, List.map_drop] using s2, fun x hx => hb.wf x (List.mem_of_mem_drop hx)⟩
    have HM1 : Hid (Mod [R] w (w.setCell ⟨R, 0, none⟩ (.slice p2 (n - k) (c - k)))) := Mod.of_setCell _ _ _ _
    have HA1 : Hid ((w.setCell ⟨R, 0, none⟩ (.slice p2 (n - k) (c - k))).heap[R]? = some (.cells #[.slice p2 (n - k) (c - k), .bool bad] 108 (0, 0))) := by unfold Hid; rw [at_setCell HAT.out]; rfl
    have HP2 := Lib.hid hp2
    clear hat hb hln s2 hp2
    go_enter Tryz.func47, Tryz.ntmps47
    go_wp2_with fail
    refine (clone_any p k k (l.take k) _ (HS1.out.mod HM1.out (fun a ha h0 => HNE.out a ha (by omega))) (by omega) HP.out).mono ?_
    rintro _ w2 ⟨_, rfl, q, m, d, rfl, e2, o2, m2⟩
    obtain rfl : m = k := by rw [e2, List.length_take, HLN.out]; omega
    have HA2 := Lib.hid (m2.at HA1.out (by simp))
    have HO2 := Lib.hid o2
    have HM2 : Hid (Mod [R] w w2) := HM1.out.trans m2 (by simp)
    clear e2 o2 m2
    go_wp2
    go_ret
    refine .mk ⟨q, d, rfl, ⟨by rw [HTK.out]; exact (Sl.of_own HO2.out (bs_one _)).1, fun x hx => by rw [HTK.out] at hx; exact HB.out.wf x (List.mem_of_mem_take hx)⟩, fun a ha => ?_, ?_, HM2.out⟩
    · have := own_base HO2.out a.block (by rw [ha]; rfl)
      have h9 := HM1.out.size; exact ⟨by omega, IsBytes.of_own HO2.out _ (by rw [ha]; rfl)⟩
    · rw [HRD.out, HBD.out]
      refine ⟨p2, n - m, c - m, HA2.out, ⟨HS2.out.sl.mod HM2.out (fun a ha h0 => ?_), HS2.out.wf⟩, fun a ha h0 => ?_⟩
      · obtain ⟨a2, e1, e2⟩ := HP2.out a ha
        rw [e2]; exact HNE.out a2 e1 (by omega)
      · obtain ⟨a2, e1, e2⟩ := HP2.out a ha
        rw [e2]; exact HNB.out a2 e1 (by omega)
  · have HTK : Hid (tk l k = zs k) := by unfold Hid tk; rw [if_neg (by omega)]
    have HRD : Hid (rdr l k = l) := by unfold Hid rdr; rw [if_neg (by omega)]
    have HBD : Hid (bd l bad k = true) := by unfold Hid bd; rw [if_neg (by omega)]
    have hmk := fun W => run_make8 k hk W
    have HM1 : Hid (Mod [R] w (w.setCell ⟨R, 1, none⟩ (.bool true))) := Mod.of_setCell _ _ _ _
    have HA1 : Hid ((w.setCell ⟨R, 1, none⟩ (.bool true)).heap[R]? = some (.cells #[.slice p n c, .bool true] 108 (0, 0))) := by unfold Hid; rw [at_setCell HAT.out]; rfl
    have c1 : w.cell? ⟨R, 1, none⟩ = some (.bool bad) := cell_of_at hat 1
    clear hat hb hln
    go_enter Tryz.func47, Tryz.ntmps47
    go_wp2
    go_ret
    have hm := HM1.out.alloc (o := .cells (bs (List.replicate k 0)).toArray 5)
    refine .mk ⟨_, k, rfl, ⟨?_, fun x hx => by rw [HTK.out] at hx; exact zs_wf k x hx⟩, fun a ha => ?_, ?_, hm⟩
    · rw [HTK.out]
      have h3 := Sl.new (w.setCell ⟨R, 1, none⟩ (.bool true)) (bs (zs k)) 5 1 k (by rw [bs_len]; simp [zs]) (by unfold maxLen; omega) (bs_one _)
      rw [show (w.setCell ⟨R, 1, none⟩ (.bool true)).heap.size = w.heap.size from by simp [World.setCell]] at h3
      exact h3
    · cases ha; exact ⟨Nat.le_refl _, _, at_alloc' _ _ (by simp [World.setCell])⟩
    · rw [HRD.out, HBD.out]
      exact ⟨p, n, c, at_alloc_other HA1.out _, ⟨HB.out.sl.mod hm (fun a ha h0 => HNE.out a ha h0), HB.out.wf⟩, HNB.out⟩

def ShortR (R N : Nat) (l : List Int) (bad : Bool) (w : World) (v : Value) (w' : World) : Prop :=
  v = .int .i64 ((tk l 2).getD 0 0 * 256 + (tk l 2).getD 1 0) ∧ RdAt w' R N (rdr l 2) (bd l bad 2) ∧ Mod [R] w w'
set_option maxRecDepth 100000 in
set_option maxHeartbeats 4000000 in
theorem short_any (R N : Nat) (l : List Int) (bad : Bool) (w : World) (h : RdAt w R N l bad) :
    Calls Tryz.prog 48 #[.pointer (some ⟨R, 0, none⟩)] w (Ret (ShortR R N l bad w)) := by
  have HTAKE := Lib.hid (take_any R N l bad 2 w h (by omega))
  have htl := tk_len l 2
  have HSP : Hid (ShortR R N l bad w = fun v w' => v = .int .i64 ((tk l 2).getD 0 0 * 256 + (tk l 2).getD 1 0) ∧ RdAt w' R N (rdr l 2) (bd l bad 2) ∧ Mod [R] w w') := rfl
  unfold TakeR at HTAKE
  rw [HSP.out]
  generalize tk l 2 = L at *
  clear h HSP
  go_enter Tryz.func48, Tryz.ntmps48
  go_wp2_with fail
  refine HTAKE.out.mono ?_
  rintro _ w1 ⟨_, rfl, q, d, rfl, b1, _, r1, m1⟩
  obtain ⟨b, off, rfl, hlt, hc⟩ := b1.sl.addr (by omega)
  have d0 := hc 0 _ (bs_get (by omega))
  have d1 := hc 1 _ (bs_get (by omega))
  have g0 := b1.wf (L.getD 0 0) (by rw [getD_at (by omega)]; exact List.getElem_mem _)
  have g1 := b1.wf (L.getD 1 0) (by rw [getD_at (by omega)]; exact List.getElem_mem _)
  obtain ⟨x, hx9⟩ : ∃ x, x = L.getD 0 0 := ⟨_, rfl⟩
  obtain ⟨y, hy9⟩ : ∃ y, y = L.getD 1 0 := ⟨_, rfl⟩
  rw [← hx9] at d0 g0
  rw [← hy9] at d1 g1
  have HX9 := Lib.hid hx9
  have HY9 := Lib.hid hy9
  clear hx9 hy9
  have hi0 := fun W => Sl.idx (P := Tryz.prog) (cap := d) (m := 2) (size := 1) Tryz.underlying40 sizeBytes (fun _ => rfl) W .i64 0 (by omega) (b := b) (off := off)
  have hi1 := fun W => Sl.idx (P := Tryz.prog) (cap := d) (m := 2) (size := 1) Tryz.underlying40 sizeBytes (fun _ => rfl) W .i64 1 (by omega) (b := b) (off := off)
  simp only [Nat.zero_mul, Nat.one_mul, Nat.add_zero, show ((0 : Nat) : Int) = 0 from rfl, show ((1 : Nat) : Int) = 1 from rfl] at hi0 hi1 d0
  have hx : IntKind.i64.wrap x = x := IntWalk.i64_in _ (by omega)
  have hy : IntKind.i64.wrap y = y := IntWalk.i64_in _ (by omega)
  have hsh : IntKind.i64.wrap (x * 2 ^ 8) = x * 256 := by rw [IntWalk.i64_in _ (by omega)]; omega
  have hsh2 : IntKind.i64.wrap (x * 256) = x * 256 := IntWalk.i64_in _ (by omega)
  have hor : bits .or .i64 (x * 256) y = x * 256 + y := by
    obtain ⟨a, rfl⟩ : ∃ a : Nat, x = a := ⟨x.toNat, by omega⟩
    obtain ⟨e, rfl⟩ : ∃ e : Nat, y = e := ⟨y.toNat, by omega⟩
    have h1 := or_add .i64 a e 8 (by omega) (by show a * 256 + e < 18446744073709551616; omega)
    rw [show ((a * 2 ^ 8 : Nat) : Int) = (a : Int) * 256 from by omega] at h1
    rw [h1, IntWalk.i64_in _ (by omega)]; omega
  have R1 := Lib.hid r1
  have M1 := Lib.hid m1
  clear r1 m1 hc b1
  go_wp2_with fail
  go_quiet (fail)
  go_wp2
  go_ret
  exact .mk ⟨by rw [← HX9.out, ← HY9.out]; rfl, R1.out.mod (Mod.of_drewN w1 _) (by simp) (by simp), M1.out.drewN⟩

def PageR (R N : Nat) (l : List Int) (bad : Bool) (w : World) (v : Value) (w' : World) : Prop :=
  v = .int .i64 (un4 (tk l 4) 4) ∧ RdAt w' R N (rdr l 4) (bd l bad 4) ∧ Mod [R] w w'
set_option maxRecDepth 100000 in
theorem rpage_any (R N : Nat) (l : List Int) (bad : Bool) (w : World) (h : RdAt w R N l bad) :
    Calls Tryz.prog 59 #[.pointer (some ⟨R, 0, none⟩)] w (Ret (PageR R N l bad w)) := by
  have HTAKE := Lib.hid (take_any R N l bad 4 w h (by omega))
  have HSP : Hid (PageR R N l bad w = fun v w' => v = .int .i64 (un4 (tk l 4) 4) ∧ RdAt w' R N (rdr l 4) (bd l bad 4) ∧ Mod [R] w w') := rfl
  unfold TakeR at HTAKE
  rw [HSP.out]
  generalize tk l 4 = L at *
  clear h HSP
  go_enter Tryz.func59, Tryz.ntmps59
  go_wp2_with fail
  refine HTAKE.out.mono ?_
  rintro _ w1 ⟨_, rfl, q, d, rfl, b1, _, r1, m1⟩
  have HUR := Lib.hid (un4_range b1.wf 4)
  have R1 := Lib.hid r1
  have M1 := Lib.hid m1
  have B1 := Lib.hid b1
  clear r1 m1 b1
  go_wp2_with fail
  refine (get32_any q 4 d L _ B1.out (by omega)).mono ?_
  rintro _ w2 ⟨_, rfl, rfl, m2⟩
  have HM2 : Hid (Mod [] w1 w2) := m2
  obtain ⟨u0, u1⟩ := HUR.out
  have hw : IntKind.i64.wrap (un4 L 4) = un4 L 4 := IntWalk.i64_in _ (by omega)
  obtain ⟨U, hU⟩ : ∃ U, U = un4 L 4 := ⟨_, rfl⟩
  rw [← hU] at hw u0 u1 ⊢
  have HU := Lib.hid hU
  clear m2 hU
  go_wp2
  go_ret
  exact .mk ⟨by rw [← HU.out]; rfl, R1.out.mod HM2.out (by simp) (by simp), M1.out.trans HM2.out (by simp)⟩

def filledL (b pay : List Int) : Bool := decide (b.take pay.length = pay) && decide (∀ x ∈ b.drop pay.length, x = 0)
theorem filledL_iff {b pay : List Int} (h : pay.length ≤ b.length) : filledL b pay = true ↔ b = pay ++ zs (b.length - pay.length) := by
  simp only [filledL, Bool.and_eq_true, decide_eq_true_eq]
  constructor
  · rintro ⟨h1, h2⟩
    conv => lhs; rw [← List.take_append_drop pay.length b, h1]
    congr 1
    refine List.eq_replicate_iff.2 ⟨by simp, h2⟩
  · intro h1
    rw [h1]
    refine ⟨by simp, fun x hx => ?_⟩
    simp at hx
    exact List.eq_of_mem_replicate hx
set_option maxRecDepth 100000 in
set_option maxHeartbeats 2000000 in
theorem filled_any (p : Option Addr) (n c : Nat) (b : List Int) (q : Option Addr) (m d : Nat) (pay : List Int) (w : World) (h1 : BytesIn w p n c b) (h2 : BytesIn w q m d pay) :
    Calls Tryz.prog 51 #[.slice p n c, .slice q m d] w (Ret (BoolM (q.isSome && filledL b pay) w)) := by
  have q22 : ∀ (W : World) (a : Option Addr) (n c n' c' : Nat), (binOp .eql 40 (.slice a n c) (.slice none n' c')).run Tryz.prog W = .ok (.bool a.isNone) W := fun W a n c n' c' => Lib.run_eql_slice_nil W _ _ a n c n' c' Tryz.underlying40
  have q23 : ∀ (W : World) (a : Option Addr) (n c n' c' : Nat), (binOp .neq 40 (.slice a n c) (.slice none n' c')).run Tryz.prog W = .ok (.bool (!a.isNone)) W := fun W a n c n' c' => run_neq_slice_nil_any W _ _ a n c n' c' Tryz.underlying40
  have hb := h1.len; have hp := h2.len
  cases q with
  | none =>
    clear h1 h2 hb hp
    go_enter Tryz.func51, Tryz.ntmps51
    go_wp2
    go_ret
    exact .mk ⟨rfl, Mod.refl _ _⟩
  | some a =>
    have HPRE := Lib.hid (hasprefix_any p (some a) n m c d b pay w h1 h2)
    have HF : Hid (filledL b pay = (decide (b.take pay.length = pay) && decide (∀ x ∈ b.drop pay.length, x = 0))) := rfl
    have HLE : Hid (decide (b.take pay.length = pay) = true → m ≤ n) := fun h => by
      have h3 := congrArg List.length (of_decide_eq_true h)
      rw [List.length_take] at h3; omega
    have H1 := Lib.hid h1
    have HPL := Lib.hid hp
    generalize filledL b pay = F at *
    cases hpre : decide (b.take pay.length = pay) with
    | false =>
      rw [hpre] at HPRE HF
      clear hpre h1 h2 hb hp
      go_enter Tryz.func51, Tryz.ntmps51
      go_wp2_with fail
      refine HPRE.out.mono ?_
      rintro _ w1 ⟨_, rfl, rfl, rfl⟩
      go_wp2
      go_ret
      exact .mk ⟨by rw [HF.out]; rfl, Mod.refl _ _⟩
    | true =>
      have hmn := HLE.out hpre
      rw [hpre] at HPRE HF
      have hcm := h1.sl.capm; have hle := h1.sl.le
      unfold maxLen at hcm
      obtain ⟨p2, r2, s2, hp2⟩ := h1.sl.sub_l Tryz.underlying40 sizeBytes m .i64 hmn
      have HS2 : Hid (Sl w 1 p2 (n - m) (c - m) (bs (b.drop pay.length))) := by unfold Hid; rw [Nat.mul_one] at s2; rw [hp]; simpa [bs, List.map_drop] using s2
      clear hpre h1 h2 hb hp s2 hp2 HLE
      go_enter Tryz.func51, Tryz.ntmps51
      go_wp2_with fail
      refine HPRE.out.mono ?_
      rintro _ w1 ⟨_, rfl, rfl, rfl⟩
      go_wp2_with fail
      refine (trim_any p2 (n - m) (c - m) (b.drop pay.length) _ HS2.out).mono ?_
      rintro _ w2 ⟨_, rfl, q2, k2, d2, rfl, hz2, m2⟩
      have HZ2 := Lib.hid hz2
      have M2 := Lib.hid m2
      clear hz2 m2
      go_wp2
      go_ret
      refine .mk ⟨congrArg Value.bool ?_, M2.out⟩
      rw [HF.out]
      simp only [Option.isSome_some, Bool.true_and]
      rw [Bool.eq_iff_iff, decide_eq_true_eq, ← HZ2.out]
      simp
end Go.Proofs.YtgimdodbajhpoaaGreatDoor
