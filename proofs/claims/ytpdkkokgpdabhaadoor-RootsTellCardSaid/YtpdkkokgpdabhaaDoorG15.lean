/- Roots: a root is read. -/
import Derived.Laws.ResultCell
import Derived.StillTailTactics
import Derived.Test.YtpdkkokgpdabhaaDoorG14
namespace Go.Proofs.YtpdkkokgpdabhaaDoor
open Go.RowKit Go.Maps
set_option linter.unusedSimpArgs false
set_option linter.unusedVariables false

theorem results_cell_tmps {fn : Func} {p u x : Tmp} {ty : TypeId} (h : fn.results = #[.cell p ty, .tmp u, .tmp x]) (tmps : Array Value) (P : Program) (w : World) :
    (results fn tmps).run P w =
      ((asAddr (tmps.getD p undef)).run P w).andThen fun a w₁ => ((loadVar ty a).run P w₁).andThen fun v w₂ => .ok (.tuple #[v, tmps.getD u undef, tmps.getD x undef]) w₂ := by
  simp only [results, h]
  simp [Sem.run_bind, Result.andThen]
def kN (l : List Int) : Nat := (l.getD 0 0).toNat
def oneRt (l : List Int) : Rt := ⟨(l.drop 1).take (kN l), un4 (l.drop (1 + kN l)) 4, un4 (l.drop (5 + kN l)) 4⟩
def OneOk (l : List Int) : Prop := 1 ≤ l.length ∧ 9 + kN l ≤ l.length
instance (l : List Int) : Decidable (OneOk l) := by unfold OneOk; exact inferInstance
def OneR (q : Option Addr) (l : List Int) (w : World) (v : Value) (w' : World) : Prop :=
  if OneOk l then ∃ p d, v = .tuple #[(oneRt l).val, .slice p (l.length - (9 + kN l)) d, .bool true] ∧ Sl w' 1 p (l.length - (9 + kN l)) d (bs (l.drop (9 + kN l))) ∧ (∀ a', p = some a' → ∃ a, q = some a ∧ a'.block = a.block) ∧ Mod [] w w'
  else v = .tuple #[(default : Rt).val, .slice none 0 0, .bool false] ∧ Mod [] w w'
theorem OneR.yes {q : Option Addr} {l : List Int} {w w' : World} {v : Value} (h : OneOk l) (hx : ∃ p d, v = .tuple #[(oneRt l).val, .slice p (l.length - (9 + kN l)) d, .bool true] ∧ Sl w' 1 p (l.length - (9 + kN l)) d (bs (l.drop (9 + kN l))) ∧ (∀ a', p = some a' → ∃ a, q = some a ∧ a'.block = a.block) ∧ Mod [] w w') : OneR q l w v w' := by
  unfold OneR; rw [if_pos h]; exact hx
theorem OneR.no {q : Option Addr} {l : List Int} {w w' : World} {v : Value} (h : ¬ OneOk l) (hx : v = .tuple #[(default : Rt).val, .slice none 0 0, .bool false] ∧ Mod [] w w') : OneR q l w v w' := by
  unfold OneR; rw [if_neg h]; exact hx

def roE (b off n c N M : Nat) (p1 : Option Addr) (k : Nat) (p2 p3 : Option Addr) (l1 : List Int) (pg ct : Int) (B0 : Nat) (ls : Array Bool) (vs : Nat → Value) (oi : Nat) (w : World) : Prop :=
  match oi with
  | 0 => vs 0 = .slice (some ⟨b, off, none⟩) n c
  | 1 => vs 1 = .int .i64 N
  | 2 => vs 2 = .slice p1 k (c - 1)
  | 3 => vs 3 = .string (strOfNums l1)
  | 4 => vs 4 = .slice (some ⟨b, off, none⟩) n c
  | 5 => vs 5 = .int .i64 N
  | 6 => vs 6 = .slice p2 (n - N) (c - N)
  | 7 => vs 7 = .int .u32 pg
  | 8 => vs 8 = .int .i64 pg
  | 9 => vs 9 = .slice (some ⟨b, off, none⟩) n c
  | 10 => vs 10 = .int .i64 N
  | 11 => vs 11 = .int .i64 M
  | 12 => vs 12 = .slice p3 (n - M) (c - M)
  | 13 => vs 13 = .int .u32 ct
  | 14 => vs 14 = .int .i64 ct
  | 15 => vs 15 = .agg #[.string (strOfNums l1), .int .i64 pg, .int .i64 ct]
  | 16 => ∃ B, vs 16 = .pointer (some ⟨B, 0, none⟩) ∧ B0 ≤ B ∧ ∃ x y z, w.heap[B]? = some (.cells #[x, y, z] 34 (0, 0))
  | 17 => ∃ B, vs 16 = .pointer (some ⟨B, 0, none⟩) ∧ B0 ≤ B ∧ w.heap[B]? = some (.cells #[.string (strOfNums l1), .int .i64 pg, .int .i64 ct] 34)
  | _ => True
theorem roE_keep {b off n c N M : Nat} {p1 : Option Addr} {k : Nat} {p2 p3 : Option Addr} {l1 : List Int} {pg ct : Int} {B0 : Nat} {ls ls' : Array Bool} {vs : Nat → Value} {oi : Nat} {w w' : World} (hm : Mod [] w w') (hl : ∀ k, ls.getD k true = true → ls'.getD k true = true) (hr : roE b off n c N M p1 k p2 p3 l1 pg ct B0 ls vs oi w) : roE b off n c N M p1 k p2 p3 l1 pg ct B0 ls' vs oi w' := by
  unfold roE at hr ⊢
  split at hr
  · exact hr
  · exact hr
  · exact hr
  · exact hr
  · exact hr
  · exact hr
  · exact hr
  · exact hr
  · exact hr
  · exact hr
  · exact hr
  · exact hr
  · exact hr
  · exact hr
  · exact hr
  · exact hr
  · obtain ⟨B, h1, h2, x, y, z, h3⟩ := hr; exact ⟨B, h1, h2, x, y, z, hm.at h3 (by simp)⟩
  · obtain ⟨B, h1, h2, h3⟩ := hr; exact ⟨B, h1, h2, hm.at h3 (by simp)⟩
  · trivial
theorem roE_val {b off n c N M : Nat} {p1 : Option Addr} {k : Nat} {p2 p3 : Option Addr} {l1 : List Int} {pg ct : Int} {B0 : Nat} {ls ls' : Array Bool} {vs : Nat → Value} {oi : Nat} {w w' : World} (n16 : oi ≠ 16) (n17 : oi ≠ 17) (hr : roE b off n c N M p1 k p2 p3 l1 pg ct B0 ls vs oi w) : roE b off n c N M p1 k p2 p3 l1 pg ct B0 ls' vs oi w' := by
  unfold roE at hr ⊢
  split at hr
  · exact hr
  · exact hr
  · exact hr
  · exact hr
  · exact hr
  · exact hr
  · exact hr
  · exact hr
  · exact hr
  · exact hr
  · exact hr
  · exact hr
  · exact hr
  · exact hr
  · exact hr
  · exact hr
  · exact (n16 rfl).elim
  · exact (n17 rfl).elim
  · trivial
theorem roE_loc {b off n c N M : Nat} {p1 : Option Addr} {k : Nat} {p2 p3 : Option Addr} {l1 : List Int} {pg ct : Int} {B0 : Nat} {ls : Array Bool} {vs vs' : Nat → Value} {oi : Nat} {w : World} (h1 : vs oi = vs' oi) (l17 : oi = 17 → vs 16 = vs' 16) (hr : roE b off n c N M p1 k p2 p3 l1 pg ct B0 ls vs oi w) : roE b off n c N M p1 k p2 p3 l1 pg ct B0 ls vs' oi w := by
  unfold roE at hr ⊢
  split at hr
  · rw [← h1]; exact hr
  · rw [← h1]; exact hr
  · rw [← h1]; exact hr
  · rw [← h1]; exact hr
  · rw [← h1]; exact hr
  · rw [← h1]; exact hr
  · rw [← h1]; exact hr
  · rw [← h1]; exact hr
  · rw [← h1]; exact hr
  · rw [← h1]; exact hr
  · rw [← h1]; exact hr
  · rw [← h1]; exact hr
  · rw [← h1]; exact hr
  · rw [← h1]; exact hr
  · rw [← h1]; exact hr
  · rw [← h1]; exact hr
  · rw [← h1]; exact hr
  · rw [← l17 rfl]; exact hr
  · trivial
set_option maxRecDepth 100000 in
set_option maxHeartbeats 8000000 in
theorem rone_any (p : Option Addr) (n c : Nat) (l : List Int) (w : World) (h : BytesIn w p n c l) (hn : n ≤ 1000000) : Calls Tryd.prog 24 #[.slice p n c] w (Ret (OneR p l w)) := by
  have hln := h.len
  have hle := h.sl.le
  have hcm := h.sl.capm
  unfold maxLen at hcm
  rcases Nat.eq_zero_or_pos n with h0 | h0
  · have HNO : Hid (¬ OneOk l) := fun h => by have := h.1; omega
    subst h0
    clear h hln hle hcm
    have hat := at_alloc w (.cells #[.string ⟨#[]⟩, .int .i64 0, .int .i64 0] 34)
    have k0 := cell_of_at hat 0
    have k1 := cell_of_at hat 1
    have k2 := cell_of_at hat 2
    have HM := Lib.hid (Mod.of_alloc w (.cells #[.string ⟨#[]⟩, .int .i64 0, .int .i64 0] 34))
    clear hat
    go_enter Tryd.func24, Tryd.ntmps24
    go_wp2
    refine bodyPost_ret (v := .tuple #[.agg #[.string ⟨#[]⟩, .int .i64 0, .int .i64 0], .slice none 0 0, .bool false]) ?_ rfl ?_
    · rw [results_cell_tmps rfl]; go_simp
    · exact .mk (OneR.no HNO.out ⟨rfl, HM.out⟩)
  · obtain ⟨b, off, hp, hblt, hcs⟩ := h.sl.addr h0
    subst hp
    have x0 : 0 ≤ l.getD 0 0 ∧ l.getD 0 0 < 256 := by rw [getD_at (by omega)]; exact h.wf _ (List.getElem_mem _)
    have d0 := hcs 0 _ (bs_get (by omega))
    rw [Nat.add_zero] at d0
    obtain ⟨k, hk⟩ : ∃ k, k = kN l := ⟨_, rfl⟩
    have hx : l.getD 0 0 = (k : Int) := by rw [hk]; unfold kN; omega
    rw [hx] at d0 x0
    by_cases hok : OneOk l
    · obtain ⟨_, h9⟩ := hok
      have HOK : Hid (OneOk l) := ⟨by omega, h9⟩
      rw [← hk, hln] at h9
      obtain ⟨N, hN⟩ : ∃ N, N = 1 + k := ⟨_, rfl⟩
      obtain ⟨M, hM⟩ : ∃ M, M = 5 + k := ⟨_, rfl⟩
      obtain ⟨E, hE⟩ : ∃ E, E = 9 + k := ⟨_, rfl⟩
      have hw1 : IntKind.i64.wrap (1 + (k : Int)) = (N : Int) := by rw [IntWalk.i64_in _ (by omega)]; omega
      have hw2 : IntKind.i64.wrap ((N : Int) + 8) = (E : Int) := by rw [IntWalk.i64_in _ (by omega)]; omega
      have hw3 : IntKind.i64.wrap ((N : Int) + 4) = (M : Int) := by rw [IntWalk.i64_in _ (by omega)]; omega
      have hw4 : IntKind.i64.wrap (k : Int) = (k : Int) := IntWalk.i64_in _ (by omega)
      have hnb : ¬ ((n : Int) < (E : Int)) := by omega
      have hn1 : ¬ ((n : Int) < 1) := by omega
      obtain ⟨p1, r1, s1, _⟩ := h.sl.sub Tryd.underlying23 sizeBytes 1 N .i64 .i64 (by omega) (by omega)
      obtain ⟨p2, r2, s2, _⟩ := h.sl.sub_l Tryd.underlying23 sizeBytes N .i64 (by omega)
      obtain ⟨p3, r3, s3, _⟩ := h.sl.sub_l Tryd.underlying23 sizeBytes M .i64 (by omega)
      obtain ⟨p4, r4, s4, b4⟩ := h.sl.sub_l Tryd.underlying23 sizeBytes E .i64 (by omega)
      rw [show N - 1 = k from by omega] at r1 s1
      simp only [show ((1 : Nat) : Int) = 1 from rfl] at r1
      have HS1 : Hid (Sl w 1 p1 k (c - 1) (bs ((l.drop 1).take k))) := by simpa [Hid, bs, List.map_drop, List.map_take] using s1
      have HS2 : Hid (BytesIn w p2 (n - N) (c - N) (l.drop N)) := ⟨by simpa [bs, List.map_drop] using s2, fun x hx => h.wf x (List.mem_of_mem_drop hx)⟩
      have HS3 : Hid (BytesIn w p3 (n - M) (c - M) (l.drop M)) := ⟨by simpa [bs, List.map_drop] using s3, fun x hx => h.wf x (List.mem_of_mem_drop hx)⟩
      have HS4 : Hid (Sl w 1 p4 (n - E) (c - E) (bs (l.drop E))) := by simpa [Hid, bs, List.map_drop] using s4
      have HB4 := Lib.hid b4
      clear b4
      have HGP := fun W (hm : Mod [] w W) => Lib.hid (get32_any p2 (n - N) (c - N) (l.drop N) W ⟨HS2.out.sl.mod hm (by simp), HS2.out.wf⟩ (by omega))
      have HGC := fun W (hm : Mod [] w W) => Lib.hid (get32_any p3 (n - M) (c - M) (l.drop M) W ⟨HS3.out.sl.mod hm (by simp), HS3.out.wf⟩ (by omega))
      unfold Get32M at HGP HGC
      obtain ⟨g1, g2⟩ := un4_range HS2.out.wf 4
      obtain ⟨g3, g4⟩ := un4_range HS3.out.wf 4
      have HRT : Hid (oneRt l = ⟨(l.drop 1).take k, un4 (l.drop N) 4, un4 (l.drop M) 4⟩) := by unfold Hid oneRt; rw [← hk, ← hN, ← hM]
      have HEE : Hid (E = 9 + kN l) := by unfold Hid; rw [← hk]; exact hE
      replace g2 : un4 (l.drop N) 4 < 4294967296 := g2
      replace g4 : un4 (l.drop M) 4 < 4294967296 := g4
      generalize un4 (l.drop N) 4 = pg at *
      generalize un4 (l.drop M) 4 = ct at *
      generalize (l.drop 1).take k = l1 at *
      have hw5 : IntKind.i64.wrap pg = pg := IntWalk.i64_in _ (by omega)
      have hw6 : IntKind.i64.wrap ct = ct := IntWalk.i64_in _ (by omega)
      have HLN := Lib.hid hln
      clear h hln hcs hk hx hN hM hE s1 s2 s3 s4 g1 g2 g3 g4 x0
      have hi0 := fun W => Sl.idx (P := Tryd.prog) (cap := c) (m := n) (size := 1) Tryd.underlying23 sizeBytes (fun _ => rfl) W .i64 0 h0 (b := b) (off := off)
      simp only [Nat.mul_one, Nat.add_zero, show ((0 : Nat) : Int) = 0 from rfl] at hi0
      have hat := at_alloc w (.cells #[.string ⟨#[]⟩, .int .i64 0, .int .i64 0] 34)
      have HM0 : Hid (Mod [] w (w.alloc (.cells #[.string ⟨#[]⟩, .int .i64 0, .int .i64 0] 34))) := Mod.of_alloc w _
      have hd0 := (HM0.out.cell (a := ⟨b, off, none⟩) hblt (by simp)).trans d0
      go_enter Tryd.func24, Tryd.ntmps24
      go_wp2_with fail
      generalize hw0 : (w.alloc (.cells #[.string ⟨#[]⟩, .int .i64 0, .int .i64 0] 34)) = w1 at *
      obtain ⟨A, hA⟩ : ∃ A, A = w.heap.size := ⟨_, rfl⟩
      rw [← hA] at hat ⊢
      obtain ⟨B0, hB0⟩ : ∃ B0, B0 = w1.heap.size := ⟨_, rfl⟩
      have hAB : A < B0 := by rw [hB0]; exact lt_of_at hat
      have HB0 : Hid (w.heap.size ≤ B0) := by unfold Hid; omega
      have HAT := Lib.hid hat
      have HAE := Lib.hid hA
      have HBE := Lib.hid hB0
      clear hat hd0 d0 hw0 hA hB0
      refine par_region2 (by kernel_rfl) (fun ls oi vs w => roE b off n c N M p1 k p2 p3 l1 pg ct B0 ls vs oi w) (fun ls w' => Mod [] w1 w' ∧ B0 ≤ w'.heap.size ∧ (ls.getD 3 true = true ∨ Tl w' 0 1 (none : Option Addr) 0 0 (bs []))) (by kernel_rfl) (fun ls j vs vs' w o ho h1 hd h2 => roE_loc h1 (fun e => by subst e; obtain rfl := Option.some.inj ho; exact hd ⟨16, .data⟩ (by simp) rfl) h2) ⟨⟨⟨⟨⟨⟨⟨⟨⟨⟨⟨⟨⟨⟨⟨⟨⟨⟨trivial, ?_⟩, ?_⟩, ?_⟩, ?_⟩, ?_⟩, ?_⟩, ?_⟩, ?_⟩, ?_⟩, ?_⟩, ?_⟩, ?_⟩, ?_⟩, ?_⟩, ?_⟩, ?_⟩, ?_⟩, ?_⟩ ⟨Mod.of_drew w1, (by rw [HBE.out]; exact Nat.le_refl _), Or.inr (Tl.none' _ _ _)⟩ ?_
      · intro o ho listed vs a w' inv hun haft K hK
        obtain rfl := Option.some.inj ho
        refine par_run rfl ?_
        have hun' : ∀ h : listed.getD 0 true = true, False := fun h => by rw [hun] at h; cases h
        have e0 := inv.old 0 (by kernel_rfl)
        have INV := Lib.hid inv
        clear inv haft hun ho
        simp at e0
        have MO : ∀ k, listed.getD k true = true → (listed.setIfInBounds 0 true).getD k true = true := fun k h => set_mono h
        go_simp
        exact hK _ _ ⟨INV.out.inv.1, INV.out.inv.2.1, INV.out.inv.2.2.imp (MO _) id⟩ (fun j hj hl => roE_keep (Mod.refl _ _) MO (INV.out.val j hj hl)) rfl
      · intro o ho listed vs a w' inv hun haft K hK
        obtain rfl := Option.some.inj ho
        refine par_run rfl ?_
        have hun' : ∀ h : listed.getD 1 true = true, False := fun h => by rw [hun] at h; cases h
        have e0 := inv.old 5 (by kernel_rfl)
        have INV := Lib.hid inv
        clear inv haft hun ho
        simp at e0
        have MO : ∀ k, listed.getD k true = true → (listed.setIfInBounds 1 true).getD k true = true := fun k h => set_mono h
        go_simp
        exact hK _ _ ⟨INV.out.inv.1, INV.out.inv.2.1, INV.out.inv.2.2.imp (MO _) id⟩ (fun j hj hl => roE_keep (Mod.refl _ _) MO (INV.out.val j hj hl)) rfl
      · intro o ho listed vs a w' inv hun haft K hK
        obtain rfl := Option.some.inj ho
        refine par_run rfl ?_
        have hun' : ∀ h : listed.getD 2 true = true, False := fun h => by rw [hun] at h; cases h
        obtain ⟨e0, r0⟩ := inv.get haft 0 27 (by kernel_rfl) (by kernel_rfl)
        obtain ⟨e1, r1⟩ := inv.get haft 1 28 (by kernel_rfl) (by kernel_rfl)
        have INV := Lib.hid inv
        clear inv haft hun ho
        change vs 0 = .slice (some ⟨b, off, none⟩) n c at r0
        rw [r0] at e0
        have g0 := getD_opt e0
        change vs 1 = .int .i64 N at r1
        rw [r1] at e1
        have g1 := getD_opt e1
        have MO : ∀ k, listed.getD k true = true → (listed.setIfInBounds 2 true).getD k true = true := fun k h => set_mono h
        go_simp
        exact hK _ _ ⟨INV.out.inv.1, INV.out.inv.2.1, INV.out.inv.2.2.imp (MO _) id⟩ (fun j hj hl => roE_keep (Mod.refl _ _) MO (INV.out.val j hj hl)) rfl
      · intro o ho listed vs a w' inv hun haft K hK
        obtain rfl := Option.some.inj ho
        refine par_run rfl ?_
        have hun' : ∀ h : listed.getD 3 true = true, False := fun h => by rw [hun] at h; cases h
        obtain ⟨e0, r0⟩ := inv.get haft 2 29 (by kernel_rfl) (by kernel_rfl)
        have INV := Lib.hid inv
        clear inv haft hun ho
        change vs 2 = .slice p1 k (c - 1) at r0
        rw [r0] at e0
        have g0 := getD_opt e0
        have cv := (HS1.out.mod (HM0.out.same INV.out.inv.1) (by simp)).str 23 5 9 Tryd.underlying23 uU8 uStr
        have MO : ∀ k, listed.getD k true = true → (listed.setIfInBounds 3 true).getD k true = true := fun k h => set_mono h
        go_simp
        exact hK _ _ ⟨INV.out.inv.1, INV.out.inv.2.1, INV.out.inv.2.2.imp (MO _) id⟩ (fun j hj hl => roE_keep (Mod.refl _ _) MO (INV.out.val j hj hl)) rfl
      · intro o ho listed vs a w' inv hun haft K hK
        obtain rfl := Option.some.inj ho
        refine par_run rfl ?_
        have hun' : ∀ h : listed.getD 4 true = true, False := fun h => by rw [hun] at h; cases h
        have e0 := inv.old 0 (by kernel_rfl)
        have INV := Lib.hid inv
        clear inv haft hun ho
        simp at e0
        have MO : ∀ k, listed.getD k true = true → (listed.setIfInBounds 4 true).getD k true = true := fun k h => set_mono h
        go_simp
        exact hK _ _ ⟨INV.out.inv.1, INV.out.inv.2.1, INV.out.inv.2.2.imp (MO _) id⟩ (fun j hj hl => roE_keep (Mod.refl _ _) MO (INV.out.val j hj hl)) rfl
      · intro o ho listed vs a w' inv hun haft K hK
        obtain rfl := Option.some.inj ho
        refine par_run rfl ?_
        have hun' : ∀ h : listed.getD 5 true = true, False := fun h => by rw [hun] at h; cases h
        have e0 := inv.old 5 (by kernel_rfl)
        have INV := Lib.hid inv
        clear inv haft hun ho
        simp at e0
        have MO : ∀ k, listed.getD k true = true → (listed.setIfInBounds 5 true).getD k true = true := fun k h => set_mono h
        go_simp
        exact hK _ _ ⟨INV.out.inv.1, INV.out.inv.2.1, INV.out.inv.2.2.imp (MO _) id⟩ (fun j hj hl => roE_keep (Mod.refl _ _) MO (INV.out.val j hj hl)) rfl
      · intro o ho listed vs a w' inv hun haft K hK
        obtain rfl := Option.some.inj ho
        refine par_run rfl ?_
        have hun' : ∀ h : listed.getD 6 true = true, False := fun h => by rw [hun] at h; cases h
        obtain ⟨e0, r0⟩ := inv.get haft 4 31 (by kernel_rfl) (by kernel_rfl)
        obtain ⟨e1, r1⟩ := inv.get haft 5 32 (by kernel_rfl) (by kernel_rfl)
        have INV := Lib.hid inv
        clear inv haft hun ho
        change vs 4 = .slice (some ⟨b, off, none⟩) n c at r0
        rw [r0] at e0
        have g0 := getD_opt e0
        change vs 5 = .int .i64 N at r1
        rw [r1] at e1
        have g1 := getD_opt e1
        have MO : ∀ k, listed.getD k true = true → (listed.setIfInBounds 6 true).getD k true = true := fun k h => set_mono h
        go_simp
        exact hK _ _ ⟨INV.out.inv.1, INV.out.inv.2.1, INV.out.inv.2.2.imp (MO _) id⟩ (fun j hj hl => roE_keep (Mod.refl _ _) MO (INV.out.val j hj hl)) rfl
      · intro o ho listed vs a w' inv hun haft K hK
        obtain rfl := Option.some.inj ho
        refine par_run rfl ?_
        have hun' : ∀ h : listed.getD 7 true = true, False := fun h => by rw [hun] at h; cases h
        obtain ⟨e0, r0⟩ := inv.get haft 6 33 (by kernel_rfl) (by kernel_rfl)
        have INV := Lib.hid inv
        clear inv haft hun ho
        change vs 6 = .slice p2 (n - N) (c - N) at r0
        rw [r0] at e0
        have g0 := getD_opt e0
        have MO : ∀ k, listed.getD k true = true → (listed.setIfInBounds 7 true).getD k true = true := fun k h => set_mono h
        go_simp
        refine (HGP _ (HM0.out.same INV.out.inv.1)).out.mono ?_
        rintro _ w3 ⟨_, rfl, rfl, m3⟩
        exact hK _ _ ⟨INV.out.inv.1.same m3, Nat.le_trans INV.out.inv.2.1 m3.size, INV.out.inv.2.2.imp (MO _) (fun h => h.mod m3 (by simp))⟩ (fun j hj hl => roE_keep m3 MO (INV.out.val j hj hl)) rfl
      · intro o ho listed vs a w' inv hun haft K hK
        obtain rfl := Option.some.inj ho
        refine par_run rfl ?_
        have hun' : ∀ h : listed.getD 8 true = true, False := fun h => by rw [hun] at h; cases h
        obtain ⟨e0, r0⟩ := inv.get haft 7 34 (by kernel_rfl) (by kernel_rfl)
        have INV := Lib.hid inv
        clear inv haft hun ho
        change vs 7 = .int .u32 pg at r0
        rw [r0] at e0
        have g0 := getD_opt e0
        have MO : ∀ k, listed.getD k true = true → (listed.setIfInBounds 8 true).getD k true = true := fun k h => set_mono h
        go_simp
        exact hK _ _ ⟨INV.out.inv.1, INV.out.inv.2.1, INV.out.inv.2.2.imp (MO _) id⟩ (fun j hj hl => roE_keep (Mod.refl _ _) MO (INV.out.val j hj hl)) rfl
      · intro o ho listed vs a w' inv hun haft K hK
        obtain rfl := Option.some.inj ho
        refine par_run rfl ?_
        have hun' : ∀ h : listed.getD 9 true = true, False := fun h => by rw [hun] at h; cases h
        have e0 := inv.old 0 (by kernel_rfl)
        have INV := Lib.hid inv
        clear inv haft hun ho
        simp at e0
        have MO : ∀ k, listed.getD k true = true → (listed.setIfInBounds 9 true).getD k true = true := fun k h => set_mono h
        go_simp
        exact hK _ _ ⟨INV.out.inv.1, INV.out.inv.2.1, INV.out.inv.2.2.imp (MO _) id⟩ (fun j hj hl => roE_keep (Mod.refl _ _) MO (INV.out.val j hj hl)) rfl
      · intro o ho listed vs a w' inv hun haft K hK
        obtain rfl := Option.some.inj ho
        refine par_run rfl ?_
        have hun' : ∀ h : listed.getD 10 true = true, False := fun h => by rw [hun] at h; cases h
        have e0 := inv.old 5 (by kernel_rfl)
        have INV := Lib.hid inv
        clear inv haft hun ho
        simp at e0
        have MO : ∀ k, listed.getD k true = true → (listed.setIfInBounds 10 true).getD k true = true := fun k h => set_mono h
        go_simp
        exact hK _ _ ⟨INV.out.inv.1, INV.out.inv.2.1, INV.out.inv.2.2.imp (MO _) id⟩ (fun j hj hl => roE_keep (Mod.refl _ _) MO (INV.out.val j hj hl)) rfl
      · intro o ho listed vs a w' inv hun haft K hK
        obtain rfl := Option.some.inj ho
        refine par_run rfl ?_
        have hun' : ∀ h : listed.getD 11 true = true, False := fun h => by rw [hun] at h; cases h
        obtain ⟨e0, r0⟩ := inv.get haft 10 37 (by kernel_rfl) (by kernel_rfl)
        have INV := Lib.hid inv
        clear inv haft hun ho
        change vs 10 = .int .i64 N at r0
        rw [r0] at e0
        have g0 := getD_opt e0
        have MO : ∀ k, listed.getD k true = true → (listed.setIfInBounds 11 true).getD k true = true := fun k h => set_mono h
        go_simp
        exact hK _ _ ⟨INV.out.inv.1, INV.out.inv.2.1, INV.out.inv.2.2.imp (MO _) id⟩ (fun j hj hl => roE_keep (Mod.refl _ _) MO (INV.out.val j hj hl)) rfl
      · intro o ho listed vs a w' inv hun haft K hK
        obtain rfl := Option.some.inj ho
        refine par_run rfl ?_
        have hun' : ∀ h : listed.getD 12 true = true, False := fun h => by rw [hun] at h; cases h
        obtain ⟨e0, r0⟩ := inv.get haft 9 36 (by kernel_rfl) (by kernel_rfl)
        obtain ⟨e1, r1⟩ := inv.get haft 11 38 (by kernel_rfl) (by kernel_rfl)
        have INV := Lib.hid inv
        clear inv haft hun ho
        change vs 9 = .slice (some ⟨b, off, none⟩) n c at r0
        rw [r0] at e0
        have g0 := getD_opt e0
        change vs 11 = .int .i64 M at r1
        rw [r1] at e1
        have g1 := getD_opt e1
        have MO : ∀ k, listed.getD k true = true → (listed.setIfInBounds 12 true).getD k true = true := fun k h => set_mono h
        go_simp
        exact hK _ _ ⟨INV.out.inv.1, INV.out.inv.2.1, INV.out.inv.2.2.imp (MO _) id⟩ (fun j hj hl => roE_keep (Mod.refl _ _) MO (INV.out.val j hj hl)) rfl
      · intro o ho listed vs a w' inv hun haft K hK
        obtain rfl := Option.some.inj ho
        refine par_run rfl ?_
        have hun' : ∀ h : listed.getD 13 true = true, False := fun h => by rw [hun] at h; cases h
        obtain ⟨e0, r0⟩ := inv.get haft 12 39 (by kernel_rfl) (by kernel_rfl)
        have INV := Lib.hid inv
        clear inv haft hun ho
        change vs 12 = .slice p3 (n - M) (c - M) at r0
        rw [r0] at e0
        have g0 := getD_opt e0
        have MO : ∀ k, listed.getD k true = true → (listed.setIfInBounds 13 true).getD k true = true := fun k h => set_mono h
        go_simp
        refine (HGC _ (HM0.out.same INV.out.inv.1)).out.mono ?_
        rintro _ w3 ⟨_, rfl, rfl, m3⟩
        exact hK _ _ ⟨INV.out.inv.1.same m3, Nat.le_trans INV.out.inv.2.1 m3.size, INV.out.inv.2.2.imp (MO _) (fun h => h.mod m3 (by simp))⟩ (fun j hj hl => roE_keep m3 MO (INV.out.val j hj hl)) rfl
      · intro o ho listed vs a w' inv hun haft K hK
        obtain rfl := Option.some.inj ho
        refine par_run rfl ?_
        have hun' : ∀ h : listed.getD 14 true = true, False := fun h => by rw [hun] at h; cases h
        obtain ⟨e0, r0⟩ := inv.get haft 13 40 (by kernel_rfl) (by kernel_rfl)
        have INV := Lib.hid inv
        clear inv haft hun ho
        change vs 13 = .int .u32 ct at r0
        rw [r0] at e0
        have g0 := getD_opt e0
        have MO : ∀ k, listed.getD k true = true → (listed.setIfInBounds 14 true).getD k true = true := fun k h => set_mono h
        go_simp
        exact hK _ _ ⟨INV.out.inv.1, INV.out.inv.2.1, INV.out.inv.2.2.imp (MO _) id⟩ (fun j hj hl => roE_keep (Mod.refl _ _) MO (INV.out.val j hj hl)) rfl
      · intro o ho listed vs a w' inv hun haft K hK
        obtain rfl := Option.some.inj ho
        refine par_run rfl ?_
        have hun' : ∀ h : listed.getD 15 true = true, False := fun h => by rw [hun] at h; cases h
        obtain ⟨e0, r0⟩ := inv.get haft 3 30 (by kernel_rfl) (by kernel_rfl)
        obtain ⟨e1, r1⟩ := inv.get haft 8 35 (by kernel_rfl) (by kernel_rfl)
        obtain ⟨e2, r2⟩ := inv.get haft 14 41 (by kernel_rfl) (by kernel_rfl)
        have INV := Lib.hid inv
        clear inv haft hun ho
        change vs 3 = .string (strOfNums l1) at r0
        rw [r0] at e0
        have g0 := getD_opt e0
        change vs 8 = .int .i64 pg at r1
        rw [r1] at e1
        have g1 := getD_opt e1
        change vs 14 = .int .i64 ct at r2
        rw [r2] at e2
        have g2 := getD_opt e2
        have MO : ∀ k, listed.getD k true = true → (listed.setIfInBounds 15 true).getD k true = true := fun k h => set_mono h
        go_simp
        exact hK _ _ ⟨INV.out.inv.1, INV.out.inv.2.1, INV.out.inv.2.2.imp (MO _) id⟩ (fun j hj hl => roE_keep (Mod.refl _ _) MO (INV.out.val j hj hl)) rfl
      · intro o ho listed vs a w' inv hun haft K hK
        obtain rfl := Option.some.inj ho
        refine par_run rfl ?_
        have hun' : ∀ h : listed.getD 16 true = true, False := fun h => by rw [hun] at h; cases h
        have INV := Lib.hid inv
        clear inv haft hun ho
        have MO : ∀ k, listed.getD k true = true → (listed.setIfInBounds 16 true).getD k true = true := fun k h => set_mono h
        go_simp
        have m3 := Mod.of_alloc w' (.cells #[.string ⟨#[]⟩, .int .i64 0, .int .i64 0] 34)
        exact hK _ _ ⟨INV.out.inv.1.same m3, Nat.le_trans INV.out.inv.2.1 m3.size, INV.out.inv.2.2.imp (MO _) (fun h => h.mod m3 (by simp))⟩ (fun j hj hl => roE_keep m3 MO (INV.out.val j hj hl)) ⟨w'.heap.size, rfl, INV.out.inv.2.1, _, _, _, at_alloc _ _⟩
      · intro o ho listed vs a w' inv hun haft K hK
        obtain rfl := Option.some.inj ho
        refine par_run rfl ?_
        have hun' : ∀ h : listed.getD 17 true = true, False := fun h => by rw [hun] at h; cases h
        obtain ⟨e0, r0⟩ := inv.get haft 15 42 (by kernel_rfl) (by kernel_rfl)
        obtain ⟨e1, r1⟩ := inv.get haft 16 6 (by kernel_rfl) (by kernel_rfl)
        have un17 : listed.getD 17 true = false := hun
        have ld15 : listed.getD 15 true = true := ParInv2.lst haft 15 (by kernel_rfl)
        have ld3 : listed.getD 3 true = true := inv.lstTo [3] 15 3 (by kernel_rfl) ld15
        have INV := Lib.hid inv
        clear inv haft hun ho
        change vs 15 = .agg #[.string (strOfNums l1), .int .i64 pg, .int .i64 ct] at r0
        rw [r0] at e0
        have g0 := getD_opt e0
        have g1 := getD_opt e1
        have MO : ∀ k, listed.getD k true = true → (listed.setIfInBounds 17 true).getD k true = true := fun k h => set_mono h
        obtain ⟨B, h16, hB, x, y, z, hat⟩ := r1
        have hvs := h16
        rw [h16] at g1 e1
        have hsa := at_setCell (at_setCell (at_setCell hat 0 (.string (strOfNums l1))) 1 (.int .i64 pg)) 2 (.int .i64 ct)
        have f0 : w'.frozen? ⟨B, 0, none⟩ = false := free_of_at hat 0
        have f1 : w'.frozen? ⟨B, 1, none⟩ = false := free_of_at hat 1
        have f2 : w'.frozen? ⟨B, 2, none⟩ = false := free_of_at hat 2
        have k0 : w'.cell? ⟨B, 0, none⟩ = some x := cell_of_at hat 0
        have k1 : w'.cell? ⟨B, 1, none⟩ = some y := cell_of_at hat 1
        have k2 : w'.cell? ⟨B, 2, none⟩ = some z := cell_of_at hat 2
        have m3 : Mod [B] w' _ := ((Mod.of_setCell w' B 0 (.string (strOfNums l1))).same (Mod.of_setCell _ B 1 (.int .i64 pg))).same (Mod.of_setCell _ B 2 (.int .i64 ct))
        have HM3 := Lib.hid m3
        have HSA := Lib.hid hsa
        have HVS := Lib.hid hvs
        have HBB := Lib.hid hB
        clear m3 hsa hat hvs hB h16
        go_simp
        refine hK undef _ ⟨INV.out.inv.1.trans HM3.out (fun b hb => Or.inr (by simp at hb; have := HBB.out; have := HBE.out; omega)), Nat.le_trans INV.out.inv.2.1 HM3.out.size, Or.inl (MO _ ld3)⟩ (fun j hj hl => ?_) ⟨B, HVS.out, HBB.out, by simpa using HSA.out⟩
        by_cases e16 : j = 16
        · subst e16; exact ⟨B, HVS.out, HBB.out, _, _, _, by simpa using HSA.out⟩
        · exact roE_val e16 (fun e => by subst e; rw [un17] at hl; cases hl) (INV.out.val j hj hl)
      intro ls vs w2 X hall hm hr hslot hold hsize hdef
      have er := hslot 16 6 (by kernel_rfl)
      obtain ⟨B9, h9, g9, -⟩ := hr 16 (by decide)
      obtain ⟨B8, h8, g8, t8⟩ := hr 17 (by decide)
      rw [h9] at h8
      have e8 : B9 = B8 := by injection h8 with h8; injection h8 with h8; injection h8
      subst e8
      clear h8 g8
      have T9 := Lib.hid t8
      clear t8
      rw [h9] at er
      clear h9
      have e0 := hold 0 (by kernel_rfl)
      have e1 := hold 1 (by kernel_rfl)
      have e2 := hold 2 (by kernel_rfl)
      have e3 := hold 3 (by kernel_rfl)
      have e4 := hold 4 (by kernel_rfl)
      have e5 := hold 5 (by kernel_rfl)
      have e7 := hold 7 (by kernel_rfl)
      have e8 := hold 8 (by kernel_rfl)
      have e9 := hold 9 (by kernel_rfl)
      have e10 := hold 10 (by kernel_rfl)
      have e11 := hold 11 (by kernel_rfl)
      have e12 := hold 12 (by kernel_rfl)
      have e13 := hold 13 (by kernel_rfl)
      have e14 := hold 14 (by kernel_rfl)
      have e15 := hold 15 (by kernel_rfl)
      have e16 := hold 16 (by kernel_rfl)
      have e17 := hold 17 (by kernel_rfl)
      have e18 := hold 18 (by kernel_rfl)
      have e19 := hold 19 (by kernel_rfl)
      have e20 := hold 20 (by kernel_rfl)
      have e21 := hold 21 (by kernel_rfl)
      have e22 := hold 22 (by kernel_rfl)
      have e23 := hold 23 (by kernel_rfl)
      have e24 := hold 24 (by kernel_rfl)
      have e25 := hold 25 (by kernel_rfl)
      have e26 := hold 26 (by kernel_rfl)
      have e43 := hold 43 (by kernel_rfl)
      have e44 := hold 44 (by kernel_rfl)
      have e45 := hold 45 (by kernel_rfl)
      have e46 := hold 46 (by kernel_rfl)
      have e47 := hold 47 (by kernel_rfl)
      simp only [Array.getD_eq_getD_getElem?, List.getElem?_toArray, List.getElem?_cons_zero, List.getElem?_cons_succ, Option.getD_some] at e0 e1 e2 e3 e4 e5 e7 e8 e9 e10 e11 e12 e13 e14 e15 e16 e17 e18 e19 e20 e21 e22 e23 e24 e25 e26 e43 e44 e45 e46 e47
      have MR := Lib.hid hm
      clear hr hslot hold hm
      obtain ⟨⟨xs⟩, df⟩ := X
      replace hdef : df = [] := hdef
      subst hdef
      replace hsize : xs.length = 48 := hsize
      obtain ⟨x0, xs0, rfl, hs0⟩ := cons_of hsize
      obtain ⟨x1, xs1, rfl, hs1⟩ := cons_of hs0
      obtain ⟨x2, xs2, rfl, hs2⟩ := cons_of hs1
      obtain ⟨x3, xs3, rfl, hs3⟩ := cons_of hs2
      obtain ⟨x4, xs4, rfl, hs4⟩ := cons_of hs3
      obtain ⟨x5, xs5, rfl, hs5⟩ := cons_of hs4
      obtain ⟨x6, xs6, rfl, hs6⟩ := cons_of hs5
      obtain ⟨x7, xs7, rfl, hs7⟩ := cons_of hs6
      obtain ⟨x8, xs8, rfl, hs8⟩ := cons_of hs7
      obtain ⟨x9, xs9, rfl, hs9⟩ := cons_of hs8
      obtain ⟨x10, xs10, rfl, hs10⟩ := cons_of hs9
      obtain ⟨x11, xs11, rfl, hs11⟩ := cons_of hs10
      obtain ⟨x12, xs12, rfl, hs12⟩ := cons_of hs11
      obtain ⟨x13, xs13, rfl, hs13⟩ := cons_of hs12
      obtain ⟨x14, xs14, rfl, hs14⟩ := cons_of hs13
      obtain ⟨x15, xs15, rfl, hs15⟩ := cons_of hs14
      obtain ⟨x16, xs16, rfl, hs16⟩ := cons_of hs15
      obtain ⟨x17, xs17, rfl, hs17⟩ := cons_of hs16
      obtain ⟨x18, xs18, rfl, hs18⟩ := cons_of hs17
      obtain ⟨x19, xs19, rfl, hs19⟩ := cons_of hs18
      obtain ⟨x20, xs20, rfl, hs20⟩ := cons_of hs19
      obtain ⟨x21, xs21, rfl, hs21⟩ := cons_of hs20
      obtain ⟨x22, xs22, rfl, hs22⟩ := cons_of hs21
      obtain ⟨x23, xs23, rfl, hs23⟩ := cons_of hs22
      obtain ⟨x24, xs24, rfl, hs24⟩ := cons_of hs23
      obtain ⟨x25, xs25, rfl, hs25⟩ := cons_of hs24
      obtain ⟨x26, xs26, rfl, hs26⟩ := cons_of hs25
      obtain ⟨x27, xs27, rfl, hs27⟩ := cons_of hs26
      obtain ⟨x28, xs28, rfl, hs28⟩ := cons_of hs27
      obtain ⟨x29, xs29, rfl, hs29⟩ := cons_of hs28
      obtain ⟨x30, xs30, rfl, hs30⟩ := cons_of hs29
      obtain ⟨x31, xs31, rfl, hs31⟩ := cons_of hs30
      obtain ⟨x32, xs32, rfl, hs32⟩ := cons_of hs31
      obtain ⟨x33, xs33, rfl, hs33⟩ := cons_of hs32
      obtain ⟨x34, xs34, rfl, hs34⟩ := cons_of hs33
      obtain ⟨x35, xs35, rfl, hs35⟩ := cons_of hs34
      obtain ⟨x36, xs36, rfl, hs36⟩ := cons_of hs35
      obtain ⟨x37, xs37, rfl, hs37⟩ := cons_of hs36
      obtain ⟨x38, xs38, rfl, hs38⟩ := cons_of hs37
      obtain ⟨x39, xs39, rfl, hs39⟩ := cons_of hs38
      obtain ⟨x40, xs40, rfl, hs40⟩ := cons_of hs39
      obtain ⟨x41, xs41, rfl, hs41⟩ := cons_of hs40
      obtain ⟨x42, xs42, rfl, hs42⟩ := cons_of hs41
      obtain ⟨x43, xs43, rfl, hs43⟩ := cons_of hs42
      obtain ⟨x44, xs44, rfl, hs44⟩ := cons_of hs43
      obtain ⟨x45, xs45, rfl, hs45⟩ := cons_of hs44
      obtain ⟨x46, xs46, rfl, hs46⟩ := cons_of hs45
      obtain ⟨x47, xs47, rfl, hs47⟩ := cons_of hs46
      obtain rfl := List.eq_nil_of_length_eq_zero hs47
      clear hsize hs0 hs1 hs2 hs3 hs4 hs5 hs6 hs7 hs8 hs9 hs10 hs11 hs12 hs13 hs14 hs15 hs16 hs17 hs18 hs19 hs20 hs21 hs22 hs23 hs24 hs25 hs26 hs27 hs28 hs29 hs30 hs31 hs32 hs33 hs34 hs35 hs36 hs37 hs38 hs39 hs40 hs41 hs42 hs43 hs44 hs45 hs46 hs47
      rw [show (Array.mk (x0 :: x1 :: x2 :: x3 :: x4 :: x5 :: x6 :: x7 :: x8 :: x9 :: x10 :: x11 :: x12 :: x13 :: x14 :: x15 :: x16 :: x17 :: x18 :: x19 :: x20 :: x21 :: x22 :: x23 :: x24 :: x25 :: x26 :: x27 :: x28 :: x29 :: x30 :: x31 :: x32 :: x33 :: x34 :: x35 :: x36 :: x37 :: x38 :: x39 :: x40 :: x41 :: x42 :: x43 :: x44 :: x45 :: x46 :: x47 :: []) : Array Value) = List.toArray (x0 :: x1 :: x2 :: x3 :: x4 :: x5 :: x6 :: x7 :: x8 :: x9 :: x10 :: x11 :: x12 :: x13 :: x14 :: x15 :: x16 :: x17 :: x18 :: x19 :: x20 :: x21 :: x22 :: x23 :: x24 :: x25 :: x26 :: x27 :: x28 :: x29 :: x30 :: x31 :: x32 :: x33 :: x34 :: x35 :: x36 :: x37 :: x38 :: x39 :: x40 :: x41 :: x42 :: x43 :: x44 :: x45 :: x46 :: x47 :: []) from rfl]
      change x0 = _ at e0
      subst e0
      change x1 = _ at e1
      subst e1
      change x2 = _ at e2
      subst e2
      change x3 = _ at e3
      subst e3
      change x4 = _ at e4
      subst e4
      change x5 = _ at e5
      subst e5
      change x7 = _ at e7
      subst e7
      change x8 = _ at e8
      subst e8
      change x9 = _ at e9
      subst e9
      change x10 = _ at e10
      subst e10
      change x11 = _ at e11
      subst e11
      change x12 = _ at e12
      subst e12
      change x13 = _ at e13
      subst e13
      change x14 = _ at e14
      subst e14
      change x15 = _ at e15
      subst e15
      change x16 = _ at e16
      subst e16
      change x17 = _ at e17
      subst e17
      change x18 = _ at e18
      subst e18
      change x19 = _ at e19
      subst e19
      change x20 = _ at e20
      subst e20
      change x21 = _ at e21
      subst e21
      change x22 = _ at e22
      subst e22
      change x23 = _ at e23
      subst e23
      change x24 = _ at e24
      subst e24
      change x25 = _ at e25
      subst e25
      change x26 = _ at e26
      subst e26
      change x43 = _ at e43
      subst e43
      change x44 = _ at e44
      subst e44
      change x45 = _ at e45
      subst e45
      change x46 = _ at e46
      subst e46
      change x47 = _ at e47
      subst e47
      change x6 = .pointer (some ⟨B9, 0, none⟩) at er
      subst er
      have HMR := Lib.hid MR.1
      have HGB := Lib.hid g9
      clear MR g9 hall
      have hAB9 : A ≠ B9 := by have := HGB.out; omega
      have HA2 := Lib.hid (HMR.out.at HAT.out (by simp))
      have k0 := cell_of_at T9.out 0
      have k1 := cell_of_at T9.out 1
      have k2 := cell_of_at T9.out 2
      have j0 := cell_of_at HA2.out 0
      have j1 := cell_of_at HA2.out 1
      have j2 := cell_of_at HA2.out 2
      have f0 : w2.frozen? ⟨A, 0, none⟩ = false := free_of_at HA2.out 0
      have f1 : w2.frozen? ⟨A, 1, none⟩ = false := free_of_at HA2.out 1
      have f2 : w2.frozen? ⟨A, 2, none⟩ = false := free_of_at HA2.out 2
      simp only [List.getElem?_toArray, List.getElem?_cons_zero, List.getElem?_cons_succ] at k0 k1 k2 j0 j1 j2
      have HSA := Lib.hid (at_setCell (at_setCell (at_setCell HA2.out 0 (.string (strOfNums l1))) 1 (.int .i64 pg)) 2 (.int .i64 ct))
      have HMA : Hid (Mod [A] w2 _) := ((Mod.of_setCell w2 A 0 (.string (strOfNums l1))).same (Mod.of_setCell _ A 1 (.int .i64 pg))).same (Mod.of_setCell _ A 2 (.int .i64 ct))
      go_wp2
      go_region
      have HSB := Lib.hid (HSA.out)
      have HFR : Hid (Mod [] w _) := (HM0.out.same HMR.out).trans HMA.out (fun b hb => Or.inr (by simp at hb; rw [hb]; exact Nat.le_of_eq HAE.out.symm))
      clear k0 k1 k2 j0 j1 j2 f0 f1 f2
      have k0 := cell_of_at HSA.out 0
      have k1 := cell_of_at HSA.out 1
      have k2 := cell_of_at HSA.out 2
      generalize (((w2.setCell ⟨A, 0, none⟩ (.string (strOfNums l1))).setCell ⟨A, 1, none⟩ (.int .i64 pg)).setCell ⟨A, 2, none⟩ (.int .i64 ct)) = w5 at *
      change w5.drew.cell? ⟨A, 0, none⟩ = some (.string (strOfNums l1)) at k0
      change w5.drew.cell? ⟨A, 1, none⟩ = some (.int .i64 pg) at k1
      change w5.drew.cell? ⟨A, 2, none⟩ = some (.int .i64 ct) at k2
      have HFR2 : Hid (Mod [] w w5.drew) := HFR.out.same (Mod.of_drew w5)
      clear HSA HSB HMA HA2 T9
      generalize w5.drew = w6 at *
      go_wp2
      refine bodyPost_ret (v := .tuple #[.agg #[.string (strOfNums l1), .int .i64 pg, .int .i64 ct], .slice p4 (n - E) (c - E), .bool true]) ?_ rfl ?_
      · rw [results_cell_tmps rfl]; go_simp
      · refine .mk (OneR.yes HOK.out ⟨p4, c - E, ?_, ?_, HB4.out, HFR2.out⟩)
        · rw [HRT.out, ← HEE.out, HLN.out]; rfl
        · rw [← HEE.out, HLN.out]; exact HS4.out.mod HFR2.out (by simp)
    · have HNO := Lib.hid hok
      have h9 : n < 9 + k := by
        unfold OneOk at hok; rw [hln, ← hk] at hok; omega
      obtain ⟨N, hN⟩ : ∃ N, N = 1 + k := ⟨_, rfl⟩
      obtain ⟨E, hE⟩ : ∃ E, E = 9 + k := ⟨_, rfl⟩
      have hw1 : IntKind.i64.wrap (1 + (k : Int)) = (N : Int) := by rw [IntWalk.i64_in _ (by omega)]; omega
      have hw2 : IntKind.i64.wrap ((N : Int) + 8) = (E : Int) := by rw [IntWalk.i64_in _ (by omega)]; omega
      have hw4 : IntKind.i64.wrap (k : Int) = (k : Int) := IntWalk.i64_in _ (by omega)
      have hnb : (n : Int) < (E : Int) := by omega
      have hn1 : ¬ ((n : Int) < 1) := by omega
      clear h hln hcs hk hx hN hE x0 hok
      have hi0 := fun W => Sl.idx (P := Tryd.prog) (cap := c) (m := n) (size := 1) Tryd.underlying23 sizeBytes (fun _ => rfl) W .i64 0 h0 (b := b) (off := off)
      simp only [Nat.mul_one, Nat.add_zero, show ((0 : Nat) : Int) = 0 from rfl] at hi0
      have hat := at_alloc w (.cells #[.string ⟨#[]⟩, .int .i64 0, .int .i64 0] 34)
      have HM0 : Hid (Mod [] w (w.alloc (.cells #[.string ⟨#[]⟩, .int .i64 0, .int .i64 0] 34))) := Mod.of_alloc w _
      have hd0 := (HM0.out.cell (a := ⟨b, off, none⟩) hblt (by simp)).trans d0
      have k0 := cell_of_at hat 0
      have k1 := cell_of_at hat 1
      have k2 := cell_of_at hat 2
      clear hat d0
      go_enter Tryd.func24, Tryd.ntmps24
      go_wp2
      refine bodyPost_ret (v := .tuple #[.agg #[.string ⟨#[]⟩, .int .i64 0, .int .i64 0], .slice none 0 0, .bool false]) ?_ rfl ?_
      · rw [results_cell_tmps rfl]; go_simp
      · exact .mk (OneR.no HNO.out ⟨rfl, HM0.out⟩)
end Go.Proofs.YtpdkkokgpdabhaaDoor
