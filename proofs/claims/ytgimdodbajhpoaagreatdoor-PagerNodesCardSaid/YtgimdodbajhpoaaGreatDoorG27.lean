/- A page, opened. -/
import Derived.Test.YtgimdodbajhpoaaGreatDoorG25
namespace Go.Proofs.YtgimdodbajhpoaaGreatDoor
open Go.RowKit Go.Maps
set_option linter.unusedSimpArgs false
set_option linter.unusedVariables false

def openT (V : Value) (no : Int) (B off c : Nat) (G S H : Int) (F : Bool) (i : Nat) (vs : Nat → Value) (w : World) : Prop :=
  match i with
  | 0 => vs 0 = .int .i64 no
  | 1 => vs 1 = .bool false
  | 2 => vs 2 = .bool false
  | 3 => vs 3 = .int .i64 no
  | 4 => vs 4 = .bool false
  | 5 => vs 5 = .bool false
  | 6 => vs 6 = .bool false
  | 7 => vs 7 = .slice (some ⟨B, off, none⟩) 1024 c
  | 8 => vs 8 = .int .i64 1024
  | 9 => vs 9 = .bool false
  | 10 => vs 10 = .bool false
  | 11 => vs 11 = .bool false
  | 12 => vs 12 = .slice (some ⟨B, off, none⟩) 1024 c
  | 13 => vs 13 = .slice (some ⟨B, off + 1020, none⟩) 4 (c - 1020)
  | 14 => vs 14 = .int .u32 G
  | 15 => vs 15 = .slice (some ⟨B, off, none⟩) 1024 c
  | 16 => vs 16 = .slice (some ⟨B, off, none⟩) 1020 1020
  | 17 => vs 17 = .int .u32 S
  | 18 => vs 18 = .bool true
  | 19 => vs 19 = .bool true
  | 20 => vs 20 = .bool true
  | 27 => vs 27 = .bool true
  | _ => True
def openF (V : Value) (no : Int) (B off c : Nat) (G S H : Int) (F : Bool) (i : Nat) (vs : Nat → Value) (w : World) : Prop :=
  match i with
  | 0 => vs 0 = .int .i64 no
  | 1 => vs 1 = .bool false
  | 2 => vs 2 = .bool false
  | 3 => vs 3 = .int .i64 no
  | 4 => vs 4 = .bool false
  | 5 => vs 5 = .bool false
  | 6 => vs 6 = .bool false
  | 7 => vs 7 = .slice (some ⟨B, off, none⟩) 1024 c
  | 8 => vs 8 = .int .i64 1024
  | 9 => vs 9 = .bool false
  | 10 => vs 10 = .bool false
  | 11 => vs 11 = .bool false
  | 12 => vs 12 = .slice (some ⟨B, off, none⟩) 1024 c
  | 13 => vs 13 = .slice (some ⟨B, off + 1020, none⟩) 4 (c - 1020)
  | 14 => vs 14 = .int .u32 G
  | 15 => vs 15 = .slice (some ⟨B, off, none⟩) 1024 c
  | 16 => vs 16 = .slice (some ⟨B, off, none⟩) 1020 1020
  | 17 => vs 17 = .int .u32 S
  | 18 => vs 18 = .bool false
  | 19 => vs 19 = .bool false
  | 20 => vs 20 = .bool false
  | 21 => vs 21 = .slice (some ⟨B, off, none⟩) 1024 c
  | 22 => vs 22 = .slice (some ⟨B, off + 1016, none⟩) 4 4
  | 23 => vs 23 = .int .u32 H
  | 24 => vs 24 = .int .i64 H
  | 25 => vs 25 = .int .i64 no
  | 26 => vs 26 = .bool F
  | 27 => vs 27 = .bool F
  | _ => True
/-- Is it the page of that number, and is its sum right? -/
def okPage (no : Int) (b : List Int) : Bool := !(un4 (b.drop 1020) 4 != crcv (b.take 1020)) && !(un4 ((b.drop 1016).take 4) 4 != no)
def OpenR (no : Int) (b : List Int) (w : World) (v : Value) (w' : World) : Prop :=
  if okPage no b = true then ∃ p c, v = .tuple #[.slice p 1016 c, .int .i64 0] ∧ w'.ownsRow w.heap.size 5 1 (.slice p 1016 c) 1016 (bs (b.take 1016)) ∧ Mod [] w w'
  else v = .tuple #[.slice none 0 0, .int .i64 4] ∧ Mod [] w w'
set_option maxRecDepth 100000 in
set_option maxHeartbeats 8000000 in
theorem open_any (no : Int) (p : Option Addr) (c : Nat) (b : List Int) (w : World) (h : BytesIn w p 1024 c b) (h0 : 0 ≤ no) (h1 : no ≤ 2147483647) :
    Calls Tryz.prog 38 #[.int .i64 no, .slice p 1024 c] w (Ret (OpenR no b w)) := by
  have hln := h.len
  have hcm := h.sl.capm; have hle := h.sl.le
  unfold maxLen at hcm
  have hno0 : (no < 0) = False := by simp; omega
  have hno1 : (2147483647 < no) = False := by simp; omega
  obtain ⟨B, off, rfl, hBlt, hcs⟩ := h.sl.addr (by omega)
  have rd : ∀ (W : World) (k : Nat), k ≤ 1024 → k < c → (Instr.slice 40 (.slice (some ⟨B, off, none⟩) 1024 c) (some (.int .i64 k)) none none).run Tryz.prog W = .ok (.slice (some ⟨B, off + k, none⟩) (1024 - k) (c - k)) W := fun W k hk hc => by
    rw [run_slice_l W _ _ _ _ Tryz.underlying40 .i64 k (by omega) (by omega), sizeBytes]
    simp only [Result.andThen, sliced, Int.toNat_natCast]
    rw [if_neg (by omega), Option.map_some, add_plain, Nat.mul_one]
  have r1020 := fun W => rd W 1020 (by omega) (by omega)
  have r1020h : ∀ W : World, (Instr.slice 40 (.slice (some ⟨B, off, none⟩) 1024 c) none (some (.int .i64 1020)) (some (.int .i64 1020))).run Tryz.prog W = .ok (.slice (some ⟨B, off, none⟩) 1020 1020) W := fun W => by
    rw [run_slice_hm W _ _ _ _ Tryz.underlying40 .i64 .i64 1020 1020 (by omega) (by omega) (by omega), sizeBytes]; simp [Result.andThen, sliced, Addr.add]
  have r1016h : ∀ W : World, (Instr.slice 40 (.slice (some ⟨B, off, none⟩) 1024 c) none (some (.int .i64 1016)) (some (.int .i64 1016))).run Tryz.prog W = .ok (.slice (some ⟨B, off, none⟩) 1016 1016) W := fun W => by
    rw [run_slice_hm W _ _ _ _ Tryz.underlying40 .i64 .i64 1016 1016 (by omega) (by omega) (by omega), sizeBytes]; simp [Result.andThen, sliced, Addr.add]
  have r1016 : ∀ W : World, (Instr.slice 40 (.slice (some ⟨B, off, none⟩) 1024 c) (some (.int .i64 1016)) (some (.int .i64 1020)) (some (.int .i64 1020))).run Tryz.prog W = .ok (.slice (some ⟨B, off + 1016, none⟩) 4 4) W := fun W => by
    rw [run_slice_lhm W _ _ _ _ Tryz.underlying40 .i64 .i64 .i64 1016 1020 1020 (by omega) (by omega) (by omega) (by omega), sizeBytes]; simp [Result.andThen, sliced, Addr.add]
  simp only [show ((1020 : Nat) : Int) = 1020 from rfl] at r1020
  have hsub : ∀ k m c', k + m ≤ 1024 → m ≤ c' → c' ≤ maxLen → BytesIn w (some ⟨B, off + k, none⟩) m c' ((b.drop k).take m) := fun k m c' hkm hmc hcl =>
    ⟨⟨by rw [bs_len, List.length_take, List.length_drop, hln]; omega, hmc, hcl, bs_one _, B, off + k, fun _ => ⟨rfl, hBlt⟩, fun j u hj => by
      have hj2 := (List.getElem?_eq_some_iff.1 hj).1
      rw [bs_len, List.length_take, List.length_drop, hln] at hj2
      rw [Nat.add_assoc]
      apply hcs
      simp only [bs, List.getElem?_map, List.getElem?_take, List.getElem?_drop] at hj ⊢
      rw [if_pos (by omega)] at hj
      exact hj⟩, fun x hx => h.wf x (List.mem_of_mem_drop (List.mem_of_mem_take hx))⟩
  have HG : Hid (BytesIn w (some ⟨B, off + 1020, none⟩) 4 (c - 1020) (b.drop 1020)) := by
    have := hsub 1020 4 (c - 1020) (by omega) (by omega) (by unfold maxLen; omega)
    rwa [List.take_of_length_le (by rw [List.length_drop, hln]; omega)] at this
  have HS : Hid (BytesIn w (some ⟨B, off, none⟩) 1020 1020 (b.take 1020)) := by
    have := hsub 0 1020 1020 (by omega) (by omega) (by simp [maxLen])
    unfold Hid; simpa using this
  have HH : Hid (BytesIn w (some ⟨B, off + 1016, none⟩) 4 4 ((b.drop 1016).take 4)) := hsub 1016 4 4 (by omega) (by omega) (by simp [maxLen])
  have HP : Hid (BytesIn w (some ⟨B, off, none⟩) 1016 1016 (b.take 1016)) := by
    have := hsub 0 1016 1016 (by omega) (by omega) (by simp [maxLen])
    unfold Hid; simpa using this
  have HR : Hid (∀ v w', OpenR no b w v w' ↔ if (!(un4 (b.drop 1020) 4 != crcv (b.take 1020)) && !(un4 ((b.drop 1016).take 4) 4 != no)) = true then (∃ p c, v = .tuple #[.slice p 1016 c, .int .i64 0] ∧ w'.ownsRow w.heap.size 5 1 (.slice p 1016 c) 1016 (bs (b.take 1016)) ∧ Mod [] w w') else (v = .tuple #[.slice none 0 0, .int .i64 4] ∧ Mod [] w w')) := fun v w' => Iff.rfl
  have hgr := un4_range (l := b.drop 1020) (fun x hx => h.wf x (List.mem_of_mem_drop hx)) 4
  have hhr := un4_range (l := (b.drop 1016).take 4) (fun x hx => h.wf x (List.mem_of_mem_drop (List.mem_of_mem_take hx))) 4
  have hsr := crcv_range (b.take 1020)
  obtain ⟨G, hG⟩ : ∃ G, G = un4 (b.drop 1020) 4 := ⟨_, rfl⟩
  obtain ⟨S, hS⟩ : ∃ S, S = crcv (b.take 1020) := ⟨_, rfl⟩
  obtain ⟨H, hH⟩ : ∃ H, H = un4 ((b.drop 1016).take 4) 4 := ⟨_, rfl⟩
  rw [← hG, ← hS, ← hH] at HR
  rw [← hG] at hgr
  rw [← hS] at hsr
  rw [← hH] at hhr
  have gr : 0 ≤ G ∧ G < 4294967296 := hgr
  have hr : 0 ≤ H ∧ H < 4294967296 := hhr
  have hwH : IntKind.i64.wrap H = H := IntWalk.i64_in _ (by omega)
  have HGv := Lib.hid hG
  have HSv := Lib.hid hS
  have HHv := Lib.hid hH
  clear hG hS hH hgr hhr hsub rd hcs h hln
  obtain ⟨E, hE⟩ : ∃ E, E = (G != S) := ⟨_, rfl⟩
  obtain ⟨F, hF⟩ : ∃ F, F = (H != no) := ⟨_, rfl⟩
  have hEE : (G != S) = E := hE.symm
  have hFF : (H != no) = F := hF.symm
  rw [hEE, hFF] at HR
  clear hE hF
  go_enter Tryz.func38, Tryz.ntmps38
  cases E with
  | true =>
      go_wp2
      refine par_region (by kernel_rfl) (openT (.slice (some ⟨B, off, none⟩) 1024 c) no B off c G S H F) (fun w' => Mod [] w w') (by kernel_rfl) ?_ ⟨⟨⟨⟨⟨⟨⟨⟨⟨⟨⟨⟨⟨⟨⟨⟨⟨⟨⟨⟨⟨⟨⟨⟨⟨⟨⟨⟨trivial, ?_⟩, ?_⟩, ?_⟩, ?_⟩, ?_⟩, ?_⟩, ?_⟩, ?_⟩, ?_⟩, ?_⟩, ?_⟩, ?_⟩, ?_⟩, ?_⟩, ?_⟩, ?_⟩, ?_⟩, ?_⟩, ?_⟩, ?_⟩, ?_⟩, ?_⟩, ?_⟩, ?_⟩, ?_⟩, ?_⟩, ?_⟩, ?_⟩ (Mod.of_drew w) ?_
      · intro j vs vs' w o ho h1 h2 h3
        unfold openT at h3 ⊢
        split at h3
        all_goals first
          | exact trivial
          | (rw [← h1]; exact h3)
      · -- 0
        intro o ho listed vs a w' inv hun haft K hK
        obtain rfl := Option.some.inj ho
        have e0 := inv.old 0 (by kernel_rfl)
        have INV := Lib.hid inv
        clear inv haft hun ho
        simp at e0
        refine par_run rfl ?_
        go_simp
        exact hK _ _ INV.out.inv INV.out.val rfl
      · -- 1
        intro o ho listed vs a w' inv hun haft K hK
        obtain rfl := Option.some.inj ho
        obtain ⟨e6, r6⟩ := inv.get haft 0 6 (by kernel_rfl) (by kernel_rfl)
        have INV := Lib.hid inv
        clear inv haft hun ho
        change vs 0 = .int .i64 no at r6
        rw [r6] at e6
        refine par_run rfl ?_
        go_simp
        exact hK _ _ INV.out.inv INV.out.val rfl
      · -- 2
        intro o ho listed vs a w' inv hun haft K hK
        obtain rfl := Option.some.inj ho
        obtain ⟨e7, r7⟩ := inv.get haft 1 7 (by kernel_rfl) (by kernel_rfl)
        have INV := Lib.hid inv
        clear inv haft hun ho
        change vs 1 = .bool false at r7
        rw [r7] at e7
        refine par_run rfl ?_
        go_simp
        exact hK _ _ INV.out.inv INV.out.val rfl
      · -- 3
        intro o ho listed vs a w' inv hun haft K hK
        obtain rfl := Option.some.inj ho
        obtain ⟨e8, r8⟩ := inv.get haft 2 8 (by kernel_rfl) (by kernel_rfl)
        have e0 := inv.old 0 (by kernel_rfl)
        have INV := Lib.hid inv
        clear inv haft hun ho
        change vs 2 = .bool false at r8
        rw [r8] at e8
        simp at e0
        refine par_guard rfl (by kernel_rfl) e8 ?_
        rw [if_pos rfl]
        go_simp
        exact hK _ _ INV.out.inv INV.out.val rfl
      · -- 4
        intro o ho listed vs a w' inv hun haft K hK
        obtain rfl := Option.some.inj ho
        obtain ⟨e9, r9⟩ := inv.get haft 3 9 (by kernel_rfl) (by kernel_rfl)
        obtain ⟨e8, r8⟩ := inv.get haft 2 8 (by kernel_rfl) (by kernel_rfl)
        have INV := Lib.hid inv
        clear inv haft hun ho
        change vs 3 = .int .i64 no at r9
        rw [r9] at e9
        change vs 2 = .bool false at r8
        rw [r8] at e8
        refine par_guard rfl (by kernel_rfl) e8 ?_
        rw [if_pos rfl]
        go_simp
        exact hK _ _ INV.out.inv INV.out.val rfl
      · -- 5
        intro o ho listed vs a w' inv hun haft K hK
        obtain rfl := Option.some.inj ho
        obtain ⟨e8, r8⟩ := inv.get haft 2 8 (by kernel_rfl) (by kernel_rfl)
        obtain ⟨e10, r10⟩ := inv.get haft 4 10 (by kernel_rfl) (by kernel_rfl)
        have INV := Lib.hid inv
        clear inv haft hun ho
        change vs 2 = .bool false at r8
        rw [r8] at e8
        change vs 4 = .bool false at r10
        rw [r10] at e10
        refine par_run rfl ?_
        replace e8 := getD_opt e8
        replace e10 := getD_opt e10
        go_simp
        exact hK _ _ INV.out.inv INV.out.val rfl
      · -- 6
        intro o ho listed vs a w' inv hun haft K hK
        obtain rfl := Option.some.inj ho
        obtain ⟨e11, r11⟩ := inv.get haft 5 11 (by kernel_rfl) (by kernel_rfl)
        have INV := Lib.hid inv
        clear inv haft hun ho
        change vs 5 = .bool false at r11
        rw [r11] at e11
        refine par_run rfl ?_
        go_simp
        exact hK _ _ INV.out.inv INV.out.val rfl
      · -- 7
        intro o ho listed vs a w' inv hun haft K hK
        obtain rfl := Option.some.inj ho
        obtain ⟨e12, r12⟩ := inv.get haft 6 12 (by kernel_rfl) (by kernel_rfl)
        have e1 := inv.old 1 (by kernel_rfl)
        have INV := Lib.hid inv
        clear inv haft hun ho
        change vs 6 = .bool false at r12
        rw [r12] at e12
        simp at e1
        refine par_guard rfl (by kernel_rfl) e12 ?_
        rw [if_pos rfl]
        go_simp
        exact hK _ _ INV.out.inv INV.out.val rfl
      · -- 8
        intro o ho listed vs a w' inv hun haft K hK
        obtain rfl := Option.some.inj ho
        obtain ⟨e13, r13⟩ := inv.get haft 7 13 (by kernel_rfl) (by kernel_rfl)
        obtain ⟨e12, r12⟩ := inv.get haft 6 12 (by kernel_rfl) (by kernel_rfl)
        have INV := Lib.hid inv
        clear inv haft hun ho
        change vs 7 = .slice (some ⟨B, off, none⟩) 1024 c at r13
        rw [r13] at e13
        change vs 6 = .bool false at r12
        rw [r12] at e12
        refine par_guard rfl (by kernel_rfl) e12 ?_
        rw [if_pos rfl]
        go_simp
        exact hK _ _ INV.out.inv INV.out.val rfl
      · -- 9
        intro o ho listed vs a w' inv hun haft K hK
        obtain rfl := Option.some.inj ho
        obtain ⟨e14, r14⟩ := inv.get haft 8 14 (by kernel_rfl) (by kernel_rfl)
        obtain ⟨e12, r12⟩ := inv.get haft 6 12 (by kernel_rfl) (by kernel_rfl)
        have INV := Lib.hid inv
        clear inv haft hun ho
        change vs 8 = .int .i64 1024 at r14
        rw [r14] at e14
        change vs 6 = .bool false at r12
        rw [r12] at e12
        refine par_guard rfl (by kernel_rfl) e12 ?_
        rw [if_pos rfl]
        go_simp
        exact hK _ _ INV.out.inv INV.out.val rfl
      · -- 10
        intro o ho listed vs a w' inv hun haft K hK
        obtain rfl := Option.some.inj ho
        obtain ⟨e12, r12⟩ := inv.get haft 6 12 (by kernel_rfl) (by kernel_rfl)
        obtain ⟨e15, r15⟩ := inv.get haft 9 15 (by kernel_rfl) (by kernel_rfl)
        have INV := Lib.hid inv
        clear inv haft hun ho
        change vs 6 = .bool false at r12
        rw [r12] at e12
        change vs 9 = .bool false at r15
        rw [r15] at e15
        refine par_run rfl ?_
        replace e12 := getD_opt e12
        replace e15 := getD_opt e15
        go_simp
        exact hK _ _ INV.out.inv INV.out.val rfl
      · -- 11
        intro o ho listed vs a w' inv hun haft K hK
        obtain rfl := Option.some.inj ho
        obtain ⟨e16, r16⟩ := inv.get haft 10 16 (by kernel_rfl) (by kernel_rfl)
        have INV := Lib.hid inv
        clear inv haft hun ho
        change vs 10 = .bool false at r16
        rw [r16] at e16
        refine par_run rfl ?_
        go_simp
        exact hK _ _ INV.out.inv INV.out.val rfl
      · -- 12
        intro o ho listed vs a w' inv hun haft K hK
        obtain rfl := Option.some.inj ho
        obtain ⟨e17, r17⟩ := inv.get haft 11 17 (by kernel_rfl) (by kernel_rfl)
        have e1 := inv.old 1 (by kernel_rfl)
        have INV := Lib.hid inv
        clear inv haft hun ho
        change vs 11 = .bool false at r17
        rw [r17] at e17
        simp at e1
        refine par_guard rfl (by kernel_rfl) e17 ?_
        rw [if_pos rfl]
        go_simp
        exact hK _ _ INV.out.inv INV.out.val rfl
      · -- 13
        intro o ho listed vs a w' inv hun haft K hK
        obtain rfl := Option.some.inj ho
        obtain ⟨e18, r18⟩ := inv.get haft 12 18 (by kernel_rfl) (by kernel_rfl)
        obtain ⟨e17, r17⟩ := inv.get haft 11 17 (by kernel_rfl) (by kernel_rfl)
        have INV := Lib.hid inv
        clear inv haft hun ho
        change vs 12 = .slice (some ⟨B, off, none⟩) 1024 c at r18
        rw [r18] at e18
        change vs 11 = .bool false at r17
        rw [r17] at e17
        refine par_guard rfl (by kernel_rfl) e17 ?_
        rw [if_pos rfl]
        go_simp
        exact hK _ _ INV.out.inv INV.out.val rfl
      · -- 14
        intro o ho listed vs a w' inv hun haft K hK
        obtain rfl := Option.some.inj ho
        obtain ⟨e19, r19⟩ := inv.get haft 13 19 (by kernel_rfl) (by kernel_rfl)
        obtain ⟨e17, r17⟩ := inv.get haft 11 17 (by kernel_rfl) (by kernel_rfl)
        have INV := Lib.hid inv
        clear inv haft hun ho
        change vs 13 = .slice (some ⟨B, off + 1020, none⟩) 4 (c - 1020) at r19
        rw [r19] at e19
        change vs 11 = .bool false at r17
        rw [r17] at e17
        refine par_guard rfl (by kernel_rfl) e17 ?_
        rw [if_pos rfl]
        go_simp
        refine (get32_any _ _ _ _ _ (HG.out.mod INV.out.inv (by simp)) (by omega)).mono ?_
        rintro _ w3 ⟨_, rfl, rfl, m3⟩
        rw [← HGv.out]
        exact hK _ _ (INV.out.inv.same m3) INV.out.val rfl
      · -- 15
        intro o ho listed vs a w' inv hun haft K hK
        obtain rfl := Option.some.inj ho
        obtain ⟨e17, r17⟩ := inv.get haft 11 17 (by kernel_rfl) (by kernel_rfl)
        have e1 := inv.old 1 (by kernel_rfl)
        have INV := Lib.hid inv
        clear inv haft hun ho
        change vs 11 = .bool false at r17
        rw [r17] at e17
        simp at e1
        refine par_guard rfl (by kernel_rfl) e17 ?_
        rw [if_pos rfl]
        go_simp
        exact hK _ _ INV.out.inv INV.out.val rfl
      · -- 16
        intro o ho listed vs a w' inv hun haft K hK
        obtain rfl := Option.some.inj ho
        obtain ⟨e21, r21⟩ := inv.get haft 15 21 (by kernel_rfl) (by kernel_rfl)
        obtain ⟨e17, r17⟩ := inv.get haft 11 17 (by kernel_rfl) (by kernel_rfl)
        have INV := Lib.hid inv
        clear inv haft hun ho
        change vs 15 = .slice (some ⟨B, off, none⟩) 1024 c at r21
        rw [r21] at e21
        change vs 11 = .bool false at r17
        rw [r17] at e17
        refine par_guard rfl (by kernel_rfl) e17 ?_
        rw [if_pos rfl]
        go_simp
        exact hK _ _ INV.out.inv INV.out.val rfl
      · -- 17
        intro o ho listed vs a w' inv hun haft K hK
        obtain rfl := Option.some.inj ho
        obtain ⟨e22, r22⟩ := inv.get haft 16 22 (by kernel_rfl) (by kernel_rfl)
        obtain ⟨e17, r17⟩ := inv.get haft 11 17 (by kernel_rfl) (by kernel_rfl)
        have INV := Lib.hid inv
        clear inv haft hun ho
        change vs 16 = .slice (some ⟨B, off, none⟩) 1020 1020 at r22
        rw [r22] at e22
        change vs 11 = .bool false at r17
        rw [r17] at e17
        refine par_guard rfl (by kernel_rfl) e17 ?_
        rw [if_pos rfl]
        go_simp
        refine (sum_any _ _ _ _ _ (HS.out.mod INV.out.inv (by simp))).mono ?_
        rintro _ w3 ⟨_, rfl, rfl, m3⟩
        rw [← HSv.out]
        exact hK _ _ (INV.out.inv.same m3) INV.out.val rfl
      · -- 18
        intro o ho listed vs a w' inv hun haft K hK
        obtain rfl := Option.some.inj ho
        obtain ⟨e20, r20⟩ := inv.get haft 14 20 (by kernel_rfl) (by kernel_rfl)
        obtain ⟨e23, r23⟩ := inv.get haft 17 23 (by kernel_rfl) (by kernel_rfl)
        obtain ⟨e17, r17⟩ := inv.get haft 11 17 (by kernel_rfl) (by kernel_rfl)
        have INV := Lib.hid inv
        clear inv haft hun ho
        change vs 14 = .int .u32 G at r20
        rw [r20] at e20
        change vs 17 = .int .u32 S at r23
        rw [r23] at e23
        change vs 11 = .bool false at r17
        rw [r17] at e17
        refine par_guard rfl (by kernel_rfl) e17 ?_
        rw [if_pos rfl]
        go_simp
        exact hK _ _ INV.out.inv INV.out.val rfl
      · -- 19
        intro o ho listed vs a w' inv hun haft K hK
        obtain rfl := Option.some.inj ho
        obtain ⟨e17, r17⟩ := inv.get haft 11 17 (by kernel_rfl) (by kernel_rfl)
        obtain ⟨e24, r24⟩ := inv.get haft 18 24 (by kernel_rfl) (by kernel_rfl)
        have INV := Lib.hid inv
        clear inv haft hun ho
        change vs 11 = .bool false at r17
        rw [r17] at e17
        change vs 18 = .bool true at r24
        rw [r24] at e24
        refine par_run rfl ?_
        replace e17 := getD_opt e17
        replace e24 := getD_opt e24
        go_simp
        exact hK _ _ INV.out.inv INV.out.val rfl
      · -- 20
        intro o ho listed vs a w' inv hun haft K hK
        obtain rfl := Option.some.inj ho
        obtain ⟨e25, r25⟩ := inv.get haft 19 25 (by kernel_rfl) (by kernel_rfl)
        have INV := Lib.hid inv
        clear inv haft hun ho
        change vs 19 = .bool true at r25
        rw [r25] at e25
        refine par_run rfl ?_
        go_simp
        exact hK _ _ INV.out.inv INV.out.val rfl
      · -- 21
        intro o ho listed vs a w' inv hun haft K hK
        obtain rfl := Option.some.inj ho
        obtain ⟨e26, r26⟩ := inv.get haft 20 26 (by kernel_rfl) (by kernel_rfl)
        have e1 := inv.old 1 (by kernel_rfl)
        have INV := Lib.hid inv
        clear inv haft hun ho
        change vs 20 = .bool true at r26
        rw [r26] at e26
        simp at e1
        refine par_guard rfl (by kernel_rfl) e26 ?_
        rw [if_neg (by decide)]
        exact hK _ _ INV.out.inv INV.out.val trivial
      · -- 22
        intro o ho listed vs a w' inv hun haft K hK
        obtain rfl := Option.some.inj ho
        obtain ⟨e26, r26⟩ := inv.get haft 20 26 (by kernel_rfl) (by kernel_rfl)
        have INV := Lib.hid inv
        clear inv haft hun ho
        change vs 20 = .bool true at r26
        rw [r26] at e26
        refine par_guard rfl (by kernel_rfl) e26 ?_
        rw [if_neg (by decide)]
        exact hK _ _ INV.out.inv INV.out.val trivial
      · -- 23
        intro o ho listed vs a w' inv hun haft K hK
        obtain rfl := Option.some.inj ho
        obtain ⟨e26, r26⟩ := inv.get haft 20 26 (by kernel_rfl) (by kernel_rfl)
        have INV := Lib.hid inv
        clear inv haft hun ho
        change vs 20 = .bool true at r26
        rw [r26] at e26
        refine par_guard rfl (by kernel_rfl) e26 ?_
        rw [if_neg (by decide)]
        exact hK _ _ INV.out.inv INV.out.val trivial
      · -- 24
        intro o ho listed vs a w' inv hun haft K hK
        obtain rfl := Option.some.inj ho
        obtain ⟨e26, r26⟩ := inv.get haft 20 26 (by kernel_rfl) (by kernel_rfl)
        have INV := Lib.hid inv
        clear inv haft hun ho
        change vs 20 = .bool true at r26
        rw [r26] at e26
        refine par_guard rfl (by kernel_rfl) e26 ?_
        rw [if_neg (by decide)]
        exact hK _ _ INV.out.inv INV.out.val trivial
      · -- 25
        intro o ho listed vs a w' inv hun haft K hK
        obtain rfl := Option.some.inj ho
        obtain ⟨e26, r26⟩ := inv.get haft 20 26 (by kernel_rfl) (by kernel_rfl)
        have e0 := inv.old 0 (by kernel_rfl)
        have INV := Lib.hid inv
        clear inv haft hun ho
        change vs 20 = .bool true at r26
        rw [r26] at e26
        simp at e0
        refine par_guard rfl (by kernel_rfl) e26 ?_
        rw [if_neg (by decide)]
        exact hK _ _ INV.out.inv INV.out.val trivial
      · -- 26
        intro o ho listed vs a w' inv hun haft K hK
        obtain rfl := Option.some.inj ho
        obtain ⟨e26, r26⟩ := inv.get haft 20 26 (by kernel_rfl) (by kernel_rfl)
        have INV := Lib.hid inv
        clear inv haft hun ho
        change vs 20 = .bool true at r26
        rw [r26] at e26
        refine par_guard rfl (by kernel_rfl) e26 ?_
        rw [if_neg (by decide)]
        exact hK _ _ INV.out.inv INV.out.val trivial
      · -- 27
        intro o ho listed vs a w' inv hun haft K hK
        obtain rfl := Option.some.inj ho
        obtain ⟨e26, r26⟩ := inv.get haft 20 26 (by kernel_rfl) (by kernel_rfl)
        have INV := Lib.hid inv
        clear inv haft hun ho
        change vs 20 = .bool true at r26
        rw [r26] at e26
        refine par_run rfl ?_
        replace e26 := getD_opt e26
        go_simp
        exact hK _ _ INV.out.inv INV.out.val rfl
      · intro vs w2 X hm hr hslot hold hsize hdef
        have e33 := hslot 27 33 (by kernel_rfl)
        have r33 : vs 27 = .bool true := hr 27 (by decide)
        rw [r33] at e33
        have e0 := hold 0 (by kernel_rfl)
        have e1 := hold 1 (by kernel_rfl)
        have e34 := hold 34 (by kernel_rfl)
        have e35 := hold 35 (by kernel_rfl)
        have e36 := hold 36 (by kernel_rfl)
        clear hr hslot hold
        obtain ⟨⟨xs⟩, df⟩ := X
        replace hdef : df = [] := hdef
        subst hdef
        replace hsize : xs.length = 37 := hsize
        obtain ⟨v0, xs0, rfl, hs0⟩ := cons_of hsize
        obtain ⟨v1, xs1, rfl, hs1⟩ := cons_of hs0
        obtain ⟨v2, xs2, rfl, hs2⟩ := cons_of hs1
        obtain ⟨v3, xs3, rfl, hs3⟩ := cons_of hs2
        obtain ⟨v4, xs4, rfl, hs4⟩ := cons_of hs3
        obtain ⟨v5, xs5, rfl, hs5⟩ := cons_of hs4
        obtain ⟨v6, xs6, rfl, hs6⟩ := cons_of hs5
        obtain ⟨v7, xs7, rfl, hs7⟩ := cons_of hs6
        obtain ⟨v8, xs8, rfl, hs8⟩ := cons_of hs7
        obtain ⟨v9, xs9, rfl, hs9⟩ := cons_of hs8
        obtain ⟨v10, xs10, rfl, hs10⟩ := cons_of hs9
        obtain ⟨v11, xs11, rfl, hs11⟩ := cons_of hs10
        obtain ⟨v12, xs12, rfl, hs12⟩ := cons_of hs11
        obtain ⟨v13, xs13, rfl, hs13⟩ := cons_of hs12
        obtain ⟨v14, xs14, rfl, hs14⟩ := cons_of hs13
        obtain ⟨v15, xs15, rfl, hs15⟩ := cons_of hs14
        obtain ⟨v16, xs16, rfl, hs16⟩ := cons_of hs15
        obtain ⟨v17, xs17, rfl, hs17⟩ := cons_of hs16
        obtain ⟨v18, xs18, rfl, hs18⟩ := cons_of hs17
        obtain ⟨v19, xs19, rfl, hs19⟩ := cons_of hs18
        obtain ⟨v20, xs20, rfl, hs20⟩ := cons_of hs19
        obtain ⟨v21, xs21, rfl, hs21⟩ := cons_of hs20
        obtain ⟨v22, xs22, rfl, hs22⟩ := cons_of hs21
        obtain ⟨v23, xs23, rfl, hs23⟩ := cons_of hs22
        obtain ⟨v24, xs24, rfl, hs24⟩ := cons_of hs23
        obtain ⟨v25, xs25, rfl, hs25⟩ := cons_of hs24
        obtain ⟨v26, xs26, rfl, hs26⟩ := cons_of hs25
        obtain ⟨v27, xs27, rfl, hs27⟩ := cons_of hs26
        obtain ⟨v28, xs28, rfl, hs28⟩ := cons_of hs27
        obtain ⟨v29, xs29, rfl, hs29⟩ := cons_of hs28
        obtain ⟨v30, xs30, rfl, hs30⟩ := cons_of hs29
        obtain ⟨v31, xs31, rfl, hs31⟩ := cons_of hs30
        obtain ⟨v32, xs32, rfl, hs32⟩ := cons_of hs31
        obtain ⟨v33, xs33, rfl, hs33⟩ := cons_of hs32
        obtain ⟨v34, xs34, rfl, hs34⟩ := cons_of hs33
        obtain ⟨v35, xs35, rfl, hs35⟩ := cons_of hs34
        obtain ⟨v36, xs36, rfl, hs36⟩ := cons_of hs35
        obtain rfl := List.eq_nil_of_length_eq_zero hs36
        clear hsize hs0 hs1 hs2 hs3 hs4 hs5 hs6 hs7 hs8 hs9 hs10 hs11 hs12 hs13 hs14 hs15 hs16 hs17 hs18 hs19 hs20 hs21 hs22 hs23 hs24 hs25 hs26 hs27 hs28 hs29 hs30 hs31 hs32 hs33 hs34 hs35 hs36
        change v0 = .int .i64 no at e0
        change v1 = .slice (some ⟨B, off, none⟩) 1024 c at e1
        change v33 = _ at e33
        change v34 = undef at e34
        change v35 = undef at e35
        change v36 = undef at e36
        subst e0 e1 e33 e34 e35 e36
        have HM2 : Hid (Mod [] w w2) := hm
        clear hm
        go_wp2
        go_ret2
        exact .mk ((HR.out _ _).2 (by rw [if_neg (by simp)]; exact ⟨rfl, HM2.out⟩))
  | false =>
      go_wp2
      refine par_region (by kernel_rfl) (openF (.slice (some ⟨B, off, none⟩) 1024 c) no B off c G S H F) (fun w' => Mod [] w w') (by kernel_rfl) ?_ ⟨⟨⟨⟨⟨⟨⟨⟨⟨⟨⟨⟨⟨⟨⟨⟨⟨⟨⟨⟨⟨⟨⟨⟨⟨⟨⟨⟨trivial, ?_⟩, ?_⟩, ?_⟩, ?_⟩, ?_⟩, ?_⟩, ?_⟩, ?_⟩, ?_⟩, ?_⟩, ?_⟩, ?_⟩, ?_⟩, ?_⟩, ?_⟩, ?_⟩, ?_⟩, ?_⟩, ?_⟩, ?_⟩, ?_⟩, ?_⟩, ?_⟩, ?_⟩, ?_⟩, ?_⟩, ?_⟩, ?_⟩ (Mod.of_drew w) ?_
      · intro j vs vs' w o ho h1 h2 h3
        unfold openF at h3 ⊢
        split at h3
        all_goals first
          | exact trivial
          | (rw [← h1]; exact h3)
      · -- 0
        intro o ho listed vs a w' inv hun haft K hK
        obtain rfl := Option.some.inj ho
        have e0 := inv.old 0 (by kernel_rfl)
        have INV := Lib.hid inv
        clear inv haft hun ho
        simp at e0
        refine par_run rfl ?_
        go_simp
        exact hK _ _ INV.out.inv INV.out.val rfl
      · -- 1
        intro o ho listed vs a w' inv hun haft K hK
        obtain rfl := Option.some.inj ho
        obtain ⟨e6, r6⟩ := inv.get haft 0 6 (by kernel_rfl) (by kernel_rfl)
        have INV := Lib.hid inv
        clear inv haft hun ho
        change vs 0 = .int .i64 no at r6
        rw [r6] at e6
        refine par_run rfl ?_
        go_simp
        exact hK _ _ INV.out.inv INV.out.val rfl
      · -- 2
        intro o ho listed vs a w' inv hun haft K hK
        obtain rfl := Option.some.inj ho
        obtain ⟨e7, r7⟩ := inv.get haft 1 7 (by kernel_rfl) (by kernel_rfl)
        have INV := Lib.hid inv
        clear inv haft hun ho
        change vs 1 = .bool false at r7
        rw [r7] at e7
        refine par_run rfl ?_
        go_simp
        exact hK _ _ INV.out.inv INV.out.val rfl
      · -- 3
        intro o ho listed vs a w' inv hun haft K hK
        obtain rfl := Option.some.inj ho
        obtain ⟨e8, r8⟩ := inv.get haft 2 8 (by kernel_rfl) (by kernel_rfl)
        have e0 := inv.old 0 (by kernel_rfl)
        have INV := Lib.hid inv
        clear inv haft hun ho
        change vs 2 = .bool false at r8
        rw [r8] at e8
        simp at e0
        refine par_guard rfl (by kernel_rfl) e8 ?_
        rw [if_pos rfl]
        go_simp
        exact hK _ _ INV.out.inv INV.out.val rfl
      · -- 4
        intro o ho listed vs a w' inv hun haft K hK
        obtain rfl := Option.some.inj ho
        obtain ⟨e9, r9⟩ := inv.get haft 3 9 (by kernel_rfl) (by kernel_rfl)
        obtain ⟨e8, r8⟩ := inv.get haft 2 8 (by kernel_rfl) (by kernel_rfl)
        have INV := Lib.hid inv
        clear inv haft hun ho
        change vs 3 = .int .i64 no at r9
        rw [r9] at e9
        change vs 2 = .bool false at r8
        rw [r8] at e8
        refine par_guard rfl (by kernel_rfl) e8 ?_
        rw [if_pos rfl]
        go_simp
        exact hK _ _ INV.out.inv INV.out.val rfl
      · -- 5
        intro o ho listed vs a w' inv hun haft K hK
        obtain rfl := Option.some.inj ho
        obtain ⟨e8, r8⟩ := inv.get haft 2 8 (by kernel_rfl) (by kernel_rfl)
        obtain ⟨e10, r10⟩ := inv.get haft 4 10 (by kernel_rfl) (by kernel_rfl)
        have INV := Lib.hid inv
        clear inv haft hun ho
        change vs 2 = .bool false at r8
        rw [r8] at e8
        change vs 4 = .bool false at r10
        rw [r10] at e10
        refine par_run rfl ?_
        replace e8 := getD_opt e8
        replace e10 := getD_opt e10
        go_simp
        exact hK _ _ INV.out.inv INV.out.val rfl
      · -- 6
        intro o ho listed vs a w' inv hun haft K hK
        obtain rfl := Option.some.inj ho
        obtain ⟨e11, r11⟩ := inv.get haft 5 11 (by kernel_rfl) (by kernel_rfl)
        have INV := Lib.hid inv
        clear inv haft hun ho
        change vs 5 = .bool false at r11
        rw [r11] at e11
        refine par_run rfl ?_
        go_simp
        exact hK _ _ INV.out.inv INV.out.val rfl
      · -- 7
        intro o ho listed vs a w' inv hun haft K hK
        obtain rfl := Option.some.inj ho
        obtain ⟨e12, r12⟩ := inv.get haft 6 12 (by kernel_rfl) (by kernel_rfl)
        have e1 := inv.old 1 (by kernel_rfl)
        have INV := Lib.hid inv
        clear inv haft hun ho
        change vs 6 = .bool false at r12
        rw [r12] at e12
        simp at e1
        refine par_guard rfl (by kernel_rfl) e12 ?_
        rw [if_pos rfl]
        go_simp
        exact hK _ _ INV.out.inv INV.out.val rfl
      · -- 8
        intro o ho listed vs a w' inv hun haft K hK
        obtain rfl := Option.some.inj ho
        obtain ⟨e13, r13⟩ := inv.get haft 7 13 (by kernel_rfl) (by kernel_rfl)
        obtain ⟨e12, r12⟩ := inv.get haft 6 12 (by kernel_rfl) (by kernel_rfl)
        have INV := Lib.hid inv
        clear inv haft hun ho
        change vs 7 = .slice (some ⟨B, off, none⟩) 1024 c at r13
        rw [r13] at e13
        change vs 6 = .bool false at r12
        rw [r12] at e12
        refine par_guard rfl (by kernel_rfl) e12 ?_
        rw [if_pos rfl]
        go_simp
        exact hK _ _ INV.out.inv INV.out.val rfl
      · -- 9
        intro o ho listed vs a w' inv hun haft K hK
        obtain rfl := Option.some.inj ho
        obtain ⟨e14, r14⟩ := inv.get haft 8 14 (by kernel_rfl) (by kernel_rfl)
        obtain ⟨e12, r12⟩ := inv.get haft 6 12 (by kernel_rfl) (by kernel_rfl)
        have INV := Lib.hid inv
        clear inv haft hun ho
        change vs 8 = .int .i64 1024 at r14
        rw [r14] at e14
        change vs 6 = .bool false at r12
        rw [r12] at e12
        refine par_guard rfl (by kernel_rfl) e12 ?_
        rw [if_pos rfl]
        go_simp
        exact hK _ _ INV.out.inv INV.out.val rfl
      · -- 10
        intro o ho listed vs a w' inv hun haft K hK
        obtain rfl := Option.some.inj ho
        obtain ⟨e12, r12⟩ := inv.get haft 6 12 (by kernel_rfl) (by kernel_rfl)
        obtain ⟨e15, r15⟩ := inv.get haft 9 15 (by kernel_rfl) (by kernel_rfl)
        have INV := Lib.hid inv
        clear inv haft hun ho
        change vs 6 = .bool false at r12
        rw [r12] at e12
        change vs 9 = .bool false at r15
        rw [r15] at e15
        refine par_run rfl ?_
        replace e12 := getD_opt e12
        replace e15 := getD_opt e15
        go_simp
        exact hK _ _ INV.out.inv INV.out.val rfl
      · -- 11
        intro o ho listed vs a w' inv hun haft K hK
        obtain rfl := Option.some.inj ho
        obtain ⟨e16, r16⟩ := inv.get haft 10 16 (by kernel_rfl) (by kernel_rfl)
        have INV := Lib.hid inv
        clear inv haft hun ho
        change vs 10 = .bool false at r16
        rw [r16] at e16
        refine par_run rfl ?_
        go_simp
        exact hK _ _ INV.out.inv INV.out.val rfl
      · -- 12
        intro o ho listed vs a w' inv hun haft K hK
        obtain rfl := Option.some.inj ho
        obtain ⟨e17, r17⟩ := inv.get haft 11 17 (by kernel_rfl) (by kernel_rfl)
        have e1 := inv.old 1 (by kernel_rfl)
        have INV := Lib.hid inv
        clear inv haft hun ho
        change vs 11 = .bool false at r17
        rw [r17] at e17
        simp at e1
        refine par_guard rfl (by kernel_rfl) e17 ?_
        rw [if_pos rfl]
        go_simp
        exact hK _ _ INV.out.inv INV.out.val rfl
      · -- 13
        intro o ho listed vs a w' inv hun haft K hK
        obtain rfl := Option.some.inj ho
        obtain ⟨e18, r18⟩ := inv.get haft 12 18 (by kernel_rfl) (by kernel_rfl)
        obtain ⟨e17, r17⟩ := inv.get haft 11 17 (by kernel_rfl) (by kernel_rfl)
        have INV := Lib.hid inv
        clear inv haft hun ho
        change vs 12 = .slice (some ⟨B, off, none⟩) 1024 c at r18
        rw [r18] at e18
        change vs 11 = .bool false at r17
        rw [r17] at e17
        refine par_guard rfl (by kernel_rfl) e17 ?_
        rw [if_pos rfl]
        go_simp
        exact hK _ _ INV.out.inv INV.out.val rfl
      · -- 14
        intro o ho listed vs a w' inv hun haft K hK
        obtain rfl := Option.some.inj ho
        obtain ⟨e19, r19⟩ := inv.get haft 13 19 (by kernel_rfl) (by kernel_rfl)
        obtain ⟨e17, r17⟩ := inv.get haft 11 17 (by kernel_rfl) (by kernel_rfl)
        have INV := Lib.hid inv
        clear inv haft hun ho
        change vs 13 = .slice (some ⟨B, off + 1020, none⟩) 4 (c - 1020) at r19
        rw [r19] at e19
        change vs 11 = .bool false at r17
        rw [r17] at e17
        refine par_guard rfl (by kernel_rfl) e17 ?_
        rw [if_pos rfl]
        go_simp
        refine (get32_any _ _ _ _ _ (HG.out.mod INV.out.inv (by simp)) (by omega)).mono ?_
        rintro _ w3 ⟨_, rfl, rfl, m3⟩
        rw [← HGv.out]
        exact hK _ _ (INV.out.inv.same m3) INV.out.val rfl
      · -- 15
        intro o ho listed vs a w' inv hun haft K hK
        obtain rfl := Option.some.inj ho
        obtain ⟨e17, r17⟩ := inv.get haft 11 17 (by kernel_rfl) (by kernel_rfl)
        have e1 := inv.old 1 (by kernel_rfl)
        have INV := Lib.hid inv
        clear inv haft hun ho
        change vs 11 = .bool false at r17
        rw [r17] at e17
        simp at e1
        refine par_guard rfl (by kernel_rfl) e17 ?_
        rw [if_pos rfl]
        go_simp
        exact hK _ _ INV.out.inv INV.out.val rfl
      · -- 16
        intro o ho listed vs a w' inv hun haft K hK
        obtain rfl := Option.some.inj ho
        obtain ⟨e21, r21⟩ := inv.get haft 15 21 (by kernel_rfl) (by kernel_rfl)
        obtain ⟨e17, r17⟩ := inv.get haft 11 17 (by kernel_rfl) (by kernel_rfl)
        have INV := Lib.hid inv
        clear inv haft hun ho
        change vs 15 = .slice (some ⟨B, off, none⟩) 1024 c at r21
        rw [r21] at e21
        change vs 11 = .bool false at r17
        rw [r17] at e17
        refine par_guard rfl (by kernel_rfl) e17 ?_
        rw [if_pos rfl]
        go_simp
        exact hK _ _ INV.out.inv INV.out.val rfl
      · -- 17
        intro o ho listed vs a w' inv hun haft K hK
        obtain rfl := Option.some.inj ho
        obtain ⟨e22, r22⟩ := inv.get haft 16 22 (by kernel_rfl) (by kernel_rfl)
        obtain ⟨e17, r17⟩ := inv.get haft 11 17 (by kernel_rfl) (by kernel_rfl)
        have INV := Lib.hid inv
        clear inv haft hun ho
        change vs 16 = .slice (some ⟨B, off, none⟩) 1020 1020 at r22
        rw [r22] at e22
        change vs 11 = .bool false at r17
        rw [r17] at e17
        refine par_guard rfl (by kernel_rfl) e17 ?_
        rw [if_pos rfl]
        go_simp
        refine (sum_any _ _ _ _ _ (HS.out.mod INV.out.inv (by simp))).mono ?_
        rintro _ w3 ⟨_, rfl, rfl, m3⟩
        rw [← HSv.out]
        exact hK _ _ (INV.out.inv.same m3) INV.out.val rfl
      · -- 18
        intro o ho listed vs a w' inv hun haft K hK
        obtain rfl := Option.some.inj ho
        obtain ⟨e20, r20⟩ := inv.get haft 14 20 (by kernel_rfl) (by kernel_rfl)
        obtain ⟨e23, r23⟩ := inv.get haft 17 23 (by kernel_rfl) (by kernel_rfl)
        obtain ⟨e17, r17⟩ := inv.get haft 11 17 (by kernel_rfl) (by kernel_rfl)
        have INV := Lib.hid inv
        clear inv haft hun ho
        change vs 14 = .int .u32 G at r20
        rw [r20] at e20
        change vs 17 = .int .u32 S at r23
        rw [r23] at e23
        change vs 11 = .bool false at r17
        rw [r17] at e17
        refine par_guard rfl (by kernel_rfl) e17 ?_
        rw [if_pos rfl]
        go_simp
        exact hK _ _ INV.out.inv INV.out.val rfl
      · -- 19
        intro o ho listed vs a w' inv hun haft K hK
        obtain rfl := Option.some.inj ho
        obtain ⟨e17, r17⟩ := inv.get haft 11 17 (by kernel_rfl) (by kernel_rfl)
        obtain ⟨e24, r24⟩ := inv.get haft 18 24 (by kernel_rfl) (by kernel_rfl)
        have INV := Lib.hid inv
        clear inv haft hun ho
        change vs 11 = .bool false at r17
        rw [r17] at e17
        change vs 18 = .bool false at r24
        rw [r24] at e24
        refine par_run rfl ?_
        replace e17 := getD_opt e17
        replace e24 := getD_opt e24
        go_simp
        exact hK _ _ INV.out.inv INV.out.val rfl
      · -- 20
        intro o ho listed vs a w' inv hun haft K hK
        obtain rfl := Option.some.inj ho
        obtain ⟨e25, r25⟩ := inv.get haft 19 25 (by kernel_rfl) (by kernel_rfl)
        have INV := Lib.hid inv
        clear inv haft hun ho
        change vs 19 = .bool false at r25
        rw [r25] at e25
        refine par_run rfl ?_
        go_simp
        exact hK _ _ INV.out.inv INV.out.val rfl
      · -- 21
        intro o ho listed vs a w' inv hun haft K hK
        obtain rfl := Option.some.inj ho
        obtain ⟨e26, r26⟩ := inv.get haft 20 26 (by kernel_rfl) (by kernel_rfl)
        have e1 := inv.old 1 (by kernel_rfl)
        have INV := Lib.hid inv
        clear inv haft hun ho
        change vs 20 = .bool false at r26
        rw [r26] at e26
        simp at e1
        refine par_guard rfl (by kernel_rfl) e26 ?_
        rw [if_pos rfl]
        go_simp
        exact hK _ _ INV.out.inv INV.out.val rfl
      · -- 22
        intro o ho listed vs a w' inv hun haft K hK
        obtain rfl := Option.some.inj ho
        obtain ⟨e27, r27⟩ := inv.get haft 21 27 (by kernel_rfl) (by kernel_rfl)
        obtain ⟨e26, r26⟩ := inv.get haft 20 26 (by kernel_rfl) (by kernel_rfl)
        have INV := Lib.hid inv
        clear inv haft hun ho
        change vs 21 = .slice (some ⟨B, off, none⟩) 1024 c at r27
        rw [r27] at e27
        change vs 20 = .bool false at r26
        rw [r26] at e26
        refine par_guard rfl (by kernel_rfl) e26 ?_
        rw [if_pos rfl]
        go_simp
        exact hK _ _ INV.out.inv INV.out.val rfl
      · -- 23
        intro o ho listed vs a w' inv hun haft K hK
        obtain rfl := Option.some.inj ho
        obtain ⟨e28, r28⟩ := inv.get haft 22 28 (by kernel_rfl) (by kernel_rfl)
        obtain ⟨e26, r26⟩ := inv.get haft 20 26 (by kernel_rfl) (by kernel_rfl)
        have INV := Lib.hid inv
        clear inv haft hun ho
        change vs 22 = .slice (some ⟨B, off + 1016, none⟩) 4 4 at r28
        rw [r28] at e28
        change vs 20 = .bool false at r26
        rw [r26] at e26
        refine par_guard rfl (by kernel_rfl) e26 ?_
        rw [if_pos rfl]
        go_simp
        refine (get32_any _ _ _ _ _ (HH.out.mod INV.out.inv (by simp)) (by omega)).mono ?_
        rintro _ w3 ⟨_, rfl, rfl, m3⟩
        rw [← HHv.out]
        exact hK _ _ (INV.out.inv.same m3) INV.out.val rfl
      · -- 24
        intro o ho listed vs a w' inv hun haft K hK
        obtain rfl := Option.some.inj ho
        obtain ⟨e29, r29⟩ := inv.get haft 23 29 (by kernel_rfl) (by kernel_rfl)
        obtain ⟨e26, r26⟩ := inv.get haft 20 26 (by kernel_rfl) (by kernel_rfl)
        have INV := Lib.hid inv
        clear inv haft hun ho
        change vs 23 = .int .u32 H at r29
        rw [r29] at e29
        change vs 20 = .bool false at r26
        rw [r26] at e26
        refine par_guard rfl (by kernel_rfl) e26 ?_
        rw [if_pos rfl]
        go_simp
        exact hK _ _ INV.out.inv INV.out.val rfl
      · -- 25
        intro o ho listed vs a w' inv hun haft K hK
        obtain rfl := Option.some.inj ho
        obtain ⟨e26, r26⟩ := inv.get haft 20 26 (by kernel_rfl) (by kernel_rfl)
        have e0 := inv.old 0 (by kernel_rfl)
        have INV := Lib.hid inv
        clear inv haft hun ho
        change vs 20 = .bool false at r26
        rw [r26] at e26
        simp at e0
        refine par_guard rfl (by kernel_rfl) e26 ?_
        rw [if_pos rfl]
        go_simp
        exact hK _ _ INV.out.inv INV.out.val rfl
      · -- 26
        intro o ho listed vs a w' inv hun haft K hK
        obtain rfl := Option.some.inj ho
        obtain ⟨e30, r30⟩ := inv.get haft 24 30 (by kernel_rfl) (by kernel_rfl)
        obtain ⟨e31, r31⟩ := inv.get haft 25 31 (by kernel_rfl) (by kernel_rfl)
        obtain ⟨e26, r26⟩ := inv.get haft 20 26 (by kernel_rfl) (by kernel_rfl)
        have INV := Lib.hid inv
        clear inv haft hun ho
        change vs 24 = .int .i64 H at r30
        rw [r30] at e30
        change vs 25 = .int .i64 no at r31
        rw [r31] at e31
        change vs 20 = .bool false at r26
        rw [r26] at e26
        refine par_guard rfl (by kernel_rfl) e26 ?_
        rw [if_pos rfl]
        go_simp
        exact hK _ _ INV.out.inv INV.out.val rfl
      · -- 27
        intro o ho listed vs a w' inv hun haft K hK
        obtain rfl := Option.some.inj ho
        obtain ⟨e26, r26⟩ := inv.get haft 20 26 (by kernel_rfl) (by kernel_rfl)
        obtain ⟨e32, r32⟩ := inv.get haft 26 32 (by kernel_rfl) (by kernel_rfl)
        have INV := Lib.hid inv
        clear inv haft hun ho
        change vs 20 = .bool false at r26
        rw [r26] at e26
        change vs 26 = .bool F at r32
        rw [r32] at e32
        refine par_run rfl ?_
        replace e26 := getD_opt e26
        replace e32 := getD_opt e32
        go_simp
        exact hK _ _ INV.out.inv INV.out.val rfl
      · intro vs w2 X hm hr hslot hold hsize hdef
        have e33 := hslot 27 33 (by kernel_rfl)
        have r33 : vs 27 = .bool F := hr 27 (by decide)
        rw [r33] at e33
        have e0 := hold 0 (by kernel_rfl)
        have e1 := hold 1 (by kernel_rfl)
        have e34 := hold 34 (by kernel_rfl)
        have e35 := hold 35 (by kernel_rfl)
        have e36 := hold 36 (by kernel_rfl)
        clear hr hslot hold
        obtain ⟨⟨xs⟩, df⟩ := X
        replace hdef : df = [] := hdef
        subst hdef
        replace hsize : xs.length = 37 := hsize
        obtain ⟨v0, xs0, rfl, hs0⟩ := cons_of hsize
        obtain ⟨v1, xs1, rfl, hs1⟩ := cons_of hs0
        obtain ⟨v2, xs2, rfl, hs2⟩ := cons_of hs1
        obtain ⟨v3, xs3, rfl, hs3⟩ := cons_of hs2
        obtain ⟨v4, xs4, rfl, hs4⟩ := cons_of hs3
        obtain ⟨v5, xs5, rfl, hs5⟩ := cons_of hs4
        obtain ⟨v6, xs6, rfl, hs6⟩ := cons_of hs5
        obtain ⟨v7, xs7, rfl, hs7⟩ := cons_of hs6
        obtain ⟨v8, xs8, rfl, hs8⟩ := cons_of hs7
        obtain ⟨v9, xs9, rfl, hs9⟩ := cons_of hs8
        obtain ⟨v10, xs10, rfl, hs10⟩ := cons_of hs9
        obtain ⟨v11, xs11, rfl, hs11⟩ := cons_of hs10
        obtain ⟨v12, xs12, rfl, hs12⟩ := cons_of hs11
        obtain ⟨v13, xs13, rfl, hs13⟩ := cons_of hs12
        obtain ⟨v14, xs14, rfl, hs14⟩ := cons_of hs13
        obtain ⟨v15, xs15, rfl, hs15⟩ := cons_of hs14
        obtain ⟨v16, xs16, rfl, hs16⟩ := cons_of hs15
        obtain ⟨v17, xs17, rfl, hs17⟩ := cons_of hs16
        obtain ⟨v18, xs18, rfl, hs18⟩ := cons_of hs17
        obtain ⟨v19, xs19, rfl, hs19⟩ := cons_of hs18
        obtain ⟨v20, xs20, rfl, hs20⟩ := cons_of hs19
        obtain ⟨v21, xs21, rfl, hs21⟩ := cons_of hs20
        obtain ⟨v22, xs22, rfl, hs22⟩ := cons_of hs21
        obtain ⟨v23, xs23, rfl, hs23⟩ := cons_of hs22
        obtain ⟨v24, xs24, rfl, hs24⟩ := cons_of hs23
        obtain ⟨v25, xs25, rfl, hs25⟩ := cons_of hs24
        obtain ⟨v26, xs26, rfl, hs26⟩ := cons_of hs25
        obtain ⟨v27, xs27, rfl, hs27⟩ := cons_of hs26
        obtain ⟨v28, xs28, rfl, hs28⟩ := cons_of hs27
        obtain ⟨v29, xs29, rfl, hs29⟩ := cons_of hs28
        obtain ⟨v30, xs30, rfl, hs30⟩ := cons_of hs29
        obtain ⟨v31, xs31, rfl, hs31⟩ := cons_of hs30
        obtain ⟨v32, xs32, rfl, hs32⟩ := cons_of hs31
        obtain ⟨v33, xs33, rfl, hs33⟩ := cons_of hs32
        obtain ⟨v34, xs34, rfl, hs34⟩ := cons_of hs33
        obtain ⟨v35, xs35, rfl, hs35⟩ := cons_of hs34
        obtain ⟨v36, xs36, rfl, hs36⟩ := cons_of hs35
        obtain rfl := List.eq_nil_of_length_eq_zero hs36
        clear hsize hs0 hs1 hs2 hs3 hs4 hs5 hs6 hs7 hs8 hs9 hs10 hs11 hs12 hs13 hs14 hs15 hs16 hs17 hs18 hs19 hs20 hs21 hs22 hs23 hs24 hs25 hs26 hs27 hs28 hs29 hs30 hs31 hs32 hs33 hs34 hs35 hs36
        change v0 = .int .i64 no at e0
        change v1 = .slice (some ⟨B, off, none⟩) 1024 c at e1
        change v33 = _ at e33
        change v34 = undef at e34
        change v35 = undef at e35
        change v36 = undef at e36
        subst e0 e1 e33 e34 e35 e36
        have HM2 : Hid (Mod [] w w2) := hm
        clear hm
        cases F with
        | true =>
          go_wp2
          go_ret2
          exact .mk ((HR.out _ _).2 (by rw [if_neg (by simp)]; exact ⟨rfl, HM2.out⟩))
        | false =>
          go_wp2_with fail
          refine (clone_any _ _ _ _ _ (HP.out.sl.mod HM2.out (by simp)) (by omega) (by simp)).mono ?_
          rintro _ w3 ⟨_, rfl, p3, n3, c3, rfl, e3, s3, m3⟩
          obtain rfl : n3 = 1016 := by rw [e3]; exact HP.out.len
          have S3 := Lib.hid s3
          have M3 : Hid (Mod [] w w3) := HM2.out.same m3
          have HSZ := Lib.hid HM2.out.size
          clear e3 s3 m3
          go_wp2
          go_ret2
          refine .mk ((HR.out _ _).2 ?_)
          rw [if_pos (show (!false && !false) = true from rfl)]
          refine ⟨p3, c3, rfl, ⟨S3.out.1, S3.out.2.imp id ?_⟩, M3.out⟩
          rintro ⟨g, cap, cur, hv, hg, hb⟩
          exact ⟨g, cap, cur, hv, Nat.le_trans HSZ.out hg, hb⟩
end Go.Proofs.YtgimdodbajhpoaaGreatDoor
