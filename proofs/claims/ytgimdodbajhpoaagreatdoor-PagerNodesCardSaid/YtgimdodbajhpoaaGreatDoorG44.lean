/- A leaf is read from its page: the loop. -/
import Derived.Test.YtgimdodbajhpoaaGreatDoorG43
import Derived.Test.YtgimdodbajhpoaaGreatDoorG36
namespace Go.Proofs.YtgimdodbajhpoaaGreatDoor
open Go.RowKit Go.Maps
set_option linter.unusedSimpArgs false
set_option linter.unusedVariables false

/-- A leaf that is being read. -/
structure LfSt (w0 w : World) (R L N : Nat) (xs : List Cv) (p : Option Addr) (c : Nat) (l : List Int) : Prop where
  at_ : w.heap[L]? = some (.cells #[.slice p xs.length c] 81 (0, 0))
  row : w.ownsRow w0.heap.size 82 4 (.slice p xs.length c) xs.length (ccells xs)
  ap : ∀ x ∈ xs, Apart w ([R, L] ++ (Value.slice p xs.length c).ownBlock.toList) x.k ∧ Apart w ([R, L] ++ (Value.slice p xs.length c).ownBlock.toList) x.i
  rdr : RdAt w R N l false
  mod : Mod [R] w0 w
  bL : w0.heap.size ≤ L
  hR : R < w0.heap.size
  hN : N ≤ w0.heap.size
  age : ∀ x ∈ xs, (∀ a, x.k.p = some a → w0.heap.size ≤ a.block) ∧ ∀ a, x.i.p = some a → w0.heap.size ≤ a.block
theorem LfSt.cell {w0 w wa w4 : World} {R L N : Nat} {xs : List Cv} {p : Option Addr} {c : Nat} {l l' : List Int} (h : LfSt w0 w R L N xs p c l) {x : Cv} (hm3 : Mod [R] w wa) (hr3 : RdAt wa R N l' false) (hk3 : x.k.In wa) (hi3 : x.i.In wa)
    (hkb : ∀ a, x.k.p = some a → w.heap.size ≤ a.block ∧ IsBytes wa a.block) (hib : ∀ a, x.i.p = some a → w.heap.size ≤ a.block ∧ IsBytes wa a.block) {p3 : Option Addr} {c3 : Nat}
    (hown : w4.ownsRow w0.heap.size 82 4 (.slice p3 (xs.length + 1) c3) (xs.length + 1) (ccells xs ++ x.cells)) (hm4 : Mod (Value.slice p xs.length c).ownBlock.toList wa w4)
    (hlie : (Value.slice p3 (xs.length + 1) c3).ownBlock = (Value.slice p xs.length c).ownBlock ∨ (Value.slice p3 (xs.length + 1) c3).ownBlock = some wa.heap.size) :
    LfSt w0 (w4.setCell ⟨L, 0, none⟩ (.slice p3 (xs.length + 1) c3)) R L N (xs ++ [x]) p3 c3 l' := by
  have hLl := lt_of_at h.at_
  have hLK := owned_ne h.row h.at_ (by decide)
  have hKl : ∀ b ∈ (Value.slice p xs.length c).ownBlock.toList, w0.heap.size ≤ b ∧ b < w.heap.size := fun b hb => ⟨own_base h.row b (by simpa using hb), own_lt h.row b (by simpa using hb)⟩
  have hR0 := h.hR
  have hL0 := h.bL
  have hN0 := h.hN
  have hRL : R ≠ L := by omega
  have hsa := hm3.size
  have hRK : R ∉ (Value.slice p xs.length c).ownBlock.toList := fun hb => by have := (hKl R hb).1; omega
  have hO : ∀ b ∈ (Value.slice p3 (xs.length + 1) c3).ownBlock.toList, b ∈ (Value.slice p xs.length c).ownBlock.toList ∨ b = wa.heap.size := fun b hb => by
    rcases hlie with e | e
    · left; rw [← e]; exact hb
    · right; rw [e] at hb; simpa using hb
  have hm5 : Mod (L :: (Value.slice p xs.length c).ownBlock.toList) wa (w4.setCell ⟨L, 0, none⟩ (.slice p3 (xs.length + 1) c3)) := (hm4.mono (fun b hb => Or.inl (List.mem_cons_of_mem _ hb))).setCell (Or.inl (by simp))
  have hm6 : Mod (R :: L :: (Value.slice p xs.length c).ownBlock.toList) w (w4.setCell ⟨L, 0, none⟩ (.slice p3 (xs.length + 1) c3)) := (hm3.mono (by simp)).trans hm5 (fun b hb => Or.inl (List.mem_cons_of_mem _ hb))
  have hX : ∀ b ∈ [R, L] ++ (Value.slice p3 (xs.length + 1) c3).ownBlock.toList, b ∈ [R, L] ++ (Value.slice p xs.length c).ownBlock.toList ∨ b = wa.heap.size := fun b hb => by
    simp only [List.mem_append] at hb ⊢
    rcases hb with hb | hb
    · exact Or.inl (Or.inl hb)
    · rcases hO b hb with h1 | h1
      · exact Or.inl (Or.inr h1)
      · exact Or.inr h1
  have hold : ∀ k : Bv, Apart w ([R, L] ++ (Value.slice p xs.length c).ownBlock.toList) k → Apart (w4.setCell ⟨L, 0, none⟩ (.slice p3 (xs.length + 1) c3)) ([R, L] ++ (Value.slice p3 (xs.length + 1) c3).ownBlock.toList) k := fun k hk => by
    refine hk.mod hm6 (fun b hb => ?_) (fun b hb => (hX b hb).imp id fun e => by omega)
    left; simp only [List.mem_cons, List.mem_append] at hb ⊢
    rcases hb with hb | hb | hb
    · exact Or.inl (Or.inl hb)
    · exact Or.inl (Or.inr (Or.inl hb))
    · exact Or.inr hb
  have hnew : ∀ k : Bv, k.In wa → (∀ a, k.p = some a → w.heap.size ≤ a.block ∧ IsBytes wa a.block) → Apart (w4.setCell ⟨L, 0, none⟩ (.slice p3 (xs.length + 1) c3)) ([R, L] ++ (Value.slice p3 (xs.length + 1) c3).ownBlock.toList) k := fun k hk hb => by
    have hlt : ∀ a, k.p = some a → 0 < k.n → a.block < wa.heap.size := fun a ha hn => by
      obtain ⟨b, o, hp, hlt, _⟩ := hk.sl.addr hn
      rw [ha] at hp; cases hp; exact hlt
    have hoff : ∀ a, k.p = some a → 0 < k.n → a.block ∉ L :: (Value.slice p xs.length c).ownBlock.toList := fun a ha hn hx => by
      have := (hb a ha).1
      rcases List.mem_cons.1 hx with h2 | h2
      · omega
      · have := (hKl _ h2).2; omega
    refine ⟨hk.mod hm5 hoff, fun a ha hn hx => ?_, fun a ha hn => (hb a ha).2.mod hm5 (hoff a ha hn)⟩
    have h3 := (hb a ha).1
    have h4 := hlt a ha hn
    rcases hX _ hx with h2 | h2
    · simp only [List.mem_append, List.mem_cons, List.not_mem_nil, or_false] at h2
      rcases h2 with (h2 | h2) | h2
      · have := h.mod.size; omega
      · omega
      · have := (hKl _ h2).2; omega
    · omega
  refine ⟨?_, ?_, ?_, hr3.mod hm5 ?_ ?_, ?_, h.bL, h.hR, h.hN, fun y hy => by
    rcases List.mem_append.1 hy with h1 | h1
    · exact h.age y h1
    · obtain rfl : y = x := by simpa using h1
      exact ⟨fun a ha => Nat.le_trans h.mod.size (hkb a ha).1, fun a ha => Nat.le_trans h.mod.size (hib a ha).1⟩⟩
  · have h1 := hm4.at (hm3.at h.at_ (by simpa using Ne.symm hRL)) hLK
    rw [at_setCell h1, List.length_append]; rfl
  · have h1 := ownsRow_mod hown (Mod.of_setCell w4 L 0 (.slice p3 (xs.length + 1) c3)) (fun b hb hx => by
      simp only [List.mem_singleton] at hx; subst hx
      rcases hO b (by simpa using hb) with h2 | h2
      · exact hLK h2
      · omega)
    rw [List.length_append, ccells_append]
    have e : ccells [x] = x.cells := by simp [ccells]
    rw [e]; exact h1
  · intro y hy
    rw [List.length_append]
    rcases List.mem_append.1 hy with h1 | h1
    · exact ⟨hold _ (h.ap y h1).1, hold _ (h.ap y h1).2⟩
    · obtain rfl : y = x := by simpa using h1
      exact ⟨hnew _ hk3 hkb, hnew _ hi3 hib⟩
  · simp only [List.mem_cons, not_or]; exact ⟨hRL, hRK⟩
  · intro b hb
    rcases List.mem_cons.1 hb with h2 | h2
    · omega
    · have := (hKl b h2).1; omega
  · refine h.mod.trans hm6 (fun b hb => ?_)
    simp only [List.mem_cons] at hb
    rcases hb with hb | hb | hb
    · exact Or.inl (by simp [hb])
    · right; omega
    · right; exact (hKl b hb).1
/-- What is to be read of a leaf from its i-th cell on. -/
def lfFrom (cs : List Cl) (i : Nat) (z : List Int) : List Int := (cs.drop i).flatMap cellBytes ++ z
theorem lfFrom_step {cs : List Cl} {i : Nat} {z : List Int} {c : Cl} (h : cs[i]? = some c) : lfFrom cs i z = cellBytes c ++ lfFrom cs (i + 1) z := by
  obtain ⟨h1, h2⟩ := List.getElem?_eq_some_iff.1 h
  unfold lfFrom
  rw [List.drop_eq_getElem_cons h1, List.flatMap_cons, h2, List.append_assoc]
theorem lfFrom_end (cs : List Cl) (z : List Int) : lfFrom cs cs.length z = z := by unfold lfFrom; simp
def LeafR (R N : Nat) (cs : List Cl) (z : List Int) (w : World) (v : Value) (w' : World) : Prop :=
  ∃ L xs, v = .iface 78 (.pointer (some ⟨L, 0, none⟩)) ∧ LeafN w' L xs ∧ LeafA w.heap.size w' L xs ∧ xs.map Cv.pl = cs ∧ RdAt w' R N z false ∧ Mod [R] w w'
set_option maxRecDepth 100000 in
set_option maxHeartbeats 16000000 in
theorem rleaf_any (R N : Nat) (cs : List Cl) (z : List Int) (w : World) (h : RdAt w R N (lfFrom cs 0 z) false) (hc : ∀ c ∈ cs, mayCl c = true ∧ c.key.length ≤ 255) (hn : cs.length ≤ 100000) (hNw : N ≤ w.heap.size) :
    Calls Tryz.prog 49 #[.pointer (some ⟨R, 0, none⟩), .int .i64 cs.length] w (Ret (LeafR R N cs z w)) := by
  have hRl : R < w.heap.size := h.lt
  obtain ⟨n, hnl⟩ : ∃ n, n = cs.length := ⟨_, rfl⟩
  have HST : Hid (∀ i, i < n → ∃ c, cs[i]? = some c ∧ mayCl c = true ∧ c.key.length ≤ 255 ∧ lfFrom cs i z = cellBytes c ++ lfFrom cs (i + 1) z) := fun i hi => by
    have h1 : i < cs.length := by omega
    have h2 := List.getElem?_eq_getElem h1
    exact ⟨_, h2, (hc _ (List.getElem_mem _)).1, (hc _ (List.getElem_mem _)).2, lfFrom_step h2⟩
  have HEND : Hid (lfFrom cs n z = z) := by rw [hnl]; exact lfFrom_end _ _
  have HKL : Hid (cs.length = n) := hnl.symm
  obtain ⟨i0, hi0, hz0, hz1, hz2⟩ := info_parts infoCell
  rw [← hnl]
  rw [← hnl] at hn
  obtain ⟨L, hL⟩ : ∃ L, L = w.heap.size := ⟨_, rfl⟩
  have HST0 : Hid (LfSt w (w.alloc (.cells #[.slice none 0 0] 81)) R L N [] none 0 (lfFrom cs 0 z)) := by
    have hm : Mod [] w (w.alloc (.cells #[.slice none 0 0] 81)) := Mod.of_alloc w _
    exact ⟨at_alloc' _ _ hL, World.ownsRow_nil _ _ _ _, by simp, h.mod hm (by simp) (by simp), hm.mono (by simp), by omega, hRl, hNw, by simp⟩
  have HLE := Lib.hid hL
  clear h hc hnl
  go_enter Tryz.func49, Tryz.ntmps49
  go_wp2
  rw [← hL]
  clear hL
  go_loopw [6] (fun iv wr => ∃ (i : Nat) (xs : List Cv) (p : Option Addr) (c : Nat), i ≤ n ∧ iv = .int .i64 i ∧ xs.map Cv.pl = cs.take i ∧ LfSt w wr R L N xs p c (lfFrom cs i z)) (fun iv _ => n - (intOf iv).toNat)
  case atStart => exact ⟨0, [], none, 0, by omega, rfl, rfl, HST0.out⟩
  case round =>
    obtain ⟨i, xs, p, c, hi, rfl, hxs, hst⟩ := hrel
    have hxl : xs.length = i := by have := congrArg List.length hxs; rw [List.length_map, List.length_take, HKL.out] at this; omega
    have HXS := Lib.hid hxs
    have HS := Lib.hid hst
    have HXL := Lib.hid hxl
    have f1 := hst.rdr.bad_cell
    clear hxs HST0 hxl
    by_cases hlt : i < n
    · obtain ⟨cl, hcl, hmay, hk255, hbf⟩ := HST.out i hlt
      have HCL := Lib.hid hcl
      have HMAY := Lib.hid hmay
      have hrd := hst.rdr
      rw [hbf] at hrd
      have HRD := Lib.hid hrd
      have hat := hst.at_
      rw [HXL.out] at hat
      have b0 : wr.cell? ⟨L, 0, none⟩ = some (.slice p i c) := cell_of_at hat 0
      have b1 : wr.frozen? ⟨L, 0, none⟩ = false := free_of_at hat 0
      have hRL : L ∉ [R] := by have := hst.hR; have := hst.bL; simp; omega
      have HAT := Lib.hid hat
      have HRL := Lib.hid hRL
      have hmw := hst.mod.size
      have hNw2 : N ≤ wr.heap.size := by have := hst.hN; omega
      have hwi : IntKind.i64.wrap ((i : Int) + 1) = (i : Int) + 1 := IntWalk.i64_in _ (by omega)
      clear hcl hmay hbf hrd hst hat hRL
      go_wp2
      refine AnyT.start (S := fun w' => w'.cell? ⟨L, 0, none⟩ = some (.slice p i c) ∧ w'.frozen? ⟨L, 0, none⟩ = false) (by kernel_rfl) ⟨b0, b1⟩ (fun hS => ?_)
      refine AnyT.take (i := 0) (k := 9) (v := ?_) rfl (by kernel_rfl) (fun _ _ _ h => h) hS (Or.inl ⟨by rfl, fun w' hw' => ?_⟩) ?_
      rotate_left
      · go_simp
        try rfl
      simp only [Act.put, List.setIfInBounds_toArray, List.set_cons_zero, List.set_cons_succ]
      refine AnyT.take (i := 1) (k := 2) (v := ?_) rfl (by kernel_rfl) (fun _ _ _ h => h) hS (Or.inl ⟨by rfl, fun w' hw' => ?_⟩) ?_
      rotate_left
      · go_simp
        try rfl
      simp only [Act.put, List.setIfInBounds_toArray, List.set_cons_zero, List.set_cons_succ]
      refine AnyT.take (i := 2) (k := 3) (v := ?_) rfl (by kernel_rfl) (fun _ _ _ h => h) hS (Or.inl ⟨by rfl, fun w' hw' => ?_⟩) ?_
      rotate_left
      · go_simp
        try rfl
      simp only [Act.put, List.setIfInBounds_toArray, List.set_cons_zero, List.set_cons_succ]
      refine AnyT.take (i := 3) (k := 4) (v := ?_) rfl (by kernel_rfl) (fun _ _ _ h => h) hS (Or.inl ⟨by rfl, fun w' hw' => ?_⟩) ?_
      rotate_left
      · go_simp
        try rfl
      simp only [Act.put, List.setIfInBounds_toArray, List.set_cons_zero, List.set_cons_succ]
      refine AnyT.take (i := 4) (k := 8) (v := ?_) rfl (by kernel_rfl) (fun _ _ _ h => h) hS (Or.inl ⟨by rfl, fun w' hw' => ?_⟩) ?_
      rotate_left
      · go_simp
        try rfl
      simp only [Act.put, List.setIfInBounds_toArray, List.set_cons_zero, List.set_cons_succ]
      refine AnyT.take (i := 5) (k := 6) (v := ?_) rfl (by kernel_rfl) (fun _ _ _ h => h) hS (Or.inl ⟨by rfl, fun w' hw' => ?_⟩) ?_
      rotate_left
      · go_simp
        try rfl
      simp only [Act.put, List.setIfInBounds_toArray, List.set_cons_zero, List.set_cons_succ]
      refine AnyT.run (i := 6) (by kernel_rfl) rfl rfl (fun K hK => ?_)
      go_simp
      refine (rcell_any R N cl (lfFrom cs (i + 1) z) _ (HRD.out.mod (Mod.of_drew wr) (by simp) (by simp)) HMAY.out hk255 hNw2).mono ?_
      rintro _ w3 ⟨_, rfl, x, rfl, hpl, hkx, hix, hkb, hib, hr3, hm3⟩
      have hm3' : Mod [R] wr w3 := ((Mod.of_drew wr).mono (by simp)).same hm3
      have hL3 := hm3'.at HAT.out HRL.out
      refine hK _ _ (fun _ => ⟨cell_of_at hL3 0, free_of_at hL3 0⟩) ?_
      clear hK K hS
      have hS : w3.cell? ⟨L, 0, none⟩ = some (.slice p i c) ∧ w3.frozen? ⟨L, 0, none⟩ = false := ⟨cell_of_at hL3 0, free_of_at hL3 0⟩
      have HM3 := Lib.hid hm3'
      have HL3 := Lib.hid hL3
      have HKX := Lib.hid hkx
      have HIX := Lib.hid hix
      have HKB := Lib.hid hkb
      have HIB := Lib.hid hib
      have HPL := Lib.hid hpl
      have HR3 := Lib.hid hr3
      clear hm3 hm3' hL3 hkx hix hkb hib hpl hr3 b0 b1
      obtain ⟨⟨kp, kn, kc, kl⟩, ⟨ip, im, ic, il⟩, sz, hd⟩ := x
      simp only [Cv.cells, Bv.val]
      refine AnyT.run (i := 7) (by kernel_rfl) rfl rfl (fun K hK => ?_)
      go_simp
      obtain ⟨NC, hNC⟩ : ∃ NC : List Value, NC = [.slice kp kn kc, .slice ip im ic, .int .i64 sz, .int .i64 hd] := ⟨_, rfl⟩
      have HNC := Lib.hid hNC
      have hm7 : Mod [] w3 (w3.alloc (.cells #[.slice kp kn kc, .slice ip im ic, .int .i64 sz, .int .i64 hd] 82)) := Mod.of_alloc _ _
      have hL7 := hm7.at HL3.out (by simp)
      refine hK _ _ (fun _ => ⟨cell_of_at hL7 0, free_of_at hL7 0⟩) ?_
      clear hK K hS
      have HSRC : Hid (Sl (w3.alloc (.cells #[.slice kp kn kc, .slice ip im ic, .int .i64 sz, .int .i64 hd] 82)) 4 (some ⟨w3.heap.size, 0, none⟩) 1 1 NC) := by
        rw [hNC]; exact Sl.new w3 [.slice kp kn kc, .slice ip im ic, .int .i64 sz, .int .i64 hd] 82 4 1 rfl (by unfold maxLen; omega) (by intro u hu; simp at hu; rcases hu with rfl | rfl | rfl | rfl <;> rfl)
      have HM7 : Hid (Mod [R] wr (w3.alloc (.cells #[.slice kp kn kc, .slice ip im ic, .int .i64 sz, .int .i64 hd] 82))) := HM3.out.trans hm7 (by simp)
      have HR7 := Lib.hid (HR3.out.mod hm7 (by simp) (by simp))
      have HKX7 : Hid (Bv.In (w3.alloc (.cells #[.slice kp kn kc, .slice ip im ic, .int .i64 sz, .int .i64 hd] 82)) ⟨kp, kn, kc, kl⟩) := HKX.out.mod0 hm7
      have HIX7 : Hid (Bv.In (w3.alloc (.cells #[.slice kp kn kc, .slice ip im ic, .int .i64 sz, .int .i64 hd] 82)) ⟨ip, im, ic, il⟩) := HIX.out.mod0 hm7
      have HKB7 : Hid (∀ a, kp = some a → wr.heap.size ≤ a.block ∧ IsBytes (w3.alloc (.cells #[.slice kp kn kc, .slice ip im ic, .int .i64 sz, .int .i64 hd] 82)) a.block) := fun a ha => ⟨(HKB.out a ha).1, (HKB.out a ha).2.mod hm7 (by simp)⟩
      have HIB7 : Hid (∀ a, ip = some a → wr.heap.size ≤ a.block ∧ IsBytes (w3.alloc (.cells #[.slice kp kn kc, .slice ip im ic, .int .i64 sz, .int .i64 hd] 82)) a.block) := fun a ha => ⟨(HIB.out a ha).1, (HIB.out a ha).2.mod hm7 (by simp)⟩
      have HL7 := Lib.hid hL7
      clear hm7 hL7 hNC
      generalize (w3.alloc (.cells #[.slice kp kn kc, .slice ip im ic, .int .i64 sz, .int .i64 hd] 82)) = W7 at *
      have hS : W7.cell? ⟨L, 0, none⟩ = some (.slice p i c) ∧ W7.frozen? ⟨L, 0, none⟩ = false := ⟨cell_of_at HL7.out 0, free_of_at HL7.out 0⟩
      refine AnyT.one (i := 8) (by kernel_rfl) rfl (fun K hK => ?_)
      have hKrow := HS.out.row
      rw [HXL.out] at hKrow
      have hRK : R ∉ (Value.slice p i c).ownBlock.toList := fun hb => by have := own_base hKrow R (by simpa using hb); have := HS.out.hR; omega
      have hLK : L ∉ (Value.slice p i c).ownBlock.toList := owned_ne hKrow HAT.out (by decide)
      refine step_append_src _ rfl _ _ _ rfl w.heap.size 82 i0 _ 4 64 Tryz.underlying79 hi0 hz0 hz1 hz2 rfl (by omega) (.slice p i c) i _ rfl (ownsRow_mod hKrow HM7.out (fun b hb hx => by simp at hx; subst hx; exact hRK (by simpa using hb))) _ _ _ _ rfl HSRC.out (i + 1) (by omega) (by unfold maxLen; omega) (by omega) (Nat.le_trans hmw HM7.out.size) ?_
      intro p4 c4 w4 hown4 hgrow4 _ hlie4
      have hm4 : Mod (Value.slice p i c).ownBlock.toList W7 w4 := Mod.of_grown' hgrow4
      have hL4 := hm4.at HL7.out hLK
      refine hK _ _ (fun _ => ⟨cell_of_at hL4 0, free_of_at hL4 0⟩) ?_
      clear hK K hS
      have hS : w4.cell? ⟨L, 0, none⟩ = some (.slice p i c) ∧ w4.frozen? ⟨L, 0, none⟩ = false := ⟨cell_of_at hL4 0, free_of_at hL4 0⟩
      rw [HNC.out] at hown4
      have hnew := HS.out.cell (x := ⟨⟨kp, kn, kc, kl⟩, ⟨ip, im, ic, il⟩, sz, hd⟩) (wa := W7) (w4 := w4) (p3 := p4) (c3 := c4) HM7.out HR7.out HKX7.out HIX7.out HKB7.out HIB7.out (by rw [HXL.out]; exact hown4) (by rw [HXL.out]; exact hm4) (by rw [HXL.out]; exact hlie4)
      rw [HXL.out] at hnew
      have HNEW := Lib.hid hnew
      clear hown4 hgrow4 hlie4 hm4 hL4 hnew hKrow hRK hLK
      refine AnyT.take (i := 9) (k := 10) (v := ?_) rfl (by kernel_rfl) (fun _ _ _ h => h) hS (Or.inl ⟨by rfl, fun w' hw' => ?_⟩) ?_
      rotate_left
      · go_simp
        try rfl
      simp only [Act.put, List.setIfInBounds_toArray, List.set_cons_zero, List.set_cons_succ]
      refine AnyT.take (i := 10) (k := 11) (v := ?_) rfl (by kernel_rfl) (fun _ _ _ h => h) hS (Or.inl ⟨by rfl, fun w' hw' => ?_⟩) ?_
      rotate_left
      · go_simp
        try rfl
      simp only [Act.put, List.setIfInBounds_toArray, List.set_cons_zero, List.set_cons_succ]
      obtain ⟨hS0, hS1⟩ := hS
      refine AnyT.run (i := 11) (by kernel_rfl) rfl rfl (fun K hK => ?_)
      go_simp
      refine hK _ _ (fun h => absurd h (by rw [show more _ _ = false from by kernel_rfl]; decide)) ?_
      clear hK K hS0 hS1
      refine AnyT.done (by kernel_rfl) ?_ _
      generalize (w4.setCell ⟨L, 0, none⟩ (.slice p4 (i + 1) c4)) = w5 at *
      have HPL2 : Hid ((xs ++ [(⟨⟨kp, kn, kc, kl⟩, ⟨ip, im, ic, il⟩, sz, hd⟩ : Cv)]).map Cv.pl = cs.take (i + 1)) := by
        obtain ⟨h1, h2⟩ := List.getElem?_eq_some_iff.1 HCL.out
        unfold Hid; rw [List.map_append, HXS.out, List.take_succ_eq_append_getElem h1, h2, ← HPL.out]; rfl
      clear HM3 HL3 HKX HIX HKB HIB HR3 HM7 HR7 HKX7 HIX7 HKB7 HIB7 HL7 HSRC HRD HAT HS
      go_wp2
      go_roundw
      case rel => exact ⟨i + 1, _, p4, c4, by omega, by go_num, HPL2.out, HNEW.out⟩
      case measure => simp [intOf]; omega
    · obtain rfl : i = n := by omega
      have HF : Hid (LeafR R N cs z w (.iface 78 (.pointer (some ⟨L, 0, none⟩))) wr) := by
        have hb := HS.out
        refine ⟨L, xs, rfl, ⟨⟨p, xs.length, c, hb.at_, (Sl.of_own hb.row (ccells_one _)).1, NbS.of_own hb.row (by simp)⟩, fun x hx => ⟨⟨(hb.ap x hx).1.io, fun a ha hn => Nb.of_bytes ((hb.ap x hx).1.nb a ha hn)⟩, ⟨(hb.ap x hx).2.io, fun a ha hn => Nb.of_bytes ((hb.ap x hx).2.nb a ha hn)⟩⟩⟩, ⟨hb.bL, fun p' n' c' he => ?_, hb.age⟩, ?_, ?_, hb.mod⟩
        · have e9 := hb.at_.symm.trans he
          simp only [Option.some.injEq, Obj.cells.injEq, Array.mk.injEq, List.cons.injEq, Value.slice.injEq, and_true] at e9
          obtain ⟨rfl, _, _⟩ := e9
          exact fun a e => own_base hb.row _ (by rw [e]; rfl)
        · rw [HXS.out, List.take_of_length_le (by rw [HKL.out]; omega)]
        · have h1 := hb.rdr; rw [HEND.out] at h1; exact h1
      clear hst
      go_wp2
      go_ret
      exact .mk HF.out
end Go.Proofs.YtgimdodbajhpoaaGreatDoor
