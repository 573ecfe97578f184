/- A branch is read from its page. -/
import Derived.Test.YtgimdodbajhpoaaGreatDoorG22
import Derived.Test.YtgimdodbajhpoaaGreatDoorG40
import Derived.Test.YtgimdodbajhpoaaGreatDoorG20
namespace Go.Proofs.YtgimdodbajhpoaaGreatDoor
open Go.RowKit Go.Maps
set_option linter.unusedSimpArgs false
set_option linter.unusedVariables false

def KeyR (R N : Nat) (k rest : List Int) (w : World) (v : Value) (w' : World) : Prop :=
  ∃ q n d, v = .slice q n d ∧ BytesIn w' q n d k ∧ (∀ a, q = some a → w.heap.size ≤ a.block ∧ IsBytes w' a.block) ∧ RdAt w' R N rest false ∧ Mod [R] w w'
set_option maxRecDepth 100000 in
set_option maxHeartbeats 2000000 in
theorem rkey_any (R N : Nat) (k rest : List Int) (w : World) (h : RdAt w R N ((k.length : Int) :: (k ++ rest)) false) (hk : k.length ≤ 255) :
    Calls Tryz.prog 60 #[.pointer (some ⟨R, 0, none⟩)] w (Ret (KeyR R N k rest w)) := by
  obtain ⟨n, hn⟩ : ∃ n, n = k.length := ⟨_, rfl⟩
  have HT := Lib.hid (take_any R N _ false 1 w h (by omega))
  have h1 : tk ((k.length : Int) :: (k ++ rest)) 1 = [(n : Int)] := by unfold tk; rw [if_pos (by simp)]; simp [hn]
  have h2 : rdr ((k.length : Int) :: (k ++ rest)) 1 = k ++ rest := by unfold rdr; rw [if_pos (by simp)]; rfl
  have h3 : bd ((k.length : Int) :: (k ++ rest)) false 1 = false := by unfold bd; rw [if_pos (by simp)]
  unfold TakeR at HT
  rw [h1, h2, h3] at HT
  have HT2 := fun W h => Lib.hid (take_any R N (k ++ rest) false n W h (by omega))
  have h4 : tk (k ++ rest) n = k := by unfold tk; rw [if_pos (by simp; omega), hn]; simp
  have h5 : rdr (k ++ rest) n = rest := by unfold rdr; rw [if_pos (by simp; omega), hn]; simp
  have h6 : bd (k ++ rest) false n = false := by unfold bd; rw [if_pos (by simp; omega)]
  unfold TakeR at HT2
  simp only [h4, h5, h6] at HT2
  have HN := Lib.hid hn
  have hn2 : n ≤ 255 := by omega
  clear h h1 h2 h3 h4 h5 h6 hn hk
  go_enter Tryz.func60, Tryz.ntmps60
  go_wp2_with fail
  refine HT.out.mono ?_
  rintro _ w1 ⟨_, rfl, q, d, rfl, b1, g1, r1, m1⟩
  obtain ⟨b, off, rfl, hlt, hc⟩ := b1.sl.addr (by omega)
  have d0 := hc 0 _ (bs_get (by simp))
  have hi0 := fun W => Sl.idx (P := Tryz.prog) (cap := d) (m := 1) (size := 1) Tryz.underlying40 sizeBytes (fun _ => rfl) W .i64 0 (by omega) (b := b) (off := off)
  simp only [Nat.zero_mul, Nat.add_zero, show ((0 : Nat) : Int) = 0 from rfl, List.getD_cons_zero] at hi0 d0
  have hw : IntKind.i64.wrap (n : Int) = n := IntWalk.i64_in _ (by omega)
  have R1 := Lib.hid r1
  have M1 := Lib.hid m1
  clear r1 m1 hc b1 g1 HT
  go_wp2_with fail
  refine (HT2 _ R1.out).out.mono ?_
  rintro _ w2 ⟨_, rfl, q2, d2, rfl, b2, g2, r2, m2⟩
  have B2 := Lib.hid b2
  have G2 := Lib.hid g2
  have R2 := Lib.hid r2
  have M2 : Hid (Mod [R] w w2) := M1.out.same m2
  clear b2 g2 r2 m2 HT2
  go_wp2
  go_ret
  exact .mk ⟨q2, n, d2, rfl, B2.out, fun a ha => ⟨Nat.le_trans M1.out.size (G2.out a ha).1, (G2.out a ha).2⟩, R2.out, M2.out⟩

/-- Bytes that lie in none of these blocks. -/
structure Apart (w : World) (X : List Nat) (k : Bv) : Prop where
  io : k.In w
  out : ∀ a, k.p = some a → 0 < k.n → a.block ∉ X
  nb : ∀ a, k.p = some a → 0 < k.n → IsBytes w a.block
theorem Apart.lt {w : World} {X : List Nat} {k : Bv} (h : Apart w X k) : ∀ a, k.p = some a → 0 < k.n → a.block < w.heap.size := by
  intro a ha hn
  obtain ⟨b, o, hp, hlt, _⟩ := h.io.sl.addr hn
  rw [ha] at hp; cases hp; exact hlt
theorem Apart.mod {w w' : World} {X X' S : List Nat} {k : Bv} (h : Apart w X k) (hm : Mod S w w') (hS : ∀ b ∈ S, b ∈ X ∨ w.heap.size ≤ b) (hX : ∀ b ∈ X', b ∈ X ∨ w.heap.size ≤ b) : Apart w' X' k :=
  ⟨h.io.mod hm fun a ha hn hs => (hS _ hs).elim (h.out a ha hn) fun hle => by have := h.lt a ha hn; omega, fun a ha hn hx => (hX _ hx).elim (h.out a ha hn) fun hle => by have := h.lt a ha hn; omega, fun a ha hn => (h.nb a ha hn).mod hm fun hs => (hS _ hs).elim (h.out a ha hn) fun hle => by have := h.lt a ha hn; omega⟩

theorem infoKey : (Tryz.prog.info? 40).map (fun i => (i.zero, i.size, i.bytes)) = some (some (.slice none 0 0), 1, 24) := by kernel_rfl
/-- What is to be read of a branch from its i-th key on. -/
def brFrom (ks : List (List Int)) (kids : List Int) (i : Nat) (z : List Int) : List Int := ((List.range ks.length).drop i).flatMap (brPart ks kids) ++ z
theorem brFrom_zero (ks : List (List Int)) (kids : List Int) (z : List Int) : brFrom ks kids 0 z = brBody ks kids ks.length ++ z := rfl
theorem brFrom_step {ks : List (List Int)} {kids : List Int} {i : Nat} {z : List Int} (hi : i < ks.length) : brFrom ks kids i z = brPart ks kids i ++ brFrom ks kids (i + 1) z := by
  unfold brFrom
  rw [List.drop_eq_getElem_cons (by simpa using hi), List.flatMap_cons, List.append_assoc]; simp
theorem brFrom_end (ks : List (List Int)) (kids : List Int) (z : List Int) : brFrom ks kids ks.length z = z := by unfold brFrom; rw [List.drop_of_length_le (by simp)]; rfl
theorem be4_read {v : Int} (h0 : 0 ≤ v) (h1 : v < 4294967296) (z : List Int) : un4 (tk (be 4 v ++ z) 4) 4 = v ∧ rdr (be 4 v ++ z) 4 = z ∧ bd (be 4 v ++ z) false 4 = false := by
  have hl : 4 ≤ (be 4 v ++ z).length := by simp [be_len]
  refine ⟨?_, ?_, ?_⟩
  · unfold tk; rw [if_pos hl, List.take_append_of_le_length (by rw [be_len]; omega), List.take_of_length_le (by rw [be_len]; omega)]
    have := un4_be [] h0 h1
    rwa [List.append_nil] at this
  · unfold rdr; rw [if_pos hl, List.drop_append, List.drop_of_length_le (by rw [be_len]; omega), be_len]; rfl
  · unfold bd; rw [if_pos hl]
/-- A branch that is being read. -/
structure BrSt (w0 w : World) (R B N : Nat) (kv : List Bv) (ki : List Int) (kp : Option Addr) (kc : Nat) (qp : Option Addr) (qc : Nat) (l : List Int) : Prop where
  at_ : w.heap[B]? = some (.cells #[.slice kp kv.length kc, .slice qp ki.length qc] 77 (0, 0))
  keys : w.ownsRow w0.heap.size 40 1 (.slice kp kv.length kc) kv.length (kv.map Bv.val)
  kids : w.ownsRow w0.heap.size 3 1 (.slice qp ki.length qc) ki.length (ki.map (.int .i64))
  ap : ∀ k ∈ kv, Apart w ([R, B] ++ (Value.slice kp kv.length kc).ownBlock.toList ++ (Value.slice qp ki.length qc).ownBlock.toList) k
  rdr : RdAt w R N l false
  mod : Mod [R] w0 w
  bB : w0.heap.size ≤ B
  hR : R < w0.heap.size
  hN : N ≤ w0.heap.size
  age : ∀ k ∈ kv, ∀ a, k.p = some a → w0.heap.size ≤ a.block
theorem owned_ne {w : World} {base : Nat} {e T : TypeId} {size : Nat} {v : Value} {n : Nat} {xs : List Value} (h : w.ownsRow base e size v n xs) {B : Nat} {cs : Array Value} (hB : w.heap[B]? = some (.cells cs T (0, 0))) (hne : T ≠ e) : B ∉ v.ownBlock.toList := by
  intro hx
  have hx' : v.ownBlock = some B := by simpa using hx
  rcases h.2 with ⟨e1, _⟩ | ⟨g, cap, cur, e1, _, hg, _⟩
  · rw [e1] at hx'; cases hx'
  · rw [e1] at hx'; have e2 := Option.some.inj hx'; subst e2
    rw [hB] at hg; injection hg with hg; injection hg with _ hg _; exact hne hg
theorem owned_ne2 {w : World} {base base' : Nat} {e e' : TypeId} {size size' : Nat} {v v' : Value} {n n' : Nat} {xs xs' : List Value} (h : w.ownsRow base e size v n xs) (h' : w.ownsRow base' e' size' v' n' xs') (hne : e ≠ e') : ∀ b ∈ v.ownBlock, b ∉ v'.ownBlock.toList := by
  intro b hb hx
  rcases h.2 with ⟨e1, _⟩ | ⟨g, cap, cur, e1, _, hg, _⟩
  · rw [e1] at hb; cases hb
  · rw [e1] at hb; have e2 := Option.some.inj hb; subst e2
    exact owned_ne h' hg hne hx
theorem BrSt.key {w0 w wa w4 : World} {R B N : Nat} {kv : List Bv} {ki : List Int} {kp : Option Addr} {kc : Nat} {qp : Option Addr} {qc : Nat} {l l' : List Int} (h : BrSt w0 w R B N kv ki kp kc qp qc l) {k : Bv} (hm3 : Mod [R] w wa) (hr3 : RdAt wa R N l' false) (hk3 : k.In wa)
    (hkb : ∀ a, k.p = some a → w.heap.size ≤ a.block ∧ IsBytes wa a.block) {p3 : Option Addr} {c3 : Nat} (hown : w4.ownsRow w0.heap.size 40 1 (.slice p3 (kv.length + 1) c3) (kv.length + 1) (kv.map Bv.val ++ [k.val])) (hm4 : Mod (Value.slice kp kv.length kc).ownBlock.toList wa w4)
    (hlie : (Value.slice p3 (kv.length + 1) c3).ownBlock = (Value.slice kp kv.length kc).ownBlock ∨ (Value.slice p3 (kv.length + 1) c3).ownBlock = some wa.heap.size) :
    BrSt w0 (w4.setCell ⟨B, 0, none⟩ (.slice p3 (kv.length + 1) c3)) R B N (kv ++ [k]) ki p3 c3 qp qc l' := by
  have hBl := lt_of_at h.at_
  have hBK := owned_ne h.keys h.at_ (by decide)
  have hBQ := owned_ne h.kids h.at_ (by decide)
  have hKQ := owned_ne2 h.keys h.kids (by decide)
  have hKl : ∀ b ∈ (Value.slice kp kv.length kc).ownBlock.toList, w0.heap.size ≤ b ∧ b < w.heap.size := fun b hb => ⟨own_base h.keys b (by simpa using hb), own_lt h.keys b (by simpa using hb)⟩
  have hQl : ∀ b ∈ (Value.slice qp ki.length qc).ownBlock.toList, w0.heap.size ≤ b ∧ b < w.heap.size := fun b hb => ⟨own_base h.kids b (by simpa using hb), own_lt h.kids b (by simpa using hb)⟩
  have hRB : R ≠ B := by have := h.hR; have := h.bB; omega
  have hR0 := h.hR
  have hB0 := h.bB
  have hN0 := h.hN
  have hsa := hm3.size
  have hRK : R ∉ (Value.slice kp kv.length kc).ownBlock.toList := fun hb => by have := (hKl R hb).1; omega
  have hO : ∀ b ∈ (Value.slice p3 (kv.length + 1) c3).ownBlock.toList, b ∈ (Value.slice kp kv.length kc).ownBlock.toList ∨ b = wa.heap.size := fun b hb => by
    rcases hlie with e | e
    · left; rw [← e]; exact hb
    · right; rw [e] at hb; simpa using hb
  have hm5 : Mod (B :: (Value.slice kp kv.length kc).ownBlock.toList) wa (w4.setCell ⟨B, 0, none⟩ (.slice p3 (kv.length + 1) c3)) := (hm4.mono (fun b hb => Or.inl (List.mem_cons_of_mem _ hb))).setCell (Or.inl (by simp))
  have hm6 : Mod (R :: B :: (Value.slice kp kv.length kc).ownBlock.toList) w (w4.setCell ⟨B, 0, none⟩ (.slice p3 (kv.length + 1) c3)) := (hm3.mono (by simp)).trans hm5 (fun b hb => Or.inl (List.mem_cons_of_mem _ hb))
  refine ⟨?_, ?_, ?_, ?_, hr3.mod hm5 ?_ ?_, ?_, h.bB, h.hR, h.hN, fun k' hk' a ha => by
    rcases List.mem_append.1 hk' with h1 | h1
    · exact h.age k' h1 a ha
    · obtain rfl : k' = k := by simpa using h1
      exact Nat.le_trans h.mod.size (hkb a ha).1⟩
  · have h1 := hm4.at (hm3.at h.at_ (by simpa using Ne.symm hRB)) hBK
    rw [at_setCell h1, List.length_append]; rfl
  · have h1 := ownsRow_mod hown (Mod.of_setCell w4 B 0 (.slice p3 (kv.length + 1) c3)) (fun b hb hx => by
      simp only [List.mem_singleton] at hx; subst hx
      rcases hO b (by simpa using hb) with h2 | h2
      · exact hBK h2
      · omega)
    rw [List.length_append, List.map_append]; exact h1
  · exact ownsRow_mod h.kids hm6 (fun b hb hx => by
      simp only [List.mem_cons] at hx
      rcases hx with rfl | rfl | hx
      · have := (hQl b (by simpa using hb)).1; omega
      · exact hBQ (by simpa using hb)
      · exact hKQ b (by simpa using hx) (by simpa using hb))
  · intro k' hk'
    have hX : ∀ b ∈ [R, B] ++ (Value.slice p3 (kv.length + 1) c3).ownBlock.toList ++ (Value.slice qp ki.length qc).ownBlock.toList, b ∈ [R, B] ++ (Value.slice kp kv.length kc).ownBlock.toList ++ (Value.slice qp ki.length qc).ownBlock.toList ∨ b = wa.heap.size := fun b hb => by
      simp only [List.mem_append] at hb ⊢
      rcases hb with (hb | hb) | hb
      · exact Or.inl (Or.inl (Or.inl hb))
      · rcases hO b hb with h1 | h1
        · exact Or.inl (Or.inl (Or.inr h1))
        · exact Or.inr h1
      · exact Or.inl (Or.inr hb)
    rw [List.length_append]
    rcases List.mem_append.1 hk' with h1 | h1
    · refine (h.ap k' h1).mod hm6 (fun b hb => ?_) (fun b hb => (hX b hb).imp id fun e => by omega)
      left; simp only [List.mem_cons, List.mem_append] at hb ⊢
      rcases hb with hb | hb | hb
      · exact Or.inl (Or.inl (Or.inl hb))
      · exact Or.inl (Or.inl (Or.inr (Or.inl hb)))
      · exact Or.inl (Or.inr hb)
    · obtain rfl : k' = k := by simpa using h1
      have hlt : ∀ a, k'.p = some a → 0 < k'.n → a.block < wa.heap.size := fun a ha hn => by
        obtain ⟨b, o, hp, hlt, _⟩ := hk3.sl.addr hn
        rw [ha] at hp; cases hp; exact hlt
      have hoff : ∀ a, k'.p = some a → 0 < k'.n → a.block ∉ B :: (Value.slice kp kv.length kc).ownBlock.toList := fun a ha hn hx => by
        have := (hkb a ha).1
        rcases List.mem_cons.1 hx with h2 | h2
        · omega
        · have := (hKl _ h2).2; omega
      refine ⟨hk3.mod hm5 hoff, fun a ha hn hx => ?_, fun a ha hn => (hkb a ha).2.mod hm5 (hoff a ha hn)⟩
      · have h3 := (hkb a ha).1
        have h4 := hlt a ha hn
        rcases hX _ hx with h2 | h2
        · simp only [List.mem_append, List.mem_cons, List.not_mem_nil, or_false] at h2
          rcases h2 with ((h2 | h2) | h2) | h2
          · have := h.mod.size; omega
          · omega
          · have := (hKl _ h2).2; omega
          · have := (hQl _ h2).2; omega
        · omega
  · simp only [List.mem_cons, not_or]; exact ⟨hRB, hRK⟩
  · intro b hb
    rcases List.mem_cons.1 hb with h2 | h2
    · omega
    · have := (hKl b h2).1; omega
  · refine h.mod.trans hm6 (fun b hb => ?_)
    simp only [List.mem_cons] at hb
    rcases hb with hb | hb | hb
    · exact Or.inl (by simp [hb])
    · right; omega
    · right; exact (hKl b hb).1
theorem BrSt.kid {w0 w wa w4 : World} {R B N : Nat} {kv : List Bv} {ki : List Int} {kp : Option Addr} {kc : Nat} {qp : Option Addr} {qc : Nat} {l l' : List Int} (h : BrSt w0 w R B N kv ki kp kc qp qc l) {x : Int} (hm3 : Mod [R] w wa) (hr3 : RdAt wa R N l' false)
    {p3 : Option Addr} {c3 : Nat} (hown : w4.ownsRow w0.heap.size 3 1 (.slice p3 (ki.length + 1) c3) (ki.length + 1) (ki.map (.int .i64) ++ [.int .i64 x])) (hm4 : Mod (Value.slice qp ki.length qc).ownBlock.toList wa w4)
    (hlie : (Value.slice p3 (ki.length + 1) c3).ownBlock = (Value.slice qp ki.length qc).ownBlock ∨ (Value.slice p3 (ki.length + 1) c3).ownBlock = some wa.heap.size) :
    BrSt w0 (w4.setCell ⟨B, 1, none⟩ (.slice p3 (ki.length + 1) c3)) R B N kv (ki ++ [x]) kp kc p3 c3 l' := by
  have hBl := lt_of_at h.at_
  have hBK := owned_ne h.keys h.at_ (by decide)
  have hBQ := owned_ne h.kids h.at_ (by decide)
  have hKQ := owned_ne2 h.keys h.kids (by decide)
  have hKl : ∀ b ∈ (Value.slice kp kv.length kc).ownBlock.toList, w0.heap.size ≤ b ∧ b < w.heap.size := fun b hb => ⟨own_base h.keys b (by simpa using hb), own_lt h.keys b (by simpa using hb)⟩
  have hQl : ∀ b ∈ (Value.slice qp ki.length qc).ownBlock.toList, w0.heap.size ≤ b ∧ b < w.heap.size := fun b hb => ⟨own_base h.kids b (by simpa using hb), own_lt h.kids b (by simpa using hb)⟩
  have hRB : R ≠ B := by have := h.hR; have := h.bB; omega
  have hR0 := h.hR
  have hB0 := h.bB
  have hN0 := h.hN
  have hsa := hm3.size
  have hRQ : R ∉ (Value.slice qp ki.length qc).ownBlock.toList := fun hb => by have := (hQl R hb).1; omega
  have hO : ∀ b ∈ (Value.slice p3 (ki.length + 1) c3).ownBlock.toList, b ∈ (Value.slice qp ki.length qc).ownBlock.toList ∨ b = wa.heap.size := fun b hb => by
    rcases hlie with e | e
    · left; rw [← e]; exact hb
    · right; rw [e] at hb; simpa using hb
  have hm5 : Mod (B :: (Value.slice qp ki.length qc).ownBlock.toList) wa (w4.setCell ⟨B, 1, none⟩ (.slice p3 (ki.length + 1) c3)) := (hm4.mono (fun b hb => Or.inl (List.mem_cons_of_mem _ hb))).setCell (Or.inl (by simp))
  have hm6 : Mod (R :: B :: (Value.slice qp ki.length qc).ownBlock.toList) w (w4.setCell ⟨B, 1, none⟩ (.slice p3 (ki.length + 1) c3)) := (hm3.mono (by simp)).trans hm5 (fun b hb => Or.inl (List.mem_cons_of_mem _ hb))
  refine ⟨?_, ?_, ?_, ?_, hr3.mod hm5 ?_ ?_, ?_, h.bB, h.hR, h.hN, h.age⟩
  · have h1 := hm4.at (hm3.at h.at_ (by simpa using Ne.symm hRB)) hBQ
    rw [at_setCell h1, List.length_append]; rfl
  · exact ownsRow_mod h.keys hm6 (fun b hb hx => by
      simp only [List.mem_cons] at hx
      rcases hx with rfl | rfl | hx
      · have := (hKl b (by simpa using hb)).1; omega
      · exact hBK (by simpa using hb)
      · exact hKQ b hb hx)
  · have h1 := ownsRow_mod hown (Mod.of_setCell w4 B 1 (.slice p3 (ki.length + 1) c3)) (fun b hb hx => by
      simp only [List.mem_singleton] at hx; subst hx
      rcases hO b (by simpa using hb) with h2 | h2
      · exact hBQ h2
      · omega)
    rw [List.length_append, List.map_append]; exact h1
  · intro k' hk'
    rw [List.length_append]
    refine (h.ap k' hk').mod hm6 (fun b hb => ?_) (fun b hb => ?_)
    · left; simp only [List.mem_cons, List.mem_append] at hb ⊢
      rcases hb with hb | hb | hb
      · exact Or.inl (Or.inl (Or.inl hb))
      · exact Or.inl (Or.inl (Or.inr (Or.inl hb)))
      · exact Or.inr hb
    · simp only [List.mem_append] at hb ⊢
      rcases hb with (hb | hb) | hb
      · exact Or.inl (Or.inl (Or.inl hb))
      · exact Or.inl (Or.inl (Or.inr hb))
      · rcases hO b hb with h1 | h1
        · exact Or.inl (Or.inr h1)
        · right; omega
  · simp only [List.mem_cons, not_or]; exact ⟨hRB, hRQ⟩
  · intro b hb
    rcases List.mem_cons.1 hb with h2 | h2
    · omega
    · have := (hQl b h2).1; omega
  · refine h.mod.trans hm6 (fun b hb => ?_)
    simp only [List.mem_cons] at hb
    rcases hb with hb | hb | hb
    · exact Or.inl (by simp [hb])
    · right; omega
    · right; exact (hQl b hb).1
end Go.Proofs.YtgimdodbajhpoaaGreatDoor
