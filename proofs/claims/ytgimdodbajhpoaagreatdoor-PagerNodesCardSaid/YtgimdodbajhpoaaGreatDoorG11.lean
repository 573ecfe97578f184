/- append(s, make([]byte, k)...), s a slice in a block of the call's own. append(s, make([]byte, k)...) where no cell of the slice's block is frozen: nor is one behind it. -/
import Derived.Lib.AppendZerosOnto
import Derived.Test.YtgimdodbajhpoaaGreatDoorG05
namespace Go.Proofs.YtgimdodbajhpoaaGreatDoor
open Go.RowKit Go.Maps
set_option linter.unusedSimpArgs false
set_option linter.unusedVariables false

theorem zeroCells_one (v : Value) (k : Nat) : Builtin.zeroCells #[v] k = (List.replicate k v).toArray := by
  apply Array.ext
  · simp [Builtin.zeroCells]
  · intro i h1 h2
    simp [Builtin.zeroCells, Nat.mod_one]
theorem bs_replicate (k : Nat) : bs (List.replicate k 0) = List.replicate k (.int .u8 0) := by simp [bs]
section
variable {P : Program} (w : World)
theorem run_append_zeros_tl (base : Nat) (t tn ty e : TypeId) (i : TypeInfo) (ht : P.underlying t = some (.slice e)) (htn : P.underlying tn = some (.int .i64)) (hi : P.info? e = some i) (hz : i.zero = some (.int .u8 0))
    (hsize : i.size = 1) (hby : i.bytes = 1) (p : Option Addr) (n cap : Nat) (l : List Int) (h : Tl w base 1 p n cap (bs l)) (k : Nat) (hk : n + k ≤ 1073741824) (hbase : base ≤ w.heap.size) :
    ∃ p' c' w', (Builtin.append_ #[t, tn] ty #[.slice p n cap, .int .i64 k]).run P w = .ok (.slice p' (n + k) c') w' ∧ Tl w' base 1 p' (n + k) c' (bs (l ++ List.replicate k 0)) ∧ Mod (p.map (·.block)).toList w w' ∧
      (p' = none ↔ p = none ∧ k = 0) := by
  have hw : IntKind.i64.wrap (k : Int) = k := by rw [IntKind.wrap_i64]; omega
  have hneg : ¬ ((k : Int) < 0) := by omega
  have h48i : ¬ (281474976710656 < (k : Int)) := by omega
  have hln := h.sl.len
  rw [bs_len] at hln
  by_cases hroom : n + k ≤ cap
  · cases p with
    | none =>
      obtain ⟨rfl, rfl⟩ := h.nil rfl
      obtain rfl : k = 0 := by omega
      have hw0 : IntKind.i64.wrap 0 = 0 := by decide
      refine ⟨none, 0, w, ?_, by simpa using h, Mod.refl _ _, by simp⟩
      simp [Builtin.append_, run_underlying ht, run_underlying htn, sizeOf, typeInfo, hi, asInt, asIntOf, hw0, hsize, hby]
    | some a =>
      obtain ⟨b, o, s⟩ := a
      obtain ⟨g1, g2, g3⟩ := h.own _ rfl
      cases g1
      simp only at g2 g3
      have hsp : ∀ j, j < k → (w.cell? ⟨b, o + n * 1 + j, none⟩).isSome = true ∧ w.frozen? ⟨b, o + n * 1 + j, none⟩ = false := fun j hj => h.spare _ rfl j (by omega)
      have hrl : (List.replicate k (Value.int IntKind.u8 0)).length = k := by simp
      have hst := run_storeCells_cells (P := P) b (o + n * 1) (List.replicate k (.int .u8 0)) 0 w (fun j hj => by rw [hrl] at hj; exact (hsp j hj).1) (fun j hj => by rw [hrl] at hj; exact (hsp j hj).2) (by intro v hv; rw [List.eq_of_mem_replicate hv]; rfl)
      have hr : (Builtin.append_ #[t, tn] ty #[.slice (some ⟨b, o, none⟩) n cap, .int .i64 k]).run P w = .ok (.slice (some ⟨b, o, none⟩) (n + k) cap) (w.setCells b (o + n * 1) (List.replicate k (.int .u8 0))) := by
        simp only [Nat.add_zero] at hst
        by_cases hk0 : k = 0
        · subst hk0
          have hw0 : IntKind.i64.wrap 0 = 0 := by decide
          have hroom0 : n ≤ cap := hroom
          simp [Builtin.append_, run_underlying ht, run_underlying htn, sizeOf, typeInfo, hi, asInt, asIntOf, hw0, hsize, hby, hroom0, storeCells, World.setCells]
        · have hcz : (Value.int IntKind.u8 0).cells = #[Value.int IntKind.u8 0] := rfl
          simp [Builtin.append_, run_underlying ht, run_underlying htn, sizeOf, typeInfo, zeroValue, hi, hz, asInt, asIntOf, hw, hsize, hby, hroom, hneg, h48i, hk0, hcz, zeroCells_one, Addr.add_lit]
          simp at hst
          simp [hst]
      exact ⟨some ⟨b, o, none⟩, cap, _, hr, by rw [bs_append, bs_replicate]; exact h.extend (by simp) (by intro v hv; rw [List.eq_of_mem_replicate hv]; rfl) hroom, Mod.setCells _ _ _, by simp⟩
  · obtain ⟨k0, hk0⟩ : ∃ k0, k = k0 + 1 := ⟨k - 1, by have := h.sl.le; omega⟩
    have hold : (Builtin.firstCells i.size n (.slice p n cap)).run P w.drew = .ok (bs l).toArray w.drew := by
      cases p with
      | none =>
        obtain ⟨rfl, rfl⟩ := h.nil rfl
        obtain rfl : l = [] := List.eq_nil_of_length_eq_zero hln
        simp [Builtin.firstCells, bs]
      | some a =>
        obtain ⟨b, o, s⟩ := a
        obtain ⟨g1, g2, g3⟩ := h.own _ rfl
        cases g1
        refine run_firstCells_some (P := P) w.drew i.size n ⟨b, o, none⟩ n cap (bs l) (by rw [hsize]; exact h.sl.len) (fun j u hj => ?_)
        rcases Nat.eq_zero_or_pos n with h0 | h0
        · have := (List.getElem?_eq_some_iff.1 hj).1; rw [bs_len] at this; omega
        · obtain ⟨b', o', hp, _, hc⟩ := h.sl.addr h0
          cases hp
          rw [add_plain]; exact hc j u hj
    have hr := Lib.run_append_grow_zeros (P := P) w t tn ty e i (.int .u8 0) .i64 .i64 ht htn hi hz p n cap (bs l) hold k (by omega) (by omega) (by omega) (by omega) (by rw [hby]; omega) (growslice_fits (by omega) (by rw [hby]; omega))
    have hge := grownCap_ge w (n + k) cap e
    have hcm : grownCap w (n + k) cap e ≤ maxLen := grownCap_le_maxLen w (n + k) cap e (by unfold maxLen; omega)
    have hcz : (Value.int IntKind.u8 0).cells = #[Value.int IntKind.u8 0] := rfl
    have hown : (w.drew.alloc (.cells ((bs l).toArray ++ Builtin.zeroCells (Value.int IntKind.u8 0).cells k ++ Builtin.zeroCells (Value.int IntKind.u8 0).cells (grownCap w (n + k) cap e - (n + k))) e)).ownsRow w.heap.size e 1 (.slice (some ⟨w.heap.size, 0, none⟩) (n + k) (grownCap w (n + k) cap e)) (n + k) (bs (l ++ List.replicate k 0)) := by
      refine ⟨by simp [bs_len, hln], Or.inr ⟨w.heap.size, _, _, rfl, Nat.le_refl _, heap_alloc_new w.drew _, hge, hcm, ?_, ?_⟩⟩
      · simp [hcz, zeroCells_one, bs_len, hln]; omega
      · rw [bs_append, bs_replicate, hcz, zeroCells_one, zeroCells_one]
        simp only [Array.toList_append]
        rw [List.take_append_of_le_length (by simp [bs_len, hln]), List.take_of_length_le (by simp [bs_len, hln])]
    refine ⟨_, _, _, hr, (Tl.of_own hown (bs_one _)).base_le hbase, ?_, by simp; omega⟩
    exact ((Mod.of_drew w).alloc).mono (by simp)

theorem wpList_append_zeros_tl {ops : Array Oper} {rest : List Oper} {o : Oper} {a : Act} {Q : Exit → Act → World → Prop} (hgd : o.guard = none) (s x : Operand) (t tn : TypeId)
    (ho : o.op = .call { callee := .builtin .append, args := #[s, x], argTypes := #[t, tn] })
    (base : Nat) (e : TypeId) (i : TypeInfo) (ht : P.underlying t = some (.slice e)) (htn : P.underlying tn = some (.int .i64)) (hi : P.info? e = some i) (hz : i.zero = some (.int .u8 0))
    (hsize : i.size = 1) (hby : i.bytes = 1) (p : Option Addr) (n cap : Nat) (l : List Int) (hs : a.eval s = .slice p n cap) (hown : Tl w base 1 p n cap (bs l)) (k : Nat) (hx : a.eval x = .int .i64 k)
    (N : Nat) (hN : n + k = N) (hk : N ≤ 1073741824) (hbase : base ≤ w.heap.size)
    (h : ∀ p' c' w', Tl w' base 1 p' N c' (bs (l ++ List.replicate k 0)) → Mod (p.map (·.block)).toList w w' → (p' = none ↔ p = none ∧ k = 0) → wpList P ops Q rest (a.put o.dst (.slice p' N c')) w') :
    wpList P ops Q (o :: rest) a w := by
  subst hN
  refine wpList_plain hgd fun K hK => ?_
  obtain ⟨p', c', w', hr, h2, h3, h4⟩ := run_append_zeros_tl (P := P) w base t tn o.type e i ht htn hi hz hsize hby p n cap l hown k hk hbase
  unfold Oper.wp execOp
  simp only [ho, resolve, invoke, builtin, Sem.run_bind, Sem.run_pure, Result.andThen_ok, List.map_toArray, List.map_cons, List.map_nil, hs, hx, hr]
  exact hK _ _ (h p' c' w' h2 h3 h4)
end
end Go.Proofs.YtgimdodbajhpoaaGreatDoor
namespace Go.Proofs.YtgimdodbajhpoaaGreatDoor
open Go.RowKit Go.Maps
set_option linter.unusedSimpArgs false
set_option linter.unusedVariables false

/-- No cell of the block is frozen. -/
def Fz (w : World) (p : Option Addr) : Prop := ∀ a, p = some a → ∀ o, w.frozen? ⟨a.block, o, none⟩ = false
theorem fz_own {w : World} {base : Nat} {e : TypeId} {size n cap k : Nat} {p : Option Addr} {xs : List Value} (h : w.ownsRow base e size (.slice p n cap) k xs) : Fz w p := by
  intro a ha o
  rcases h.2 with ⟨hv, _⟩ | ⟨g, cap', cur, hv, _, hat, _⟩
  · cases hv; cases ha
  · cases hv; cases ha; exact free_of_at hat o
section
variable {P : Program} (w : World)
theorem run_append_zeros_fz (base : Nat) (t tn ty e : TypeId) (i : TypeInfo) (ht : P.underlying t = some (.slice e)) (htn : P.underlying tn = some (.int .i64)) (hi : P.info? e = some i) (hz : i.zero = some (.int .u8 0))
    (hsize : i.size = 1) (hby : i.bytes = 1) (p : Option Addr) (n cap : Nat) (l : List Int) (h : Tl w base 1 p n cap (bs l)) (hf : Fz w p) (k : Nat) (hk : n + k ≤ 1073741824) (hbase : base ≤ w.heap.size) :
    ∃ p' c' w', (Builtin.append_ #[t, tn] ty #[.slice p n cap, .int .i64 k]).run P w = .ok (.slice p' (n + k) c') w' ∧ Tl w' base 1 p' (n + k) c' (bs (l ++ List.replicate k 0)) ∧ Mod (p.map (·.block)).toList w w' ∧
      (p' = none ↔ p = none ∧ k = 0) ∧ Fz w' p' := by
  have hw : IntKind.i64.wrap (k : Int) = k := by rw [IntKind.wrap_i64]; omega
  have hneg : ¬ ((k : Int) < 0) := by omega
  have h48i : ¬ (281474976710656 < (k : Int)) := by omega
  have hln := h.sl.len
  rw [bs_len] at hln
  by_cases hroom : n + k ≤ cap
  · cases p with
    | none =>
      obtain ⟨rfl, rfl⟩ := h.nil rfl
      obtain rfl : k = 0 := by omega
      have hw0 : IntKind.i64.wrap 0 = 0 := by decide
      refine ⟨none, 0, w, ?_, by simpa using h, Mod.refl _ _, by simp, hf⟩
      simp [Builtin.append_, run_underlying ht, run_underlying htn, sizeOf, typeInfo, hi, asInt, asIntOf, hw0, hsize, hby]
    | some a =>
      obtain ⟨b, o, s⟩ := a
      obtain ⟨g1, g2, g3⟩ := h.own _ rfl
      cases g1
      simp only at g2 g3
      have hsp : ∀ j, j < k → (w.cell? ⟨b, o + n * 1 + j, none⟩).isSome = true ∧ w.frozen? ⟨b, o + n * 1 + j, none⟩ = false := fun j hj => h.spare _ rfl j (by omega)
      have hrl : (List.replicate k (Value.int IntKind.u8 0)).length = k := by simp
      have hst := run_storeCells_cells (P := P) b (o + n * 1) (List.replicate k (.int .u8 0)) 0 w (fun j hj => by rw [hrl] at hj; exact (hsp j hj).1) (fun j hj => by rw [hrl] at hj; exact (hsp j hj).2) (by intro v hv; rw [List.eq_of_mem_replicate hv]; rfl)
      have hr : (Builtin.append_ #[t, tn] ty #[.slice (some ⟨b, o, none⟩) n cap, .int .i64 k]).run P w = .ok (.slice (some ⟨b, o, none⟩) (n + k) cap) (w.setCells b (o + n * 1) (List.replicate k (.int .u8 0))) := by
        simp only [Nat.add_zero] at hst
        by_cases hk0 : k = 0
        · subst hk0
          have hw0 : IntKind.i64.wrap 0 = 0 := by decide
          have hroom0 : n ≤ cap := hroom
          simp [Builtin.append_, run_underlying ht, run_underlying htn, sizeOf, typeInfo, hi, asInt, asIntOf, hw0, hsize, hby, hroom0, storeCells, World.setCells]
        · have hcz : (Value.int IntKind.u8 0).cells = #[Value.int IntKind.u8 0] := rfl
          simp [Builtin.append_, run_underlying ht, run_underlying htn, sizeOf, typeInfo, zeroValue, hi, hz, asInt, asIntOf, hw, hsize, hby, hroom, hneg, h48i, hk0, hcz, zeroCells_one, Addr.add_lit]
          simp at hst
          simp [hst]
      exact ⟨some ⟨b, o, none⟩, cap, _, hr, by rw [bs_append, bs_replicate]; exact h.extend (by simp) (by intro v hv; rw [List.eq_of_mem_replicate hv]; rfl) hroom, Mod.setCells _ _ _, by simp, fun a ha o' => by cases ha; rw [World.frozen?_setCells]; exact hf _ rfl o'⟩
  · obtain ⟨k0, hk0⟩ : ∃ k0, k = k0 + 1 := ⟨k - 1, by have := h.sl.le; omega⟩
    have hold : (Builtin.firstCells i.size n (.slice p n cap)).run P w.drew = .ok (bs l).toArray w.drew := by
      cases p with
      | none =>
        obtain ⟨rfl, rfl⟩ := h.nil rfl
        obtain rfl : l = [] := List.eq_nil_of_length_eq_zero hln
        simp [Builtin.firstCells, bs]
      | some a =>
        obtain ⟨b, o, s⟩ := a
        obtain ⟨g1, g2, g3⟩ := h.own _ rfl
        cases g1
        refine run_firstCells_some (P := P) w.drew i.size n ⟨b, o, none⟩ n cap (bs l) (by rw [hsize]; exact h.sl.len) (fun j u hj => ?_)
        rcases Nat.eq_zero_or_pos n with h0 | h0
        · have := (List.getElem?_eq_some_iff.1 hj).1; rw [bs_len] at this; omega
        · obtain ⟨b', o', hp, _, hc⟩ := h.sl.addr h0
          cases hp
          rw [add_plain]; exact hc j u hj
    have hr := Lib.run_append_grow_zeros (P := P) w t tn ty e i (.int .u8 0) .i64 .i64 ht htn hi hz p n cap (bs l) hold k (by omega) (by omega) (by omega) (by omega) (by rw [hby]; omega) (growslice_fits (by omega) (by rw [hby]; omega))
    have hge := grownCap_ge w (n + k) cap e
    have hcm : grownCap w (n + k) cap e ≤ maxLen := grownCap_le_maxLen w (n + k) cap e (by unfold maxLen; omega)
    have hcz : (Value.int IntKind.u8 0).cells = #[Value.int IntKind.u8 0] := rfl
    have hown : (w.drew.alloc (.cells ((bs l).toArray ++ Builtin.zeroCells (Value.int IntKind.u8 0).cells k ++ Builtin.zeroCells (Value.int IntKind.u8 0).cells (grownCap w (n + k) cap e - (n + k))) e)).ownsRow w.heap.size e 1 (.slice (some ⟨w.heap.size, 0, none⟩) (n + k) (grownCap w (n + k) cap e)) (n + k) (bs (l ++ List.replicate k 0)) := by
      refine ⟨by simp [bs_len, hln], Or.inr ⟨w.heap.size, _, _, rfl, Nat.le_refl _, heap_alloc_new w.drew _, hge, hcm, ?_, ?_⟩⟩
      · simp [hcz, zeroCells_one, bs_len, hln]; omega
      · rw [bs_append, bs_replicate, hcz, zeroCells_one, zeroCells_one]
        simp only [Array.toList_append]
        rw [List.take_append_of_le_length (by simp [bs_len, hln]), List.take_of_length_le (by simp [bs_len, hln])]
    refine ⟨_, _, _, hr, (Tl.of_own hown (bs_one _)).base_le hbase, ?_, by simp; omega, fz_own hown⟩
    exact ((Mod.of_drew w).alloc).mono (by simp)

theorem wpList_append_zeros_fz {ops : Array Oper} {rest : List Oper} {o : Oper} {a : Act} {Q : Exit → Act → World → Prop} (hgd : o.guard = none) (s x : Operand) (t tn : TypeId)
    (ho : o.op = .call { callee := .builtin .append, args := #[s, x], argTypes := #[t, tn] })
    (base : Nat) (e : TypeId) (i : TypeInfo) (ht : P.underlying t = some (.slice e)) (htn : P.underlying tn = some (.int .i64)) (hi : P.info? e = some i) (hz : i.zero = some (.int .u8 0))
    (hsize : i.size = 1) (hby : i.bytes = 1) (p : Option Addr) (n cap : Nat) (l : List Int) (hs : a.eval s = .slice p n cap) (hown : Tl w base 1 p n cap (bs l)) (hf : Fz w p) (k : Nat) (hx : a.eval x = .int .i64 k)
    (N : Nat) (hN : n + k = N) (hk : N ≤ 1073741824) (hbase : base ≤ w.heap.size)
    (h : ∀ p' c' w', Tl w' base 1 p' N c' (bs (l ++ List.replicate k 0)) → Mod (p.map (·.block)).toList w w' → (p' = none ↔ p = none ∧ k = 0) → Fz w' p' → wpList P ops Q rest (a.put o.dst (.slice p' N c')) w') :
    wpList P ops Q (o :: rest) a w := by
  subst hN
  refine wpList_plain hgd fun K hK => ?_
  obtain ⟨p', c', w', hr, h2, h3, h4, h5⟩ := run_append_zeros_fz (P := P) w base t tn o.type e i ht htn hi hz hsize hby p n cap l hown hf k hk hbase
  unfold Oper.wp execOp
  simp only [ho, resolve, invoke, builtin, Sem.run_bind, Sem.run_pure, Result.andThen_ok, List.map_toArray, List.map_cons, List.map_nil, hs, hx, hr]
  exact hK _ _ (h p' c' w' h2 h3 h4 h5)
end
end Go.Proofs.YtgimdodbajhpoaaGreatDoor
