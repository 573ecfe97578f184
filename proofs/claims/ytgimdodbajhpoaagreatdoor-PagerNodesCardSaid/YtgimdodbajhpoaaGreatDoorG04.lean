/- Slices that lie in a block of the call's own, at whatever place in it, and are appended to. -/
import Derived.ArgAppend
import Derived.Test.YtgimdodbajhpoaaGreatDoorG03
namespace Go.Proofs.YtgimdodbajhpoaaGreatDoor
open Go.RowKit Go.Maps
set_option linter.unusedSimpArgs false
set_option linter.unusedVariables false

theorem Mod.setCells {b : Nat} : ∀ (vs : List Value) (o : Nat) (w : World), Mod [b] w (w.setCells b o vs)
  | [], _, w => Mod.refl _ w
  | v :: r, o, w => (Mod.of_setCell w b o v).same (Mod.setCells r (o + 1) _)
theorem add_plain (b off j : Nat) : Addr.add ⟨b, off, none⟩ j = ⟨b, off + j, none⟩ := by unfold Addr.add; split <;> simp_all

/-- A slice in a block of number base or above: the cells behind its length, up to the capacity, are there and may be written. -/
structure Tl (w : World) (base size : Nat) (p : Option Addr) (n cap : Nat) (cells : List Value) : Prop where
  sl : Sl w size p n cap cells
  nil : p = none → n = 0 ∧ cap = 0
  own : ∀ a, p = some a → a.spot = none ∧ base ≤ a.block ∧ a.block < w.heap.size
  spare : ∀ a, p = some a → ∀ j, j < (cap - n) * size → (w.cell? ⟨a.block, a.off + n * size + j, none⟩).isSome = true ∧ w.frozen? ⟨a.block, a.off + n * size + j, none⟩ = false

namespace Tl
variable {w w' : World} {base size n cap : Nat} {p : Option Addr} {cells : List Value}

theorem none' (w : World) (base size : Nat) : Tl w base size none 0 0 [] := ⟨Sl.nil w size, fun _ => ⟨rfl, rfl⟩, by simp, by simp⟩
theorem of_own {e : TypeId} {k : Nat} (h : w.ownsRow base e size (.slice p n cap) k cells) (h1 : ∀ u ∈ cells, u.oneCell' = true) : Tl w base size p n cap cells := by
  have hs := (Sl.of_own h h1).1
  rcases h.2 with ⟨hv, rfl⟩ | ⟨g, cap', cur, hv, hg, hb, h2, h3, h4, h5⟩
  · cases hv; exact ⟨hs, fun _ => ⟨rfl, rfl⟩, by simp, by simp⟩
  · cases hv
    refine ⟨hs, by simp, fun a ha => by cases ha; exact ⟨rfl, hg, lt_of_at hb⟩, fun a ha j hj => ?_⟩
    cases ha
    have hlt : n * size + j < cur.size := by
      rw [h4]
      have e1 : n * size + (cap - n) * size = cap * size := by rw [← Nat.add_mul]; congr 1; omega
      omega
    refine ⟨?_, free_of_at hb _⟩
    rw [cell_of_at hb, Nat.zero_add, Array.getElem?_eq_getElem hlt]; rfl
theorem mod {S : List Nat} (h : Tl w base size p n cap cells) (hm : Mod S w w') (hn : ∀ a, p = some a → a.block ∉ S) : Tl w' base size p n cap cells :=
  ⟨h.sl.mod hm (fun a ha _ => hn a ha), h.nil, fun a ha => ⟨(h.own a ha).1, (h.own a ha).2.1, Nat.lt_of_lt_of_le (h.own a ha).2.2 hm.size⟩, fun a ha j hj => by
    have hlt := (h.own a ha).2.2
    rw [hm.cell (a := ⟨a.block, _, none⟩) hlt (hn a ha), hm.frozen (a := ⟨a.block, _, none⟩) hlt (hn a ha)]
    exact h.spare a ha j hj⟩
theorem base_le {base' : Nat} (h : Tl w base size p n cap cells) (hb : base' ≤ base) : Tl w base' size p n cap cells :=
  ⟨h.sl, h.nil, fun a ha => ⟨(h.own a ha).1, Nat.le_trans hb (h.own a ha).2.1, (h.own a ha).2.2⟩, h.spare⟩
/-- What stands behind the length is set: the slice grows in its place. -/
theorem extend {b o m : Nat} {news : List Value} (h : Tl w base size (some ⟨b, o, none⟩) n cap cells) (hl : news.length = m * size) (h1 : ∀ u ∈ news, u.oneCell' = true) (hroom : n + m ≤ cap) :
    Tl (w.setCells b (o + n * size) news) base size (some ⟨b, o, none⟩) (n + m) cap (cells ++ news) := by
  obtain ⟨_, g2, g3⟩ := h.own _ rfl
  simp only at g2 g3
  have hsp : ∀ j, j < news.length → (w.cell? ⟨b, o + n * size + j, none⟩).isSome = true ∧ w.frozen? ⟨b, o + n * size + j, none⟩ = false := fun j hj => h.spare _ rfl j (by
    rw [hl] at hj
    exact Nat.lt_of_lt_of_le hj (Nat.mul_le_mul_right _ (by omega)))
  refine ⟨⟨?_, hroom, h.sl.capm, ?_, b, o, fun _ => ⟨rfl, ?_⟩, fun j u hj => ?_⟩, by simp, fun a ha => ?_, fun a ha j hj => ?_⟩
  · rw [List.length_append, h.sl.len, hl, Nat.add_mul]
  · intro u hu; rcases List.mem_append.1 hu with hu | hu
    · exact h.sl.one u hu
    · exact h1 u hu
  · exact Nat.lt_of_lt_of_le g3 (Mod.setCells (b := b) news _ w).size
  · by_cases hjn : j < n * size
    · rw [World.cell?_setCells_out _ _ _ _ _ (fun _ _ => Or.inl (by simp; omega))]
      rw [List.getElem?_append_left (by rw [h.sl.len]; exact hjn)] at hj
      rcases Nat.eq_zero_or_pos n with h0 | h0
      · subst h0; omega
      · obtain ⟨b', o', hp, _, hc⟩ := h.sl.addr h0
        cases hp; exact hc j u hj
    · rw [List.getElem?_append_right (by rw [h.sl.len]; omega), h.sl.len] at hj
      obtain ⟨hlt, he⟩ := List.getElem?_eq_some_iff.1 hj
      have := World.cell?_setCells_in b news (o + n * size) w (fun j hj => (hsp j hj).1) (j - n * size) hlt
      rw [show o + n * size + (j - n * size) = o + j from by omega] at this
      rw [this, he]
  · cases ha; exact ⟨rfl, g2, Nat.lt_of_lt_of_le g3 (Mod.setCells (b := b) news _ w).size⟩
  · cases ha
    have hj2 : (n + m) * size + j < cap * size := by
      have : (n + m) * size + (cap - (n + m)) * size = cap * size := by rw [← Nat.add_mul]; congr 1; omega
      omega
    have := h.spare _ rfl (m * size + j) (by
      have : n * size + (cap - n) * size = cap * size := by rw [← Nat.add_mul]; congr 1; omega
      rw [Nat.add_mul] at hj2; omega)
    rw [World.frozen?_setCells, World.cell?_setCells_out _ _ _ _ _ (fun _ _ => Or.inr (by simp [hl, Nat.add_mul]; omega))]
    simp only at this ⊢
    rw [show o + (n + m) * size + j = o + n * size + (m * size + j) from by rw [Nat.add_mul]; omega]
    exact this
/-- 'x[lo:]'. -/
theorem sub_l {P : Program} {T : TypeId} (hT : P.underlying T = some (.slice (P.elem T))) (hs : ∀ W : World, (sizeOf (P.elem T)).run P W = .ok size W) (h : Tl w base size p n cap cells) (lo : Nat) (q : IntKind) (h1 : lo ≤ n) (hlt : lo < cap) :
    ∃ p', (∀ W, (Instr.slice T (.slice p n cap) (some (.int q lo)) none none).run P W = .ok (.slice p' (n - lo) (cap - lo)) W) ∧
      Tl w base size p' (n - lo) (cap - lo) (cells.drop (lo * size)) ∧ p'.map (·.block) = p.map (·.block) := by
  have hle := h.sl.le; have hcm := h.sl.capm
  have hsub := h.sl.sub_at h1 (Nat.le_refl n) (cap - lo) (by omega) (by omega) rfl
  rw [List.take_of_length_le (by rw [List.length_drop, h.sl.len, Nat.sub_mul]; exact Nat.le_refl _), if_neg (by omega)] at hsub
  refine ⟨p.map (·.add (lo * size)), fun W => ?_, ⟨hsub, fun hp => ?_, fun a ha => ?_, fun a ha j hj => ?_⟩, ?_⟩
  · rw [run_slice_l W T p n cap hT q lo (by omega) (by omega), hs]
    simp only [Result.andThen, sliced, Int.toNat_natCast]
    rw [if_neg (by omega)]
  · have := h.nil (by simpa using hp); omega
  · obtain ⟨a0, rfl, rfl⟩ := Option.map_eq_some_iff.1 ha
    obtain ⟨b, o, s⟩ := a0
    obtain ⟨g1, g2, g3⟩ := h.own _ rfl
    cases g1
    rw [add_plain]; exact ⟨rfl, g2, g3⟩
  · obtain ⟨a0, rfl, rfl⟩ := Option.map_eq_some_iff.1 ha
    obtain ⟨b, o, s⟩ := a0
    obtain ⟨g1, g2, g3⟩ := h.own _ rfl
    cases g1
    have := h.spare _ rfl j (by rwa [show cap - lo - (n - lo) = cap - n from by omega] at hj)
    rw [add_plain]
    simp only at this ⊢
    have e : o + lo * size + (n - lo) * size + j = o + n * size + j := by
      have : lo * size + (n - lo) * size = n * size := by rw [← Nat.add_mul]; congr 1; omega
      omega
    rw [e]; exact this
  · cases p with
    | none => rfl
    | some a => obtain ⟨b, o, s⟩ := a; obtain ⟨g1, _, _⟩ := h.own _ rfl; cases g1; simp [add_plain]
end Tl

section
variable {P : Program} (w : World)
theorem run_append_tl (base : Nat) (t ty e : TypeId) (i : TypeInfo) (z : Value) (size bytes : Nat) (ht : P.underlying t = some (.slice e)) (hi : P.info? e = some i) (hz : i.zero = some z)
    (hsize : i.size = size) (hby : i.bytes = bytes) (hzs : z.cells.size = size) (hsz : 0 < size)
    (p : Option Addr) (n cap : Nat) (xs : List Value) (h : Tl w base size p n cap xs)
    (q : Option Addr) (m c : Nat) (news : List Value) (hs : Sl w size q m c news)
    (h63 : n + m ≤ maxLen) (hbytes : (n + m) * bytes ≤ 140737488355328) (hbase : base ≤ w.heap.size) :
    ∃ p' c' w', (Builtin.append_ #[t, t] ty #[.slice p n cap, .slice q m c]).run P w = .ok (.slice p' (n + m) c') w' ∧ Tl w' base size p' (n + m) c' (xs ++ news) ∧ Mod (p.map (·.block)).toList w w' ∧
      (p' = none ↔ p = none ∧ m = 0) ∧ (p'.map (·.block) = p.map (·.block) ∨ p'.map (·.block) = some w.heap.size) := by
  cases p with
  | none =>
    obtain ⟨rfl, rfl⟩ := h.nil rfl
    have hx0 : xs = [] := List.eq_nil_of_length_eq_zero (by rw [h.sl.len]; omega)
    subst hx0
    obtain ⟨v', w', hr, h2, h3, h4, h5⟩ := run_append_src (P := P) w base t ty e i z size bytes ht hi hz hsize hby hzs hsz (.slice none 0 0) 0 [] (World.ownsRow_nil w base e size) q m c news hs h63 hbytes hbase
    obtain ⟨p', c', rfl, hp⟩ := own_shape h2
    refine ⟨p', c', w', hr, Tl.of_own h2 (by simpa using hs.one), Mod.of_grown' h3, by simpa using hp.trans h4, ?_⟩
    cases p' with
    | none => exact Or.inl rfl
    | some a => exact h5.imp (by simp [Value.ownBlock]) (by simp [Value.ownBlock])
  | some a =>
    obtain ⟨b, o, s⟩ := a
    obtain ⟨g1, g2, g3⟩ := h.own _ rfl
    cases g1
    simp only at g2 g3
    have hle := h.sl.le
    cases q with
    | none =>
      have hm0 : m = 0 := by
        rcases Nat.eq_zero_or_pos m with h | h
        · exact h
        · obtain ⟨_, _, hp, _⟩ := hs.addr h; cases hp
      subst hm0
      have hn0 : news = [] := List.eq_nil_of_length_eq_zero (by rw [hs.len]; omega)
      subst hn0
      refine ⟨some ⟨b, o, none⟩, cap, w, ?_, by simpa using h, Mod.refl _ _, by simp, Or.inl rfl⟩
      simp [Builtin.append_, run_underlying ht, Builtin.lenOf, Builtin.firstCells, go_sem, hle, storeCells, run_sizeOf w hi]
    | some a2 =>
      have hnews : ∀ j u, news[j]? = some u → w.cell? (a2.add j) = some u := fun j u hj => by
        have hpos : 0 < m := by
          rcases Nat.eq_zero_or_pos m with h | h
          · have := (List.getElem?_eq_some_iff.1 hj).1; rw [hs.len, h] at this; omega
          · exact h
        obtain ⟨b2, off2, hp, _, hc⟩ := hs.addr hpos
        cases hp
        rw [add_plain]; exact hc j u hj
      by_cases hroom : n + m ≤ cap
      · subst hsize
        have hsp : ∀ j, j < news.length → (w.cell? ⟨b, o + n * i.size + j, none⟩).isSome = true ∧ w.frozen? ⟨b, o + n * i.size + j, none⟩ = false := fun j hj => h.spare _ rfl j (by
          rw [hs.len] at hj
          exact Nat.lt_of_lt_of_le hj (Nat.mul_le_mul_right _ (by omega)))
        have hr := run_append_room_cells (P := P) w t ty e i ht hi b o n cap a2 m c news hs.len hnews hs.one hroom (fun j hj => (hsp j hj).1) (fun j hj => (hsp j hj).2)
        exact ⟨some ⟨b, o, none⟩, cap, _, hr, h.extend hs.len hs.one hroom, Mod.setCells _ _ _, by simp, Or.inl rfl⟩
      · have holds : ∀ j u, xs[j]? = some u → w.cell? ((⟨b, o, none⟩ : Addr).add j) = some u := fun j u hj => by
          rcases Nat.eq_zero_or_pos n with h0 | h0
          · have := (List.getElem?_eq_some_iff.1 hj).1; rw [h.sl.len, h0] at this; omega
          · obtain ⟨b', o', hp, _, hc⟩ := h.sl.addr h0
            cases hp; rw [add_plain]; exact hc j u hj
        obtain ⟨v', w', hr, h2, h3⟩ := run_append_arg_grows (P := P) w t ty e i z size bytes ht hi hz hsize hby hzs hsz ⟨b, o, none⟩ n cap xs h.sl.len holds a2 m c news hs.len hnews (by omega) h63 hbytes
        have hne : v' ≠ .slice none 0 0 := by
          intro hv; rw [hv] at h2
          rcases h2.2 with ⟨_, h0⟩ | ⟨g, cap', cur, hv', _⟩
          · omega
          · cases hv'
        have hgb : ∀ g, v'.ownBlock = some g → g = w.heap.size := by
          intro g hg
          rcases h2.2 with ⟨hv, _⟩ | ⟨g', cap', cur, hv, hle', hat, _⟩
          · exact absurd hv hne
          · rw [hv] at hg; simp [Value.ownBlock] at hg; subst hg
            rcases Nat.eq_or_lt_of_le hle' with hq | hq
            · exact hq.symm
            · exfalso
              exact absurd hq (by
                intro _
                have hr2 := run_append_grow (P := P) w t ty e i z ht hi hz ⟨b, o, none⟩ n cap xs (by rw [hsize]; exact h.sl.len) holds a2 m c news (by rw [hsize]; exact hs.len) hnews (by omega) (by unfold maxLen at h63; omega) (by rw [hby]; exact growslice_fits (by omega) hbytes)
                rw [hr2] at hr
                injection hr with e1 e2
                rw [hv] at e1
                injection e1 with e3
                injection e3 with e4
                injection e4 with e5
                omega)
        obtain ⟨p', c', rfl, hp⟩ := own_shape h2
        have ht2 := Tl.of_own h2 (fun u hu => by
          rcases List.mem_append.1 hu with hu | hu
          · exact h.sl.one u hu
          · exact hs.one u hu)
        refine ⟨p', c', w', hr, ht2.base_le hbase, (Mod.of_grown_none h3).mono (by simp), ?_, ?_⟩
        · constructor
          · intro e; exact absurd (hp.1 e) hne
          · rintro ⟨e, _⟩; cases e
        · cases p' with
          | none => exact absurd (hp.1 rfl) hne
          | some a => exact Or.inr (by simpa [Value.ownBlock] using hgb a.block rfl)

theorem wpList_append_tl {ops : Array Oper} {rest : List Oper} {o : Oper} {a : Act} {Q : Exit → Act → World → Prop} (hgd : o.guard = none) (s x : Operand) (t : TypeId)
    (ho : o.op = .call { callee := .builtin .append, args := #[s, x], argTypes := #[t, t] })
    (base : Nat) (e : TypeId) (i : TypeInfo) (z : Value) (size bytes : Nat) (ht : P.underlying t = some (.slice e)) (hi : P.info? e = some i) (hz : i.zero = some z)
    (hsize : i.size = size) (hby : i.bytes = bytes) (hzs : z.cells.size = size) (hsz : 0 < size)
    (p : Option Addr) (n cap : Nat) (xs : List Value) (hs : a.eval s = .slice p n cap) (hown : Tl w base size p n cap xs)
    (q : Option Addr) (m c : Nat) (news : List Value) (hx : a.eval x = .slice q m c) (hsrc : Sl w size q m c news)
    (N : Nat) (hN : n + m = N) (h63 : N ≤ maxLen) (hbytes : N * bytes ≤ 140737488355328) (hbase : base ≤ w.heap.size)
    (h : ∀ p' c' w', Tl w' base size p' N c' (xs ++ news) → Mod (p.map (·.block)).toList w w' → (p' = none ↔ p = none ∧ m = 0) → (p'.map (·.block) = p.map (·.block) ∨ p'.map (·.block) = some w.heap.size) → wpList P ops Q rest (a.put o.dst (.slice p' N c')) w') :
    wpList P ops Q (o :: rest) a w := by
  subst hN
  refine wpList_plain hgd fun K hK => ?_
  obtain ⟨p', c', w', hr, h2, h3, h4, h5⟩ := run_append_tl (P := P) w base t o.type e i z size bytes ht hi hz hsize hby hzs hsz p n cap xs hown q m c news hsrc h63 hbytes hbase
  unfold Oper.wp execOp
  simp only [ho, resolve, invoke, builtin, Sem.run_bind, Sem.run_pure, Result.andThen_ok, List.map_toArray, List.map_cons, List.map_nil, hs, hx, hr]
  exact hK _ _ (h p' c' w' h2 h3 h4 h5)

theorem step_append_tl {ops : Array Oper} {o : Oper} {a : Act} {K : Act → World → Prop} {Q : Exit → Act → World → Prop} {E : Prop} (hgd : o.guard = none) (s x : Operand) (t : TypeId)
    (ho : o.op = .call { callee := .builtin .append, args := #[s, x], argTypes := #[t, t] })
    (base : Nat) (e : TypeId) (i : TypeInfo) (z : Value) (size bytes : Nat) (ht : P.underlying t = some (.slice e)) (hi : P.info? e = some i) (hz : i.zero = some z)
    (hsize : i.size = size) (hby : i.bytes = bytes) (hzs : z.cells.size = size) (hsz : 0 < size)
    (p : Option Addr) (n cap : Nat) (xs : List Value) (hs : a.eval s = .slice p n cap) (hown : Tl w base size p n cap xs)
    (q : Option Addr) (m c : Nat) (news : List Value) (hx : a.eval x = .slice q m c) (hsrc : Sl w size q m c news)
    (N : Nat) (hN : n + m = N) (h63 : N ≤ maxLen) (hbytes : N * bytes ≤ 140737488355328) (hbase : base ≤ w.heap.size)
    (h : ∀ p' c' w', Tl w' base size p' N c' (xs ++ news) → Mod (p.map (·.block)).toList w w' → (p' = none ↔ p = none ∧ m = 0) → (p'.map (·.block) = p.map (·.block) ∨ p'.map (·.block) = some w.heap.size) → K (a.put o.dst (.slice p' N c')) w') :
    if Region.wanted o (yielded ops a.tmps) = true then Oper.wp P o a w K Q else E := by
  subst hN
  have hw : Region.wanted o (yielded ops a.tmps) = true := by simp [Region.wanted, hgd]
  rw [if_pos hw]
  obtain ⟨p', c', w', hr, h2, h3, h4, h5⟩ := run_append_tl (P := P) w base t o.type e i z size bytes ht hi hz hsize hby hzs hsz p n cap xs hown q m c news hsrc h63 hbytes hbase
  unfold Oper.wp execOp
  simp only [ho, resolve, invoke, builtin, Sem.run_bind, Sem.run_pure, Result.andThen_ok, List.map_toArray, List.map_cons, List.map_nil, hs, hx, hr]
  exact h p' c' w' h2 h3 h4 h5
end
end Go.Proofs.YtgimdodbajhpoaaGreatDoor
