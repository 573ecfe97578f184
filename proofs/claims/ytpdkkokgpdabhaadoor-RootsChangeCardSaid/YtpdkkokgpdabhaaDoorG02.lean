/- Slices that lie in a block of the call's own, at whatever place in it, and are appended to. Bytes as numbers, plainly. Two rows of bytes, compared. Bytes as a text. Texts as rows of numbers: their order, their bytes, their runes. The document's numbers as bytes: Key, Same. -/
import Derived.ArgAppend
import Derived.Lib.BytesEntry
import Derived.Lib.Bytealg
import Derived.Laws.BytesArg
import Derived.Lib.OthersKept
import Derived.Lib.ItoaWalk
import Derived.Test.YtpdkkokgpdabhaaDoorG01
import Derived.Test.YtpdkkokgpdabhaaDoorChecked
import Derived.Test.YtpdkkokgpdabhaaDoorRows
namespace Go.Proofs.YtpdkkokgpdabhaaDoor
open Go.RowKit Go.Maps
set_option linter.unusedSimpArgs false
set_option linter.unusedVariables false

theorem Mod.setCells {b : Nat} : ∀ (vs : List Value) (o : Nat) (w : World), Mod [b] w (w.setCells b o vs)
  | [], _, w => Mod.refl _ w
  | v :: r, o, w => (Mod.of_setCell w b o v).same (Mod.setCells r (o + 1) _)
theorem add_plain (b off j : Nat) : Addr.add ⟨b, off, none⟩ j = ⟨b, off + j, none⟩ := by unfold Addr.add; split <;> simp_all

/-- A slice in a block of number base or above: the cells behind its length, up to the capacity, are there and may be written. -/
structure Tl (w : World) (base size : Nat) (p : Option Addr) (n cap : Nat) (cells : List Value) : Prop where
  sl : Sl w size p n cap cells
  nil : p = none → n = 0 ∧ cap = 0
  own : ∀ a, p = some a → a.spot = none ∧ base ≤ a.block ∧ a.block < w.heap.size
  spare : ∀ a, p = some a → ∀ j, j < (cap - n) * size → (w.cell? ⟨a.block, a.off + n * size + j, none⟩).isSome = true ∧ w.frozen? ⟨a.block, a.off + n * size + j, none⟩ = false

namespace Tl
variable {w w' : World} {base size n cap : Nat} {p : Option Addr} {cells : List Value}

theorem none' (w : World) (base size : Nat) : Tl w base size none 0 0 [] := ⟨Sl.nil w size, fun _ => ⟨rfl, rfl⟩, by simp, by simp⟩
theorem of_own {e : TypeId} {k : Nat} (h : w.ownsRow base e size (.slice p n cap) k cells) (h1 : ∀ u ∈ cells, u.oneCell' = true) : Tl w base size p n cap cells := by
  have hs := (Sl.of_own h h1).1
  rcases h.2 with ⟨hv, rfl⟩ | ⟨g, cap', cur, hv, hg, hb, h2, h3, h4, h5⟩
  · cases hv; exact ⟨hs, fun _ => ⟨rfl, rfl⟩, by simp, by simp⟩
  · cases hv
    refine ⟨hs, by simp, fun a ha => by cases ha; exact ⟨rfl, hg, lt_of_at hb⟩, fun a ha j hj => ?_⟩
    cases ha
    have hlt : n * size + j < cur.size := by
      rw [h4]
      have e1 : n * size + (cap - n) * size = cap * size := by rw [← Nat.add_mul]; congr 1; omega
      omega
    refine ⟨?_, free_of_at hb _⟩
    rw [cell_of_at hb, Nat.zero_add, Array.getElem?_eq_getElem hlt]; rfl
theorem mod {S : List Nat} (h : Tl w base size p n cap cells) (hm : Mod S w w') (hn : ∀ a, p = some a → a.block ∉ S) : Tl w' base size p n cap cells :=
  ⟨h.sl.mod hm (fun a ha _ => hn a ha), h.nil, fun a ha => ⟨(h.own a ha).1, (h.own a ha).2.1, Nat.lt_of_lt_of_le (h.own a ha).2.2 hm.size⟩, fun a ha j hj => by
    have hlt := (h.own a ha).2.2
    rw [hm.cell (a := ⟨a.block, _, none⟩) hlt (hn a ha), hm.frozen (a := ⟨a.block, _, none⟩) hlt (hn a ha)]
    exact h.spare a ha j hj⟩
theorem base_le {base' : Nat} (h : Tl w base size p n cap cells) (hb : base' ≤ base) : Tl w base' size p n cap cells :=
  ⟨h.sl, h.nil, fun a ha => ⟨(h.own a ha).1, Nat.le_trans hb (h.own a ha).2.1, (h.own a ha).2.2⟩, h.spare⟩
/-- What stands behind the length is set: the slice grows in its place. -/
theorem extend {b o m : Nat} {news : List Value} (h : Tl w base size (some ⟨b, o, none⟩) n cap cells) (hl : news.length = m * size) (h1 : ∀ u ∈ news, u.oneCell' = true) (hroom : n + m ≤ cap) :
    Tl (w.setCells b (o + n * size) news) base size (some ⟨b, o, none⟩) (n + m) cap (cells ++ news) := by
  obtain ⟨_, g2, g3⟩ := h.own _ rfl
  simp only at g2 g3
  have hsp : ∀ j, j < news.length → (w.cell? ⟨b, o + n * size + j, none⟩).isSome = true ∧ w.frozen? ⟨b, o + n * size + j, none⟩ = false := fun j hj => h.spare _ rfl j (by
    rw [hl] at hj
    exact Nat.lt_of_lt_of_le hj (Nat.mul_le_mul_right _ (by omega)))
  refine ⟨⟨?_, hroom, h.sl.capm, ?_, b, o, fun _ => ⟨rfl, ?_⟩, fun j u hj => ?_⟩, by simp, fun a ha => ?_, fun a ha j hj => ?_⟩
  · rw [List.length_append, h.sl.len, hl, Nat.add_mul]
  · intro u hu; rcases List.mem_append.1 hu with hu | hu
    · exact h.sl.one u hu
    · exact h1 u hu
  · exact Nat.lt_of_lt_of_le g3 (Mod.setCells (b := b) news _ w).size
  · by_cases hjn : j < n * size
    · rw [World.cell?_setCells_out _ _ _ _ _ (fun _ _ => Or.inl (by simp; omega))]
      rw [List.getElem?_append_left (by rw [h.sl.len]; exact hjn)] at hj
      rcases Nat.eq_zero_or_pos n with h0 | h0
      · subst h0; omega
      · obtain ⟨b', o', hp, _, hc⟩ := h.sl.addr h0
        cases hp; exact hc j u hj
    · rw [List.getElem?_append_right (by rw [h.sl.len]; omega), h.sl.len] at hj
      obtain ⟨hlt, he⟩ := List.getElem?_eq_some_iff.1 hj
      have := World.cell?_setCells_in b news (o + n * size) w (fun j hj => (hsp j hj).1) (j - n * size) hlt
      rw [show o + n * size + (j - n * size) = o + j from by omega] at this
      rw [this, he]
  · cases ha; exact ⟨rfl, g2, Nat.lt_of_lt_of_le g3 (Mod.setCells (b := b) news _ w).size⟩
  · cases ha
    have hj2 : (n + m) * size + j < cap * size := by
      have : (n + m) * size + (cap - (n + m)) * size = cap * size := by rw [← Nat.add_mul]; congr 1; omega
      omega
    have := h.spare _ rfl (m * size + j) (by
      have : n * size + (cap - n) * size = cap * size := by rw [← Nat.add_mul]; congr 1; omega
      rw [Nat.add_mul] at hj2; omega)
    rw [World.frozen?_setCells, World.cell?_setCells_out _ _ _ _ _ (fun _ _ => Or.inr (by simp [hl, Nat.add_mul]; omega))]
    simp only at this ⊢
    rw [show o + (n + m) * size + j = o + n * size + (m * size + j) from by rw [Nat.add_mul]; omega]
    exact this
/-- 'x[lo:]'. -/
theorem sub_l {P : Program} {T : TypeId} (hT : P.underlying T = some (.slice (P.elem T))) (hs : ∀ W : World, (sizeOf (P.elem T)).run P W = .ok size W) (h : Tl w base size p n cap cells) (lo : Nat) (q : IntKind) (h1 : lo ≤ n) (hlt : lo < cap) :
    ∃ p', (∀ W, (Instr.slice T (.slice p n cap) (some (.int q lo)) none none).run P W = .ok (.slice p' (n - lo) (cap - lo)) W) ∧
      Tl w base size p' (n - lo) (cap - lo) (cells.drop (lo * size)) ∧ p'.map (·.block) = p.map (·.block) := by
  have hle := h.sl.le; have hcm := h.sl.capm
  have hsub := h.sl.sub_at h1 (Nat.le_refl n) (cap - lo) (by omega) (by omega) rfl
  rw [List.take_of_length_le (by rw [List.length_drop, h.sl.len, Nat.sub_mul]; exact Nat.le_refl _), if_neg (by omega)] at hsub
  refine ⟨p.map (·.add (lo * size)), fun W => ?_, ⟨hsub, fun hp => ?_, fun a ha => ?_, fun a ha j hj => ?_⟩, ?_⟩
  · rw [run_slice_l W T p n cap hT q lo (by omega) (by omega), hs]
    simp only [Result.andThen, sliced, Int.toNat_natCast]
    rw [if_neg (by omega)]
  · have := h.nil (by simpa using hp); omega
  · obtain ⟨a0, rfl, rfl⟩ := Option.map_eq_some_iff.1 ha
    obtain ⟨b, o, s⟩ := a0
    obtain ⟨g1, g2, g3⟩ := h.own _ rfl
    cases g1
    rw [add_plain]; exact ⟨rfl, g2, g3⟩
  · obtain ⟨a0, rfl, rfl⟩ := Option.map_eq_some_iff.1 ha
    obtain ⟨b, o, s⟩ := a0
    obtain ⟨g1, g2, g3⟩ := h.own _ rfl
    cases g1
    have := h.spare _ rfl j (by rwa [show cap - lo - (n - lo) = cap - n from by omega] at hj)
    rw [add_plain]
    simp only at this ⊢
    have e : o + lo * size + (n - lo) * size + j = o + n * size + j := by
      have : lo * size + (n - lo) * size = n * size := by rw [← Nat.add_mul]; congr 1; omega
      omega
    rw [e]; exact this
  · cases p with
    | none => rfl
    | some a => obtain ⟨b, o, s⟩ := a; obtain ⟨g1, _, _⟩ := h.own _ rfl; cases g1; simp [add_plain]
end Tl

section
variable {P : Program} (w : World)
theorem run_append_tl (base : Nat) (t ty e : TypeId) (i : TypeInfo) (z : Value) (size bytes : Nat) (ht : P.underlying t = some (.slice e)) (hi : P.info? e = some i) (hz : i.zero = some z)
    (hsize : i.size = size) (hby : i.bytes = bytes) (hzs : z.cells.size = size) (hsz : 0 < size)
    (p : Option Addr) (n cap : Nat) (xs : List Value) (h : Tl w base size p n cap xs)
    (q : Option Addr) (m c : Nat) (news : List Value) (hs : Sl w size q m c news)
    (h63 : n + m ≤ maxLen) (hbytes : (n + m) * bytes ≤ 140737488355328) (hbase : base ≤ w.heap.size) :
    ∃ p' c' w', (Builtin.append_ #[t, t] ty #[.slice p n cap, .slice q m c]).run P w = .ok (.slice p' (n + m) c') w' ∧ Tl w' base size p' (n + m) c' (xs ++ news) ∧ Mod (p.map (·.block)).toList w w' ∧
      (p' = none ↔ p = none ∧ m = 0) ∧ (p'.map (·.block) = p.map (·.block) ∨ p'.map (·.block) = some w.heap.size) := by
  cases p with
  | none =>
    obtain ⟨rfl, rfl⟩ := h.nil rfl
    have hx0 : xs = [] := List.eq_nil_of_length_eq_zero (by rw [h.sl.len]; omega)
    subst hx0
    obtain ⟨v', w', hr, h2, h3, h4, h5⟩ := run_append_src (P := P) w base t ty e i z size bytes ht hi hz hsize hby hzs hsz (.slice none 0 0) 0 [] (World.ownsRow_nil w base e size) q m c news hs h63 hbytes hbase
    obtain ⟨p', c', rfl, hp⟩ := own_shape h2
    refine ⟨p', c', w', hr, Tl.of_own h2 (by simpa using hs.one), Mod.of_grown' h3, by simpa using hp.trans h4, ?_⟩
    cases p' with
    | none => exact Or.inl rfl
    | some a => exact h5.imp (by simp [Value.ownBlock]) (by simp [Value.ownBlock])
  | some a =>
    obtain ⟨b, o, s⟩ := a
    obtain ⟨g1, g2, g3⟩ := h.own _ rfl
    cases g1
    simp only at g2 g3
    have hle := h.sl.le
    cases q with
    | none =>
      have hm0 : m = 0 := by
        rcases Nat.eq_zero_or_pos m with h | h
        · exact h
        · obtain ⟨_, _, hp, _⟩ := hs.addr h; cases hp
      subst hm0
      have hn0 : news = [] := List.eq_nil_of_length_eq_zero (by rw [hs.len]; omega)
      subst hn0
      refine ⟨some ⟨b, o, none⟩, cap, w, ?_, by simpa using h, Mod.refl _ _, by simp, Or.inl rfl⟩
      simp [Builtin.append_, run_underlying ht, Builtin.lenOf, Builtin.firstCells, go_sem, hle, storeCells, run_sizeOf w hi]
    | some a2 =>
      have hnews : ∀ j u, news[j]? = some u → w.cell? (a2.add j) = some u := fun j u hj => by
        have hpos : 0 < m := by
          rcases Nat.eq_zero_or_pos m with h | h
          · have := (List.getElem?_eq_some_iff.1 hj).1; rw [hs.len, h] at this; omega
          · exact h
        obtain ⟨b2, off2, hp, _, hc⟩ := hs.addr hpos
        cases hp
        rw [add_plain]; exact hc j u hj
      by_cases hroom : n + m ≤ cap
      · subst hsize
        have hsp : ∀ j, j < news.length → (w.cell? ⟨b, o + n * i.size + j, none⟩).isSome = true ∧ w.frozen? ⟨b, o + n * i.size + j, none⟩ = false := fun j hj => h.spare _ rfl j (by
          rw [hs.len] at hj
          exact Nat.lt_of_lt_of_le hj (Nat.mul_le_mul_right _ (by omega)))
        have hr := run_append_room_cells (P := P) w t ty e i ht hi b o n cap a2 m c news hs.len hnews hs.one hroom (fun j hj => (hsp j hj).1) (fun j hj => (hsp j hj).2)
        exact ⟨some ⟨b, o, none⟩, cap, _, hr, h.extend hs.len hs.one hroom, Mod.setCells _ _ _, by simp, Or.inl rfl⟩
      · have holds : ∀ j u, xs[j]? = some u → w.cell? ((⟨b, o, none⟩ : Addr).add j) = some u := fun j u hj => by
          rcases Nat.eq_zero_or_pos n with h0 | h0
          · have := (List.getElem?_eq_some_iff.1 hj).1; rw [h.sl.len, h0] at this; omega
          · obtain ⟨b', o', hp, _, hc⟩ := h.sl.addr h0
            cases hp; rw [add_plain]; exact hc j u hj
        obtain ⟨v', w', hr, h2, h3⟩ := run_append_arg_grows (P := P) w t ty e i z size bytes ht hi hz hsize hby hzs hsz ⟨b, o, none⟩ n cap xs h.sl.len holds a2 m c news hs.len hnews (by omega) h63 hbytes
        have hne : v' ≠ .slice none 0 0 := by
          intro hv; rw [hv] at h2
          rcases h2.2 with ⟨_, h0⟩ | ⟨g, cap', cur, hv', _⟩
          · omega
          · cases hv'
        have hgb : ∀ g, v'.ownBlock = some g → g = w.heap.size := by
          intro g hg
          rcases h2.2 with ⟨hv, _⟩ | ⟨g', cap', cur, hv, hle', hat, _⟩
          · exact absurd hv hne
          · rw [hv] at hg; simp [Value.ownBlock] at hg; subst hg
            rcases Nat.eq_or_lt_of_le hle' with hq | hq
            · exact hq.symm
            · exfalso
              exact absurd hq (by
                intro _
                have hr2 := run_append_grow (P := P) w t ty e i z ht hi hz ⟨b, o, none⟩ n cap xs (by rw [hsize]; exact h.sl.len) holds a2 m c news (by rw [hsize]; exact hs.len) hnews (by omega) (by unfold maxLen at h63; omega) (by rw [hby]; exact growslice_fits (by omega) hbytes)
                rw [hr2] at hr
                injection hr with e1 e2
                rw [hv] at e1
                injection e1 with e3
                injection e3 with e4
                injection e4 with e5
                omega)
        obtain ⟨p', c', rfl, hp⟩ := own_shape h2
        have ht2 := Tl.of_own h2 (fun u hu => by
          rcases List.mem_append.1 hu with hu | hu
          · exact h.sl.one u hu
          · exact hs.one u hu)
        refine ⟨p', c', w', hr, ht2.base_le hbase, (Mod.of_grown_none h3).mono (by simp), ?_, ?_⟩
        · constructor
          · intro e; exact absurd (hp.1 e) hne
          · rintro ⟨e, _⟩; cases e
        · cases p' with
          | none => exact absurd (hp.1 rfl) hne
          | some a => exact Or.inr (by simpa [Value.ownBlock] using hgb a.block rfl)

theorem wpList_append_tl {ops : Array Oper} {rest : List Oper} {o : Oper} {a : Act} {Q : Exit → Act → World → Prop} (hgd : o.guard = none) (s x : Operand) (t : TypeId)
    (ho : o.op = .call { callee := .builtin .append, args := #[s, x], argTypes := #[t, t] })
    (base : Nat) (e : TypeId) (i : TypeInfo) (z : Value) (size bytes : Nat) (ht : P.underlying t = some (.slice e)) (hi : P.info? e = some i) (hz : i.zero = some z)
    (hsize : i.size = size) (hby : i.bytes = bytes) (hzs : z.cells.size = size) (hsz : 0 < size)
    (p : Option Addr) (n cap : Nat) (xs : List Value) (hs : a.eval s = .slice p n cap) (hown : Tl w base size p n cap xs)
    (q : Option Addr) (m c : Nat) (news : List Value) (hx : a.eval x = .slice q m c) (hsrc : Sl w size q m c news)
    (N : Nat) (hN : n + m = N) (h63 : N ≤ maxLen) (hbytes : N * bytes ≤ 140737488355328) (hbase : base ≤ w.heap.size)
    (h : ∀ p' c' w', Tl w' base size p' N c' (xs ++ news) → Mod (p.map (·.block)).toList w w' → (p' = none ↔ p = none ∧ m = 0) → (p'.map (·.block) = p.map (·.block) ∨ p'.map (·.block) = some w.heap.size) → wpList P ops Q rest (a.put o.dst (.slice p' N c')) w') :
    wpList P ops Q (o :: rest) a w := by
  subst hN
  refine wpList_plain hgd fun K hK => ?_
  obtain ⟨p', c', w', hr, h2, h3, h4, h5⟩ := run_append_tl (P := P) w base t o.type e i z size bytes ht hi hz hsize hby hzs hsz p n cap xs hown q m c news hsrc h63 hbytes hbase
  unfold Oper.wp execOp
  simp only [ho, resolve, invoke, builtin, Sem.run_bind, Sem.run_pure, Result.andThen_ok, List.map_toArray, List.map_cons, List.map_nil, hs, hx, hr]
  exact hK _ _ (h p' c' w' h2 h3 h4 h5)

theorem step_append_tl {ops : Array Oper} {o : Oper} {a : Act} {K : Act → World → Prop} {Q : Exit → Act → World → Prop} {E : Prop} (hgd : o.guard = none) (s x : Operand) (t : TypeId)
    (ho : o.op = .call { callee := .builtin .append, args := #[s, x], argTypes := #[t, t] })
    (base : Nat) (e : TypeId) (i : TypeInfo) (z : Value) (size bytes : Nat) (ht : P.underlying t = some (.slice e)) (hi : P.info? e = some i) (hz : i.zero = some z)
    (hsize : i.size = size) (hby : i.bytes = bytes) (hzs : z.cells.size = size) (hsz : 0 < size)
    (p : Option Addr) (n cap : Nat) (xs : List Value) (hs : a.eval s = .slice p n cap) (hown : Tl w base size p n cap xs)
    (q : Option Addr) (m c : Nat) (news : List Value) (hx : a.eval x = .slice q m c) (hsrc : Sl w size q m c news)
    (N : Nat) (hN : n + m = N) (h63 : N ≤ maxLen) (hbytes : N * bytes ≤ 140737488355328) (hbase : base ≤ w.heap.size)
    (h : ∀ p' c' w', Tl w' base size p' N c' (xs ++ news) → Mod (p.map (·.block)).toList w w' → (p' = none ↔ p = none ∧ m = 0) → (p'.map (·.block) = p.map (·.block) ∨ p'.map (·.block) = some w.heap.size) → K (a.put o.dst (.slice p' N c')) w') :
    if Region.wanted o (yielded ops a.tmps) = true then Oper.wp P o a w K Q else E := by
  subst hN
  have hw : Region.wanted o (yielded ops a.tmps) = true := by simp [Region.wanted, hgd]
  rw [if_pos hw]
  obtain ⟨p', c', w', hr, h2, h3, h4, h5⟩ := run_append_tl (P := P) w base t o.type e i z size bytes ht hi hz hsize hby hzs hsz p n cap xs hown q m c news hsrc h63 hbytes hbase
  unfold Oper.wp execOp
  simp only [ho, resolve, invoke, builtin, Sem.run_bind, Sem.run_pure, Result.andThen_ok, List.map_toArray, List.map_cons, List.map_nil, hs, hx, hr]
  exact h p' c' w' h2 h3 h4 h5
end
end Go.Proofs.YtpdkkokgpdabhaaDoor
namespace Go.Proofs.YtpdkkokgpdabhaaDoor
open Go.RowKit Go.Maps
set_option linter.unusedSimpArgs false
set_option linter.unusedVariables false

def bs (l : List Int) : List Value := l.map (.int .u8 ·)
theorem bs_len (l : List Int) : (bs l).length = l.length := by simp [bs]
theorem bs_one (l : List Int) : ∀ u ∈ bs l, u.oneCell' = true := by
  intro u hu; simp [bs] at hu; obtain ⟨a, _, rfl⟩ := hu; rfl
theorem bs_append (a b : List Int) : bs (a ++ b) = bs a ++ bs b := by simp [bs]
theorem bs_get {l : List Int} {k : Nat} (hk : k < l.length) : (bs l)[k]? = some (.int .u8 (l.getD k 0)) := by
  rw [getD_at hk, bs, List.getElem?_map, List.getElem?_eq_getElem hk]; rfl

/-- The n low bytes of a number, the greatest first. -/
def be : Nat → Int → List Int
  | 0, _ => []
  | n + 1, v => be n (v / 256) ++ [v % 256]
theorem be_len : ∀ (n : Nat) (v : Int), (be n v).length = n
  | 0, _ => rfl
  | n + 1, v => by rw [be, List.length_append, be_len n]; rfl
theorem be_succ : ∀ (n : Nat) (v : Int), be (n + 1) v = (v / 256 ^ n % 256) :: be n v
  | 0, v => by simp [be]
  | n + 1, v => by
    rw [be, be_succ n (v / 256), be, Int.ediv_ediv_of_nonneg (by omega), List.cons_append, Int.pow_succ, Int.mul_comm]

theorem getD_ext {l m : List Int} (hl : l.length = m.length) (h : ∀ j, j < l.length → l.getD j 0 = m.getD j 0) : l = m := by
  apply List.ext_getElem hl
  intro i h1 h2
  have := h i h1
  rwa [getD_at h1, getD_at h2] at this
/-- A slice of bytes that came in. -/
structure BytesIn (w : World) (p : Option Addr) (n c : Nat) (l : List Int) : Prop where
  sl : Sl w 1 p n c (bs l)
  wf : ∀ x ∈ l, 0 ≤ x ∧ x < 256
theorem BytesIn.len {w : World} {p : Option Addr} {n c : Nat} {l : List Int} (h : BytesIn w p n c l) : l.length = n := by have := h.sl.len; rw [bs_len] at this; omega
/-- The number that bytes say, the greatest first. -/
def un (l : List Int) : Int := l.foldl (fun a x => a * 256 + x) 0
theorem un_succ {l : List Int} {k : Nat} (hk : k < l.length) : un (l.take (k + 1)) = un (l.take k) * 256 + l.getD k 0 := by
  rw [List.take_succ_eq_append_getElem hk, un, List.foldl_append, getD_at hk]; rfl
theorem un_range {l : List Int} (h : ∀ x ∈ l, 0 ≤ x ∧ x < 256) : ∀ k : Nat, k ≤ l.length → 0 ≤ un (l.take k) ∧ un (l.take k) < 256 ^ k
  | 0, _ => by simp [un]
  | k + 1, hk => by
    obtain ⟨h1, h2⟩ := un_range h k (by omega)
    have hx := h (l.getD k 0) (by rw [getD_at (by omega)]; exact List.getElem_mem _)
    rw [un_succ (by omega), Int.pow_succ]
    constructor <;> omega

/-- The number that the first four bytes say; a byte that isn't there counts as 0. -/
def un4 (l : List Int) : Nat → Int
  | 0 => 0
  | k + 1 => un4 l k * 256 + l.getD k 0
theorem un4_range {l : List Int} (h : ∀ x ∈ l, 0 ≤ x ∧ x < 256) : ∀ k : Nat, 0 ≤ un4 l k ∧ un4 l k < 256 ^ k
  | 0 => by simp [un4]
  | k + 1 => by
    obtain ⟨h1, h2⟩ := un4_range h k
    have hx : 0 ≤ l.getD k 0 ∧ l.getD k 0 < 256 := by
      rcases Nat.lt_or_ge k l.length with hk | hk
      · exact h _ (by rw [getD_at hk]; exact List.getElem_mem _)
      · rw [show l.getD k 0 = 0 from by simp [List.getD, List.getElem?_eq_none hk]]; omega
    rw [un4, Int.pow_succ]
    constructor <;> omega
theorem be_drop (v : Int) : (be 8 v).drop 4 = be 4 v := by
  rw [be_succ 7, be_succ 6, be_succ 5, be_succ 4]; rfl
def BytesS (l : List Int) (w : World) (v : Value) (w' : World) : Prop := ∃ p n c, v = .slice p n c ∧ n = l.length ∧ Sl w' 1 p n c (bs l) ∧ Mod [] w w'

/-- One byte more, read as part of a number. -/
theorem un_append (a : List Int) (x : Int) : un (a ++ [x]) = un a * 256 + x := by simp [un, List.foldl_append]
theorem un_be : ∀ (n : Nat) (v : Int), 0 ≤ v → v < 256 ^ n → un (be n v) = v
  | 0, v, h0, h1 => by simp at h1; simp [be, un]; omega
  | n + 1, v, h0, h1 => by
    rw [Int.pow_succ] at h1
    rw [be, un_append, un_be n (v / 256) (by omega) (by omega)]
    omega
theorem un4_take {l : List Int} : ∀ {k : Nat}, k ≤ l.length → un4 l k = un (l.take k)
  | 0, _ => by simp [un4, un]
  | k + 1, h => by rw [un4, un4_take (by omega), un_succ (by omega)]
theorem be_wf : ∀ (n : Nat) (v : Int), ∀ x ∈ be n v, 0 ≤ x ∧ x < 256
  | 0, _, _, h => by simp [be] at h
  | n + 1, v, x, h => by
    rw [be] at h
    rcases List.mem_append.1 h with h | h
    · exact be_wf n _ x h
    · simp at h; omega
theorem un4_be {v : Int} (r : List Int) (h0 : 0 ≤ v) (h1 : v < 4294967296) : un4 (be 4 v ++ r) 4 = v := by
  rw [un4_take (by rw [List.length_append, be_len]; omega), List.take_append_of_le_length (by rw [be_len]; omega), List.take_of_length_le (by rw [be_len]; omega), un_be 4 v h0 h1]
theorem un8_be {v : Int} (r : List Int) (h0 : 0 ≤ v) (h1 : v < 18446744073709551616) : un ((be 8 v ++ r).take 8) = v := by
  rw [List.take_append_of_le_length (by rw [be_len]; omega), List.take_of_length_le (by rw [be_len]; omega), un_be 8 v h0 h1]
theorem unkey_range {l : List Int} (h : ∀ x ∈ l, 0 ≤ x ∧ x < 256) {a : Nat} : 0 ≤ un ((l.drop a).take 8) ∧ un ((l.drop a).take 8) < 18446744073709551616 := by
  have hw : ∀ x ∈ (l.drop a).take 8, 0 ≤ x ∧ x < 256 := fun x hx => h x (List.mem_of_mem_drop (List.mem_of_mem_take hx))
  obtain ⟨h1, h2⟩ := un_range hw _ (Nat.le_refl _)
  rw [List.take_of_length_le (Nat.le_refl _)] at h1 h2
  refine ⟨h1, Int.lt_of_lt_of_le h2 ?_⟩
  have hlen : ((l.drop a).take 8).length ≤ 8 := by rw [List.length_take]; omega
  obtain ⟨e, he⟩ : ∃ e, 8 = ((l.drop a).take 8).length + e := ⟨8 - ((l.drop a).take 8).length, by omega⟩
  have h8 : (18446744073709551616 : Int) = 256 ^ 8 := by decide
  rw [h8]
  conv => rhs; rw [he, Int.pow_add]
  have h1 : (1 : Int) ≤ 256 ^ e := Int.pow_pos (by omega)
  have h9 := Int.mul_le_mul_of_nonneg_left h1 (Int.le_of_lt (show (0 : Int) < 256 ^ ((l.drop a).take 8).length from Int.pow_pos (by omega)))
  rwa [Int.mul_one] at h9
end Go.Proofs.YtpdkkokgpdabhaaDoor
namespace Go.Proofs.YtpdkkokgpdabhaaDoor
open Go.RowKit Go.Maps
set_option linter.unusedSimpArgs false
set_option linter.unusedVariables false

/-- Does one row come ahead of another? -/
def less : List Int → List Int → Bool
  | [], [] => false
  | [], _ :: _ => true
  | _ :: _, [] => false
  | x :: a, y :: b => if x = y then less a b else decide (x < y)
def cmpL (l k : List Int) : Int := Lib.compareBytes (Lib.bytesOf l) (Lib.bytesOf k)
theorem cmpL_spec : ∀ {l k : List Int}, (∀ x ∈ l, 0 ≤ x ∧ x < 256) → (∀ x ∈ k, 0 ≤ x ∧ x < 256) → cmpL l k = if l = k then 0 else if less l k = true then -1 else 1
  | [], [], _, _ => rfl
  | [], _ :: _, _, _ => rfl
  | _ :: _, [], _, _ => rfl
  | x :: a, y :: b, h1, h2 => by
    have ih := cmpL_spec (l := a) (k := b) (fun z hz => h1 z (by simp [hz])) (fun z hz => h2 z (by simp [hz]))
    have hx := h1 x (by simp); have hy := h2 y (by simp)
    have lt : ∀ u v : Int, (0 ≤ u ∧ u < 256) → (0 ≤ v ∧ v < 256) → ((UInt8.ofNat u.toNat < UInt8.ofNat v.toNat) ↔ u < v) := fun u v hu hv => by
      rw [UInt8.lt_iff_toNat_lt, UInt8.toNat_ofNat', UInt8.toNat_ofNat']; omega
    show (if UInt8.ofNat x.toNat < UInt8.ofNat y.toNat then (-1 : Int) else if UInt8.ofNat y.toNat < UInt8.ofNat x.toNat then 1 else cmpL a b) = _
    simp only [lt x y hx hy, lt y x hy hx, ih, less, List.cons.injEq]
    by_cases e : x = y
    · subst e; simp
    · by_cases e2 : x < y
      · simp [e, e2]
      · have : y < x := by omega
        simp [e, e2, this]
theorem less_irrefl : ∀ l : List Int, less l l = false
  | [] => rfl
  | x :: a => by simp [less, less_irrefl a]
theorem cmpL_neg {l k : List Int} (h1 : ∀ x ∈ l, 0 ≤ x ∧ x < 256) (h2 : ∀ x ∈ k, 0 ≤ x ∧ x < 256) : decide (0 ≤ cmpL l k) = !less l k := by
  rw [cmpL_spec h1 h2]
  by_cases e : l = k
  · subst e; simp [less_irrefl]
  · rw [if_neg e]
    cases less l k <;> simp

theorem run_bytesOf {P : Program} {w : World} {p : Option Addr} {n c : Nat} {l : List Int} (h : BytesIn w p n c l) : (Extern.Bytes.bytesOf (.slice p n c)).run P w = .ok ⟨(Lib.bytesOf l).toArray⟩ w := by
  have hl := h.len
  cases p with
  | none =>
    have : n = 0 := by
      rcases Nat.eq_zero_or_pos n with h0 | h0
      · exact h0
      · obtain ⟨b, o, hp, _⟩ := h.sl.addr h0; cases hp
    subst this
    obtain rfl : l = [] := List.eq_nil_of_length_eq_zero hl
    rfl
  | some a =>
    have := Lib.run_loadBytesX (P := P) w l a .empty (fun j x hj => by
      have hj2 := (List.getElem?_eq_some_iff.1 hj).1
      obtain ⟨b, o, hp, _, hc⟩ := h.sl.addr (by omega)
      cases hp
      have := hc j (.int .u8 x) (by simp [bs, hj])
      rw [← this]
      unfold Addr.add
      by_cases hz : j = 0 <;> simp [hz])
    rw [← hl]
    show (Extern.Bytes.loadBytes a l.length .empty).run P w = _
    rw [this]; simp
end Go.Proofs.YtpdkkokgpdabhaaDoor
namespace Go.Proofs.YtpdkkokgpdabhaaDoor
open Go.RowKit Go.Maps
set_option linter.unusedSimpArgs false
set_option linter.unusedVariables false

theorem Sl.str {P : Program} {w : World} {p : Option Addr} {n c : Nat} {l : List Int} (h : Sl w 1 p n c (bs l)) (src e dst : TypeId) (hs : P.underlying src = some (.slice e)) (he : P.underlying e = some (.int .u8)) (hd : P.underlying dst = some .string) :
    (convert src dst (.slice p n c)).run P w = .ok (.string (strOfNums l)) w := by
  have hl : l.length = n := by have := h.len; rw [bs_len] at this; omega
  rcases Nat.eq_zero_or_pos n with h0 | h0
  · subst h0
    obtain rfl : l = [] := List.eq_nil_of_length_eq_zero hl
    rw [run_convert_bytes_string w src dst e _ 0 c hs he hd]
    cases p <;> simp [Conv.bytesToString, loadCells]
    all_goals rfl
  · obtain ⟨b, off, rfl, _, hc⟩ := h.addr h0
    exact run_convert_bytes_arg w src e hs he b off n c l hl (fun i hi => hc i _ (bs_get (by omega))) dst hd
theorem str_inj {l m : List Int} (h1 : ∀ x ∈ l, 0 ≤ x ∧ x < 256) (h2 : ∀ x ∈ m, 0 ≤ x ∧ x < 256) (h : strOfNums l = strOfNums m) : l = m := by
  have e : l.map (fun n => UInt8.ofNat n.toNat) = m.map (fun n => UInt8.ofNat n.toNat) := by rw [← strOfNums_data, ← strOfNums_data, h]
  have hl : l.length = m.length := by have := congrArg List.length e; simpa using this
  apply List.ext_getElem hl
  intro i a b
  have e1 := congrArg (fun q => q[i]?) e
  simp only [List.getElem?_map, List.getElem?_eq_getElem a, List.getElem?_eq_getElem b, Option.map_some, Option.some.injEq] at e1
  have e2 := congrArg UInt8.toNat e1
  simp only [UInt8.toNat_ofNat'] at e2
  have g1 := h1 _ (List.getElem_mem a)
  have g2 := h2 _ (List.getElem_mem b)
  omega
theorem toList_inj {a b : ByteArray} (h : a.toList = b.toList) : a = b := by
  rw [ByteArray.toList_eq, ByteArray.toList_eq] at h
  cases a; cases b
  exact congrArg ByteArray.mk (Array.toList_inj.1 h)
theorem str_beq {l m : List Int} (h1 : ∀ x ∈ l, 0 ≤ x ∧ x < 256) (h2 : ∀ x ∈ m, 0 ≤ x ∧ x < 256) : ((strOfNums l).toList == (strOfNums m).toList) = decide (l = m) := by
  by_cases h : l = m
  · simp [h]
  · rw [decide_eq_false h]
    refine beq_eq_false_iff_ne.2 fun e => h (str_inj h1 h2 (toList_inj e))
end Go.Proofs.YtpdkkokgpdabhaaDoor
namespace Go.Proofs.YtpdkkokgpdabhaaDoor
open Go.RowKit Go.Maps
set_option linter.unusedSimpArgs false
set_option linter.unusedVariables false

def WfL (l : List Int) : Prop := ∀ x ∈ l, 0 ≤ x ∧ x < 256
theorem str_is (s : ByteArray) : ∃ l, WfL l ∧ s = strOfNums l := by
  refine ⟨s.data.toList.map (fun x : UInt8 => (x.toNat : Int)), fun x hx => ?_, ?_⟩
  · simp only [List.mem_map] at hx
    obtain ⟨u, _, rfl⟩ := hx
    have := u.toNat_lt
    omega
  · cases s with
    | mk a =>
      unfold strOfNums
      congr 1
      rw [List.map_map]
      have : ((fun n : Int => UInt8.ofNat n.toNat) ∘ fun x : UInt8 => (x.toNat : Int)) = id := by
        funext x; simp
      rw [this, List.map_id]
theorem str_list (l : List Int) : (strOfNums l).toList = Lib.bytesOf l := Lib.strOfNums_toList l
theorem str_less {l m : List Int} (h1 : WfL l) (h2 : WfL m) : Op.bytesLess (strOfNums l).toList (strOfNums m).toList = less l m := by
  rw [str_list, str_list]
  induction l generalizing m with
  | nil => cases m <;> rfl
  | cons x a ih =>
    cases m with
    | nil => rfl
    | cons y b =>
      have hx := h1 x (by simp); have hy := h2 y (by simp)
      show (decide (UInt8.ofNat x.toNat < UInt8.ofNat y.toNat) || (UInt8.ofNat x.toNat == UInt8.ofNat y.toNat && Op.bytesLess (Lib.bytesOf a) (Lib.bytesOf b))) = less (x :: a) (y :: b)
      rw [ih (m := b) (fun z hz => h1 z (by simp [hz])) (fun z hz => h2 z (by simp [hz]))]
      have e1 : (UInt8.ofNat x.toNat < UInt8.ofNat y.toNat) ↔ x < y := by rw [UInt8.lt_iff_toNat_lt, UInt8.toNat_ofNat', UInt8.toNat_ofNat']; omega
      have e2 : (UInt8.ofNat x.toNat == UInt8.ofNat y.toNat) = decide (x = y) := by
        rw [Bool.eq_iff_iff]; simp only [beq_iff_eq, decide_eq_true_eq]
        refine ⟨fun h => ?_, fun h => by rw [h]⟩
        have := congrArg UInt8.toNat h
        rw [UInt8.toNat_ofNat', UInt8.toNat_ofNat'] at this; omega
      rw [e2, less]
      by_cases h : x = y
      · subst h; simp
      · simp only [h, decide_false, Bool.false_and, Bool.or_false, if_false]
        exact decide_eq_decide.2 e1
theorem str_index {l : List Int} (h : WfL l) {i : Nat} (hi : i < l.length) : ((strOfNums l)[i]'(by rw [strOfNums_size]; exact hi)).toNat = (l.getD i 0).toNat ∧ 0 ≤ l.getD i 0 ∧ l.getD i 0 < 256 := by
  have hx := h _ (List.getElem_mem hi)
  rw [getD_at hi]
  refine ⟨?_, hx⟩
  rw [Lib.getD_at]
  show (((l.map fun n => UInt8.ofNat n.toNat)).getD i 0).toNat = _
  rw [List.getD_eq_getElem?_getD, List.getElem?_map, List.getElem?_eq_getElem hi]
  simp; omega
/-- A rune that isn't ASCII is no less than 128. -/
theorem decode_high (s : ByteArray) (i : Nat) (h : 128 ≤ (s.get! i).toNat) : 128 ≤ (Utf8.decode s i).1 := by
  have hb := (s.get! i).toNat_lt
  unfold Utf8.decode
  simp only [Nat.add_zero]
  have h0 : ¬ (s.get! i).toNat < 128 := by omega
  rw [if_neg h0]
  split
  · split
    · rename_i h1 h2; exact h2
    · decide
  · split
    · split
      · rename_i h1 h2
        simp only [Bool.and_eq_true, decide_eq_true_eq] at h2
        omega
      · decide
    · split
      · split
        · rename_i h1 h2
          simp only [Bool.and_eq_true, decide_eq_true_eq] at h2
          omega
        · decide
      · decide

def cmpS (l m : List Int) : Int := cmpL l m
set_option maxRecDepth 100000 in
theorem scompare_any (l m : List Int) (w : World) : Calls Tryd.prog 51 #[.string (strOfNums l), .string (strOfNums m)] w (Ret fun v w' => v = .int .i64 (cmpL l m) ∧ w' = w) := by
  have hr : (Extern.BytealgCompare.compare #[.string (strOfNums l), .string (strOfNums m)]).run Tryd.prog w = .ok (.int .i64 (cmpL l m)) w := by
    change Sem.run Tryd.prog (do pure (goInt (Extern.BytealgCompare.cmp (← Extern.Bytes.bytesOf (.string (strOfNums l))) (← Extern.Bytes.bytesOf (.string (strOfNums m)))))) w = _
    have e : ∀ x : ByteArray, (Extern.Bytes.bytesOf (.string x)).run Tryd.prog w = .ok x w := fun x => rfl
    simp only [Sem.run_bind, Sem.run_pure, e, Result.andThen]
    rw [show strOfNums l = ⟨(Lib.bytesOf l).toArray⟩ from rfl, show strOfNums m = ⟨(Lib.bytesOf m).toArray⟩ from rfl, Lib.cmp_eq]
    rfl
  have HR := Lib.hid hr
  clear hr
  go_enter Tryd.func51, Tryd.ntmps51
  go_wp2
  rw [run_callFunc_extern Tryd.func63 (by kernel_rfl) (by kernel_rfl) (by kernel_rfl) (e := Extern.BytealgCompare.compare) (by kernel_rfl), HR.out]
  simp only [Result.andThen]
  rw [Oper.upon_value]
  go_wp2
  go_ret
  exact .mk ⟨rfl, rfl⟩
end Go.Proofs.YtpdkkokgpdabhaaDoor
namespace Go.Proofs.YtpdkkokgpdabhaaDoor
open Go.RowKit Go.Maps
set_option linter.unusedSimpArgs false
set_option linter.unusedVariables false

theorem own_lit {w : World} (T : TypeId) (x : Value) (hx : x.oneCell' = true) (base : Nat) (hb : base ≤ w.heap.size) : (w.alloc (.cells #[x] T)).ownsRow base T 1 (.slice (some ⟨w.heap.size, 0, none⟩) 1 1) 1 [x] := by
  refine ⟨by simp, Or.inr ⟨w.heap.size, 1, #[x], rfl, hb, at_alloc w _, by omega, by unfold maxLen; omega, by simp, by simp⟩⟩
theorem infoU8 : (Tryd.prog.info? 5).map (fun i => (i.zero, i.size, i.bytes)) = some (some (.int .u8 0), 1, 1) := by kernel_rfl

def BytesR (l : List Int) (w : World) (v : Value) (w' : World) : Prop := ∃ p n c, v = .slice p n c ∧ n = l.length ∧ w'.ownsRow w.heap.size 5 1 (.slice p n c) n (bs l) ∧ Mod [] w w'
set_option maxRecDepth 100000 in
set_option maxHeartbeats 1000000 in
theorem qkey_any (v : Int) (w : World) (h0 : 0 ≤ v) (h1 : v < 2 ^ 64) :
    Calls Tryd.prog 31 #[.int .u64 v] w (Ret (BytesR (be 8 v) w)) := by
  obtain ⟨i0, hi0, hz0, hz1, hz2⟩ := info_parts infoU8
  go_enter Tryd.func31, Tryd.ntmps31
  go_wp2
  go_loopw [0, 3, 4] (fun x o i wr => ∃ (k : Nat) (q : Option Addr) (d : Nat), k ≤ 8 ∧ i = .int .i64 k ∧ x = .int .u64 (v / 256 ^ k) ∧ o = .slice q k d ∧ wr.ownsRow w.heap.size 5 1 (.slice q k d) k (bs (be k v)) ∧ Mod [] w wr) (fun _ _ i _ => 8 - (intOf i).toNat)
  case atStart => exact ⟨0, none, 0, by omega, rfl, by simp, rfl, ⟨by simp [bs, be], Or.inl ⟨rfl, rfl⟩⟩, Mod.refl _ _⟩
  case round =>
    obtain ⟨k, q, d, hk, rfl, rfl, rfl, hown, hm⟩ := hrel
    have HO := Lib.hid hown
    have HM := Lib.hid hm
    have hsz := hm.size
    clear hown hm
    by_cases hlt : k < 8
    · obtain ⟨V, hV⟩ : ∃ V, V = v / 256 ^ k := ⟨_, rfl⟩
      have hp : (0 : Int) < 256 ^ k := Int.pow_pos (by omega)
      have hV0 : 0 ≤ V ∧ V < 2 ^ 64 := by
        rw [hV]; exact ⟨Int.ediv_nonneg h0 (by omega), Int.lt_of_le_of_lt (Int.ediv_le_self _ h0) h1⟩
      have hn : V / 256 = v / 256 ^ (k + 1) := by rw [hV, Int.ediv_ediv_of_nonneg (by omega), Int.pow_succ]
      have HN := Lib.hid hn
      have HB := Lib.hid (be_succ k v)
      rw [← hV] at HB ⊢
      have hwr : IntKind.u8.wrap (V % 256) = V % 256 := by rw [IntKind.wrap_u8]; omega
      clear hV hp hn
      go_wp2_with (first
        | (at_builtin; go_must (refine wpList_append_src _ rfl _ _ _ rfl w.heap.size 5 i0 _ 1 1 Tryd.underlying23 hi0 hz0 hz1 hz2 rfl (by omega) (.slice (some ⟨wr.heap.size, 0, none⟩) 1 1) 1 [.int .u8 (V % 256)] rfl (own_lit _ _ rfl _ hsz) _ _ _ (bs (be k v)) rfl ((Sl.of_own HO.out (bs_one _)).1.mod (Mod.of_alloc wr _) (by simp)) (k + 1) (by omega) (by unfold maxLen; omega) (by omega) (by simp; omega) ?_); intro p' c' w1 hown1 hgrow hnil hlie; (have HO1 := Lib.hid hown1); (have HG1 := Lib.hid hgrow); clear hown1 hgrow hnil hlie)
        | go_in)
      go_roundw
      case rel => exact ⟨k + 1, p', c', by omega, by go_num, by rw [HN.out], rfl, by rw [HB.out]; exact HO1.out, (HM.out.same (Mod.of_alloc wr _)).trans (Mod.of_grown' HG1.out) (fun b hb => by simp [Value.ownBlock] at hb; omega)⟩
      case measure => simp [intOf]; omega
    · obtain rfl : k = 8 := by omega
      go_wp2
      go_ret
      exact .mk ⟨q, 8, d, rfl, by rw [be_len], HO.out, HM.out⟩
theorem sizeBytes (W : World) : (sizeOf (Tryd.prog.elem 23)).run Tryd.prog W = .ok 1 W := by kernel_rfl
def SameR (w : World) (b : Bool) (v : Value) (w' : World) : Prop := v = .bool b ∧ Mod [] w w'
set_option maxRecDepth 100000 in
theorem qsame_any (p q : Option Addr) (nl nm c d : Nat) (l m : List Int) (w : World) (h1 : Sl w 1 p nl c (bs l)) (h2 : Sl w 1 q nm d (bs m)) :
    Calls Tryd.prog 13 #[.slice p nl c, .slice q nm d] w (Ret (SameR w (decide (l = m)))) := by
  have e1 : l.length = nl := by have := h1.len; simpa [bs] using this
  have e2 : m.length = nm := by have := h2.len; simpa [bs] using this
  have hc1 := h1.capm; have hd1 := h1.le
  have hc2 := h2.capm; have hd2 := h2.le
  unfold maxLen at hc1 hc2
  obtain ⟨b1, o1, ha1, hx1⟩ := h1.at_
  obtain ⟨b2, o2, ha2, hx2⟩ := h2.at_
  have hi1 := fun W => Sl.idx (P := Tryd.prog) (cap := c) Tryd.underlying23 sizeBytes (fun h => (ha1 h).1) W .i64
  have hi2 := fun W => Sl.idx (P := Tryd.prog) (cap := d) Tryd.underlying23 sizeBytes (fun h => (ha2 h).1) W .i64
  clear h1 h2 ha1 ha2
  have E1 := Lib.hid e1
  have E2 := Lib.hid e2
  clear e1 e2
  by_cases hl : nl = nm
  · have HL := Lib.hid hl
    have hne : ((nl : Int) != (nm : Int)) = false := by simp [hl]
    go_enter Tryd.func13, Tryd.ntmps13
    clear hl
    go_wp2
    go_loopw [5] (fun i wr => ∃ k : Nat, k ≤ nl ∧ i = .int .i64 k ∧ Mod [] w wr ∧ ∀ j, j < k → l.getD j 0 = m.getD j 0) (fun i _ => nl - (intOf i).toNat)
    case atStart => exact ⟨0, by omega, rfl, Mod.refl _ _, by omega⟩
    case round =>
      obtain ⟨k, hk, rfl, hmd, hall⟩ := hrel
      have HA := Lib.hid hall
      have HM := Lib.hid hmd
      clear hall hmd
      by_cases hlt : k < nl
      · have hlt2 : k < nm := by have := HL.out; omega
        have d1 := hx1 k _ (bs_get (l := l) (by have := E1.out; omega))
        have d2 := hx2 k _ (bs_get (l := m) (by have := E2.out; omega))
        rw [← HM.out.cell (a := ⟨b1, o1 + k, none⟩) (World.block_lt_of_cell? w _ d1) (by simp)] at d1
        rw [← HM.out.cell (a := ⟨b2, o2 + k, none⟩) (World.block_lt_of_cell? w _ d2) (by simp)] at d2
        obtain ⟨x, hx⟩ : ∃ x, x = l.getD k 0 := ⟨_, rfl⟩
        obtain ⟨y, hy⟩ : ∃ y, y = m.getD k 0 := ⟨_, rfl⟩
        rw [← hx] at d1
        rw [← hy] at d2
        have HX := Lib.hid hx
        have HY := Lib.hid hy
        clear hx hy hx1 hx2
        by_cases hxy : x = y
        · have hb : (x != y) = false := by simp [hxy]
          have HXY := Lib.hid hxy
          clear hxy
          go_wp2
          go_quiet (fail)
          go_wp2
          go_roundw
          case rel => exact ⟨k + 1, by omega, by go_num, HM.out.same (Mod.of_drewN wr _), fun j hj => by
            rcases Nat.lt_succ_iff_lt_or_eq.1 hj with h | rfl
            · exact HA.out j h
            · rw [← HX.out, ← HY.out]; exact HXY.out⟩
          case measure => simp [intOf]; omega
        · have hb : (x != y) = true := by simp [hxy]
          have HXY := Lib.hid hxy
          clear hxy
          go_wp2
          go_quiet (fail)
          go_wp2
          go_ret
          exact .mk ⟨by rw [decide_eq_false (fun e => HXY.out (by rw [HX.out, HY.out, e]))]; rfl, HM.out.same (Mod.of_drewN wr _)⟩
      · go_wp2
        go_ret
        exact .mk ⟨by rw [getD_ext (by have := E1.out; have := E2.out; have := HL.out; omega) (fun j hj => HA.out j (by have := E1.out; omega))]; simp, HM.out⟩
  · have HL := Lib.hid hl
    have hne : ((nl : Int) != (nm : Int)) = true := by simp; omega
    clear hl
    go_enter Tryd.func13, Tryd.ntmps13
    go_wp2
    go_ret
    exact .mk ⟨by rw [decide_eq_false (fun e => HL.out (by rw [← E1.out, ← E2.out, e]))]; rfl, Mod.refl _ _⟩

end Go.Proofs.YtpdkkokgpdabhaaDoor
