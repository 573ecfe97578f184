/- PoolOnce: the walk. -/
import Derived.Test.YtibkhdlddllcjaaPoolFrees
namespace Go.Proofs.Ytibkhdlddllcjaa
open Go.RowKit Go.Maps
set_option linter.unusedSimpArgs false
set_option linter.unusedVariables false

def gone (x : Int) (l : List Int) : List Int := l.filter (fun y => y != x)
theorem gone_succ {x y : Int} {l : List Int} {k : Nat} (hk : k < l.length) (hy : y = l.getD k 0) : gone x (l.take (k + 1)) = gone x (l.take k) ++ if y != x then [y] else [] := by
  rw [List.take_succ_eq_append_getElem hk, gone, List.filter_append, hy, getD_at hk]
  unfold gone
  congr 1
  rw [List.filter_cons]; split <;> simp
theorem gone_len (x : Int) (l : List Int) : (gone x l).length ≤ l.length := List.length_filter_le _ _
theorem ints_append (a b : List Int) : ints (a ++ b) = ints a ++ ints b := by simp [ints]

def IntsR (l : List Int) (w : World) (v : Value) (w' : World) : Prop := ∃ p n c, v = .slice p n c ∧ n = l.length ∧ w'.ownsRow w.heap.size 3 1 (.slice p n c) n (ints l) ∧ Mod [] w w'
theorem infoI : (Try.prog.info? 3).map (fun i => (i.zero, i.size, i.bytes)) = some (some (.int .i64 0), 1, 8) := by kernel_rfl
set_option maxRecDepth 100000 in
set_option maxHeartbeats 1000000 in
theorem without_any (p : Option Addr) (n c : Nat) (l : List Int) (x : Int) (w : World) (h : Sl w 1 p n c (ints l)) (hn : n ≤ 2048) :
    Calls Try.prog 14 #[.slice p n c, .int .i64 x] w (Ret (IntsR (gone x l) w)) := by
  obtain ⟨i0, hi0, hz0, hz1, hz2⟩ := info_parts infoI
  have hln : l.length = n := by have := h.len; simpa [ints] using this
  obtain ⟨b, off, hp, hcs⟩ := h.at_
  have hidx := fun W => Sl.idx (P := Try.prog) (cap := c) Try.underlying43 sizeInts (fun h => (hp h).1) W .i64
  have HP := Lib.hid hp
  have HCS := Lib.hid hcs
  have HLN := Lib.hid hln
  clear h hp hcs hln
  go_enter Try.func14, Try.ntmps14
  go_wp2
  go_loopw [5, 6] (fun o i wr => ∃ (k j : Nat) (q : Option Addr) (d : Nat), k ≤ n ∧ j ≤ k ∧ i = .int .i64 k ∧ o = .slice q j d ∧ wr.ownsRow w.heap.size 3 1 (.slice q j d) j (ints (gone x (l.take k))) ∧ Mod [] w wr) (fun _ i _ => n - (intOf i).toNat)
  case atStart => exact ⟨0, 0, none, 0, by omega, by omega, rfl, rfl, ⟨by simp [ints, gone], Or.inl ⟨rfl, rfl⟩⟩, Mod.refl _ _⟩
  case round =>
    obtain ⟨k, j, q, d, hk, hjk, rfl, rfl, hown, hm⟩ := hrel
    have HM := Lib.hid hm
    have HO := Lib.hid hown
    have hsz := hm.size
    clear hm hown
    by_cases hlt : k < n
    · obtain ⟨y, hy⟩ : ∃ y, y = l.getD k 0 := ⟨_, rfl⟩
      have d0 := HCS.out k _ (ints_get (l := l) (by rw [HLN.out]; exact hlt))
      rw [← hy, ← HM.out.cell (a := ⟨b, off + k, none⟩) (World.block_lt_of_cell? w _ d0) (by simp)] at d0
      have HG := Lib.hid (gone_succ (x := x) (by rw [HLN.out]; exact hlt) hy)
      clear hy
      by_cases hxy : y = x
      · have b1 : (y != x) = false := by simp [hxy]
        rw [b1] at HG
        have HG' := Lib.hid HG.out
        clear hxy HG
        go_wp2
        go_roundw
        case rel => exact ⟨k + 1, j, q, d, by omega, by omega, by go_num, rfl, by rw [HG'.out]; simpa using HO.out, HM.out⟩
        case measure => simp [intOf]; omega
      · have b1 : (y != x) = true := by simp [hxy]
        rw [b1] at HG
        have HG' := Lib.hid HG.out
        clear hxy HG
        go_wp2_with (first
          | (at_builtin; go_must (refine wpList_append_src _ rfl _ _ _ rfl w.heap.size 3 i0 _ 1 8 Try.underlying43 hi0 hz0 hz1 hz2 rfl (by omega) (.slice q j d) _ _ rfl (ownsRow_mod HO.out (Mod.of_alloc wr _) (by simp)) _ _ _ [.int .i64 y] rfl (Sl.one_new _ _ _ rfl) (j + 1) (by omega) (by unfold maxLen; omega) (by omega) (by simp; omega) ?_); intro p' c' w1 hown1 hgrow hnil hlie; (have HO1 := Lib.hid hown1); (have HG1 := Lib.hid hgrow); clear hown1 hgrow hnil hlie)
          | go_in)
        go_roundw
        case rel => exact ⟨k + 1, j + 1, _, _, by omega, by omega, by go_num, rfl, by rw [HG'.out, if_pos rfl, ints_append]; exact HO1.out, (HM.out.same (Mod.of_alloc wr _)).trans (Mod.of_grown' HG1.out) (fun b hb => Or.inr (own_base HO.out b (by simpa using hb)))⟩
        case measure => simp [intOf]; omega
    · obtain rfl : k = n := by omega
      go_wp2
      go_ret
      have hO := HO.out
      rw [List.take_of_length_le (by rw [HLN.out]; omega)] at hO
      exact .mk ⟨q, j, d, rfl, by have := hO.1; simp [ints] at this; omega, hO, HM.out⟩

/-- What is told and not freed since: pages below the high mark that aren't freed. -/
structure Held (s : PS) (H : List Int) : Prop where
  lt : ∀ x ∈ H, x < s.high
  no : ∀ x ∈ H, look s.m x = none
theorem look_cut_none {m : List (Int × Int)} {x y : Int} (h : look m x = none) : look (cut m y) x = none := by
  simp only [look, Option.map_eq_none_iff, List.find?_eq_none] at h ⊢
  intro p hp; exact h p (List.mem_filter.1 hp).1
theorem look_cut_self (m : List (Int × Int)) (x : Int) : look (cut m x) x = none := by
  simp only [look, Option.map_eq_none_iff, List.find?_eq_none]
  intro p hp; have := (List.mem_filter.1 hp).2; simpa using this
theorem look_none_of {m : List (Int × Int)} {x : Int} (h : ∀ p ∈ m, p.1 ≠ x) : look m x = none := by
  simp only [look, Option.map_eq_none_iff, List.find?_eq_none]
  intro p hp; simpa using h p hp
theorem look_none_at {m : List (Int × Int)} {x : Int} (h : look m x = none) : ∀ p ∈ m, p.1 ≠ x := by
  simp only [look, Option.map_eq_none_iff, List.find?_eq_none] at h
  intro p hp; simpa using h p hp
/-- A page that is told was not held, is below the high mark, and isn't freed. -/
theorem Held.alloc {s : PS} {H : List Int} (hok : s.Ok) (hh : Held s H) (h : Int) (h0 : (s.alloc h).1.2 = 0) :
    (s.alloc h).1.1 ∉ H ∧ (∀ p ∈ (s.alloc h).2.m, p.1 ≠ (s.alloc h).1.1) ∧ 2 ≤ (s.alloc h).1.1 ∧ (s.alloc h).1.1 < (s.alloc h).2.high ∧ Held (s.alloc h).2 (H ++ [(s.alloc h).1.1]) := by
  unfold PS.alloc at h0 ⊢
  cases hf : s.m.find? (fun p => decide (p.2 ≤ h)) with
  | some p =>
    have hp : p ∈ s.m := List.mem_of_find?_eq_some hf
    have hl := look_of_mem hok.srt hp
    have ha := hok.at_ p hp
    simp only
    refine ⟨fun hc => (by have := hh.no _ hc; rw [hl] at this; cases this), look_none_at (look_cut_self _ _), ha.1, ha.2, ⟨fun x hx => ?_, fun x hx => ?_⟩⟩
    · rcases List.mem_append.1 hx with hx | hx
      · exact hh.lt x hx
      · simp at hx; rw [hx]; exact ha.2
    · rcases List.mem_append.1 hx with hx | hx
      · exact look_cut_none (hh.no x hx)
      · simp at hx; rw [hx]; exact look_cut_self _ _
  | none =>
    rw [hf] at h0
    simp only at h0 ⊢
    split at h0
    · simp at h0
    · rename_i hc
      rw [if_neg hc]
      simp only
      have hl := hok.low
      have hall : look s.m s.high = none := look_none_of fun p hp he => by have := (hok.at_ p hp).2; omega
      refine ⟨fun hc => by have := hh.lt _ hc; omega, fun p hp he => by have := (hok.at_ p hp).2; omega, hl, by omega, ⟨fun x hx => ?_, fun x hx => ?_⟩⟩
      · rcases List.mem_append.1 hx with hx | hx
        · have := hh.lt x hx; simp only; omega
        · simp at hx; rw [hx]; simp only; omega
      · rcases List.mem_append.1 hx with hx | hx
        · exact hh.no x hx
        · simp at hx; rw [hx]; exact hall
theorem Held.alloc_full {s : PS} {H : List Int} (hh : Held s H) (h : Int) (h0 : (s.alloc h).1.2 ≠ 0) : Held (s.alloc h).2 H := by
  unfold PS.alloc at h0 ⊢
  split at h0
  · simp at h0
  · split at h0
    · rename_i hc; simp only [hc, if_true]; exact hh
    · simp at h0
theorem Held.free {s : PS} {H : List Int} (hh : Held s H) (no gen : Int) : (s.free no gen).1 = 0 → Held (s.free no gen).2 (gone no H) := by
  unfold PS.free
  split
  · intro h; simp at h
  · split
    · intro h; simp at h
    · intro _
      refine ⟨fun x hx => hh.lt x (List.mem_filter.1 hx).1, fun x hx => look_none_of fun p hp he => ?_⟩
      obtain ⟨h1, h2⟩ := List.mem_filter.1 hx
      rcases mem_ins hp with rfl | hp
      · simp at h2; exact h2 he.symm
      · exact look_none_at (hh.no x h1) p hp he
theorem Held.free_not {s : PS} {H : List Int} (hh : Held s H) (no gen : Int) : (s.free no gen).1 ≠ 0 → Held (s.free no gen).2 H := by
  unfold PS.free
  split
  · intro _; exact hh
  · split
    · intro _; exact hh
    · intro h; simp at h
theorem Held.trim {H : List Int} (h : Int) : ∀ (n : Nat) (s : PS), s.high.toNat ≤ n → s.Ok → Held s H → Held (s.trim h).2 H := by
  intro n
  induction n with
  | zero => intro s hn hok; have := hok.low; omega
  | succ n ih =>
    intro s hn hok hh
    by_cases h2 : 2 < s.high
    · cases hl : look s.m (s.high - 1) with
      | none => rw [PS.trim_none hl]; exact hh
      | some g =>
        by_cases hg : g ≤ h
        · rw [PS.trim_step h2 hl hg]
          refine ih s.less (by simp [PS.less]; omega) (hok.less h2) ⟨fun x hx => ?_, fun x hx => look_cut_none (hh.no x hx)⟩
          have h1 := hh.lt x hx
          have h3 : x ≠ s.high - 1 := fun e => by have := hh.no x hx; rw [e, hl] at this; cases this
          simp [PS.less]; omega
        · rw [PS.trim_old hl hg]; exact hh
    · rw [PS.trim_low h2]; exact hh
theorem Held.left {s : PS} {H : List Int} {x : Int} (h : Held s (H ++ [x])) : Held s H := ⟨fun y hy => h.lt y (by simp [hy]), fun y hy => h.no y (by simp [hy])⟩

/-- One step of a script. -/
structure Do where
  kind : Int
  page : Int
  gen : Int
structure Script (w : World) (b off len : Nat) (l : Nat → Do) : Prop where
  c0 : ∀ i, i < len → w.cell? ⟨b, off + i * 3, none⟩ = some (.int .i64 (l i).kind)
  c1 : ∀ i, i < len → w.cell? ⟨b, off + i * 3 + 1, none⟩ = some (.int .i64 (l i).page)
  c2 : ∀ i, i < len → w.cell? ⟨b, off + i * 3 + 2, none⟩ = some (.int .u64 (l i).gen)
  w1 : ∀ i, i < len → -9223372036854775808 ≤ (l i).page ∧ (l i).page ≤ 9223372036854775807
  w2 : ∀ i, i < len → 0 ≤ (l i).gen ∧ (l i).gen < 2 ^ 64
  lt : 0 < len → b < w.heap.size
theorem sizeDo (W : World) : (sizeOf (Try.prog.elem 42)).run Try.prog W = .ok 3 W := by kernel_rfl

/-- Where PoolOnce stands: the pool, and the list of held pages, of a block of its own. -/
structure OnceAt (w wr : World) (base sb bm : Nat) (s : PS) (H : List Int) (p : Option Addr) (n c : Nat) : Prop where
  pool : PoolAt wr sb bm s
  row : wr.ownsRow base 3 1 (.slice p n c) n (ints H)
  held : Held s H
  bel : Below w.heap.size w wr
  size : base ≤ wr.heap.size
  far : sb < base ∧ bm < base
  near : w.heap.size ≤ sb ∧ w.heap.size ≤ bm ∧ w.heap.size ≤ base
namespace OnceAt
variable {w wr w' : World} {base sb bm n c : Nat} {s s' : PS} {H : List Int} {p : Option Addr}
theorem keep (h : OnceAt w wr base sb bm s H p n c) (hm : Mod [] wr w') : OnceAt w w' base sb bm s H p n c :=
  ⟨h.pool.mod hm (by simp) (by simp), ownsRow_mod h.row hm (by simp), h.held, h.bel.trans (hm.below.mono h.bel.size), Nat.le_trans h.size hm.size, h.far, h.near⟩
theorem turn (h : OnceAt w wr base sb bm s H p n c) (hp : PoolAt w' sb bm s') (hm : Mod [sb, bm] wr w') (hh : Held s' H) : OnceAt w w' base sb bm s' H p n c :=
  ⟨hp, ownsRow_mod h.row hm (fun b hb => by have := own_base h.row b hb; have := h.far; simp; omega), hh,
    h.bel.trans (hm.below_of (B := w.heap.size) h.bel.size (by have := h.near; simp; omega)), Nat.le_trans h.size hm.size, h.far, h.near⟩
theorem len (h : OnceAt w wr base sb bm s H p n c) : n = H.length := by have := h.row.1; simp [ints] at this; omega
end OnceAt
theorem own_weak {w : World} {base base' : Nat} {e : TypeId} {size : Nat} {v : Value} {n : Nat} {xs : List Value} (h : w.ownsRow base e size v n xs) (hb : base' ≤ base) : w.ownsRow base' e size v n xs := by
  obtain ⟨h1, h2⟩ := h
  refine ⟨h1, ?_⟩
  rcases h2 with h2 | ⟨g, cap, cur, rfl, hg, r⟩
  · exact Or.inl h2
  · exact Or.inr ⟨g, cap, cur, rfl, Nat.le_trans hb hg, r⟩
end Go.Proofs.Ytibkhdlddllcjaa
