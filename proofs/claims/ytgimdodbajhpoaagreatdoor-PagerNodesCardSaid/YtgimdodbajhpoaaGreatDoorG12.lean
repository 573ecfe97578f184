/- Two rows of bytes, compared. The document's order of rows of bytes. -/
import Derived.Lib.BytesEntry
import Derived.Lib.Bytealg
import Derived.Test.YtgimdodbajhpoaaGreatDoorChecked
import Derived.Test.YtgimdodbajhpoaaGreatDoorG05
namespace Go.Proofs.YtgimdodbajhpoaaGreatDoor
open Go.RowKit Go.Maps
set_option linter.unusedSimpArgs false
set_option linter.unusedVariables false

/-- Does one row come ahead of another? -/
def less : List Int → List Int → Bool
  | [], [] => false
  | [], _ :: _ => true
  | _ :: _, [] => false
  | x :: a, y :: b => if x = y then less a b else decide (x < y)
def cmpL (l k : List Int) : Int := Lib.compareBytes (Lib.bytesOf l) (Lib.bytesOf k)
theorem cmpL_spec : ∀ {l k : List Int}, (∀ x ∈ l, 0 ≤ x ∧ x < 256) → (∀ x ∈ k, 0 ≤ x ∧ x < 256) → cmpL l k = if l = k then 0 else if less l k = true then -1 else 1
  | [], [], _, _ => rfl
  | [], _ :: _, _, _ => rfl
  | _ :: _, [], _, _ => rfl
  | x :: a, y :: b, h1, h2 => by
    have ih := cmpL_spec (l := a) (k := b) (fun z hz => h1 z (by simp [hz])) (fun z hz => h2 z (by simp [hz]))
    have hx := h1 x (by simp); have hy := h2 y (by simp)
    have lt : ∀ u v : Int, (0 ≤ u ∧ u < 256) → (0 ≤ v ∧ v < 256) → ((UInt8.ofNat u.toNat < UInt8.ofNat v.toNat) ↔ u < v) := fun u v hu hv => by
      rw [UInt8.lt_iff_toNat_lt, UInt8.toNat_ofNat', UInt8.toNat_ofNat']; omega
    show (if UInt8.ofNat x.toNat < UInt8.ofNat y.toNat then (-1 : Int) else if UInt8.ofNat y.toNat < UInt8.ofNat x.toNat then 1 else cmpL a b) = _
    simp only [lt x y hx hy, lt y x hy hx, ih, less, List.cons.injEq]
    by_cases e : x = y
    · subst e; simp
    · by_cases e2 : x < y
      · simp [e, e2]
      · have : y < x := by omega
        simp [e, e2, this]
theorem less_irrefl : ∀ l : List Int, less l l = false
  | [] => rfl
  | x :: a => by simp [less, less_irrefl a]
theorem cmpL_neg {l k : List Int} (h1 : ∀ x ∈ l, 0 ≤ x ∧ x < 256) (h2 : ∀ x ∈ k, 0 ≤ x ∧ x < 256) : decide (0 ≤ cmpL l k) = !less l k := by
  rw [cmpL_spec h1 h2]
  by_cases e : l = k
  · subst e; simp [less_irrefl]
  · rw [if_neg e]
    cases less l k <;> simp

theorem run_bytesOf {P : Program} {w : World} {p : Option Addr} {n c : Nat} {l : List Int} (h : BytesIn w p n c l) : (Extern.Bytes.bytesOf (.slice p n c)).run P w = .ok ⟨(Lib.bytesOf l).toArray⟩ w := by
  have hl := h.len
  cases p with
  | none =>
    have : n = 0 := by
      rcases Nat.eq_zero_or_pos n with h0 | h0
      · exact h0
      · obtain ⟨b, o, hp, _⟩ := h.sl.addr h0; cases hp
    subst this
    obtain rfl : l = [] := List.eq_nil_of_length_eq_zero hl
    rfl
  | some a =>
    have := Lib.run_loadBytesX (P := P) w l a .empty (fun j x hj => by
      have hj2 := (List.getElem?_eq_some_iff.1 hj).1
      obtain ⟨b, o, hp, _, hc⟩ := h.sl.addr (by omega)
      cases hp
      have := hc j (.int .u8 x) (by simp [bs, hj])
      rw [← this]
      unfold Addr.add
      by_cases hz : j = 0 <;> simp [hz])
    rw [← hl]
    show (Extern.Bytes.loadBytes a l.length .empty).run P w = _
    rw [this]; simp
set_option maxRecDepth 100000 in
theorem compare_any (p q : Option Addr) (n m c d : Nat) (l k : List Int) (w : World) (h1 : BytesIn w p n c l) (h2 : BytesIn w q m d k) :
    Calls Tryz.prog 126 #[.slice p n c, .slice q m d] w (Ret fun v w' => v = .int .i64 (cmpL l k) ∧ w' = w) := by
  have hr : (Extern.BytealgCompare.compare #[.slice p n c, .slice q m d]).run Tryz.prog w = .ok (.int .i64 (cmpL l k)) w := by
    change Sem.run Tryz.prog (do pure (goInt (Extern.BytealgCompare.cmp (← Extern.Bytes.bytesOf (.slice p n c)) (← Extern.Bytes.bytesOf (.slice q m d))))) w = _
    simp only [Sem.run_bind, Sem.run_pure, run_bytesOf h1, run_bytesOf h2, Result.andThen]
    rw [Lib.cmp_eq]
    rfl
  have HR := Lib.hid hr
  clear hr h1 h2
  go_enter Tryz.func126, Tryz.ntmps126
  go_wp2
  rw [run_callFunc_extern Tryz.func128 (by kernel_rfl) (by kernel_rfl) (by kernel_rfl) (e := Extern.BytealgCompare.compare) (by kernel_rfl), HR.out]
  simp only [Result.andThen]
  rw [Oper.upon_value]
  go_wp2
  go_ret
  exact .mk ⟨rfl, rfl⟩
end Go.Proofs.YtgimdodbajhpoaaGreatDoor
namespace Go.Proofs.YtgimdodbajhpoaaGreatDoor
open Go.RowKit Go.Maps
set_option linter.unusedSimpArgs false
set_option linter.unusedVariables false

theorem less_skip : ∀ {l k : List Int} {i : Nat}, l.take i = k.take i → i ≤ l.length → i ≤ k.length → less l k = less (l.drop i) (k.drop i)
  | _, _, 0, _, _, _ => rfl
  | [], _, i + 1, _, h, _ => by simp at h
  | _ :: _, [], i + 1, _, _, h => by simp at h
  | x :: a, y :: b, i + 1, h, h1, h2 => by
    simp only [List.take_succ_cons, List.cons.injEq] at h
    simp only [less, h.1, if_true, List.drop_succ_cons]
    exact less_skip h.2 (by simpa using h1) (by simpa using h2)
set_option maxRecDepth 100000 in
set_option maxHeartbeats 2000000 in
theorem qless_any (p q : Option Addr) (n m c d : Nat) (l k : List Int) (w : World) (h1 : BytesIn w p n c l) (h2 : BytesIn w q m d k) :
    Calls Tryz.prog 33 #[.slice p n c, .slice q m d] w (Ret fun v w' => v = .bool (less l k) ∧ Mod [] w w') := by
  have hl := h1.len; have hk := h2.len
  have hcm := h1.sl.capm; have hle := h1.sl.le
  have hcm2 := h2.sl.capm; have hle2 := h2.sl.le
  unfold maxLen at hcm hcm2
  obtain ⟨b, off, hp, hcs⟩ := h1.sl.at_
  have hidx := fun W => Sl.idx (P := Tryz.prog) (cap := c) Tryz.underlying40 sizeBytes (fun h => (hp h).1) W .i64
  obtain ⟨b2, off2, hp2, hcs2⟩ := h2.sl.at_
  have hidx2 := fun W => Sl.idx (P := Tryz.prog) (cap := d) Tryz.underlying40 sizeBytes (fun h => (hp2 h).1) W .i64
  simp only [Nat.mul_one] at hidx hidx2
  have HA : Hid (∀ i, i < n → ∃ x, l[i]? = some x ∧ w.cell? ⟨b, off + i, none⟩ = some (.int .u8 x)) := fun i hi => by
    have hi2 : i < l.length := by omega
    exact ⟨_, List.getElem?_eq_getElem hi2, by have := hcs i _ (bs_get hi2); rwa [getD_at hi2] at this⟩
  have HB : Hid (∀ i, i < m → ∃ x, k[i]? = some x ∧ w.cell? ⟨b2, off2 + i, none⟩ = some (.int .u8 x)) := fun i hi => by
    have hi2 : i < k.length := by omega
    exact ⟨_, List.getElem?_eq_getElem hi2, by have := hcs2 i _ (bs_get hi2); rwa [getD_at hi2] at this⟩
  have HLT : Hid (0 < n → b < w.heap.size) := fun h => (hp h).2
  have HLT2 : Hid (0 < m → b2 < w.heap.size) := fun h => (hp2 h).2
  have HL := Lib.hid hl
  have HK := Lib.hid hk
  clear h1 h2 hp hcs hp2 hcs2 hl hk
  go_enter Tryz.func33, Tryz.ntmps33
  go_wp2
  go_loopw [5] (fun iv wr => ∃ i : Nat, i ≤ n ∧ i ≤ m ∧ iv = .int .i64 i ∧ l.take i = k.take i ∧ Mod [] w wr) (fun iv _ => n - (intOf iv).toNat)
  case atStart => exact ⟨0, by omega, by omega, rfl, rfl, Mod.refl _ _⟩
  case round =>
    obtain ⟨i, hi, hj, rfl, ht, hm⟩ := hrel
    have HT := Lib.hid ht
    have HM := Lib.hid hm
    clear ht hm
    by_cases h1 : i < n
    · by_cases h2 : i < m
      · obtain ⟨x, hx, d0⟩ := HA.out i h1
        obtain ⟨y, hy, d1⟩ := HB.out i h2
        rw [← HM.out.cell (a := ⟨b, _, none⟩) (HLT.out (by omega)) (by simp)] at d0
        rw [← HM.out.cell (a := ⟨b2, _, none⟩) (HLT2.out (by omega)) (by simp)] at d1
        have hd1 : l.drop i = x :: l.drop (i + 1) := by
          obtain ⟨g1, g2⟩ := List.getElem?_eq_some_iff.1 hx
          rw [List.drop_eq_getElem_cons g1, g2]
        have hd2 : k.drop i = y :: k.drop (i + 1) := by
          obtain ⟨g1, g2⟩ := List.getElem?_eq_some_iff.1 hy
          rw [List.drop_eq_getElem_cons g1, g2]
        have hless : less l k = less (x :: l.drop (i + 1)) (y :: k.drop (i + 1)) := by
          rw [less_skip HT.out (by rw [HL.out]; exact hi) (by rw [HK.out]; exact hj), hd1, hd2]
        have hwi : IntKind.i64.wrap ((i : Int) + 1) = (i : Int) + 1 := IntWalk.i64_in _ (by omega)
        have hi1 := fun W => hidx W i h1
        have hi2 := fun W => hidx2 W i h2
        by_cases hxy : x = y
        · have HTT : Hid (l.take (i + 1) = k.take (i + 1)) := by
            obtain ⟨g1, g2⟩ := List.getElem?_eq_some_iff.1 hx
            obtain ⟨g3, g4⟩ := List.getElem?_eq_some_iff.1 hy
            unfold Hid; rw [List.take_succ_eq_append_getElem g1, List.take_succ_eq_append_getElem g3, HT.out, g2, g4, hxy]
          have hb : (x != y) = false := by simp [hxy]
          clear hx hy hd1 hd2 hless hxy
          go_wp2_with fail
          go_quiet (fail)
          go_wp2
          go_roundw
          case rel => exact ⟨i + 1, by omega, by omega, by go_num, HTT.out, HM.out.drewN⟩
          case measure => simp [intOf]; omega
        · have HE : Hid (less l k = decide (x < y)) := by rw [hless]; simp [less, hxy, Hid]
          have hb : (x != y) = true := by simp [hxy]
          clear hx hy hd1 hd2 hless hxy
          go_wp2_with fail
          go_quiet (fail)
          go_wp2_with fail
          go_quiet (fail)
          go_wp2
          go_ret
          exact .mk ⟨by rw [HE.out]; rfl, HM.out.drewN.drewN⟩
      · obtain rfl : i = m := by omega
        have HE : Hid (less l k = false) := by
          unfold Hid
          rw [less_skip HT.out (by rw [HL.out]; exact hi) (by rw [HK.out]; exact hj), List.drop_of_length_le (l := k) (by rw [HK.out]; omega)]
          cases l.drop i <;> rfl
        go_wp2
        go_ret
        exact .mk ⟨by rw [HE.out]; simp; omega, HM.out⟩
    · obtain rfl : i = n := by omega
      have HE : Hid (less l k = decide (i < m)) := by
        unfold Hid
        rw [less_skip HT.out (by rw [HL.out]; exact hi) (by rw [HK.out]; exact hj), List.drop_of_length_le (l := l) (by rw [HL.out]; omega)]
        by_cases h3 : i < m
        · rw [decide_eq_true h3, List.drop_eq_getElem_cons (by rw [HK.out]; exact h3)]; rfl
        · rw [decide_eq_false h3, List.drop_of_length_le (by rw [HK.out]; omega)]; rfl
      go_wp2
      go_ret
      exact .mk ⟨by rw [HE.out]; simp, HM.out⟩
end Go.Proofs.YtgimdodbajhpoaaGreatDoor
