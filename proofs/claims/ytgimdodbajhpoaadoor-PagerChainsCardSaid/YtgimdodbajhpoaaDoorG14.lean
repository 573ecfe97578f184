/- Functions of Go's library on bytes: Trim of zeros, Equal, HasPrefix. bytes.HasPrefix. -/
import Derived.Test.YtgimdodbajhpoaaDoorG13
namespace Go.Proofs.YtgimdodbajhpoaaDoor
open Go.RowKit Go.Maps
set_option linter.unusedSimpArgs false
set_option linter.unusedVariables false

def BoolM (b : Bool) (w : World) (v : Value) (w' : World) : Prop := v = .bool b ∧ Mod [] w w'
/-- A part of bytes: the first k are left; the others are zeros. -/
def TrimRR (p : Option Addr) (c : Nat) (l : List Int) (w : World) (v : Value) (w' : World) : Prop := ∃ k, k ≤ l.length ∧ v = .slice p k c ∧ (∀ x ∈ l.drop k, x = 0) ∧ w' = w
theorem drop_zero_succ {l : List Int} {k : Nat} (hk : k < l.length) (h0 : l.getD k 0 = 0) (h : ∀ x ∈ l.drop (k + 1), x = 0) : ∀ x ∈ l.drop k, x = 0 := by
  rw [List.drop_eq_getElem_cons hk]
  intro x hx
  rcases List.mem_cons.1 hx with rfl | hx
  · rwa [getD_at hk] at h0
  · exact h x hx
set_option maxRecDepth 100000 in
set_option maxHeartbeats 1000000 in
theorem trimr_any (p : Option Addr) (n c : Nat) (l : List Int) (w : World) (h : Sl w 1 p n c (bs l)) :
    Calls Tryd.prog 75 #[.slice p n c, .int .u8 0] w (Ret (TrimRR p c l w)) := by
  have hln : l.length = n := by have := h.len; rw [bs_len] at this; omega
  have hcm := h.capm; have hle := h.le
  unfold maxLen at hcm
  obtain ⟨b, off, hp, hcs⟩ := h.at_
  have HLT : Hid (0 < n → b < w.heap.size) := fun h => (hp h).2
  have HPP : Hid (0 < n → p = some ⟨b, off, none⟩) := fun h => (hp h).1
  have HCS := Lib.hid hcs
  have HLN := Lib.hid hln
  clear h hp hcs hln
  go_enter Tryd.func75, Tryd.ntmps75
  go_wp2
  go_loopw [0] (fun s wr => ∃ k : Nat, k ≤ n ∧ s = .slice p k c ∧ (∀ x ∈ l.drop k, x = 0) ∧ wr = w) (fun s _ => match s with | .slice _ k _ => k | _ => 0)
  case atStart => exact ⟨n, by omega, rfl, by rw [List.drop_of_length_le (by have := HLN.out; omega)]; simp, rfl⟩
  case round =>
    obtain ⟨k, hk, rfl, hz, rfl⟩ := hrel
    have HZ := Lib.hid hz
    clear hz
    rcases Nat.eq_zero_or_pos k with h0 | h0
    · subst h0
      go_wp2
      go_ret
      exact .mk ⟨0, by omega, rfl, HZ.out, rfl⟩
    · obtain ⟨j, hj⟩ : ∃ j, j = k - 1 := ⟨_, rfl⟩
      have hjl : j < l.length := by have := HLN.out; omega
      have hjk : j < k := by omega
      have hjc : j ≤ c := by omega
      have d0 := HCS.out j _ (bs_get hjl)
      have hidx := fun W => Sl.idx (P := Tryd.prog) (cap := c) (m := k) (size := 1) Tryd.underlying22 sizeBytes (fun _ => HPP.out (by omega)) W .i64 j hjk
      have hw1 : IntKind.i64.wrap ((k : Int) - 1) = (j : Int) := by rw [IntWalk.i64_in _ (by omega)]; omega
      have hw2 : wrap64 ((k : Int) - 1) = (j : Int) := by unfold wrap64; omega
      have hsl : ∀ q W, (Instr.slice 22 (.slice p k c) none (some (.int q (j : Int))) none).run Tryd.prog W = .ok (.slice p j c) W := fun q W => by
        rw [run_slice_h W _ p k c Tryd.underlying22 q j (by omega) (by omega), sizeBytes]
        simp only [Result.andThen, sliced, Int.toNat_natCast, Nat.sub_zero, Nat.zero_mul]
        cases p with
        | none => simp
        | some a => simp [Addr.add]
      obtain ⟨x, hx⟩ : ∃ x, x = l.getD j 0 := ⟨_, rfl⟩
      rw [← hx] at d0
      have HX := Lib.hid hx
      have HJ := Lib.hid hj
      clear hx hj
      by_cases hx0 : x = 0
      · have hb : (x == 0) = true := by simp [hx0]
        have HX0 := Lib.hid hx0
        clear hx0
        go_wp2
        go_roundw
        case rel => exact ⟨j, by omega, rfl, drop_zero_succ hjl (by rw [← HX.out]; exact HX0.out) (by have := HJ.out; rw [show j + 1 = k from by omega]; exact HZ.out), by first | rfl | trivial⟩
        case measure => exact hjk
      · have hb : (x == 0) = false := by simp [hx0]
        clear hx0
        go_wp2
        go_ret
        exact .mk ⟨k, by have := HLN.out; omega, rfl, HZ.out, rfl⟩
/-- A part of bytes: none is left just if all are zeros. -/
def TrimLR (l : List Int) (w : World) (v : Value) (w' : World) : Prop := ∃ q k d, v = .slice q k d ∧ (k = 0 ↔ ∀ x ∈ l, x = 0) ∧ w' = w
set_option maxRecDepth 100000 in
set_option maxHeartbeats 1000000 in
theorem triml_any (p : Option Addr) (n c : Nat) (l : List Int) (w : World) (h : Sl w 1 p n c (bs l)) :
    Calls Tryd.prog 74 #[.slice p n c, .int .u8 0] w (Ret (TrimLR l w)) := by
  have hln : l.length = n := by have := h.len; rw [bs_len] at this; omega
  have hcm := h.capm; have hle := h.le
  unfold maxLen at hcm
  have H := Lib.hid h
  have HLN := Lib.hid hln
  clear h hln
  go_enter Tryd.func74, Tryd.ntmps74
  go_wp2
  go_loopw [0] (fun s wr => ∃ (k m d : Nat) (q : Option Addr), k + m = n ∧ s = .slice q m d ∧ Sl w 1 q m d (bs (l.drop k)) ∧ (∀ x ∈ l.take k, x = 0) ∧ wr = w) (fun s _ => match s with | .slice _ k _ => k | _ => 0)
  case atStart => exact ⟨0, n, c, p, by omega, rfl, H.out, by simp, rfl⟩
  case round =>
    obtain ⟨k, m, d, q, hk, rfl, hs, hz, rfl⟩ := hrel
    have hdm := hs.capm; have hmd := hs.le
    unfold maxLen at hdm
    have HS := Lib.hid hs
    have HZ := Lib.hid hz
    have HK := Lib.hid hk
    have hkn : k ≤ n := by omega
    clear hs hz hk
    rcases Nat.eq_zero_or_pos m with h0 | h0
    · subst h0
      go_wp2
      go_ret
      exact .mk ⟨none, 0, 0, rfl, ⟨fun _ x hx => HZ.out x (by rwa [List.take_of_length_le (by have := HK.out; have := HLN.out; omega)]), fun _ => rfl⟩, rfl⟩
    · have hkl : k < l.length := by have := HLN.out; have := HK.out; omega
      obtain ⟨b, off, rfl, hlt, hc⟩ := HS.out.addr h0
      have d0 := hc 0 _ (bs_get (l := l.drop k) (by rw [List.length_drop]; omega))
      rw [show (l.drop k).getD 0 0 = l.getD k 0 from by simp [List.getD]] at d0
      have hidx := fun W => Sl.idx (P := Tryd.prog) (cap := d) (m := m) (size := 1) Tryd.underlying22 sizeBytes (fun _ => rfl) W .i64 0 h0 (b := b) (off := off)
      obtain ⟨q2, r2, s2, _⟩ := HS.out.sub_l Tryd.underlying22 sizeBytes 1 .i64 (by omega)
      simp only [show ((1 : Nat) : Int) = 1 from rfl, Nat.mul_one, Nat.zero_mul, show ((0 : Nat) : Int) = 0 from rfl, Nat.add_zero] at r2 s2 hidx d0
      have HS2 := Lib.hid s2
      obtain ⟨x, hx⟩ : ∃ x, x = l.getD k 0 := ⟨_, rfl⟩
      rw [← hx] at d0
      have HX := Lib.hid hx
      clear hx hc s2
      by_cases hx0 : x = 0
      · have hb : (x == 0) = true := by simp [hx0]
        have HX0 := Lib.hid hx0
        clear hx0
        go_wp2
        go_roundw
        case rel => exact ⟨k + 1, m - 1, d - 1, q2, by have := HK.out; omega, rfl, by have := HS2.out; rw [show bs (l.drop (k + 1)) = (bs (l.drop k)).drop 1 from by simp [bs, List.drop_drop]]; exact this, by
            rw [List.take_succ_eq_append_getElem hkl]
            intro y hy
            rcases List.mem_append.1 hy with hy | hy
            · exact HZ.out y hy
            · simp at hy; rw [hy, ← getD_at hkl (d := 0), ← HX.out]; exact HX0.out, by first | rfl | trivial⟩
        case measure => show m - 1 < m; omega
      · have hb : (x == 0) = false := by simp [hx0]
        have HX0 := Lib.hid hx0
        clear hx0
        go_wp2
        go_ret
        exact .mk ⟨_, m, d, rfl, ⟨fun h => by omega, fun h => absurd (h _ (List.getElem_mem hkl)) (by rw [← getD_at hkl (d := 0), ← HX.out]; exact HX0.out)⟩, rfl⟩

theorem Sl.takeb {P : Program} {T : TypeId} {w : World} {p : Option Addr} {n c k : Nat} {l : List Int} (hT : P.underlying T = some (.slice (P.elem T))) (hs : ∀ W : World, (sizeOf (P.elem T)).run P W = .ok 1 W) (h : Sl w 1 p n c (bs l)) (hk : k ≤ n) : Sl w 1 p k c (bs (l.take k)) := by
  have := (h.sub_h hT hs k .i64 hk).2
  rw [Nat.mul_one] at this
  simpa [bs, List.map_take] using this
def TrimM (l : List Int) (w : World) (v : Value) (w' : World) : Prop := ∃ q k d, v = .slice q k d ∧ (k = 0 ↔ ∀ x ∈ l, x = 0) ∧ Mod [] w w'
set_option maxRecDepth 100000 in
set_option maxHeartbeats 1000000 in
theorem trim_any (p : Option Addr) (n c : Nat) (l : List Int) (w : World) (h : Sl w 1 p n c (bs l)) :
    Calls Tryd.prog 59 #[.slice p n c, .string ⟨#[0]⟩] w (Ret (TrimM l w)) := by
  have hln : l.length = n := by have := h.len; rw [bs_len] at this; omega
  have H := Lib.hid h
  have HLN := Lib.hid hln
  clear h hln
  rcases Nat.eq_zero_or_pos n with h0 | h0
  · subst h0
    go_enter Tryd.func59, Tryd.ntmps59
    go_wp2
    go_ret
    exact .mk ⟨none, 0, 0, rfl, ⟨fun _ x hx => by rw [List.eq_nil_of_length_eq_zero HLN.out] at hx; simp at hx, fun _ => rfl⟩, Mod.refl _ _⟩
  · go_enter Tryd.func59, Tryd.ntmps59
    go_wp2
    · go_region_held3 (fun w' => True)
        (first | go_keep | trivial)
        (first
          | (go_at_call 75; refine (trimr_any p n c l _ (H.out.mod (Mod.of_drew w) (by simp))).mono ?_; rintro _ w1 ⟨_, rfl, k1, hk1, rfl, hz1, rfl⟩; (have HZ1 := Lib.hid hz1); (have hk2 : k1 ≤ n := by rw [← HLN.out]; exact hk1); (have HS1 := Lib.hid ((H.out.mod (Mod.of_drew w) (by simp)).takeb Tryd.underlying22 sizeBytes hk2)); clear hk1 hz1)
          | (go_at_call 74; refine (triml_any p k1 c (l.take k1) _ HS1.out).mono ?_; rintro _ w2 ⟨_, rfl, q2, k2, d2, rfl, hz2, rfl⟩; (have HZ2 := Lib.hid hz2); clear hz2))
      all_goals
        go_wp2
        go_ret
        exact .mk ⟨q2, k2, d2, rfl, HZ2.out.trans ⟨fun h x hx => by
          rw [← List.take_append_drop k1 l] at hx
          rcases List.mem_append.1 hx with hx | hx
          · exact h x hx
          · exact HZ1.out x hx, fun h x hx => h x (List.mem_of_mem_take hx)⟩, Mod.of_drew w⟩

theorem uStr : Tryd.prog.underlying 9 = some .string := Tryd.underlying9
theorem uU8 : Tryd.prog.underlying 5 = some (.int .u8) := Tryd.underlying5
def EqB (b : Bool) (w : World) (v : Value) (w' : World) : Prop := v = .bool b ∧ w' = w
set_option maxRecDepth 100000 in
theorem equal_any (p q : Option Addr) (n m c d : Nat) (l k : List Int) (w : World) (h1 : BytesIn w p n c l) (h2 : BytesIn w q m d k) :
    Calls Tryd.prog 73 #[.slice p n c, .slice q m d] w (Ret (EqB (decide (l = k)) w)) := by
  have g1 := h1.sl.str (P := Tryd.prog) 22 5 9 Tryd.underlying22 uU8 uStr
  have g2 := h2.sl.str (P := Tryd.prog) 22 5 9 Tryd.underlying22 uU8 uStr
  have HB := Lib.hid (str_beq h1.wf h2.wf)
  obtain ⟨B, hB⟩ : ∃ B, B = decide (l = k) := ⟨_, rfl⟩
  rw [← hB] at HB ⊢
  generalize strOfNums l = s1 at *
  generalize strOfNums k = s2 at *
  clear hB h1 h2
  go_enter Tryd.func73, Tryd.ntmps73
  go_wp2
  go_ret
  exact .mk ⟨by rw [← HB.out]; rfl, rfl⟩
end Go.Proofs.YtgimdodbajhpoaaDoor
namespace Go.Proofs.YtgimdodbajhpoaaDoor
open Go.RowKit Go.Maps
set_option linter.unusedSimpArgs false
set_option linter.unusedVariables false

set_option maxRecDepth 100000 in
theorem hasprefix_any (p q : Option Addr) (n m c d : Nat) (l k : List Int) (w : World) (h1 : BytesIn w p n c l) (h2 : BytesIn w q m d k) :
    Calls Tryd.prog 58 #[.slice p n c, .slice q m d] w (Ret (EqB (decide (l.take k.length = k)) w)) := by
  have e1 := h1.len; have e2 := h2.len
  have HB : Hid (m ≤ n → decide (l.take m = k) = decide (l.take k.length = k)) := fun _ => by rw [e2]
  have HB0 : Hid (¬ m ≤ n → decide (l.take k.length = k) = false) := fun h => decide_eq_false fun e => h (by
    have := congrArg List.length e; rw [List.length_take] at this; omega)
  obtain ⟨B, hB⟩ : ∃ B, B = decide (l.take k.length = k) := ⟨_, rfl⟩
  rw [← hB] at HB HB0 ⊢
  have hc := h1.sl.capm; have hc2 := h1.sl.le
  unfold maxLen at hc
  have H1 := Lib.hid h1; have H2 := Lib.hid h2
  clear h1 h2 hB e1 e2
  by_cases hmn : m ≤ n
  · have hb : decide (m ≤ n) = true := decide_eq_true hmn
    obtain ⟨r1, s1⟩ := H1.out.sl.sub_h Tryd.underlying22 sizeBytes m .i64 hmn
    have HS : Hid (BytesIn w p m c (l.take m)) := ⟨by rw [Nat.mul_one] at s1; simpa [bs, List.map_take] using s1, fun x hx => H1.out.wf x (List.mem_of_mem_take hx)⟩
    have HB' := Lib.hid (HB.out hmn)
    clear s1
    go_enter Tryd.func58, Tryd.ntmps58
    go_wp2_with fail
    refine (equal_any p q m m c d (l.take m) k _ HS.out H2.out).mono ?_
    rintro _ w1 ⟨_, rfl, rfl, rfl⟩
    rw [HB'.out]
    go_wp2
    go_ret
    exact .mk ⟨rfl, rfl⟩
  · have hb : decide (m ≤ n) = false := decide_eq_false hmn
    have HB' := Lib.hid (HB0.out hmn)
    go_enter Tryd.func58, Tryd.ntmps58
    go_wp2
    go_ret
    exact .mk ⟨by rw [HB'.out]; rfl, rfl⟩
end Go.Proofs.YtgimdodbajhpoaaDoor
