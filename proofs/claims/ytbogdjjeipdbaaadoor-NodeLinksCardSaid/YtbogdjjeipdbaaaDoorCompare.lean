/- Two rows of bytes, compared. -/
import Derived.Test.YtbogdjjeipdbaaaDoorChecked
import Derived.Test.YtbogdjjeipdbaaaDoorBe
import Derived.Lib.BytesEntry
import Derived.Lib.Bytealg
namespace Go.Proofs.YtbogdjjeipdbaaaDoor
open Go.RowKit Go.Maps
set_option linter.unusedSimpArgs false
set_option linter.unusedVariables false

/-- Does one row come ahead of another? -/
def less : List Int → List Int → Bool
  | [], [] => false
  | [], _ :: _ => true
  | _ :: _, [] => false
  | x :: a, y :: b => if x = y then less a b else decide (x < y)
def cmpL (l k : List Int) : Int := Lib.compareBytes (Lib.bytesOf l) (Lib.bytesOf k)
theorem cmpL_spec : ∀ {l k : List Int}, (∀ x ∈ l, 0 ≤ x ∧ x < 256) → (∀ x ∈ k, 0 ≤ x ∧ x < 256) → cmpL l k = if l = k then 0 else if less l k = true then -1 else 1
  | [], [], _, _ => rfl
  | [], _ :: _, _, _ => rfl
  | _ :: _, [], _, _ => rfl
  | x :: a, y :: b, h1, h2 => by
    have ih := cmpL_spec (l := a) (k := b) (fun z hz => h1 z (by simp [hz])) (fun z hz => h2 z (by simp [hz]))
    have hx := h1 x (by simp); have hy := h2 y (by simp)
    have lt : ∀ u v : Int, (0 ≤ u ∧ u < 256) → (0 ≤ v ∧ v < 256) → ((UInt8.ofNat u.toNat < UInt8.ofNat v.toNat) ↔ u < v) := fun u v hu hv => by
      rw [UInt8.lt_iff_toNat_lt, UInt8.toNat_ofNat', UInt8.toNat_ofNat']; omega
    show (if UInt8.ofNat x.toNat < UInt8.ofNat y.toNat then (-1 : Int) else if UInt8.ofNat y.toNat < UInt8.ofNat x.toNat then 1 else cmpL a b) = _
    simp only [lt x y hx hy, lt y x hy hx, ih, less, List.cons.injEq]
    by_cases e : x = y
    · subst e; simp
    · by_cases e2 : x < y
      · simp [e, e2]
      · have : y < x := by omega
        simp [e, e2, this]
theorem less_irrefl : ∀ l : List Int, less l l = false
  | [] => rfl
  | x :: a => by simp [less, less_irrefl a]
theorem cmpL_neg {l k : List Int} (h1 : ∀ x ∈ l, 0 ≤ x ∧ x < 256) (h2 : ∀ x ∈ k, 0 ≤ x ∧ x < 256) : decide (0 ≤ cmpL l k) = !less l k := by
  rw [cmpL_spec h1 h2]
  by_cases e : l = k
  · subst e; simp [less_irrefl]
  · rw [if_neg e]
    cases less l k <;> simp

theorem run_bytesOf {P : Program} {w : World} {p : Option Addr} {n c : Nat} {l : List Int} (h : BytesIn w p n c l) : (Extern.Bytes.bytesOf (.slice p n c)).run P w = .ok ⟨(Lib.bytesOf l).toArray⟩ w := by
  have hl := h.len
  cases p with
  | none =>
    have : n = 0 := by
      rcases Nat.eq_zero_or_pos n with h0 | h0
      · exact h0
      · obtain ⟨b, o, hp, _⟩ := h.sl.addr h0; cases hp
    subst this
    obtain rfl : l = [] := List.eq_nil_of_length_eq_zero hl
    rfl
  | some a =>
    have := Lib.run_loadBytesX (P := P) w l a .empty (fun j x hj => by
      have hj2 := (List.getElem?_eq_some_iff.1 hj).1
      obtain ⟨b, o, hp, _, hc⟩ := h.sl.addr (by omega)
      cases hp
      have := hc j (.int .u8 x) (by simp [bs, hj])
      rw [← this]
      unfold Addr.add
      by_cases hz : j = 0 <;> simp [hz])
    rw [← hl]
    show (Extern.Bytes.loadBytes a l.length .empty).run P w = _
    rw [this]; simp
set_option maxRecDepth 100000 in
theorem compare_any (p q : Option Addr) (n m c d : Nat) (l k : List Int) (w : World) (h1 : BytesIn w p n c l) (h2 : BytesIn w q m d k) :
    Calls Tryd.prog 57 #[.slice p n c, .slice q m d] w (Ret fun v w' => v = .int .i64 (cmpL l k) ∧ w' = w) := by
  have hr : (Extern.BytealgCompare.compare #[.slice p n c, .slice q m d]).run Tryd.prog w = .ok (.int .i64 (cmpL l k)) w := by
    change Sem.run Tryd.prog (do pure (goInt (Extern.BytealgCompare.cmp (← Extern.Bytes.bytesOf (.slice p n c)) (← Extern.Bytes.bytesOf (.slice q m d))))) w = _
    simp only [Sem.run_bind, Sem.run_pure, run_bytesOf h1, run_bytesOf h2, Result.andThen]
    rw [Lib.cmp_eq]
    rfl
  have HR := Lib.hid hr
  clear hr h1 h2
  go_enter Tryd.func57, Tryd.ntmps57
  go_wp2
  rw [run_callFunc_extern Tryd.func63 (by kernel_rfl) (by kernel_rfl) (by kernel_rfl) (e := Extern.BytealgCompare.compare) (by kernel_rfl), HR.out]
  simp only [Result.andThen]
  rw [Oper.upon_value]
  go_wp2
  go_ret
  exact .mk ⟨rfl, rfl⟩
end Go.Proofs.YtbogdjjeipdbaaaDoor
