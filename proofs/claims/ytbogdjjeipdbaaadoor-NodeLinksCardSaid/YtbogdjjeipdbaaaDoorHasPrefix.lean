/- bytes.HasPrefix. -/
import Derived.Test.YtbogdjjeipdbaaaDoorTrim
namespace Go.Proofs.YtbogdjjeipdbaaaDoor
open Go.RowKit Go.Maps
set_option linter.unusedSimpArgs false
set_option linter.unusedVariables false

set_option maxRecDepth 100000 in
theorem hasprefix_any (p q : Option Addr) (n m c d : Nat) (l k : List Int) (w : World) (h1 : BytesIn w p n c l) (h2 : BytesIn w q m d k) :
    Calls Tryd.prog 38 #[.slice p n c, .slice q m d] w (Ret (EqB (decide (l.take k.length = k)) w)) := by
  have e1 := h1.len; have e2 := h2.len
  have HB : Hid (m ≤ n → decide (l.take m = k) = decide (l.take k.length = k)) := fun _ => by rw [e2]
  have HB0 : Hid (¬ m ≤ n → decide (l.take k.length = k) = false) := fun h => decide_eq_false fun e => h (by
    have := congrArg List.length e; rw [List.length_take] at this; omega)
  obtain ⟨B, hB⟩ : ∃ B, B = decide (l.take k.length = k) := ⟨_, rfl⟩
  rw [← hB] at HB HB0 ⊢
  have hc := h1.sl.capm; have hc2 := h1.sl.le
  unfold maxLen at hc
  have H1 := Lib.hid h1; have H2 := Lib.hid h2
  clear h1 h2 hB e1 e2
  by_cases hmn : m ≤ n
  · have hb : decide (m ≤ n) = true := decide_eq_true hmn
    obtain ⟨r1, s1⟩ := H1.out.sl.sub_h Tryd.underlying37 sizeBytes m .i64 hmn
    have HS : Hid (BytesIn w p m c (l.take m)) := ⟨by rw [Nat.mul_one] at s1; simpa [bs, List.map_take] using s1, fun x hx => H1.out.wf x (List.mem_of_mem_take hx)⟩
    have HB' := Lib.hid (HB.out hmn)
    clear s1
    go_enter Tryd.func38, Tryd.ntmps38
    go_wp2_with fail
    refine (equal_any p q m m c d (l.take m) k _ HS.out H2.out).mono ?_
    rintro _ w1 ⟨_, rfl, rfl, rfl⟩
    rw [HB'.out]
    go_wp2
    go_ret
    exact .mk ⟨rfl, rfl⟩
  · have hb : decide (m ≤ n) = false := decide_eq_false hmn
    have HB' := Lib.hid (HB0.out hmn)
    go_enter Tryd.func38, Tryd.ntmps38
    go_wp2
    go_ret
    exact .mk ⟨by rw [HB'.out]; rfl, rfl⟩
end Go.Proofs.YtbogdjjeipdbaaaDoor
