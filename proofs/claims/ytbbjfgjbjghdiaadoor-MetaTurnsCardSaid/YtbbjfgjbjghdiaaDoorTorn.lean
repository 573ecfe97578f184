/- A page that was torn. -/
import Derived.Test.YtbbjfgjbjghdiaaDoorDiskSync
namespace Go.Proofs.YtbbjfgjbjghdiaaDoor
open Go.RowKit Go.Maps
set_option linter.unusedSimpArgs false
set_option linter.unusedVariables false

/-- The last byte of a page, turned. -/
def tornP (l : List Int) : List Int := l.set 1023 (255 - l.getD 1023 0)
theorem tornP_len (l : List Int) : (tornP l).length = l.length := by simp [tornP]
theorem tornP_wf {l : List Int} (h : ∀ x ∈ l, 0 ≤ x ∧ x < 256) : ∀ x ∈ tornP l, 0 ≤ x ∧ x < 256 := by
  intro x hx
  rcases List.mem_or_eq_of_mem_set hx with h1 | h1
  · exact h x h1
  · subst h1
    by_cases hl : 1023 < l.length
    · have := h _ (List.getElem_mem hl); rw [getD_at hl]; omega
    · simp [List.getD, List.getElem?_eq_none (show l.length ≤ 1023 by omega)]

set_option maxRecDepth 100000 in
theorem not8 {v : Int} (h : 0 ≤ v ∧ v < 256) : bits .xor .u8 IntKind.u8.max v = 255 - v := by
  obtain ⟨a, rfl⟩ : ∃ a : Nat, v = a := ⟨v.toNat, by omega⟩
  have h1 : ∀ a : Nat, a < 256 → bits .xor .u8 IntKind.u8.max (a : Int) = 255 - (a : Int) := by decide +kernel
  exact h1 a (by omega)
set_option maxRecDepth 100000 in
theorem torn_any (p : Option Addr) (c : Nat) (l : List Int) (w : World) (h : BytesIn w p 1024 c l) :
    Calls Tryd.prog 49 #[.slice p 1024 c] w (Ret (BytesR (tornP l) w)) := by
  have hln := h.len
  have hnil : p = none → 1024 = 0 ∧ c = 0 := fun he => by obtain ⟨b, o, hp, _⟩ := h.sl.addr (by omega); rw [he] at hp; cases hp
  have HS := Lib.hid h.sl
  obtain ⟨v, hv⟩ : ∃ v, v = l.getD 1023 0 := ⟨_, rfl⟩
  have hvr : 0 ≤ v ∧ v < 256 := by rw [hv, getD_at (by omega)]; exact h.wf _ (List.getElem_mem _)
  have HT : Hid (bs (tornP l) = (bs l).set 1023 (.int .u8 (255 - v))) := by unfold Hid; rw [hv, tornP, bs, bs, List.map_set]
  have HV : Hid ((bs l)[1023]? = some (.int .u8 v)) := by rw [hv]; exact bs_get (by omega)
  have HL := Lib.hid hln
  clear h hln hv
  go_enter Tryd.func49, Tryd.ntmps49
  go_wp2_with fail
  refine (clone_any p 1024 c l _ HS.out (by omega) hnil).mono ?_
  rintro _ w1 ⟨_, rfl, p1, n1, c1, rfl, e1, o1, m1⟩
  obtain rfl : n1 = 1024 := by rw [e1, HL.out]
  obtain ⟨b, rfl⟩ : ∃ b, p1 = some ⟨b, 0, none⟩ := by
    rcases o1.2 with ⟨e, h0⟩ | ⟨g, cap, cur, e, hb, hat, _⟩
    · omega
    · cases e; exact ⟨g, rfl⟩
  have hb : w.heap.size ≤ b := by
    rcases o1.2 with ⟨e, h0⟩ | ⟨g, cap, cur, e, hb, hat, _⟩
    · omega
    · cases e; exact hb
  have hsl := (Sl.of_own o1 (bs_one _)).1
  obtain ⟨b', off', hp', _, hc'⟩ := hsl.addr (by omega)
  cases hp'
  have hidx := fun W => Sl.idx (P := Tryd.prog) (cap := c1) Tryd.underlying25 sizeBytes (fun h : 0 < 1024 => rfl) W .i64 1023 (by omega) (p := some ⟨b, 0, none⟩)
  rw [Nat.mul_one, Nat.zero_add] at hidx
  have hcell : w1.cell? ⟨b, 1023, none⟩ = some (.int .u8 v) := by
    have := hc' 1023 _ HV.out
    rwa [Nat.zero_add] at this
  have hfr : w1.frozen? ⟨b, 1023, none⟩ = false := by
    rcases o1.2 with ⟨e, h0⟩ | ⟨g2, cap2, cur2, e, _, hat3, _⟩
    · cases e
    · cases e; exact free_of_at hat3 _
  have hrow := (o1.stored 1023 (.int .u8 (255 - v))).1
  have HROW := Lib.hid hrow
  have HM : Hid (Mod [] w (w1.setCell ⟨b, 1023, none⟩ (.int .u8 (255 - v)))) := m1.setCell (Or.inr hb)
  clear hrow e1 o1 m1 hsl hc' HV
  have HX := Lib.hid (not8 hvr)
  go_wp2
  go_ret
  rw [HX.out]
  exact .mk ⟨_, _, _, rfl, by rw [tornP_len, HL.out], by rw [HT.out]; exact HROW.out, HM.out⟩
end Go.Proofs.YtbbjfgjbjghdiaaDoor
