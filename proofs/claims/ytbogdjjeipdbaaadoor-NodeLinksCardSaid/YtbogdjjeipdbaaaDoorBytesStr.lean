/- Bytes as a text. -/
import Derived.Test.YtbogdjjeipdbaaaDoorBe
import Derived.Laws.BytesArg
namespace Go.Proofs.YtbogdjjeipdbaaaDoor
open Go.RowKit Go.Maps
set_option linter.unusedSimpArgs false
set_option linter.unusedVariables false

theorem Sl.str {P : Program} {w : World} {p : Option Addr} {n c : Nat} {l : List Int} (h : Sl w 1 p n c (bs l)) (src e dst : TypeId) (hs : P.underlying src = some (.slice e)) (he : P.underlying e = some (.int .u8)) (hd : P.underlying dst = some .string) :
    (convert src dst (.slice p n c)).run P w = .ok (.string (strOfNums l)) w := by
  have hl : l.length = n := by have := h.len; rw [bs_len] at this; omega
  rcases Nat.eq_zero_or_pos n with h0 | h0
  · subst h0
    obtain rfl : l = [] := List.eq_nil_of_length_eq_zero hl
    rw [run_convert_bytes_string w src dst e _ 0 c hs he hd]
    cases p <;> simp [Conv.bytesToString, loadCells]
    all_goals rfl
  · obtain ⟨b, off, rfl, _, hc⟩ := h.addr h0
    exact run_convert_bytes_arg w src e hs he b off n c l hl (fun i hi => hc i _ (bs_get (by omega))) dst hd
theorem str_inj {l m : List Int} (h1 : ∀ x ∈ l, 0 ≤ x ∧ x < 256) (h2 : ∀ x ∈ m, 0 ≤ x ∧ x < 256) (h : strOfNums l = strOfNums m) : l = m := by
  have e : l.map (fun n => UInt8.ofNat n.toNat) = m.map (fun n => UInt8.ofNat n.toNat) := by rw [← strOfNums_data, ← strOfNums_data, h]
  have hl : l.length = m.length := by have := congrArg List.length e; simpa using this
  apply List.ext_getElem hl
  intro i a b
  have e1 := congrArg (fun q => q[i]?) e
  simp only [List.getElem?_map, List.getElem?_eq_getElem a, List.getElem?_eq_getElem b, Option.map_some, Option.some.injEq] at e1
  have e2 := congrArg UInt8.toNat e1
  simp only [UInt8.toNat_ofNat'] at e2
  have g1 := h1 _ (List.getElem_mem a)
  have g2 := h2 _ (List.getElem_mem b)
  omega
theorem toList_inj {a b : ByteArray} (h : a.toList = b.toList) : a = b := by
  rw [ByteArray.toList_eq, ByteArray.toList_eq] at h
  cases a; cases b
  exact congrArg ByteArray.mk (Array.toList_inj.1 h)
theorem str_beq {l m : List Int} (h1 : ∀ x ∈ l, 0 ≤ x ∧ x < 256) (h2 : ∀ x ∈ m, 0 ≤ x ∧ x < 256) : ((strOfNums l).toList == (strOfNums m).toList) = decide (l = m) := by
  by_cases h : l = m
  · simp [h]
  · rw [decide_eq_false h]
    refine beq_eq_false_iff_ne.2 fun e => h (str_inj h1 h2 (toList_inj e))
end Go.Proofs.YtbogdjjeipdbaaaDoor
