/- A framed page is opened again. -/
import Derived.Test.YtgimdodbajhpoaaPageOpen
import Derived.Test.YtgimdodbajhpoaaNum4
namespace Go.Proofs.Ytgimdodbajhpoaa
open Go.RowKit Go.Maps
set_option linter.unusedSimpArgs false
set_option linter.unusedVariables false

theorem fr_take {no : Int} {l : List Int} (h : l.length ≤ 1016) : (fr no l).take 1016 = pad 1016 l := by
  unfold fr fr0
  rw [List.append_assoc, List.take_append_of_le_length (by rw [pad_len h]; omega), List.take_of_length_le (by rw [pad_len h]; omega)]
theorem okPage_fr {no : Int} {l : List Int} (h : l.length ≤ 1016) (h0 : 0 ≤ no) (h1 : no ≤ 2147483647) : okPage no (fr no l) = true := by
  have hl := fr0_len (no := no) h
  have hc := crcv_range (fr0 no l)
  have e1 : (fr no l).drop 1020 = be 4 (crcv (fr0 no l)) := by
    unfold fr; rw [List.drop_append, List.drop_of_length_le (by rw [hl]; omega), hl]; rfl
  have e2 : (fr no l).take 1020 = fr0 no l := by
    unfold fr; rw [List.take_append_of_le_length (by rw [hl]; omega), List.take_of_length_le (by rw [hl]; omega)]
  have e3 : ((fr no l).drop 1016).take 4 = be 4 no := by
    unfold fr fr0
    rw [List.append_assoc, List.drop_append, List.drop_of_length_le (by rw [pad_len h]; omega), pad_len h]
    simp only [Nat.sub_self, List.drop_zero, List.nil_append]
    rw [List.take_append_of_le_length (by rw [be_len]; omega), List.take_of_length_le (by rw [be_len]; omega)]
  have u1 := un4_be [] (v := crcv (fr0 no l)) (by omega) (by omega)
  have u2 := un4_be [] (v := no) (by omega) (by omega)
  rw [List.append_nil] at u1 u2
  unfold okPage
  rw [e1, e2, e3, u1, u2]
  simp
end Go.Proofs.Ytgimdodbajhpoaa
