/- Nodes: how long a branch is; whether its kids may be. -/
import Derived.Test.YtbogdjjeipdbaaaDoorNode2
namespace Go.Proofs.YtbogdjjeipdbaaaDoor
open Go.RowKit Go.Maps
set_option linter.unusedSimpArgs false
set_option linter.unusedVariables false

theorem KeysIn.get {w : World} {p : Option Addr} {n c : Nat} {ks : List Bv} (h : KeysIn w p n c ks) {b off : Nat} (hc : ∀ j u, (ks.map Bv.val)[j]? = some u → w.cell? ⟨b, off + j, none⟩ = some u) (i : Nat) (hi : i < n) :
    ∃ kp kn kc kl, ks[i]? = some ⟨kp, kn, kc, kl⟩ ∧ (ks.map Bv.l)[i]? = some kl ∧ BytesIn w kp kn kc kl ∧ w.cell? ⟨b, off + i, none⟩ = some (.slice kp kn kc) := by
  have hk : i < ks.length := by rw [h.len]; exact hi
  refine ⟨_, _, _, _, List.getElem?_eq_getElem hk, by rw [List.getElem?_map, List.getElem?_eq_getElem hk]; rfl, h.io _ (List.getElem_mem hk), hc i _ (by rw [List.getElem?_map, List.getElem?_eq_getElem hk]; rfl)⟩
set_option maxRecDepth 100000 in
set_option maxHeartbeats 2000000 in
theorem brlen_any (B : Nat) (ks : List Bv) (kids : List Int) (w : World) (h : BrAt w B ks kids) (hb : brLen (ks.map Bv.l) ≤ 1000000000000000000) :
    Calls Tryd.prog 9 #[.pointer (some ⟨B, 0, none⟩)] w (Ret (IntEq (brLen (ks.map Bv.l)) w)) := by
  obtain ⟨p, n, c, q, m, d, hat, hx, -⟩ := h
  have c0 : w.cell? ⟨B, 0, none⟩ = some (.slice p n c) := cell_of_at hat 0
  have hcm := hx.sl.capm; have hle := hx.sl.le
  unfold maxLen at hcm
  obtain ⟨b, off, hp, hcs⟩ := hx.sl.at_
  have hidx := fun W => Sl.idx (P := Tryd.prog) (cap := c) Tryd.underlying23 sizeRows (fun h => (hp h).1) W .i64
  simp only [Nat.mul_one] at hidx
  have HG := Lib.hid (fun i hi => hx.get hcs i hi)
  have HLN : Hid ((ks.map Bv.l).length = n) := by unfold Hid; rw [List.length_map]; exact hx.len
  have HLL : Hid (brLen (ks.map Bv.l) = 7 + ksum ((ks.map Bv.l).take n)) := by unfold Hid brLen; rw [List.take_of_length_le (by rw [HLN.out]; omega)]
  have HLE := Lib.hid (ksum_take_le (ks.map Bv.l))
  have hb2 : 7 + ksum (ks.map Bv.l) ≤ 1000000000000000000 := hb
  have HST : Hid (∀ i k, (ks.map Bv.l)[i]? = some k → ksum ((ks.map Bv.l).take (i + 1)) = ksum ((ks.map Bv.l).take i) + (5 + k.length)) := fun i k h => by
    obtain ⟨h1, h2⟩ := List.getElem?_eq_some_iff.1 h
    rw [ksum_take h1, h2]
  generalize ks.map Bv.l = ls at *
  clear hat hx hp hcs hb
  go_enter Tryd.func9, Tryd.ntmps9
  go_wp2
  go_loopw [3, 11] (fun nv iv wr => ∃ i : Nat, i ≤ n ∧ iv = .int .i64 i ∧ nv = .int .i64 ((7 + ksum (ls.take i) : Nat) : Int) ∧ wr = w) (fun _ iv _ => n - (intOf iv).toNat)
  case atStart => exact ⟨0, by omega, rfl, rfl, rfl⟩
  case round =>
    obtain ⟨i, hi, rfl, rfl, rfl⟩ := hrel
    by_cases hlt : i < n
    · obtain ⟨kp, kn, kc, kl, _, hcl, hk, d0⟩ := HG.out i hlt
      have hkl := hk.len
      have HS := HST.out i _ hcl
      have hbnd := HLE.out (i + 1)
      rw [HS, hkl] at hbnd
      rw [hkl] at HS
      have HS' := Lib.hid HS
      generalize hV : ksum (ls.take i) = V at *
      clear hk hkl HS hcl hV
      have hw1 : IntKind.i64.wrap (5 + (kn : Int)) = ((5 + kn : Nat) : Int) := by rw [IntWalk.i64_in _ (by omega)]; omega
      have hw2 : IntKind.i64.wrap (((7 + V : Nat) : Int) + ((5 + kn : Nat) : Int)) = ((7 + (V + (5 + kn)) : Nat) : Int) := by rw [IntWalk.i64_in _ (by omega)]; omega
      go_wp2
      go_roundw
      case rel => exact ⟨i + 1, by omega, by go_num, by rw [HS'.out]; exact congrArg (Value.int .i64) (by omega), by first | rfl | trivial⟩
      case measure => simp [intOf]; omega
    · obtain rfl : i = n := by omega
      go_wp2
      go_ret
      exact .mk ⟨by rw [HLL.out]; rfl, rfl⟩

set_option maxRecDepth 100000 in
theorem kid1_any (no : Int) (w : World) : Calls Tryd.prog 44 #[.int .i64 no] w (Ret (BoolEq (!mayPgN no) w)) := by
  go_enter Tryd.func44, Tryd.ntmps44
  go_wp2_with fail
  refine (maypgn_any no _).mono ?_
  rintro _ w1 ⟨_, rfl, rfl, rfl⟩
  generalize mayPgN no = P at *
  go_wp2
  go_ret
  exact .mk ⟨rfl, rfl⟩
def IdxR (l : List Int) (w : World) (v : Value) (w' : World) : Prop := ∃ x : Int, v = .int .i64 x ∧ (decide (0 ≤ x) = !l.all mayPgN) ∧ w' = w
set_option maxRecDepth 100000 in
set_option maxHeartbeats 1000000 in
theorem index_any (p : Option Addr) (n c : Nat) (l : List Int) (w : World) (h : Sl w 1 p n c (l.map (.int .i64))) :
    Calls Tryd.prog 58 #[.slice p n c, .func (.func 44) #[] #[]] w (Ret (IdxR l w)) := by
  have hln : l.length = n := by have := h.len; simpa using this
  have hcm := h.capm; have hle := h.le
  unfold maxLen at hcm
  obtain ⟨b, off, hp, hcs⟩ := h.at_
  have hidx := fun W => Sl.idx (P := Tryd.prog) (cap := c) Tryd.underlying24 sizeKids (fun h => (hp h).1) W .i64
  simp only [Nat.mul_one] at hidx
  have HG : Hid (∀ i, i < n → ∃ x, l[i]? = some x ∧ w.cell? ⟨b, off + i, none⟩ = some (.int .i64 x)) := fun i hi => by
    have hk : i < l.length := by omega
    exact ⟨_, List.getElem?_eq_getElem hk, hcs i _ (by rw [List.getElem?_map, List.getElem?_eq_getElem hk]; rfl)⟩
  have HLN := Lib.hid hln
  clear h hp hcs hln
  go_enter Tryd.func58, Tryd.ntmps58
  go_wp2
  go_loopw [8] (fun i wr => ∃ k : Nat, k ≤ n ∧ i = .int .i64 k ∧ (∀ j x, j < k → l[j]? = some x → mayPgN x = true) ∧ wr = w) (fun i _ => n - (intOf i).toNat)
  case atStart => exact ⟨0, by omega, rfl, fun j x h => by omega, rfl⟩
  case round =>
    obtain ⟨k, hk, rfl, hall, rfl⟩ := hrel
    have HA := Lib.hid hall
    clear hall
    by_cases hlt : k < n
    · obtain ⟨x, hx, d0⟩ := HG.out k hlt
      have HX := Lib.hid hx
      clear hx
      go_wp2_with fail
      refine (kid1_any x _).mono ?_
      rintro _ w1 ⟨_, rfl, rfl, rfl⟩
      cases hB : mayPgN x with
      | true =>
        have HB := Lib.hid hB
        clear hB
        go_wp2
        go_roundw
        case rel => exact ⟨k + 1, by omega, by go_num, fun j y hj hy => by
          rcases Nat.lt_succ_iff_lt_or_eq.1 hj with h | rfl
          · exact HA.out j y h hy
          · rw [HX.out] at hy; cases hy; exact HB.out, by first | rfl | trivial⟩
        case measure => simp [intOf]; omega
      | false =>
        have HB := Lib.hid hB
        clear hB
        go_wp2
        go_ret
        refine .mk ⟨(k : Int), rfl, ?_, rfl⟩
        have hf : l.all mayPgN = false := by
          rw [List.all_eq_false]
          exact ⟨x, List.mem_of_getElem? HX.out, by rw [HB.out]; simp⟩
        rw [hf]; simp
    · obtain rfl : k = n := by omega
      go_wp2
      go_ret
      refine .mk ⟨-1, rfl, ?_, rfl⟩
      have hf : l.all mayPgN = true := by
        rw [List.all_eq_true]
        intro y hy
        obtain ⟨j, hj, rfl⟩ := List.mem_iff_getElem.1 hy
        exact HA.out j _ (by rw [← HLN.out]; exact hj) (List.getElem?_eq_getElem hj)
      rw [hf]; simp
set_option maxRecDepth 100000 in
theorem contains_any (p : Option Addr) (n c : Nat) (l : List Int) (w : World) (h : Sl w 1 p n c (l.map (.int .i64))) :
    Calls Tryd.prog 43 #[.slice p n c, .func (.func 44) #[] #[]] w (Ret (BoolEq (!l.all mayPgN) w)) := by
  have H := Lib.hid h
  clear h
  go_enter Tryd.func43, Tryd.ntmps43
  go_wp2_with fail
  refine (index_any p n c l w H.out).mono ?_
  rintro _ w1 ⟨_, rfl, x, rfl, hx, rfl⟩
  have HX := Lib.hid hx
  clear hx
  go_wp2
  go_ret
  exact .mk ⟨by show Value.bool (decide (0 ≤ x)) = _; rw [HX.out], rfl⟩
end Go.Proofs.YtbogdjjeipdbaaaDoor
