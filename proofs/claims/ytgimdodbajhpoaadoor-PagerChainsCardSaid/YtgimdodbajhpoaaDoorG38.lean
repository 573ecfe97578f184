/- Chain: a chain's bytes, and its pages; DropChain. -/
import Derived.Test.YtgimdodbajhpoaaDoorG36
import Derived.Test.YtgimdodbajhpoaaDoorG37
import Derived.Test.YtgimdodbajhpoaaDoorG19
namespace Go.Proofs.YtgimdodbajhpoaaDoor
open Go.RowKit Go.Maps
set_option linter.unusedSimpArgs false
set_option linter.unusedVariables false

def needL (size : Int) : Int := if size < 1 then 0 else (size - 1) / 1010 + 1
set_option maxRecDepth 100000 in
theorem need_any (size : Int) (w : World) (h0 : 0 ≤ size ∧ size ≤ 100000) : Calls Tryd.prog 28 #[.int .i64 size] w (Ret fun v w' => v = .int .i64 (needL size) ∧ w = w') := by
  by_cases h : size < 1
  · have HV : Hid (needL size = 0) := by unfold Hid needL; rw [if_pos h]
    go_enter Tryd.func28, Tryd.ntmps28
    go_wp2
    go_ret
    exact .mk ⟨by rw [HV.out]; rfl, rfl⟩
  · have HV : Hid (needL size = (size - 1) / 1010 + 1) := by unfold Hid needL; rw [if_neg h]
    have hw1 : IntKind.i64.wrap (size - 1) = size - 1 := IntWalk.i64_in _ (by omega)
    have hq : (size - 1).tdiv 1010 = (size - 1) / 1010 := Int.tdiv_eq_ediv_of_nonneg (by omega)
    have hw2 : IntKind.i64.wrap ((size - 1) / 1010) = (size - 1) / 1010 := IntWalk.i64_in _ (by omega)
    have hw3 : IntKind.i64.wrap ((size - 1) / 1010 + 1) = (size - 1) / 1010 + 1 := IntWalk.i64_in _ (by omega)
    go_enter Tryd.func28, Tryd.ntmps28
    go_wp2
    go_ret
    exact .mk ⟨by rw [HV.out]; rfl, rfl⟩

/-- A chain, told. -/
def chainL (g : Int → List Int × Int) (size nd : Int) : Nat → Int → List Int → List Int → List Int × List Int × Int
  | 0, _, _, _ => ([], [], 5)
  | f + 1, no, out, pages =>
    if no = 0 then (if (out.length : Int) = size then (out, pages, 0) else ([], [], 5))
    else if size ≤ out.length ∨ nd ≤ pages.length then ([], [], 5)
    else if (g no).2 ≠ 0 then ([], [], (g no).2)
    else if (fromLinkL (g no).1).2.2 ≠ 0 then ([], [], (fromLinkL (g no).1).2.2)
    else chainL g size nd f (fromLinkL (g no).1).1 (out ++ (fromLinkL (g no).1).2.1) (pages ++ [no])
theorem fromLink_small {b : List Int} (h : ∀ x ∈ b, 0 ≤ x ∧ x < 256) : (fromLinkL b).2.1.length ≤ 1010 ∧ 0 ≤ (fromLinkL b).1 ∧ (fromLinkL b).1 ≤ 2147483647 := by
  unfold fromLinkL
  split
  · rename_i hg
    obtain ⟨h1, h2, h3, h4⟩ := hg.2.2.1
    exact ⟨h2, h3, h4⟩
  · simp
theorem rows_ne {w : World} {b1 b2 : Nat} {T1 T2 : TypeId} {s1 s2 n1 n2 : Nat} {v1 v2 : Value} {xs ys : List Value} (h1 : w.ownsRow b1 T1 s1 v1 n1 xs) (h2 : w.ownsRow b2 T2 s2 v2 n2 ys) (hT : T1 ≠ T2) : ∀ b ∈ v1.ownBlock, b ∉ v2.ownBlock.toList := by
  intro b hb hb2
  rcases h1.2 with ⟨e, _⟩ | ⟨g, cap, cur, e, _, hg, _⟩
  · rw [e] at hb; cases hb
  · rw [e] at hb; simp [Value.ownBlock] at hb; subst hb
    rcases h2.2 with ⟨e2, _⟩ | ⟨g2, cap2, cur2, e2, _, hg2, _⟩
    · rw [e2] at hb2; simp [Value.ownBlock] at hb2
    · rw [e2] at hb2; simp [Value.ownBlock] at hb2; subst hb2
      rw [hg] at hg2
      injection hg2 with hg2
      injection hg2 with _ hg2 _
      exact hT hg2
def ChainR (x : List Int × List Int × Int) (w : World) (v : Value) (w' : World) : Prop :=
  ∃ p n c p2 n2 c2, v = .tuple #[.slice p n c, .slice p2 n2 c2, .int .i64 x.2.2] ∧ BytesIn w' p n c x.1 ∧ n2 = x.2.1.length ∧ w'.ownsRow w.heap.size 3 1 (.slice p2 n2 c2) n2 (ints x.2.1) ∧ Mod [] w w'
theorem ChainR.no {e : Int} {w w' : World} (hm : Mod [] w w') : ChainR ([], [], e) w (.tuple #[.slice none 0 0, .slice none 0 0, .int .i64 e]) w' :=
  ⟨none, 0, 0, none, 0, 0, rfl, BytesIn.nil _, rfl, ⟨by simp [ints], Or.inl ⟨rfl, rfl⟩⟩, hm⟩
def sliceLen : Value → Nat
  | .slice _ n _ => n
  | _ => 0
theorem infoInt : (Tryd.prog.info? 3).map (fun i => (i.zero, i.size, i.bytes)) = some (some (.int .i64 0), 1, 8) := by kernel_rfl
set_option maxRecDepth 100000 in
set_option maxHeartbeats 8000000 in
theorem chain_any (X : Nat) (T : List Nat) (D : Nat) (Td : List Nat) (m : Pm) (k : Ck) (head size : Int) (w : World) (h : PgrAt w X T D m) (hd : DiskAt w D Td k) (h0 : -9223372036854775808 ≤ head ∧ head ≤ 9223372036854775807) (hs : 0 ≤ size ∧ size ≤ 100000) :
    Calls Tryd.prog 11 #[.pointer (some ⟨X, 0, none⟩), .int .i64 head, .int .i64 size] w (Ret (ChainR (chainL (m.read k) size (needL size) ((needL size).toNat + 1) head [] []) w)) := by
  obtain ⟨i0, hi0, hz0, hz1, hz2⟩ := info_parts infoU8
  obtain ⟨i1, hi1, hy0, hy1, hy2⟩ := info_parts infoInt
  obtain ⟨nd, hnd⟩ : ∃ nd : Nat, needL size = nd := ⟨(needL size).toNat, by unfold needL; split <;> omega⟩
  have hnd2 : nd ≤ 101 := by unfold needL at hnd; split at hnd <;> omega
  have HNEED := fun W => Lib.hid (need_any size W hs)
  rw [hnd] at HNEED
  rw [hnd, Int.toNat_natCast]
  obtain ⟨R, hR⟩ : ∃ R, chainL (m.read k) size nd (nd + 1) head [] [] = R := ⟨_, rfl⟩
  rw [hR]
  have HR := Lib.hid hR
  have HX := Lib.hid h
  have HD := Lib.hid hd
  have HH := Lib.hid h0
  have HS := Lib.hid hs
  clear hR h hd h0 hnd hs
  go_enter Tryd.func11, Tryd.ntmps11
  go_wp2
  go_loopw [9, 10, 11] (fun ov pv nv wx => ∃ (f : Nat) (no : Int) (out pages : List Int) (p : Option Addr) (n c : Nat) (p2 : Option Addr) (n2 c2 : Nat) (W0 : World), W0 = wx ∧ ov = .slice p n c ∧ pv = .slice p2 n2 c2 ∧ nv = .int .i64 no ∧ (-9223372036854775808 ≤ no ∧ no ≤ 9223372036854775807) ∧
      f + n2 = nd ∧ n ≤ 1010 * n2 ∧ W0.ownsRow w.heap.size 5 1 (.slice p n c) n (bs out) ∧ (∀ x ∈ out, 0 ≤ x ∧ x < 256) ∧ W0.ownsRow w.heap.size 3 1 (.slice p2 n2 c2) n2 (ints pages) ∧ Mod [] w W0 ∧ chainL (m.read k) size nd (f + 1) no out pages = R)
    (fun _ pv _ _ => nd + 1 - sliceLen pv)
  case atStart => exact ⟨nd, head, [], [], none, 0, 0, none, 0, 0, _, rfl, rfl, rfl, rfl, HH.out, by omega, by omega, ⟨by simp [bs], Or.inl ⟨rfl, rfl⟩⟩, by simp, ⟨by simp [ints], Or.inl ⟨rfl, rfl⟩⟩, Mod.refl _ _, HR.out⟩
  case round =>
    clear HR HH
    obtain ⟨f, no, out, pages, p, n, c, p2, n2, c2, W0, rfl, rfl, rfl, rfl, hno, hf, hn, hrow, hwf, hrow2, hm, hch⟩ := hrel
    have HRW := Lib.hid hrow
    have HWF := Lib.hid hwf
    have HRP := Lib.hid hrow2
    have HM := Lib.hid hm
    have hol : out.length = n := by have := hrow.1; simpa [bs] using this
    have hpl : pages.length = n2 := by have := hrow2.1; simpa [ints] using this
    have hsz := hm.size
    unfold chainL at hch
    rw [hol, hpl] at hch
    have HNO := Lib.hid hno
    have HF := Lib.hid hf
    have HOL := Lib.hid hol
    have HPL := Lib.hid hpl
    clear hrow hwf hrow2 hm hno hf hol hpl
    by_cases hz : no = 0
    · rw [if_pos hz] at hch
      subst hz
      by_cases hsz2 : (n : Int) = size
      · rw [if_pos hsz2] at hch
        have hb : ((n : Int) != size) = false := by simpa using hsz2
        have HR := Lib.hid hch
        clear hch hsz2
        go_wp2
        go_ret3
        exact .mk (by rw [← HR.out]; exact ⟨p, n, c, p2, n2, c2, rfl, ⟨(Sl.of_own HRW.out (bs_one _)).1, HWF.out⟩, HPL.out.symm, HRP.out, HM.out⟩)
      · rw [if_neg hsz2] at hch
        have hb : ((n : Int) != size) = true := by simpa using hsz2
        have HR := Lib.hid hch
        clear hch hsz2
        go_wp2
        go_ret3
        exact .mk (by rw [← HR.out]; exact ChainR.no HM.out)
    · rw [if_neg hz] at hch
      have hzb : (no != 0) = true := by simpa using hz
      by_cases hge : size ≤ (n : Int)
      · rw [if_pos (Or.inl hge)] at hch
        have HR := Lib.hid hch
        have hgb : decide (size ≤ (n : Int)) = true := by simpa using hge
        clear hch
        go_wp2
        go_ret3
        exact .mk (by rw [← HR.out]; exact ChainR.no HM.out)
      have hgb : decide (size ≤ (n : Int)) = false := by simpa using hge
      by_cases hgn : nd ≤ n2
      · rw [if_pos (Or.inr (by omega))] at hch
        have HR := Lib.hid hch
        have hgi : ((nd : Int)) ≤ (n2 : Int) := by omega
        have hgd : decide (nd ≤ n2) = true := by simpa using hgn
        clear hch
        go_wp2_with fail
        refine (HNEED _).out.mono ?_
        rintro _ w5 ⟨_, rfl, rfl, rfl⟩
        go_wp2
        go_ret3
        exact .mk (by rw [← HR.out]; exact ChainR.no HM.out)
      have hgi : ¬ ((nd : Int) ≤ (n2 : Int)) := by omega
      have hgd : decide (nd ≤ n2) = false := by simpa using hgn
      rw [if_neg (by omega)] at hch
      obtain ⟨x, hx⟩ : ∃ x, m.read k no = x := ⟨_, rfl⟩
      have HRD := fun W hm => Lib.hid (pgrread_any X T D Td m k no W (HX.out.mod (S := []) (w' := W) hm (by simp)) (HD.out.mod hm (by simp)) HNO.out)
      rw [hx] at hch HRD
      obtain ⟨rl, rc⟩ := x
      simp only at hch
      go_wp2_with fail
      refine (HNEED _).out.mono ?_
      rintro _ w5 ⟨_, rfl, rfl, rfl⟩
      go_wp2_with fail
      refine (HRD _ HM.out).out.mono ?_
      rintro _ w6 ⟨_, rfl, p6, n6, c6, rfl, e6, b6, t6, m6⟩
      have B6 := Lib.hid b6
      have M6 := Lib.hid m6
      clear e6 b6 t6 m6 HRD hx
      by_cases hrc : rc = 0
      · subst hrc
        rw [if_neg (by simp)] at hch
        obtain ⟨y, hy⟩ : ∃ y, fromLinkL rl = y := ⟨_, rfl⟩
        have HFL := Lib.hid (fromlink_any p6 n6 c6 rl _ B6.out)
        have hfs := fromLink_small B6.out.wf
        rw [hy] at hch HFL hfs
        obtain ⟨nx, part, fc⟩ := y
        simp only at hch hfs
        clear hy
        go_wp2_with fail
        refine HFL.out.mono ?_
        rintro _ w7 ⟨_, rfl, p7, n7, c7, rfl, b7, m7⟩
        have B7 := Lib.hid b7
        have M7 := Lib.hid (M6.out.same m7)
        have hn7 : part.length = n7 := b7.len
        have HN7 := Lib.hid hn7
        clear b7 m7 HFL
        by_cases hfc : fc = 0
        · subst hfc
          rw [if_neg (by simp)] at hch
          have HR := Lib.hid hch
          have hfl : n7 ≤ 1010 := by rw [← hn7]; exact hfs.1
          have hnx := hfs.2
          have hs7 := M7.out.size
          have HO7 := Lib.hid (ownsRow_mod HRW.out M7.out (by simp))
          have HP7 := Lib.hid (ownsRow_mod HRP.out M7.out (by simp))
          have hnn := HF.out
          clear hch hfs hn7
          go_wp2_with (first
            | (at_builtin; (refine wpList_append_src _ rfl _ _ _ rfl w.heap.size 5 i0 _ 1 1 Tryd.underlying22 hi0 hz0 hz1 hz2 rfl (by omega) (.slice p n c) n (bs out) rfl HO7.out _ _ _ (bs part) rfl B7.out.sl (n + n7) rfl (by unfold maxLen; omega) (by omega) (by omega) ?_); intro p' c' w8 hown8 hgrow8 hnil8 hlie8; (have HO8 := Lib.hid hown8); (have HG8 := Lib.hid hgrow8); (have hs8 := hgrow8.size); clear hown8 hgrow8 hnil8 hlie8)
            | (at_builtin; (refine wpList_append_src _ rfl _ _ _ rfl w.heap.size 3 i1 _ 1 8 Tryd.underlying37 hi1 hy0 hy1 hy2 rfl (by omega) (.slice p2 n2 c2) _ _ rfl (ownsRow_mod (ownsRow_mod HP7.out (Mod.of_grown' HG8.out) (rows_ne HP7.out HO7.out (by decide))) (Mod.of_alloc w8 _) (by simp)) _ _ _ [.int .i64 no] rfl (Sl.one_new _ _ _ rfl) (n2 + 1) (by omega) (by unfold maxLen; omega) (by omega) (by simp; omega) ?_); intro p9' c9' w9 hown9 hgrow9 hnil9 hlie9; (have HO9 := Lib.hid hown9); (have HG9 := Lib.hid hgrow9); clear hown9 hgrow9 hnil9 hlie9)
            | fail)
          obtain ⟨f', rfl⟩ : ∃ f', f = f' + 1 := ⟨f - 1, by omega⟩
          have HP8 := Lib.hid (ownsRow_mod (ownsRow_mod HP7.out (Mod.of_grown' HG8.out) (rows_ne HP7.out HO7.out (by decide))) (Mod.of_alloc w8 (.cells #[.int .i64 no] 3)) (by simp))
          have HOA := Lib.hid (ownsRow_mod HO8.out (Mod.of_alloc w8 (.cells #[.int .i64 no] 3)) (by simp))
          have HOE := Lib.hid (ownsRow_mod HOA.out (Mod.of_grown' HG9.out) (rows_ne HOA.out HP8.out (by decide)))
          have HME : Hid (Mod [] w w9) := (((HM.out.same M7.out).trans (Mod.of_grown' HG8.out) (fun b hb => Or.inr (own_base HO7.out b (by simpa using hb)))).same (Mod.of_alloc w8 (.cells #[.int .i64 no] 3))).trans (Mod.of_grown' HG9.out) (fun b hb => Or.inr (own_base HP8.out b (by simpa using hb)))
          have e1 : bs out ++ bs part = bs (out ++ part) := by simp [bs]
          have e2 : ints pages ++ [.int .i64 no] = ints (pages ++ [no]) := by simp [ints]
          have hwf2 : ∀ x ∈ out ++ part, 0 ≤ x ∧ x < 256 := fun x hx => by
            rcases List.mem_append.1 hx with h | h
            · exact HWF.out x h
            · exact B7.out.wf x h
          rw [e1] at HOE
          rw [e2] at HO9
          go_roundw
          case rel => exact ⟨f', nx, out ++ part, pages ++ [no], _, _, _, _, n2 + 1, _, _, rfl, rfl, rfl, rfl, ⟨by omega, by omega⟩, by omega, by omega, HOE.out, hwf2, HO9.out, HME.out, HR.out⟩
          case measure => simp [sliceLen]; omega
        · rw [if_pos hfc] at hch
          have HR := Lib.hid hch
          have hfb : (fc != 0) = true := by simpa using hfc
          clear hch
          go_wp2
          go_ret3
          exact .mk (by rw [← HR.out]; exact ChainR.no (HM.out.same M7.out))
      · rw [if_pos hrc] at hch
        have HR := Lib.hid hch
        have hrb : (rc != 0) = true := by simpa using hrc
        clear hch
        go_wp2
        go_ret3
        exact .mk (by rw [← HR.out]; exact ChainR.no (HM.out.same M6.out))
def dropsL (m : Pm) (l : List Int) : Pm := l.foldl Pm.drop m
theorem sizeIntsC (W : World) : (sizeOf (Tryd.prog.elem 37)).run Tryd.prog W = .ok 1 W := by kernel_rfl
theorem chain_range {g : Int → List Int × Int} (hg : ∀ no, ∀ x ∈ (g no).1, 0 ≤ x ∧ x < 256) {size nd : Int} : ∀ (f : Nat) (no : Int) (out pages : List Int), (-9223372036854775808 ≤ no ∧ no ≤ 9223372036854775807) → (∀ x ∈ pages, -9223372036854775808 ≤ x ∧ x ≤ 9223372036854775807) →
    (∀ x ∈ (chainL g size nd f no out pages).2.1, -9223372036854775808 ≤ x ∧ x ≤ 9223372036854775807)
  | 0, no, out, pages, _, _ => by unfold chainL; simp
  | f + 1, no, out, pages, hn, hp => by
    unfold chainL
    split
    · split
      · exact hp
      · simp
    · split
      · simp
      · split
        · simp
        · split
          · simp
          · have hs := fromLink_small (hg no)
            refine chain_range hg f _ _ _ ⟨by omega, by omega⟩ (fun x hx => ?_)
            rcases List.mem_append.1 hx with h | h
            · exact hp x h
            · simp at h; subst h; exact hn
theorem chain_len {g : Int → List Int × Int} {size : Int} {nd : Nat} : ∀ (f : Nat) (no : Int) (out pages : List Int), pages.length ≤ nd → ((chainL g size nd f no out pages).2.1).length ≤ nd
  | 0, no, out, pages, _ => by unfold chainL; simp
  | f + 1, no, out, pages, hp => by
    unfold chainL
    split
    · split
      · exact hp
      · simp
    · split
      · simp
      · rename_i h1
        split
        · simp
        · split
          · simp
          · exact chain_len f _ _ _ (by simp; omega)
set_option maxRecDepth 100000 in
set_option maxHeartbeats 8000000 in
theorem dropchain_any (X : Nat) (T : List Nat) (D : Nat) (Td : List Nat) (m : Pm) (k : Ck) (head size : Int) (w : World) (h : PgrAt w X T D m) (hd : DiskAt w D Td k) (h0 : -9223372036854775808 ≤ head ∧ head ≤ 9223372036854775807) (hs : 0 ≤ size ∧ size ≤ 100000) {pages : List Int} {code : Int} {bytes : List Int}
    (hch : chainL (m.read k) size (needL size) ((needL size).toNat + 1) head [] [] = (bytes, pages, code)) (hr : ∀ x ∈ pages, -9223372036854775808 ≤ x ∧ x ≤ 9223372036854775807) (hl : pages.length ≤ 1000) :
    Calls Tryd.prog 13 #[.pointer (some ⟨X, 0, none⟩), .int .i64 head, .int .i64 size] w (Ret fun v w' => v = .int .i64 code ∧ PgrAt w' X T D (dropsL m pages) ∧ Mod T w w') := by
  have HC := Lib.hid (chain_any X T D Td m k head size w h hd h0 hs)
  rw [hch] at HC
  have HX := Lib.hid h
  have HR := Lib.hid hr
  have HTL := Lib.hid h.lt
  have HL := Lib.hid hl
  clear hch h hd h0 hs hr hl
  go_enter Tryd.func13, Tryd.ntmps13
  go_wp2_with fail
  refine HC.out.mono ?_
  rintro _ w1 ⟨_, rfl, p, n, c, P, N, C, rfl, b1, e1, o1, m1⟩
  simp only at e1 b1 o1
  have hnl : N ≤ 1000 := by rw [e1]; exact HL.out
  have hS := (Sl.of_own o1 (ints_one _)).1
  obtain ⟨b, off, hp, hcs⟩ := hS.at_
  have hidx := fun W => Sl.idx (P := Tryd.prog) (cap := C) Tryd.underlying37 sizeIntsC (fun h => (hp h).1) W .i64
  have HLT : Hid (0 < N → b < w1.heap.size ∧ b ∉ T) := fun h => ⟨(hp h).2, fun hb => by
    have h1 := own_base o1 b (by rw [(hp h).1]; simp [Value.ownBlock])
    have h2 := HTL.out b hb
    omega⟩
  have HCE : Hid (∀ (i : Nat) (x : Int), pages[i]? = some x → w1.cell? ⟨b, off + i, none⟩ = some (.int .i64 x)) := fun i x hx => by
    refine hcs i _ ?_
    simp [ints, hx]
  have HX1 := Lib.hid (HX.out.mod m1 (by simp))
  have M1 := Lib.hid m1
  have HN := Lib.hid e1
  clear hS hp hcs o1 b1 m1 e1 HC HX
  go_wp2
  go_loopw [22] (fun jv wx => ∃ (j : Nat) (W0 : World), j ≤ N ∧ W0 = wx ∧ jv = .int .i64 j ∧ PgrAt W0 X T D (dropsL m (pages.take j)) ∧ Mod T w1 W0) (fun jv _ => N - (intOf jv).toNat)
  case atStart => exact ⟨0, _, by omega, rfl, rfl, by rw [List.take_zero]; exact HX1.out, Mod.refl _ _⟩
  case round =>
    obtain ⟨j, W0, hj, rfl, rfl, hxj, hmj⟩ := hrel
    have HXJ := Lib.hid hxj
    have HMJ := Lib.hid hmj
    clear hxj hmj
    by_cases hlt : j < N
    · obtain ⟨x, hx⟩ : ∃ x, pages[j]? = some x := ⟨_, List.getElem?_eq_getElem (by have := HN.out; omega)⟩
      have hcell := HCE.out j x hx
      have hb1 := (HLT.out (by omega)).1
      have hb2 := (HLT.out (by omega)).2
      rw [← HMJ.out.cell (a := ⟨b, _, none⟩) hb1 hb2] at hcell
      have hji := fun W => hidx W j hlt
      simp only [Nat.mul_one] at hji
      have hwi : IntKind.i64.wrap ((j : Int) + 1) = (j : Int) + 1 := IntWalk.i64_in _ (by omega)
      have HRX := Lib.hid (HR.out x (List.mem_of_getElem? hx))
      have HST : Hid ((dropsL m (pages.take j)).drop x = dropsL m (pages.take (j + 1))) := by
        unfold Hid dropsL
        rw [List.take_add_one, hx]; simp
      clear hx
      go_wp2_with fail
      refine (pgrdrop_any X T D _ x _ HXJ.out HRX.out).mono ?_
      rintro _ w9 ⟨rfl, hx9, m9⟩
      rw [HST.out] at hx9
      have HX9 := Lib.hid hx9
      have M9 := Lib.hid (HMJ.out.same m9)
      clear hx9 m9
      go_wp2
      go_roundw
      case rel => exact ⟨j + 1, _, by omega, rfl, by go_num, HX9.out, M9.out⟩
      case measure => simp [intOf]; omega
    · obtain rfl : j = N := by omega
      have HFIN : Hid (pages.take j = pages) := by unfold Hid; rw [HN.out, List.take_length]
      rw [HFIN.out] at HXJ
      go_wp2
      go_ret
      exact .mk ⟨rfl, HXJ.out, (M1.out.mono (by simp)).same HMJ.out⟩
end Go.Proofs.YtgimdodbajhpoaaDoor
