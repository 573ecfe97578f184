/- Roots: what a row is behind a copy, an append of a make, an overlap's question. Roots: slices.Insert of one root into a list of the call's own. Roots: slices.Insert that must grow. Roots: slices.Insert where there is room; slices.Insert of one root. Roots: slices.Insert of one root, wherever; what With tells, plainly. Roots: the program's With. -/
import Derived.Lib.AppendZerosOnto
import Derived.StillTailTactics
import Derived.Lib.Overlaps
import Derived.Test.YtpdkkokgpdabhaaDoorG07
namespace Go.Proofs.YtpdkkokgpdabhaaDoor
open Go.RowKit Go.Maps
set_option linter.unusedSimpArgs false
set_option linter.unusedVariables false

/-- 'copy(dst, src)' where all of src fits, dst in an own block: elements of whatever size. -/
theorem run_copyR (w : World) (ty : TypeId) (g o dLen dCap : Nat) (a : Addr) (sLen sCap : Nat) (cur : Array Value) (t : TypeId) (ks : List Rt)
    (hg : w.heap[g]? = some (.cells cur t (0, 0))) (hn : ks.length = Nat.min sLen dLen)
    (hsrc : ∀ j v, (rcells ks)[j]? = some v → w.cell? (a.add j) = some v) (hfit : o + ks.length * 3 ≤ cur.size) :
    (Builtin.copy_ #[22, 22] ty #[.slice (some ⟨g, o, none⟩) dLen dCap, .slice (some a) sLen sCap]).run Tryd.prog w =
      .ok (goInt ks.length) (w.setRow g (cur.toList.take o ++ rcells ks ++ cur.toList.drop (o + ks.length * 3)).toArray) := by
  obtain ⟨i, hi, hz0, hz1, hz2⟩ := info_parts infoRoot
  have hl := run_loadCells_list (P := Tryd.prog) w a (rcells ks) hsrc
  have hst := run_storeCells_at Tryd.prog g o t (rcells ks) 0 cur w hg (by rw [rcells_len]; simpa using hfit) (rcells_one _)
  rw [rcells_len] at hl hst
  simp only [Nat.add_zero] at hst
  simp [Builtin.copy_, run_underlying Tryd.underlying22, Builtin.lenOf, Builtin.firstCells, sizeOf, typeInfo, hi, hz1, ← hn, hl, hst]
/-- 'append(s[:i], make([]Root, k)...)' that must grow. -/
theorem run_growR {w : World} {g : Nat} {rs : List Rt} {sp : List Value} (h : OwnB w g rs sp) (i k c : Nat) (hi : i ≤ rs.length) (hk : 0 < k) (hg : c < i + k) (hik : i + k ≤ 1000) (ty : TypeId) :
    ∃ c', (Builtin.append_ #[22, 3] ty #[.slice (some ⟨g, 0, none⟩) i c, .int .i64 k]).run Tryd.prog w = .ok (.slice (some ⟨w.heap.size, 0, none⟩) (i + k) c')
        (w.drew.alloc (.cells ((rcells (rs.take i)).toArray ++ Builtin.zeroCells #[.string ⟨#[]⟩, .int .i64 0, .int .i64 0] k ++ Builtin.zeroCells #[.string ⟨#[]⟩, .int .i64 0, .int .i64 0] (c' - (i + k))) 34)) ∧ i + k ≤ c' ∧ c' ≤ maxLen := by
  obtain ⟨t0, hi0, hz0, hz1, hz2⟩ := info_parts infoRoot
  have hold : (Builtin.firstCells t0.size i (.slice (some ⟨g, 0, none⟩) i c)).run Tryd.prog w.drew = .ok (rcells (rs.take i)).toArray w.drew := by
    refine run_firstCells_some (P := Tryd.prog) w.drew t0.size i ⟨g, 0, none⟩ i c (rcells (rs.take i)) (by rw [hz1, rcells_len, List.length_take]; congr 1; omega) (fun j u hj => ?_)
    rw [add_plain, Nat.zero_add, cell_of_at (h.mod (Mod.of_drew w)).at_, List.getElem?_toArray]
    rw [← rcells_take] at hj
    have hj2 := (List.getElem?_eq_some_iff.1 hj).1
    rw [List.length_take] at hj2
    rw [List.getElem?_take, if_pos (by omega)] at hj
    rw [List.getElem?_append_left (by omega)]; exact hj
  have hr := Lib.run_append_grow_zeros (P := Tryd.prog) w 22 3 ty 34 t0 _ .i64 .i64 Tryd.underlying22 Tryd.underlying3 hi0 hz0 (some ⟨g, 0, none⟩) i c (rcells (rs.take i)) hold k hk (by rw [hz1]; omega) hg (by omega) (by rw [hz2]; omega) (growslice_fits (by omega) (by rw [hz2]; omega))
  exact ⟨_, hr, grownCap_ge w (i + k) c _, grownCap_le_maxLen w (i + k) c _ (by unfold maxLen; omega)⟩
theorem OwnB.split {w : World} {g : Nat} {A B : List Rt} {S : List Value} (h : OwnB w g (A ++ B) S) : OwnB w g A (rcells B ++ S) := ⟨by rw [h.at_, rcells_append, List.append_assoc]⟩
theorem OwnB.join {w : World} {g : Nat} {A B : List Rt} {S : List Value} (h : OwnB w g A (rcells B ++ S)) : OwnB w g (A ++ B) S := ⟨by rw [h.at_, rcells_append, List.append_assoc]⟩
/-- A copy to behind the first roots of an own row. -/
theorem run_copy_own {w : World} {g : Nat} {A ks : List Rt} {S : List Value} (h : OwnB w g A S) (hS : ks.length * 3 ≤ S.length) (dLen dCap : Nat) (a : Addr) (sLen sCap : Nat) (hn : ks.length = Nat.min sLen dLen)
    (hsrc : ∀ j v, (rcells ks)[j]? = some v → w.cell? (a.add j) = some v) :
    ∃ w', (∀ ty, (Builtin.copy_ #[22, 22] ty #[.slice (some ⟨g, A.length * 3, none⟩) dLen dCap, .slice (some a) sLen sCap]).run Tryd.prog w = .ok (goInt ks.length) w') ∧ OwnB w' g (A ++ ks) (S.drop (ks.length * 3)) ∧ Mod [g] w w' := by
  refine ⟨_, fun ty => run_copyR w ty g (A.length * 3) dLen dCap a sLen sCap _ _ ks h.at_ hn hsrc (by simp [rcells_len]; omega), ⟨?_⟩, Mod.of_setRow w g _⟩
  rw [setRow_heap w g _ _ _ _ h.at_]
  congr 3
  show ((rcells A ++ S).take (A.length * 3) ++ rcells ks ++ (rcells A ++ S).drop (A.length * 3 + ks.length * 3)) = _
  have e1 : (rcells A ++ S).take (A.length * 3) = rcells A := by
    rw [← rcells_len A, List.take_left]
  have e2 : (rcells A ++ S).drop (A.length * 3) = S := by
    rw [← rcells_len A, List.drop_left]
  rw [← List.drop_drop, e1, e2, rcells_append]
end Go.Proofs.YtpdkkokgpdabhaaDoor
namespace Go.Proofs.YtpdkkokgpdabhaaDoor
open Go.RowKit Go.Maps
set_option linter.unusedSimpArgs false
set_option linter.unusedVariables false

theorem OwnB.tl {w : World} {g n c : Nat} {rs : List Rt} {sp : List Value} (h : OwnB w g rs sp) (hl : rs.length = n) (hnc : n ≤ c) (hcm : c ≤ maxLen) (hsp : sp.length = (c - n) * 3) (hw : ∀ r ∈ rs, r.wf) : Tl w 0 3 (some ⟨g, 0, none⟩) n c (rcells rs) :=
  ⟨(RtsIn.of_own h hl hnc hcm hw).sl, by simp, fun a ha => by cases ha; exact ⟨rfl, Nat.zero_le _, lt_of_at h.at_⟩, fun a ha j hj => by
    cases ha
    refine ⟨?_, free_of_at h.at_ _⟩
    rw [cell_of_at h.at_, Nat.zero_add, List.getElem?_toArray, List.getElem?_append_right (by rw [rcells_len]; omega), List.getElem?_eq_getElem (by rw [rcells_len]; omega)]; rfl⟩
set_option maxRecDepth 100000 in
set_option maxHeartbeats 8000000 in
/-- At the list's end. -/
theorem insert_end (g n c : Nat) (rs : List Rt) (sp : List Value) (r : Rt) (B : Nat) (w : World) (h : OwnB w g rs sp) (hl : rs.length = n) (hnc : n ≤ c) (hcm : c ≤ maxLen) (hsp : sp.length = (c - n) * 3) (hw : ∀ x ∈ rs, x.wf) (hr : r.wf)
    (hv : Sl w 3 (some ⟨B, 0, none⟩) 1 1 (rcells [r])) (hn : n ≤ 1000) :
    Calls Tryd.prog 34 #[.slice (some ⟨g, 0, none⟩) n c, .int .i64 n, .slice (some ⟨B, 0, none⟩) 1 1] w (Ret (DelR (rs ++ [r]) g w)) := by
  have OT := Lib.hid (h.tl hl hnc hcm hsp hw)
  have SV := Lib.hid hv
  have HWF : Hid (∀ x ∈ rs ++ [r], x.wf) := fun x hx => by
    rcases List.mem_append.1 hx with h | h
    · exact hw x h
    · simp at h; subst h; exact hr
  obtain ⟨pz, hsl, _⟩ := (h.tl hl hnc hcm hsp hw).sl.sub_l Tryd.underlying22 sizeRoots n .i64 (Nat.le_refl _)
  obtain ⟨i0, hi0, hz0, hz1, hz2⟩ := info_parts infoRoot
  have hb0 : 0 ≤ w.heap.size := Nat.zero_le _
  clear h hl hw hr hv hsp
  go_enter Tryd.func34, Tryd.ntmps34
  go_wp2_with (first
    | (at_builtin; go_must (refine wpList_append_tl _ rfl _ _ _ rfl 0 34 i0 _ 3 32 Tryd.underlying22 hi0 hz0 hz1 hz2 rfl (by omega) _ _ _ _ rfl OT.out _ _ _ _ rfl SV.out (n + 1) rfl (by unfold maxLen; omega) (by omega) hb0 ?_); intro p9 c9 w9 ht9 hm9 hnil9 hor9; (have OT9 := Lib.hid ht9); (have MC9 := Lib.hid hm9); clear ht9 hm9 hnil9 hor9)
    | go_in)
  go_ret
  exact .mk ⟨p9, n + 1, c9, rfl, ⟨by rw [rcells_append]; exact OT9.out.sl, HWF.out⟩, MC9.out.mono (by simp)⟩
end Go.Proofs.YtpdkkokgpdabhaaDoor
namespace Go.Proofs.YtpdkkokgpdabhaaDoor
open Go.RowKit Go.Maps
set_option linter.unusedSimpArgs false
set_option linter.unusedVariables false

theorem wpList_append_run {P : Program} {ops : Array Oper} {rest : List Oper} {o : Oper} {a : Act} {w : World} {Q : Exit → Act → World → Prop} (hgd : o.guard = none) (s x : Operand) (t tn : TypeId)
    (ho : o.op = .call { callee := .builtin .append, args := #[s, x], argTypes := #[t, tn] }) (v1 v2 r : Value) (w' : World) (hs : a.eval s = v1) (hx : a.eval x = v2)
    (hr : (Builtin.append_ #[t, tn] o.type #[v1, v2]).run P w = .ok r w') (h : wpList P ops Q rest (a.put o.dst r) w') : wpList P ops Q (o :: rest) a w := by
  refine wpList_plain hgd fun K hK => ?_
  unfold Oper.wp execOp
  simp only [ho, resolve, invoke, builtin, Sem.run_bind, Sem.run_pure, Result.andThen_ok, List.map_toArray, List.map_cons, List.map_nil, hs, hx, hr]
  exact hK _ _ h
theorem OwnB.modS {S : List Nat} {w w' : World} {g : Nat} {cs : List Rt} {sp : List Value} (h : OwnB w g cs sp) (hm : Mod S w w') (hn : g ∉ S) : OwnB w' g cs sp := ⟨hm.at h.at_ hn⟩
theorem run_sl_from (W : World) (g n c i : Nat) (hi : i ≤ n) (hic : i < c) : (Instr.slice 22 (.slice (some ⟨g, 0, none⟩) n c) (some (.int .i64 (i : Int))) none none).run Tryd.prog W = .ok (.slice (some ⟨g, i * 3, none⟩) (n - i) (c - i)) W := by
  rw [run_slice_l W 22 (some ⟨g, 0, none⟩) n c Tryd.underlying22 .i64 i (by omega) (by omega), sizeRoots]
  simp only [Result.andThen, sliced, Int.toNat_natCast]
  rw [if_neg (by omega)]
  simp [add_plain]
set_option maxRecDepth 100000 in
set_option maxHeartbeats 8000000 in
theorem insert_grow (g n c i : Nat) (rs : List Rt) (sp : List Value) (r : Rt) (B : Nat) (w : World) (h : OwnB w g rs sp) (hl : rs.length = n) (hnc : n ≤ c) (hcm : c ≤ maxLen) (hw : ∀ x ∈ rs, x.wf) (hr : r.wf)
    (hv : Sl w 3 (some ⟨B, 0, none⟩) 1 1 (rcells [r])) (hn : n ≤ 900) (hi : i < n) (hg : c < n + 1) :
    Calls Tryd.prog 34 #[.slice (some ⟨g, 0, none⟩) n c, .int .i64 i, .slice (some ⟨B, 0, none⟩) 1 1] w (Ret (DelR (rs.take i ++ r :: rs.drop i) g w)) := by
  obtain ⟨k, hk⟩ : ∃ k, k = n + 1 - i := ⟨_, rfl⟩
  obtain ⟨c', hgr, hc1, hc2⟩ := run_growR h i k c (by omega) (by omega) (by omega) (by omega) 22
  have hik : i + k = n + 1 := by omega
  rw [hik] at hgr hc1
  have hsl1 := fun W => run_sl_from W g n c i (by omega) (by omega)
  have hsl2 := ((RtsIn.of_own h hl hnc hcm hw).sl.sub_h Tryd.underlying22 sizeRoots i .i64 (by omega)).1
  have hw1 : IntKind.i64.wrap ((n : Int) + 1) = (n : Int) + 1 := IntWalk.i64_in _ (by omega)
  have hw2 : IntKind.i64.wrap ((n : Int) + 1 - (i : Int)) = (k : Int) := by rw [IntWalk.i64_in _ (by omega)]; omega
  have hne : ((i : Int) == (n : Int)) = false := by simp; omega
  have hgt : ((c : Int) < (n : Int) + 1) := by omega
  have HOB := Lib.hid h
  have HL := Lib.hid hl
  have HW := Lib.hid hw
  have HV := Lib.hid hv
  have HR := Lib.hid hr
  have HK := Lib.hid hk
  have HIK := Lib.hid hik
  have HM1 : Hid (Mod [] w (w.drew.alloc (.cells ((rcells (rs.take i)).toArray ++ Builtin.zeroCells #[.string ⟨#[]⟩, .int .i64 0, .int .i64 0] k ++ Builtin.zeroCells #[.string ⟨#[]⟩, .int .i64 0, .int .i64 0] (c' - (n + 1))) 34))) := (Mod.of_drew w).alloc
  have hat := at_alloc w.drew (.cells ((rcells (rs.take i)).toArray ++ Builtin.zeroCells #[.string ⟨#[]⟩, .int .i64 0, .int .i64 0] k ++ Builtin.zeroCells #[.string ⟨#[]⟩, .int .i64 0, .int .i64 0] (c' - (n + 1))) 34)
  generalize w.drew.alloc (.cells ((rcells (rs.take i)).toArray ++ Builtin.zeroCells #[.string ⟨#[]⟩, .int .i64 0, .int .i64 0] k ++ Builtin.zeroCells #[.string ⟨#[]⟩, .int .i64 0, .int .i64 0] (c' - (n + 1))) 34) = w1 at *
  have HO1 : Hid (OwnB w1 w.heap.size (rs.take i) ((Builtin.zeroCells #[.string ⟨#[]⟩, .int .i64 0, .int .i64 0] k).toList ++ (Builtin.zeroCells #[.string ⟨#[]⟩, .int .i64 0, .int .i64 0] (c' - (n + 1))).toList)) := ⟨by
    refine hat.trans ?_
    congr 2
    apply Array.ext'
    simp⟩
  have hlz := zeros_len k
  obtain ⟨w2, hcp1, ho2, hm2⟩ := run_copy_own HO1.out (ks := [r]) (by simp only [List.length_append, hlz, List.length_singleton]; omega) (n + 1 - i) (c' - i) ⟨B, 0, none⟩ 1 1 (by simp [Nat.min_eq_left (show 1 ≤ n + 1 - i by omega)]) (fun j v hj => by
    obtain ⟨b', o', e, _, hc⟩ := (HV.out.mod HM1.out (by simp)).addr (by omega)
    cases e
    rw [add_plain]; exact hc j v hj)
  rw [show (rs.take i).length = i from by rw [List.length_take, HL.out]; omega] at hcp1
  have hsl3 := fun W => run_sl_from W w.heap.size (n + 1) c' i (by omega) (by omega)
  obtain ⟨w4, hcp2, ho4, hm4⟩ := run_copy_own (ho2.mod (Mod.of_drew w2)) (ks := rs.drop i) (by simp only [List.length_drop, List.length_append, hlz, List.length_singleton]; rw [HL.out]; omega) (n + 1 - (i + 1)) (c' - (i + 1)) ⟨g, i * 3, none⟩ (n - i) (c - i) (by rw [List.length_drop, HL.out]; simp [Nat.min_eq_left (show n - i ≤ n + 1 - (i + 1) by omega)]) (fun j v hj => by
    rw [add_plain]
    have hgl : g < w.heap.size := lt_of_at HOB.out.at_
    have hog : OwnB w2.drew g rs sp := ((HOB.out.modS HM1.out (by simp)).modS hm2 (by simp; omega)).modS (Mod.of_drew w2) (by simp)
    rw [cell_of_at hog.at_, List.getElem?_toArray]
    rw [← rcells_drop, List.getElem?_drop] at hj
    rw [List.getElem?_append_left (List.getElem?_eq_some_iff.1 hj).1]; exact hj)
  rw [show (rs.take i ++ [r]).length = i + 1 from by rw [List.length_append, List.length_take, HL.out]; simp; omega] at hcp2
  have HO2 := Lib.hid ho2
  have HM2 := Lib.hid hm2
  have HO4 := Lib.hid ho4
  have HM4 := Lib.hid hm4
  clear ho4 hm4
  obtain ⟨j, hj⟩ : ∃ j, j = i + 1 := ⟨_, rfl⟩
  have hi1 : IntKind.i64.wrap ((i : Int) + 1) = (j : Int) := by rw [IntWalk.i64_in _ (by omega)]; omega
  rw [← hj] at hcp2
  have hsl4 := fun W => run_sl_from W w.heap.size (n + 1) c' j (by omega) (by omega)
  have HJ := Lib.hid hj
  clear hj
  clear h hl hw hv hr hk hik hlz hat ho2 hm2
  go_enter Tryd.func34, Tryd.ntmps34
  go_wp2_with (first
    | (at_builtin; go_must (refine wpList_append_run rfl _ _ _ _ rfl _ _ _ _ rfl rfl hgr ?_))
    | go_in)
  go_still_tail 8, (by kernel_rfl)
  change wpList _ _ _ _ _ w2.drew
  have HMD := Lib.hid (Mod.of_drew w2)
  generalize w2.drew = w3 at *
  go_wp2
  go_ret
  refine .mk ⟨_, n + 1, c', rfl, RtsIn.of_own (by simpa [Hid] using HO4) (by simp [HL.out]; omega) hc1 hc2 (fun x hx => ?_), ?_⟩
  · rcases List.mem_append.1 hx with hx | hx
    · exact HW.out _ (List.mem_of_mem_take hx)
    · rcases List.mem_cons.1 hx with rfl | hx
      · exact HR.out
      · exact HW.out _ (List.mem_of_mem_drop hx)
  · have hs : [w.heap.size] = [w.heap.size] := rfl
    exact (((HM1.out.mono (by simp)).same ((HM2.out.same (HMD.out.mono (by simp))).same HM4.out)).mono (S' := [w.heap.size, g]) (by simp)).mono (by simp)
end Go.Proofs.YtpdkkokgpdabhaaDoor
namespace Go.Proofs.YtpdkkokgpdabhaaDoor
open Go.RowKit Go.Maps
set_option linter.unusedSimpArgs false
set_option linter.unusedVariables false

theorem run_sl_to (W : World) (g n c : Nat) (hnc : n ≤ c) (hn : n ≤ 1000000) (m : Nat) (q : IntKind) (hm : m ≤ n) : (Instr.slice 22 (.slice (some ⟨g, 0, none⟩) m c) none (some (.int q (n : Int))) none).run Tryd.prog W = .ok (.slice (some ⟨g, 0, none⟩) n c) W := by
  rw [run_slice_h W 22 (some ⟨g, 0, none⟩) m c Tryd.underlying22 q n (by omega) (by omega), sizeRoots]
  simp only [Result.andThen, sliced, Int.toNat_natCast, Nat.sub_zero, Nat.zero_mul]
  simp [Addr.add]
set_option maxRecDepth 100000 in
set_option maxHeartbeats 8000000 in
theorem insert_room (g n c i : Nat) (rs : List Rt) (sp : List Value) (r : Rt) (B : Nat) (tB : TypeId) (w : World) (h : OwnB w g rs sp) (hl : rs.length = n) (hnc : n ≤ c) (hcm : c ≤ maxLen) (hsp : sp.length = (c - n) * 3) (hw : ∀ x ∈ rs, x.wf) (hr : r.wf)
    (hv : Sl w 3 (some ⟨B, 0, none⟩) 1 1 (rcells [r])) (hB : w.heap[B]? = some (.cells (rcells [r]).toArray tB (0, 0))) (hgB : B ≠ g) (hn : n ≤ 900) (hi : i < n) (hg : n + 1 ≤ c) :
    Calls Tryd.prog 34 #[.slice (some ⟨g, 0, none⟩) n c, .int .i64 i, .slice (some ⟨B, 0, none⟩) 1 1] w (Ret (DelR (rs.take i ++ r :: rs.drop i) g w)) := by
  obtain ⟨j, hj⟩ : ∃ j, j = i + 1 := ⟨_, rfl⟩
  have hlt : (rs.take j).length = j := by rw [List.length_take, hl]; omega
  have hld : (rs.drop j).length = n - j := by rw [List.length_drop, hl]
  have hld2 : (rs.drop i).length = n - i := by rw [List.length_drop, hl]
  -- the first copy: in world w.drew
  have h1 : OwnB w.drew g (rs.take j) (rcells (rs.drop j) ++ sp) := (OwnB.split (by rw [List.take_append_drop]; exact h)).mod (Mod.of_drew w)
  obtain ⟨w2, hcp1, ho2, hm2⟩ := run_copy_own h1 (ks := rs.drop i) (by rw [List.length_append, rcells_len, hld, hld2, hsp]; omega) (n + 1 - j) (c - j) ⟨g, i * 3, none⟩ (n + 1 - i) (c - i) (by rw [hld2]; show n - i = min (n + 1 - i) (n + 1 - j); omega) (fun k v hk => by
    rw [add_plain]
    rw [cell_of_at (h.mod (Mod.of_drew w)).at_, List.getElem?_toArray]
    rw [← rcells_drop, List.getElem?_drop] at hk
    rw [List.getElem?_append_left (List.getElem?_eq_some_iff.1 hk).1]; exact hk)
  rw [hlt] at hcp1
  have hsplit : rs.take j ++ rs.drop i = rs.take i ++ (rs.getD i default :: rs.drop i) := by
    rw [hj, List.take_succ_eq_append_getElem (by omega), List.append_assoc]
    congr 1
    rw [List.getD_eq_getElem?_getD, List.getElem?_eq_getElem (by omega)]; rfl
  rw [hsplit] at ho2
  have ho3 := ho2.split
  -- the second copy
  obtain ⟨w3, hcp2, ho4, hm3⟩ := run_copy_own ho3 (ks := [r]) (by rw [List.length_append, rcells_len]; simp; omega) (n + 1 - i) (c - i) ⟨B, 0, none⟩ 1 1 (by simp [Nat.min_eq_left (show 1 ≤ n + 1 - i by omega)]) (fun k v hk => by
    obtain ⟨b', o', e, _, hc⟩ := ((hv.mod (Mod.of_drew w) (by simp)).mod hm2 (by intro a ha; cases ha; simp; exact hgB)).addr (by omega)
    cases e
    rw [add_plain]; exact hc k v hk)
  rw [show (rs.take i).length = i from by rw [List.length_take, hl]; omega] at hcp2
  have hsp3 : (rcells (rs.getD i default :: rs.drop i) ++ (rcells (rs.drop j) ++ sp).drop ((rs.drop i).length * 3)).drop ([r].length * 3) = rcells (rs.drop i) ++ (rcells (rs.drop j) ++ sp).drop ((rs.drop i).length * 3) := by
    rw [List.drop_append_of_le_length (by rw [rcells_len]; simp; omega), show [r].length = 1 from rfl, rcells_drop]; rfl
  rw [hsp3] at ho4
  have ho5 := ho4.join
  have e5 : rs.take i ++ [r] ++ rs.drop i = rs.take i ++ r :: rs.drop i := by simp
  rw [e5] at ho5
  have hsl0 := ((RtsIn.of_own h hl hnc hcm hw).sl.sub_l Tryd.underlying22 sizeRoots i .i64 (by omega))
  obtain ⟨pz, hslz, _⟩ := hsl0
  obtain ⟨N, hN⟩ : ∃ N, N = n + 1 := ⟨_, rfl⟩
  have hsl1 := fun W => run_sl_to W g N c (by omega) (by omega) n .i64 (by omega)
  have hsl3 := fun W => run_sl_from W g N c i (by omega) (by omega)
  have hsl4 := fun W => run_sl_from W g N c j (by omega) (by omega)
  rw [← hN] at hcp1 hcp2
  have hw1 : IntKind.i64.wrap ((n : Int) + 1) = (N : Int) := by rw [IntWalk.i64_in _ (by omega)]; omega
  have hi1 : IntKind.i64.wrap ((i : Int) + 1) = (j : Int) := by rw [IntWalk.i64_in _ (by omega)]; omega
  have hne : ((i : Int) == (n : Int)) = false := by simp; omega
  have hgt : ¬ ((c : Int) < (N : Int)) := by omega
  have hov : ∀ tys, (Extern.SlicesOverlaps.overlaps #[22, 22] #[tys] #[.slice (some ⟨B, 0, none⟩) 1 1, .slice (some ⟨g, j * 3, none⟩) (N - j) (c - j)]).run Tryd.prog w = .ok (.bool false) w := fun tys =>
    Lib.run_overlaps_apart w _ _ 34 Tryd.underlying22 3 sizeRoots ⟨B, 0, none⟩ ⟨g, j * 3, none⟩ 1 1 _ _ hgB tB 34 3 (rcells rs ++ sp).toArray.size (by
      simp [World.shape?, hB, rcells_len]) (by simp [World.shape?, h.at_]) (by simp [rcells_len, hl]; omega) (free_of_at hB _) (free_of_at hB _)
  have HO := Lib.hid ho5
  have HM2 := Lib.hid hm2
  have HM3 := Lib.hid hm3
  have HL := Lib.hid hl
  have HW := Lib.hid hw
  have HR := Lib.hid hr
  have HNN := Lib.hid hN
  have HCC := Lib.hid hg
  have HI := Lib.hid hi
  clear h hl hw hr hv hsp h1 hlt hld hld2 ho2 hsplit ho3 ho4 hsp3 ho5 e5 hm2 hm3 hN hB hj
  go_enter Tryd.func34, Tryd.ntmps34
  go_wp2_with fail
  rw [run_callFunc_extern Tryd.func52 (by kernel_rfl) (by kernel_rfl) (by kernel_rfl) (e := Extern.SlicesOverlaps.overlaps #[22, 22] #[4]) (by kernel_rfl), hov]
  simp only [Result.andThen]
  rw [Oper.upon_value]
  clear hov
  go_wp2
  go_still_tail 8, (by kernel_rfl)
  change wpList _ _ _ _ _ w.drew
  have HMD := Lib.hid (Mod.of_drew w)
  generalize w.drew = w1 at *
  go_wp2
  go_ret
  refine .mk ⟨_, N, c, rfl, RtsIn.of_own HO.out (by simp [HL.out]; have := HNN.out; have := HI.out; omega) (by rw [HNN.out]; exact HCC.out) hcm (fun x hx => ?_), ?_⟩
  · rcases List.mem_append.1 hx with hx | hx
    · exact HW.out _ (List.mem_of_mem_take hx)
    · rcases List.mem_cons.1 hx with rfl | hx
      · exact HR.out
      · exact HW.out _ (List.mem_of_mem_drop hx)
  · exact (HMD.out.mono (by simp)).same (HM2.out.same HM3.out)
end Go.Proofs.YtpdkkokgpdabhaaDoor
namespace Go.Proofs.YtpdkkokgpdabhaaDoor
open Go.RowKit Go.Maps
set_option linter.unusedSimpArgs false
set_option linter.unusedVariables false

def InsR (rs : List Rt) (p : Option Addr) (w : World) (v : Value) (w' : World) : Prop := ∃ q n c, v = .slice q n c ∧ RtsIn w' q n c rs ∧ Mod (p.map (·.block)).toList w w'
set_option maxRecDepth 100000 in
set_option maxHeartbeats 8000000 in
theorem insert_nil (r : Rt) (B : Nat) (w : World) (hr : r.wf) (hv : Sl w 3 (some ⟨B, 0, none⟩) 1 1 (rcells [r])) :
    Calls Tryd.prog 34 #[.slice none 0 0, .int .i64 (0 : Nat), .slice (some ⟨B, 0, none⟩) 1 1] w (Ret (InsR [r] none w)) := by
  have OT : Hid (Tl w 0 3 none 0 0 []) := Tl.none' w 0 3
  have SV := Lib.hid hv
  have HWF : Hid (∀ x ∈ [r], x.wf) := fun x hx => by simp at hx; subst hx; exact hr
  obtain ⟨pz, hsl, _⟩ := (Sl.nil w 3).sub_l Tryd.underlying22 sizeRoots 0 .i64 (Nat.le_refl _)
  obtain ⟨i0, hi0, hz0, hz1, hz2⟩ := info_parts infoRoot
  have hb0 : 0 ≤ w.heap.size := Nat.zero_le _
  clear hr hv
  go_enter Tryd.func34, Tryd.ntmps34
  go_wp2_with (first
    | (at_builtin; go_must (refine wpList_append_tl _ rfl _ _ _ rfl 0 34 i0 _ 3 32 Tryd.underlying22 hi0 hz0 hz1 hz2 rfl (by omega) _ _ _ _ rfl OT.out _ _ _ _ rfl SV.out 1 rfl (by unfold maxLen; omega) (by omega) hb0 ?_); intro p9 c9 w9 ht9 hm9 hnil9 hor9; (have OT9 := Lib.hid ht9); (have MC9 := Lib.hid hm9); clear ht9 hm9 hnil9 hor9)
    | go_in)
  go_ret
  exact .mk ⟨p9, 1, c9, rfl, ⟨by simpa using OT9.out.sl, HWF.out⟩, MC9.out.mono (by simp)⟩
theorem insert_any (base : Nat) (p : Option Addr) (n c : Nat) (rs : List Rt) (w : World) (how : w.ownsRow base 34 3 (.slice p n c) n (rcells rs)) (hl : rs.length = n) (hwf : ∀ x ∈ rs, x.wf) (hn : n ≤ 900) (i : Nat) (hi : i ≤ n)
    (r : Rt) (hr : r.wf) (B : Nat) (tB : TypeId) (hB : w.heap[B]? = some (.cells (rcells [r]).toArray tB (0, 0))) (hne : ∀ a, p = some a → B ≠ a.block) :
    Calls Tryd.prog 34 #[.slice p n c, .int .i64 i, .slice (some ⟨B, 0, none⟩) 1 1] w (Ret (InsR (rs.take i ++ r :: rs.drop i) p w)) := by
  have hv : Sl w 3 (some ⟨B, 0, none⟩) 1 1 (rcells [r]) := ⟨by simp [rcells_len], by omega, by unfold maxLen; omega, rcells_one _, B, 0, fun _ => ⟨rfl, lt_of_at hB⟩, fun j u hj => by rw [Nat.zero_add, cell_of_at hB]; simpa using hj⟩
  rcases how.2 with ⟨hvv, hnil⟩ | ⟨g, cap', cur, hvv, hg, hb, h2, h3, h4, h5⟩
  · cases hvv
    obtain rfl : i = 0 := by omega
    have hr0 : rs = [] := List.eq_nil_of_length_eq_zero hl
    subst hr0
    exact insert_nil r B w hr hv
  · cases hvv
    have HOB : OwnB w g rs (cur.toList.drop (n * 3)) := ⟨by
      rw [hb]
      congr 2
      rw [← h5, List.take_append_drop]⟩
    have hsp : (cur.toList.drop (n * 3)).length = (c - n) * 3 := by rw [List.length_drop, Array.length_toList, h4]; rw [Nat.sub_mul]
    have hbg : B ≠ g := hne _ rfl
    have key : ∀ rs' : List Rt, Calls Tryd.prog 34 #[.slice (some ⟨g, 0, none⟩) n c, .int .i64 i, .slice (some ⟨B, 0, none⟩) 1 1] w (Ret (DelR rs' g w)) →
        Calls Tryd.prog 34 #[.slice (some ⟨g, 0, none⟩) n c, .int .i64 i, .slice (some ⟨B, 0, none⟩) 1 1] w (Ret (InsR rs' (some ⟨g, 0, none⟩) w)) := fun rs' h => h.mono fun e w' ⟨v, he, q, m, d, h1, h2, h3⟩ => ⟨v, he, q, m, d, h1, h2, h3⟩
    apply key
    by_cases hin : i < n
    · by_cases hcn : c < n + 1
      · exact insert_grow g n c i rs _ r B w HOB hl h2 h3 hwf hr hv hn hin hcn
      · exact insert_room g n c i rs _ r B tB w HOB hl h2 h3 hsp hwf hr hv hB hbg hn hin (by omega)
    · obtain rfl : i = n := by omega
      have := insert_end g i c rs _ r B w HOB hl h2 h3 hsp hwf hr hv (by omega)
      rw [List.take_of_length_le (by omega), List.drop_eq_nil_of_le (by omega)]
      exact this

/-! ### what With tells -/
def withP (rs : List Rt) (r : Rt) : List Rt × Int := if r.ok = true then (if foundR rs r.l = true then (rs.set (posR rs r.l) r, 0) else if 12 ≤ rs.length then ([], 6) else (insR rs r, 0)) else ([], 1)
theorem withoutR_all {rs : List Rt} {l : List Int} (h : ∀ x ∈ rs, x.l ≠ l) : withoutR rs l = rs := by
  unfold withoutR
  rw [List.filter_eq_self]
  intro x hx
  simp [h x hx]
theorem with_eq {rs : List Rt} {r : Rt} (hs : risesR rs) (hl : rs.length ≤ 12) : withP rs r = withQ rs r := by
  unfold withP withQ
  by_cases hok : r.ok = true
  rotate_left
  · rw [if_neg hok, if_neg hok]
  rw [if_pos hok, if_pos hok]
  obtain ⟨h1, h2, h3⟩ := posR_spec rs r.l
  have hne : ∀ j, j < posR rs r.l → (rs.getD j default).l ≠ r.l := fun j hj e => by have := h2 j hj; rw [e, less_irrefl] at this; cases this
  by_cases hf : foundR rs r.l = true
  · rw [if_pos hf]
    unfold foundR at hf
    simp only [Bool.and_eq_true, decide_eq_true_eq] at hf
    obtain ⟨hlt, he⟩ := hf
    generalize hk : posR rs r.l = k at *
    have hrs : rs = rs.take k ++ (rs.getD k default :: rs.drop (k + 1)) := by
      rw [List.getD_eq_getElem?_getD, List.getElem?_eq_getElem hlt]
      simp
    have hw : withoutR rs r.l = rs.take k ++ rs.drop (k + 1) := by
      conv => lhs; rw [hrs]
      unfold withoutR
      rw [List.filter_append, List.filter_cons]
      simp only [he, decide_true, Bool.not_true, Bool.false_eq_true, if_false]
      congr 1
      · rw [List.filter_eq_self]
        intro x hx
        obtain ⟨j, hj, rfl⟩ := List.mem_iff_getElem.1 hx
        rw [List.length_take] at hj
        have := hne j (by omega)
        rw [List.getD_eq_getElem?_getD, List.getElem?_eq_getElem (by omega)] at this
        rw [List.getElem_take]
        simpa using this
      · rw [List.filter_eq_self]
        intro x hx
        obtain ⟨j, hj, rfl⟩ := List.mem_iff_getElem.1 hx
        rw [List.length_drop] at hj
        have h4 := hs k (k + 1 + j) (by omega) (by omega)
        rw [he] at h4
        rw [List.getElem_drop]
        have h5 : (rs.getD (k + 1 + j) default).l ≠ r.l := fun e => by rw [e, less_irrefl] at h4; cases h4
        rw [List.getD_eq_getElem?_getD, List.getElem?_eq_getElem (by omega)] at h5
        simpa using h5
    have hlen : (rs.take k).length = k := by rw [List.length_take]; omega
    have hpos : posR (withoutR rs r.l) r.l = k := by
      rw [hw]
      refine posR_of (by rw [List.length_append, hlen]; omega) (fun j hj => ?_) ?_
      · have := h2 j hj
        rw [List.getD_eq_getElem?_getD] at this ⊢
        rw [List.getElem?_append_left (by omega), List.getElem?_take, if_pos hj]; exact this
      · by_cases hd : k + 1 < rs.length
        · right
          have h4 := hs k (k + 1) (by omega) hd
          rw [he] at h4
          have := less_asymm h4
          rw [List.getD_eq_getElem?_getD] at this ⊢
          rw [List.getElem?_append_right (by omega), hlen, Nat.sub_self, List.getElem?_drop]; exact this
        · left
          rw [List.length_append, hlen, List.length_drop]; omega
    rw [if_neg (by rw [hw, List.length_append, hlen, List.length_drop]; omega)]
    unfold insR
    rw [hpos, hw]
    have e1 : (rs.take k ++ rs.drop (k + 1)).take k = rs.take k := List.take_left' hlen
    have e2 : (rs.take k ++ rs.drop (k + 1)).drop k = rs.drop (k + 1) := List.drop_left' hlen
    rw [e1, e2, List.set_eq_take_append_cons_drop, if_pos hlt]
  · rw [if_neg hf]
    have hall : ∀ x ∈ rs, x.l ≠ r.l := by
      intro x hx e
      obtain ⟨j, hj, rfl⟩ := List.mem_iff_getElem.1 hx
      have e' : (rs.getD j default).l = r.l := by rw [List.getD_eq_getElem?_getD, List.getElem?_eq_getElem hj]; exact e
      rcases Nat.lt_trichotomy j (posR rs r.l) with h | h | h
      · exact hne j h e'
      · subst h
        exact hf (by unfold foundR; rw [decide_eq_true hj, decide_eq_true e']; rfl)
      · have h4 := hs (posR rs r.l) j h hj
        rw [e'] at h4
        rcases h3 with h5 | h5
        · omega
        · rw [h5] at h4; cases h4
    rw [withoutR_all hall]
end Go.Proofs.YtpdkkokgpdabhaaDoor
namespace Go.Proofs.YtpdkkokgpdabhaaDoor
open Go.RowKit Go.Maps
set_option linter.unusedSimpArgs false
set_option linter.unusedVariables false

set_option maxRecDepth 100000 in
set_option maxHeartbeats 8000000 in
theorem rwith_any (p : Option Addr) (n c : Nat) (rs : List Rt) (r : Rt) (w : World) (h : RtsIn w p n c rs) (hw : r.wf) (hs : risesR rs) (hn : n ≤ 12) :
    Calls Tryd.prog 16 #[.slice p n c, r.val] w (Ret (WithRes (withQ rs r) w)) := by
  rw [← with_eq hs (by rw [h.len]; exact hn)]
  obtain ⟨l, pg, ct⟩ := r
  obtain ⟨A, hA⟩ : ∃ A, A = w.heap.size := ⟨_, rfl⟩
  have HAT := Lib.hid (at_alloc w (.cells #[.string (strOfNums l), .int .i64 pg, .int .i64 ct] 34))
  have HM0 : Hid (Mod [] w (w.alloc (.cells #[.string (strOfNums l), .int .i64 pg, .int .i64 ct] 34))) := Mod.of_alloc w _
  have HMAY := fun W => Lib.hid (rmay_any ⟨l, pg, ct⟩ W hw.1)
  have HCL := fun W hm => Lib.hid (rclone_any p n c rs W (h.mod0 hm) (by omega))
  have HPL := fun W (hm : Mod [] w W) => Lib.hid (place_any p n c rs l W (h.mod0 hm) hw.1 hs (by omega))
  have HPS := Lib.hid (posR_spec rs l)
  have HLEN := Lib.hid h.len
  have HWF := Lib.hid h.wf
  have HW := Lib.hid hw
  unfold PlaceR at HPL
  unfold CloneR at HCL
  obtain ⟨OK, hOK⟩ : ∃ b, b = (⟨l, pg, ct⟩ : Rt).ok := ⟨_, rfl⟩
  simp only [← hOK] at HMAY
  have HWP : Hid (withP rs ⟨l, pg, ct⟩ = if OK = true then (if foundR rs l = true then (rs.set (posR rs l) ⟨l, pg, ct⟩, 0) else if 12 ≤ n then ([], 6) else (rs.take (posR rs l) ++ (⟨l, pg, ct⟩ :: rs.drop (posR rs l)), 0)) else ([], 1)) := by
    unfold Hid withP insR; rw [hOK, h.len]
  have HFO : Hid (foundR rs l = true → posR rs l < n) := fun h2 => by
    unfold foundR at h2; simp only [Bool.and_eq_true, decide_eq_true_eq] at h2; rw [← h.len]; exact h2.1
  have HKN : Hid (posR rs l ≤ n) := by unfold Hid; rw [← h.len]; exact HPS.out.1
  generalize posR rs l = k at *
  generalize foundR rs l = F at *
  generalize withP rs ⟨l, pg, ct⟩ = WP at *
  clear h hw hs hOK HPS
  generalize hw0 : w.alloc (.cells #[.string (strOfNums l), .int .i64 pg, .int .i64 ct] 34) = w0 at *
  have c0 : w0.cell? ⟨w.heap.size, 0, none⟩ = some (.string (strOfNums l)) := cell_of_at HAT.out 0
  have c1 : w0.cell? ⟨w.heap.size, 1, none⟩ = some (.int .i64 pg) := cell_of_at HAT.out 1
  have c2 : w0.cell? ⟨w.heap.size, 2, none⟩ = some (.int .i64 ct) := cell_of_at HAT.out 2
  have HLT : Hid (w.heap.size < w0.heap.size) := lt_of_at HAT.out
  go_enter Tryd.func16, Tryd.ntmps16
  rw [show (Rt.val ⟨l, pg, ct⟩) = .agg #[.string (strOfNums l), .int .i64 pg, .int .i64 ct] from rfl]
  go_wp2_with fail
  refine (HMAY _).out.mono ?_
  rintro _ w2 ⟨_, rfl, rfl, m2⟩
  have M2 := Lib.hid (HM0.out.same m2)
  have HAT2 := Lib.hid (m2.at HAT.out (by simp))
  have HLT2 : Hid (w.heap.size < w2.heap.size) := lt_of_at HAT2.out
  clear m2 c0 c1 c2 HMAY
  cases OK with
  | false =>
    have HE : Hid (WP = ([], 1)) := by unfold Hid; rw [HWP.out]; rfl
    go_wp2
    go_ret2
    exact .mk ⟨none, 0, 0, by rw [HE.out] <;> rfl, by rw [HE.out]; exact RtsIn.nil _, M2.out⟩
  | true =>
    go_wp2_with fail
    refine (HCL _ M2.out).out.mono ?_
    rintro _ w3 ⟨_, rfl, q, m, d, rfl, hm, how, _, m3⟩
    obtain rfl : m = n := by rw [hm, HLEN.out]
    have HOW := Lib.hid how
    have M3 := Lib.hid (M2.out.same m3)
    have HAT3 := Lib.hid (m3.at HAT2.out (by simp))
    have HSZ3 := Lib.hid m3.size
    clear m3 how HCL hm
    have c0 : w3.cell? ⟨w.heap.size, 0, none⟩ = some (.string (strOfNums l)) := cell_of_at HAT3.out 0
    go_wp2_with fail
    refine (HPL _ M3.out).out.mono ?_
    rintro _ w4 ⟨_, rfl, rfl, m4⟩
    have HOW4 := Lib.hid (ownsRow_mod HOW.out m4 (by simp))
    have M4 := Lib.hid (M3.out.same m4)
    have HAT4 := Lib.hid (m4.at HAT3.out (by simp))
    clear m4 HPL c0
    have c0 : w4.cell? ⟨w.heap.size, 0, none⟩ = some (.string (strOfNums l)) := cell_of_at HAT4.out 0
    have c1 : w4.cell? ⟨w.heap.size, 1, none⟩ = some (.int .i64 pg) := cell_of_at HAT4.out 1
    have c2 : w4.cell? ⟨w.heap.size, 2, none⟩ = some (.int .i64 ct) := cell_of_at HAT4.out 2
    cases F with
    | true =>
      have HE : Hid (WP = (rs.set k ⟨l, pg, ct⟩, 0)) := by unfold Hid; rw [HWP.out]; rfl
      have hkn := HFO.out rfl
      rcases HOW4.out.2 with ⟨hvv, hnil⟩ | ⟨g, cap', cur, hvv, hg, hb, h2, h3, h4, h5⟩
      · exfalso; cases hvv; omega
      cases hvv
      have HOB : Hid (OwnB w4 g rs (cur.toList.drop (m * 3))) := ⟨by
        rw [hb]
        congr 2
        rw [← h5, List.take_append_drop]⟩
      have HG : Hid (w2.heap.size ≤ g) := hg
      have hic : k < rs.length := by rw [HLEN.out]; exact hkn
      have hgne : g ≠ w.heap.size := by have := HLT2.out; have := HG.out; omega
      have HST := Lib.hid (HOB.out.set hic ⟨l, pg, ct⟩)
      have d0 : w4.cell? ⟨g, k * 3, none⟩ = some (.string (strOfNums (rs[k]).l)) := HOB.out.cell hic 0 (by omega)
      have d1 : w4.cell? ⟨g, k * 3 + 1, none⟩ = some (.int .i64 (rs[k]).page) := HOB.out.cell hic 1 (by omega)
      have d2 : w4.cell? ⟨g, k * 3 + 2, none⟩ = some (.int .i64 (rs[k]).count) := HOB.out.cell hic 2 (by omega)
      have f0 : w4.frozen? ⟨g, k * 3, none⟩ = false := free_of_at HOB.out.at_ (k * 3)
      have f1 : w4.frozen? ⟨g, k * 3 + 1, none⟩ = false := free_of_at HOB.out.at_ (k * 3 + 1)
      have f2 : w4.frozen? ⟨g, k * 3 + 2, none⟩ = false := free_of_at HOB.out.at_ (k * 3 + 2)
      have hj := fun W => Sl.idx (P := Tryd.prog) (m := m) (cap := d) (p := some ⟨g, 0, none⟩) (b := g) (off := 0) Tryd.underlying22 sizeRoots (fun _ => rfl) W .i64 k hkn
      have HMS := Lib.hid (M4.out.trans (((Mod.of_setCell w4 g (k * 3) (.string (strOfNums l))).same (Mod.of_setCell _ g (k * 3 + 1) (.int .i64 pg))).same (Mod.of_setCell _ g (k * 3 + 2) (.int .i64 ct))) (fun b hb => Or.inr (by simp at hb; rw [hb]; have := HG.out; have := HLT2.out; omega)))
      have HWS : Hid (∀ x ∈ rs.set k ⟨l, pg, ct⟩, x.wf) := fun x hx => by
        rcases List.mem_or_eq_of_mem_set hx with h | h
        · exact HWF.out x h
        · rw [h]; exact HW.out
      have HH2 := Lib.hid h2
      have HH3 := Lib.hid h3
      clear hg hb h2 h3 h4 h5
      simp only [Nat.zero_add] at hj
      go_wp2
      go_ret2
      exact .mk ⟨_, _, _, by rw [HE.out] <;> rfl, by rw [HE.out]; exact RtsIn.of_own HST.out (by simp [HLEN.out]) HH2.out HH3.out HWS.out, HMS.out⟩
    | false =>
      by_cases h12 : 12 ≤ m
      · have HE : Hid (WP = ([], 6)) := by unfold Hid; rw [HWP.out]; simp [h12]
        go_wp2
        go_ret2
        exact .mk ⟨none, 0, 0, by rw [HE.out] <;> rfl, by rw [HE.out]; exact RtsIn.nil _, M4.out⟩
      · have HE : Hid (WP = (rs.take k ++ (⟨l, pg, ct⟩ :: rs.drop k), 0)) := by unfold Hid; rw [HWP.out]; simp [h12]
        have hins := fun B tB W (hm : Mod [] w4 W) h1 h2 => insert_any w2.heap.size q m d rs W (ownsRow_mod HOW4.out hm (by simp)) HLEN.out HWF.out (by omega) k HKN.out ⟨l, pg, ct⟩ HW.out B tB h1 h2
        have HQ : Hid (∀ a, q = some a → w2.heap.size ≤ a.block) := fun a ha => by
          rcases HOW4.out.2 with ⟨hvv, hnil⟩ | ⟨g, cap', cur, hvv, hg, hb, h2, h3, h4, h5⟩
          · cases hvv; cases ha
          · cases hvv; cases ha; exact hg
        have HINS := Lib.hid hins
        clear hins
        go_wp2_with fail
        refine (HINS.out w4.heap.size _ _ (Mod.of_alloc _ _) (at_alloc _ _) (fun a ha => ?_)).mono ?_
        · subst ha
          rcases HOW4.out.2 with ⟨hvv, hnil⟩ | ⟨g, cap', cur, hvv, hg, hb, h2, h3, h4, h5⟩
          · cases hvv
          · cases hvv
            have := lt_of_at hb
            simp; omega
        rintro _ w5 ⟨_, rfl, q5, n5, c5, rfl, hin5, m5⟩
        have HIN := Lib.hid hin5
        have M5 := Lib.hid (M4.out.alloc.trans m5 (fun b hb => Or.inr (by
          cases q with
          | none => simp at hb
          | some a => simp at hb; have h1 := HQ.out a rfl; have h2 := HLT2.out; omega)))
        clear hin5 m5 HINS c0 c1 c2
        go_wp2
        go_ret2
        exact .mk ⟨q5, n5, c5, by rw [HE.out] <;> rfl, by rw [HE.out]; exact HIN.out, M5.out⟩
end Go.Proofs.YtpdkkokgpdabhaaDoor
