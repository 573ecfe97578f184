/- slices.Sorted(maps.Keys(m)) of a map from int to uint64: a new slice that holds its keys, rising. The pool's freed pages, listed; its high mark. -/
import Derived.Test.YtgimdodbajhpoaaDoorG34
import Derived.Test.YtgimdodbajhpoaaDoorG07
import Derived.Test.YtgimdodbajhpoaaDoorG08
namespace Go.Proofs.YtgimdodbajhpoaaDoor
open Go.RowKit Go.Maps Go.Sort Go.Shelf

theorem sortsA (m : Nat) : AnyZI.SortsIn Tryd.prog Tryd.sortedA_ren Fence.wide m :=
  ⟨fun blk off cap ss W hH hblk hsz => callsIn_wide.2 (AnyM.slices_Sort_int Tryd.sortA blk off cap ss W hH hblk hsz),
   fun p cap W => callsIn_wide.2 (AnyM.slices_Sort_int_none Tryd.sortA p cap W)⟩

theorem keys_calls (mb : Option Nat) (W : World) : Calls Tryd.prog 27 #[.map mb] W fun e w' =>
    e = .returned (.func (.func 42) #[] #[.pointer (some ⟨W.heap.size, 0, none⟩)]) ∧ w' = W.alloc (.cells #[.map mb] 57) :=
  callsIn_wide.1 (AnyZI.keys_in Tryd.keysB Fence.wide 5 trivial rfl mb W)

theorem sorted_calls {H : Type} (Bm b nn : Nat) (D0 : DataW H) (R : Value → Option (DataW H × List MemPlace)) (w : World) (hBm : Bm < w.heap.size) (hm : w.cell? ⟨Bm, 0, none⟩ = some (.map (some b)))
    (hown : w.ownsMap Tryd.prog 3 R b nn D0) (hmax : Maps.size D0 ≤ maxLen) (hbytes : Maps.size D0 * 8 ≤ 140737488355328) :
    Calls Tryd.prog 26 #[.func (.func 42) #[] #[.pointer (some ⟨Bm, 0, none⟩)]] w fun e w' => ∃ (v : Value) (ss : List Int), e = .returned v ∧ ss.Perm (intKeys D0) ∧
      w'.ownsRow w.heap.size 3 1 v ss.length ((ss.mergeSort (fun x y => decide (x ≤ y))).map encZ) ∧ (v = .slice none 0 0 ↔ ss = []) ∧ Below w.heap.size w w' := by
  have hseq : SeqGives Fence.wide 2 Tryd.prog 42 #[.pointer (some ⟨Bm, 0, none⟩)] encZ (fun ss => ss.Perm (intKeys D0)) (Maps.size D0) w :=
    AnyZI.keys_gives (ρ := Tryd.keysB_ren) { Tryd.keysB with } Fence.wide _ trivial rfl (by omega) Bm b nn D0 _ hBm hm hown
  exact callsIn_wide.1 (AnyZI.sorted_in Tryd.sortedA Fence.wide 5 trivial trivial trivial trivial rfl (by omega) (sortsA _) (enters_of Tryd.func41 (by kernel_rfl) rfl) 42 #[.pointer (some ⟨Bm, 0, none⟩)] trivial (enters_of Tryd.func42 (by kernel_rfl) rfl) _ _ hmax hbytes _ hseq)

theorem intKeys_mapG {α H : Type} (f : α → DataW H) (m : List (Int × α)) : intKeys (mapG f m) = m.map (·.1) := by
  simp [intKeys, mapG, Go.intOf, Function.comp]
theorem sorted_of_permG {α : Type} {m : List (Int × α)} (h : SrtG m) {ss : List Int} (hp : ss.Perm (m.map (·.1))) : ss.mergeSort (fun x y => decide (x ≤ y)) = m.map (·.1) := by
  have tr : ∀ a b c : Int, leI a b = true → leI b c = true → leI a c = true := fun a b c h1 h2 => by simp only [leI, decide_eq_true_eq] at *; exact Int.le_trans h1 h2
  have to : ∀ a b : Int, (leI a b || leI b a) = true := fun a b => by simp only [leI, Bool.or_eq_true, decide_eq_true_eq]; exact Int.le_total a b
  refine List.Perm.eq_of_pairwise (le := fun a b => leI a b = true) (fun a b _ _ h1 h2 => ?_) (List.pairwise_mergeSort tr to ss) ?_ ((List.mergeSort_perm ss leI).trans hp)
  · simp only [leI, decide_eq_true_eq] at h1 h2; omega
  · rw [List.pairwise_map]
    exact h.imp (fun hlt => by simp only [leI, decide_eq_true_eq]; omega)
/-- A slice of ints that is read. -/
def ints (l : List Int) : List Value := l.map (Value.int .i64)
theorem ints_one (l : List Int) : ∀ u ∈ ints l, u.oneCell' = true := by intro u hu; simp [ints] at hu; obtain ⟨a, _, rfl⟩ := hu; rfl
/-- The two calls behind one another. -/
theorem keys_sortedG {α H : Type} {f : α → DataW H} {R : Value → Option (DataW H × List MemPlace)} {W w : World} {b n : Nat} {m : List (Int × α)} (hown : W.ownsMap Tryd.prog 3 R b n (mapG f m)) (hsrt : SrtG m) (hw : w = W.alloc (.cells #[.map (some b)] 57)) (hs : m.length ≤ 2 ^ 40) :
    Calls Tryd.prog 26 #[.func (.func 42) #[] #[.pointer (some ⟨W.heap.size, 0, none⟩)]] w fun e w' => ∃ p c, e = .returned (.slice p m.length c) ∧
      w'.ownsRow W.heap.size 3 1 (.slice p m.length c) m.length (ints (m.map (·.1))) ∧ (p = none ↔ m = []) ∧ Mod [] W w' := by
  subst hw
  have hown' : (W.alloc (.cells #[.map (some b)] 57)).ownsMap Tryd.prog 3 R b n (mapG f m) := by
    obtain ⟨es, c, hb, r⟩ := hown
    exact ⟨es, c, (Mod.of_alloc W _).at hb (by simp), r⟩
  refine (sorted_calls W.heap.size b _ (mapG f m) _ _ (by simp) (cell_of_at (at_alloc W _) 0) hown' (by rw [size_mapG]; unfold maxLen; omega) (by rw [size_mapG]; omega)).mono ?_
  rintro e w' ⟨v, ss, rfl, hp, hrow, hnil, hb⟩
  rw [intKeys_mapG] at hp
  have hl : ss.length = m.length := by rw [hp.length_eq, List.length_map]
  rw [sorted_of_permG hsrt hp, hl] at hrow
  obtain ⟨p, c, rfl, hpn⟩ := own_shape hrow
  refine ⟨p, c, rfl, ?_, ?_, ?_⟩
  · obtain ⟨h1, h2⟩ := hrow
    refine ⟨h1, ?_⟩
    rcases h2 with h2 | ⟨g, cap, cur, h2, h3, h4⟩
    · exact Or.inl h2
    · exact Or.inr ⟨g, cap, cur, h2, by simp at h3; omega, h4⟩
  · rw [hpn, hnil]
    constructor
    · rintro rfl; simp at hl; exact List.eq_nil_of_length_eq_zero hl.symm
    · rintro rfl; exact List.eq_nil_of_length_eq_zero hl
  · exact (Mod.of_alloc W _).same (Mod.of_below hb)
end Go.Proofs.YtgimdodbajhpoaaDoor
namespace Go.Proofs.YtgimdodbajhpoaaDoor
open Go.RowKit Go.Maps Go.Sort Go.Shelf
set_option linter.unusedSimpArgs false
set_option linter.unusedVariables false

theorem keys_callsU (mb : Option Nat) (W : World) : Calls Tryd.prog 30 #[.map mb] W fun e w' =>
    e = .returned (.func (.func 47) #[] #[.pointer (some ⟨W.heap.size, 0, none⟩)]) ∧ w' = W.alloc (.cells #[.map mb] 51) :=
  callsIn_wide.1 (AnyZI.keys_in Tryd.keysA Fence.wide 5 trivial rfl mb W)

theorem sorted_callsU {H : Type} (Bm b nn : Nat) (D0 : DataW H) (R : Value → Option (DataW H × List MemPlace)) (w : World) (hBm : Bm < w.heap.size) (hm : w.cell? ⟨Bm, 0, none⟩ = some (.map (some b)))
    (hown : w.ownsMap Tryd.prog 3 R b nn D0) (hmax : Maps.size D0 ≤ maxLen) (hbytes : Maps.size D0 * 8 ≤ 140737488355328) :
    Calls Tryd.prog 26 #[.func (.func 47) #[] #[.pointer (some ⟨Bm, 0, none⟩)]] w fun e w' => ∃ (v : Value) (ss : List Int), e = .returned v ∧ ss.Perm (intKeys D0) ∧
      w'.ownsRow w.heap.size 3 1 v ss.length ((ss.mergeSort (fun x y => decide (x ≤ y))).map encZ) ∧ (v = .slice none 0 0 ↔ ss = []) ∧ Below w.heap.size w w' := by
  have hseq : SeqGives Fence.wide 2 Tryd.prog 47 #[.pointer (some ⟨Bm, 0, none⟩)] encZ (fun ss => ss.Perm (intKeys D0)) (Maps.size D0) w :=
    AnyZI.keys_gives (ρ := Tryd.keysA_ren) { Tryd.keysA with } Fence.wide _ trivial rfl (by omega) Bm b nn D0 _ hBm hm hown
  exact callsIn_wide.1 (AnyZI.sorted_in Tryd.sortedA Fence.wide 5 trivial trivial trivial trivial rfl (by omega) (sortsA _) (enters_of Tryd.func41 (by kernel_rfl) rfl) 47 #[.pointer (some ⟨Bm, 0, none⟩)] trivial (enters_of Tryd.func47 (by kernel_rfl) rfl) _ _ hmax hbytes _ hseq)

theorem intKeys_dmapU (q : IntKind) (m : List (Int × Int)) : intKeys (dmap q m) = m.map (·.1) := by
  simp [intKeys, dmap, Go.intOf, Function.comp]
theorem sorted_of_permU {m : List (Int × Int)} (h : Srt m) {ss : List Int} (hp : ss.Perm (m.map (·.1))) : ss.mergeSort (fun x y => decide (x ≤ y)) = m.map (·.1) := by
  have tr : ∀ a b c : Int, leI a b = true → leI b c = true → leI a c = true := fun a b c h1 h2 => by simp only [leI, decide_eq_true_eq] at *; exact Int.le_trans h1 h2
  have to : ∀ a b : Int, (leI a b || leI b a) = true := fun a b => by simp only [leI, Bool.or_eq_true, decide_eq_true_eq]; exact Int.le_total a b
  refine List.Perm.eq_of_pairwise (le := fun a b => leI a b = true) (fun a b _ _ h1 h2 => ?_) (List.pairwise_mergeSort tr to ss) ?_ ((List.mergeSort_perm ss leI).trans hp)
  · simp only [leI, decide_eq_true_eq] at h1 h2; omega
  · rw [List.pairwise_map]
    exact h.imp (fun hlt => by simp only [leI, decide_eq_true_eq]; omega)


/-- The two calls behind one another. -/
theorem keys_sortedU {q : IntKind} {e : TypeId} {W w : World} {b : Nat} {m : List (Int × Int)} (hmap : MapI Tryd.prog 3 e q W b m) (hw : w = W.alloc (.cells #[.map (some b)] 51)) (hs : m.length ≤ 2 ^ 40) :
    Calls Tryd.prog 26 #[.func (.func 47) #[] #[.pointer (some ⟨W.heap.size, 0, none⟩)]] w fun e w' => ∃ p c, e = .returned (.slice p m.length c) ∧
      w'.ownsRow W.heap.size 3 1 (.slice p m.length c) m.length (ints (m.map (·.1))) ∧ (p = none ↔ m = []) ∧ Mod [] W w' := by
  subst hw
  refine (sorted_callsU W.heap.size b _ (dmap q m) _ _ (by simp) (cell_of_at (at_alloc W _) 0) (hmap.mod (Mod.of_alloc W _) (by simp)).own (by rw [size_dmap]; unfold maxLen; omega) (by rw [size_dmap]; omega)).mono ?_
  rintro e w' ⟨v, ss, rfl, hp, hrow, hnil, hb⟩
  rw [intKeys_dmapU] at hp
  have hl : ss.length = m.length := by rw [hp.length_eq, List.length_map]
  rw [sorted_of_permU hmap.srt hp, hl] at hrow
  obtain ⟨p, c, rfl, hpn⟩ := own_shape hrow
  refine ⟨p, c, rfl, ?_, ?_, ?_⟩
  · obtain ⟨h1, h2⟩ := hrow
    refine ⟨h1, ?_⟩
    rcases h2 with h2 | ⟨g, cap, cur, h2, h3, h4⟩
    · exact Or.inl h2
    · exact Or.inr ⟨g, cap, cur, h2, by simp at h3; omega, h4⟩
  · rw [hpn, hnil]
    constructor
    · rintro rfl; simp at hl; exact List.eq_nil_of_length_eq_zero hl.symm
    · rintro rfl; exact List.eq_nil_of_length_eq_zero hl
  · exact (Mod.of_alloc W _).same (Mod.of_below hb)
theorem sizeIntsP (W : World) : (sizeOf (Tryd.prog.elem 37)).run Tryd.prog W = .ok 1 W := by kernel_rfl
theorem infoFreed : (Tryd.prog.info? 55).map (fun i => (i.zero, i.size, i.bytes)) = some (some (.agg #[.int .i64 0, .int .u64 0]), 2, 16) := by kernel_rfl
/-- A new slice that holds these freed pages. -/
def ListR (m : List (Int × Int)) (w : World) (v : Value) (w' : World) : Prop := ∃ p n c, v = .slice p n c ∧ n = m.length ∧ w'.ownsRow w.heap.size 55 2 (.slice p n c) n (fcells m) ∧ Mod [] w w'

theorem ints_get {l : List Int} {k : Nat} (hk : k < l.length) : (ints l)[k]? = some (.int .i64 (l.getD k 0)) := by
  rw [getD_at hk, ints, List.getElem?_map, List.getElem?_eq_getElem hk]; rfl
theorem fcells_take_succ (m : List (Int × Int)) (k : Nat) (hk : k < m.length) : fcells (m.take (k + 1)) = fcells (m.take k) ++ [.int .i64 (m.getD k (0, 0)).1, .int .u64 (m.getD k (0, 0)).2] := by
  rw [List.take_succ_eq_append_getElem hk, fcells_append, getD_at hk]; simp [fcells]

set_option maxRecDepth 100000 in
set_option maxHeartbeats 400000 in
theorem list_any (sb bm : Nat) (s : PS) (w : World) (hr : PoolAt w sb bm s) :
    Calls Tryd.prog 15 #[.pointer (some ⟨sb, 0, none⟩)] w (Ret (ListR s.m w)) := by
  obtain ⟨i0, hi0, hz0, hz1, hz2⟩ := info_parts infoFreed
  have c2 : w.cell? ⟨sb, 2, none⟩ = some (.map (some bm)) := cell_of_at hr.at_ 2
  have hsm := hr.ok.small
  have HR := Lib.hid hr
  clear hr
  go_enter Tryd.func15, Tryd.ntmps15
  go_wp2_with fail
  refine (keys_callsU (some bm) w).mono ?_
  rintro _ w1 ⟨rfl, hw1⟩
  have HW := Lib.hid hw1
  clear hw1
  go_wp2_with fail
  refine (keys_sortedU HR.out.map HW.out (by omega)).mono ?_
  rintro _ w2 ⟨p, c, rfl, hrow, hnil, hm⟩
  have hk := (Sl.of_own hrow (ints_one _)).1
  obtain ⟨b, off, hp, hkc⟩ := hk.at_
  have hidx := fun W => Sl.idx (P := Tryd.prog) (cap := c) Tryd.underlying37 sizeIntsP (fun h => (hp h).1) W .i64
  have HP := Lib.hid hp
  have HK := Lib.hid hkc
  have HM := Lib.hid hm
  have hsz := hm.size
  have h2 : PoolAt w2 sb bm s := HR.out.mod hm (by simp) (by simp)
  have H2 := Lib.hid h2
  clear h2 hrow hnil hm hk hp hkc c2
  go_wp2_with fail
  go_loopw [3, 5, 13] (fun o _ i wr => ∃ (k : Nat) (q : Option Addr) (d : Nat), k ≤ s.m.length ∧ i = .int .i64 k ∧ o = .slice q k d ∧ wr.ownsRow w.heap.size 55 2 (.slice q k d) k (fcells (s.m.take k)) ∧ Mod [] w2 wr ∧ (∀ b ∈ (Value.slice q k d).ownBlock, w2.heap.size ≤ b)) (fun _ _ i _ => s.m.length - (intOf i).toNat)
  case atStart => exact ⟨0, none, 0, by omega, rfl, rfl, ⟨by simp [fcells], Or.inl ⟨rfl, rfl⟩⟩, Mod.refl _ _, by simp [Value.ownBlock]⟩
  case round =>
    obtain ⟨k, q, d, hk, rfl, rfl, hown, hmd, hlie⟩ := hrel
    have HO := Lib.hid hown
    have HMD := Lib.hid hmd
    have HLI := Lib.hid hlie
    have hsz2 := hmd.size
    clear hown hmd hlie
    by_cases hlt : k < s.m.length
    · have hr2 : PoolAt wr sb bm s := H2.out.mod HMD.out (by simp) (by simp)
      have c2 : wr.cell? ⟨sb, 2, none⟩ = some (.map (some bm)) := cell_of_at hr2.at_ 2
      have hmo := hr2.map.own
      have d0 := HK.out k _ (ints_get (l := s.m.map (·.1)) (by simpa using hlt))
      rw [← HMD.out.cell (a := ⟨b, off + k, none⟩) (World.block_lt_of_cell? w2 _ d0) (by simp)] at d0
      obtain ⟨x, hx⟩ : ∃ x, x = (s.m.getD k (0, 0)).1 := ⟨_, rfl⟩
      have hx2 : (s.m.map (·.1)).getD k 0 = x := by rw [hx, getD_at (by simpa using hlt), getD_at hlt, List.getElem_map]
      rw [hx2] at d0
      have hmem : (x, (s.m.getD k (0, 0)).2) ∈ s.m := by rw [hx, getD_at hlt]; exact List.getElem_mem hlt
      have hwx := HR.out.ok.at_ _ hmem
      simp only at hwx
      have hcap := HR.out.ok.cap
      have hhigh := HR.out.ok.high
      have hkey := keyOf_int_mk (P := Tryd.prog) Tryd.underlying3 (wf_i64 (x := x) (by omega) (by omega))
      have HX := Lib.hid hx
      have HME := Lib.hid hmem
      clear hx hx2 hmem hr2
      go_wp2_with (first
        | (at_lookup; go_must (refine wpList_lookup_own_int _ rfl _ _ 51 rfl 3 33 .u64 law3 Tryd.underlying51 Tryd.underlying33 (zero22 _) bm _ _ rfl hmo _ _ rfl hkey ?_); intro g hat hwg; (have HA := Lib.hid hat); clear hat)
        | (at_builtin; go_must (refine wpList_append_src _ rfl _ _ _ rfl w.heap.size 55 i0 _ 2 16 Tryd.underlying43 hi0 hz0 hz1 hz2 rfl (by omega) (.slice q k d) _ _ rfl (ownsRow_mod HO.out (Mod.of_alloc wr _) (by simp)) _ _ _ [.int .i64 x, .int .u64 g] rfl (Sl.new _ [.int .i64 x, .int .u64 g] _ 2 1 rfl (by unfold maxLen; omega) (by simp [Value.oneCell'])) (k + 1) (by omega) (by unfold maxLen; omega) (by omega) (by simp; omega) ?_); intro p' c' w3 hown1 hgrow hnil hlie; (have HO1 := Lib.hid hown1); (have HG1 := Lib.hid hgrow); (have HL1 := Lib.hid hlie); clear hown1 hgrow hnil hlie)
        | go_in)
      go_roundw
      case rel =>
        have hat := HA.out
        rw [atKey_dmap, look_of_mem HR.out.map.srt HME.out] at hat
        simp only [DataW.lit.injEq, Lit.int.injEq, true_and, Option.getD_some] at hat
        refine ⟨k + 1, _, _, by omega, by go_num, rfl, by rw [fcells_take_succ _ _ hlt, ← HX.out, hat]; exact HO1.out, (HMD.out.alloc).trans (Mod.of_grown' HG1.out) (fun b hb => Or.inr (HLI.out b (by simpa using hb))), fun b hb => ?_⟩
        rcases HL1.out with h | h
        · rw [h] at hb; exact HLI.out b hb
        · rw [h] at hb; simp at hb; omega
      case measure => simp [intOf]; omega
    · have e : k = s.m.length := by omega
      subst e
      go_wp2
      go_ret
      have hO := HO.out
      rw [List.take_of_length_le (by omega)] at hO
      exact .mk ⟨q, _, d, rfl, rfl, hO, HM.out.same HMD.out⟩
end Go.Proofs.YtgimdodbajhpoaaDoor
