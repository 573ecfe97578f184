/- slices.Sorted(maps.Keys(m)) of a map from int to uint64: a new slice that holds its keys, rising. -/
import Derived.Test.YtgimdodbajhpoaaGreatDoorG18
import Derived.Test.YtgimdodbajhpoaaGreatDoorG06
namespace Go.Proofs.YtgimdodbajhpoaaGreatDoor
open Go.RowKit Go.Maps Go.Sort Go.Shelf

theorem sortsA (m : Nat) : AnyZI.SortsIn Tryz.prog Tryz.sortedA_ren Fence.wide m :=
  ⟨fun blk off cap ss W hH hblk hsz => callsIn_wide.2 (AnyM.slices_Sort_int Tryz.sortA blk off cap ss W hH hblk hsz),
   fun p cap W => callsIn_wide.2 (AnyM.slices_Sort_int_none Tryz.sortA p cap W)⟩

theorem keys_calls (mb : Option Nat) (W : World) : Calls Tryz.prog 40 #[.map mb] W fun e w' =>
    e = .returned (.func (.func 55) #[] #[.pointer (some ⟨W.heap.size, 0, none⟩)]) ∧ w' = W.alloc (.cells #[.map mb] 68) :=
  callsIn_wide.1 (AnyZI.keys_in Tryz.keysB Fence.wide 5 trivial rfl mb W)

theorem sorted_calls {H : Type} (Bm b nn : Nat) (D0 : DataW H) (R : Value → Option (DataW H × List MemPlace)) (w : World) (hBm : Bm < w.heap.size) (hm : w.cell? ⟨Bm, 0, none⟩ = some (.map (some b)))
    (hown : w.ownsMap Tryz.prog 3 R b nn D0) (hmax : Maps.size D0 ≤ maxLen) (hbytes : Maps.size D0 * 8 ≤ 140737488355328) :
    Calls Tryz.prog 39 #[.func (.func 55) #[] #[.pointer (some ⟨Bm, 0, none⟩)]] w fun e w' => ∃ (v : Value) (ss : List Int), e = .returned v ∧ ss.Perm (intKeys D0) ∧
      w'.ownsRow w.heap.size 3 1 v ss.length ((ss.mergeSort (fun x y => decide (x ≤ y))).map encZ) ∧ (v = .slice none 0 0 ↔ ss = []) ∧ Below w.heap.size w w' := by
  have hseq : SeqGives Fence.wide 2 Tryz.prog 55 #[.pointer (some ⟨Bm, 0, none⟩)] encZ (fun ss => ss.Perm (intKeys D0)) (Maps.size D0) w :=
    AnyZI.keys_gives (ρ := Tryz.keysB_ren) { Tryz.keysB with } Fence.wide _ trivial rfl (by omega) Bm b nn D0 _ hBm hm hown
  exact callsIn_wide.1 (AnyZI.sorted_in Tryz.sortedA Fence.wide 5 trivial trivial trivial trivial rfl (by omega) (sortsA _) (enters_of Tryz.func54 (by kernel_rfl) rfl) 55 #[.pointer (some ⟨Bm, 0, none⟩)] trivial (enters_of Tryz.func55 (by kernel_rfl) rfl) _ _ hmax hbytes _ hseq)

theorem intKeys_mapG {α H : Type} (f : α → DataW H) (m : List (Int × α)) : intKeys (mapG f m) = m.map (·.1) := by
  simp [intKeys, mapG, Go.intOf, Function.comp]
theorem sorted_of_permG {α : Type} {m : List (Int × α)} (h : SrtG m) {ss : List Int} (hp : ss.Perm (m.map (·.1))) : ss.mergeSort (fun x y => decide (x ≤ y)) = m.map (·.1) := by
  have tr : ∀ a b c : Int, leI a b = true → leI b c = true → leI a c = true := fun a b c h1 h2 => by simp only [leI, decide_eq_true_eq] at *; exact Int.le_trans h1 h2
  have to : ∀ a b : Int, (leI a b || leI b a) = true := fun a b => by simp only [leI, Bool.or_eq_true, decide_eq_true_eq]; exact Int.le_total a b
  refine List.Perm.eq_of_pairwise (le := fun a b => leI a b = true) (fun a b _ _ h1 h2 => ?_) (List.pairwise_mergeSort tr to ss) ?_ ((List.mergeSort_perm ss leI).trans hp)
  · simp only [leI, decide_eq_true_eq] at h1 h2; omega
  · rw [List.pairwise_map]
    exact h.imp (fun hlt => by simp only [leI, decide_eq_true_eq]; omega)
/-- A slice of ints that is read. -/
def ints (l : List Int) : List Value := l.map (Value.int .i64)
theorem ints_one (l : List Int) : ∀ u ∈ ints l, u.oneCell' = true := by intro u hu; simp [ints] at hu; obtain ⟨a, _, rfl⟩ := hu; rfl
/-- The two calls behind one another. -/
theorem keys_sortedG {α H : Type} {f : α → DataW H} {R : Value → Option (DataW H × List MemPlace)} {W w : World} {b n : Nat} {m : List (Int × α)} (hown : W.ownsMap Tryz.prog 3 R b n (mapG f m)) (hsrt : SrtG m) (hw : w = W.alloc (.cells #[.map (some b)] 68)) (hs : m.length ≤ 2 ^ 40) :
    Calls Tryz.prog 39 #[.func (.func 55) #[] #[.pointer (some ⟨W.heap.size, 0, none⟩)]] w fun e w' => ∃ p c, e = .returned (.slice p m.length c) ∧
      w'.ownsRow W.heap.size 3 1 (.slice p m.length c) m.length (ints (m.map (·.1))) ∧ (p = none ↔ m = []) ∧ Mod [] W w' := by
  subst hw
  have hown' : (W.alloc (.cells #[.map (some b)] 68)).ownsMap Tryz.prog 3 R b n (mapG f m) := by
    obtain ⟨es, c, hb, r⟩ := hown
    exact ⟨es, c, (Mod.of_alloc W _).at hb (by simp), r⟩
  refine (sorted_calls W.heap.size b _ (mapG f m) _ _ (by simp) (cell_of_at (at_alloc W _) 0) hown' (by rw [size_mapG]; unfold maxLen; omega) (by rw [size_mapG]; omega)).mono ?_
  rintro e w' ⟨v, ss, rfl, hp, hrow, hnil, hb⟩
  rw [intKeys_mapG] at hp
  have hl : ss.length = m.length := by rw [hp.length_eq, List.length_map]
  rw [sorted_of_permG hsrt hp, hl] at hrow
  obtain ⟨p, c, rfl, hpn⟩ := own_shape hrow
  refine ⟨p, c, rfl, ?_, ?_, ?_⟩
  · obtain ⟨h1, h2⟩ := hrow
    refine ⟨h1, ?_⟩
    rcases h2 with h2 | ⟨g, cap, cur, h2, h3, h4⟩
    · exact Or.inl h2
    · exact Or.inr ⟨g, cap, cur, h2, by simp at h3; omega, h4⟩
  · rw [hpn, hnil]
    constructor
    · rintro rfl; simp at hl; exact List.eq_nil_of_length_eq_zero hl.symm
    · rintro rfl; exact List.eq_nil_of_length_eq_zero hl
  · exact (Mod.of_alloc W _).same (Mod.of_below hb)
end Go.Proofs.YtgimdodbajhpoaaGreatDoor
