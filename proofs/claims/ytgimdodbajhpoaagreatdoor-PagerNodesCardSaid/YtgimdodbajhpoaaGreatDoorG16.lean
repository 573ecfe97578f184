/- Arguments that came in, opened, with the bound on what they take. -/
import Derived.SizedLaws
import Derived.Test.YtgimdodbajhpoaaGreatDoorG14
import Derived.Test.YtgimdodbajhpoaaGreatDoorG03
namespace Go.Proofs.YtgimdodbajhpoaaGreatDoor
open Go.RowKit Go.Deep Go.WideShapes

section
variable {H : Type} {enc : TypeId × Value → H} {P : Program} {w : World} {base : Nat} {spare : Nat → Bool} {held : Bool}

/-- Nothing in these data takes more than the reach. -/
def Within (P : Program) (t : TypeId) (d : DataW H) : Prop := ∀ n ∈ d.weights P t, n ≤ reachBytes
theorem reach_all {e : TypeId} : ∀ {ds : List (DataW H)} {d : DataW H}, d ∈ ds → ∀ n ∈ d.weights P e, n ∈ DataW.weightsAll P e ds
  | [], _, h, _, _ => by simp at h
  | a :: r, d, h, n, hn => by
    rw [DataW.weightsAll, List.mem_append]
    rcases List.mem_cons.1 h with rfl | h
    · exact Or.inl hn
    · exact Or.inr (reach_all h n hn)
theorem Within.elems {t e : TypeId} {el sp : List (DataW H)} (ht : P.underlying t = some (.slice e)) (h : Within P t (.slice el sp)) : (el.length + sp.length) * P.bytesOf e ≤ reachBytes ∧ ∀ d ∈ el, Within P e d := by
  unfold Within at h
  rw [DataW.weights] at h
  simp only [ht] at h
  refine ⟨h _ (by simp), fun d hd n hn => h n ?_⟩
  simp only [List.mem_cons, List.mem_append]
  exact Or.inr (Or.inl (reach_all hd n hn))
theorem Within.field {t : TypeId} {fs : Array Field} {ds : List (DataW H)} (ht : P.underlying t = some (.struct fs)) (h : Within P t (.agg ds)) {j : Nat} {f : Field} {d : DataW H} (hf : fs[j]? = some f) (hd : ds[j]? = some d) : Within P f.type d := by
  unfold Within at h
  rw [DataW.weights] at h
  simp only [ht] at h
  intro n hn
  exact h n (DataW.weights_mem_each (by simp [hf]) hd n hn)
theorem reach_of_each {ts : List TypeId} {ds : List (DataW H)} (h : (DataW.weightsEach P ts ds).all (· ≤ reachBytes) = true) {j : Nat} {t : TypeId} {d : DataW H} (ht : ts[j]? = some t) (hd : ds[j]? = some d) : Within P t d := by
  intro n hn
  have := DataW.weights_mem_each ht hd n hn
  rw [List.all_eq_true] at h
  simpa using h n this

/-- A SLICE OF ELEMENTS OF c CELLS, OPENED, within the reach. -/
theorem open_rowsW {α : Type} [Inhabited α] (mk : α → List Value) (Wf : α → Prop) {T E c fuel len cap : Nat} {a : Option Addr} {x : DataW H × List MemPlace}
    (hT : P.underlying T = some (.slice E)) (hc : P.cellsOf E = c) (hc0 : 0 < c)
    (hop : ∀ n cs x, DataW.trod enc P w base spare held n E cs = some x → Within P E x.1 → ∃ y : α, cs = mk y ∧ Wf y)
    (h : DataW.trod enc P w base spare held fuel T [.slice a len cap] = some x) (hr : Within P T x.1) :
    ∃ b off, ∃ l : Nat → α, (0 < len → a = some ⟨b, off, none⟩ ∧ b < w.heap.size) ∧ len ≤ cap ∧ cap ≤ maxLen ∧
      (∀ i, i < len → ∀ j, j < c → w.cell? ⟨b, off + i * c + j, none⟩ = (mk (l i))[j]?) ∧ (∀ i, i < len → Wf (l i)) ∧ len * P.bytesOf E ≤ reachBytes := by
  rcases open_slice hT h with ⟨h0, _⟩ | ⟨ad, ln, cp, m, n, D, Pl, hcs, hb, hl, hm, hmm, hxd, hx⟩
  · simp at h0; obtain ⟨rfl, rfl, rfl⟩ := h0
    exact ⟨0, 0, fun _ => default, by omega, by omega, by unfold maxLen; omega, by omega, by omega, by simp⟩
  · simp at hcs; obtain ⟨rfl, rfl, rfl⟩ := hcs
    have hlm : len ≤ m := by rw [hmm]; split <;> omega
    rw [hxd] at hr
    obtain ⟨hr1, hr2⟩ := hr.elems hT
    have hrl : len * P.bytesOf E ≤ reachBytes := by
      refine Nat.le_trans (Nat.mul_le_mul_right _ ?_) hr1
      simp
    have hel : ∀ i, i < len → ∃ y : α, (∀ j, j < c → w.cell? ((ad.add (i * c)).add j) = (mk y)[j]?) ∧ (mk y).length = c ∧ Wf y := by
      intro i hi
      obtain ⟨cs', h1, h2⟩ := hx i (by omega)
      obtain ⟨y, rfl, hy⟩ := hop _ _ _ h2 (hr2 _ (by simp only [List.mem_map, List.mem_range]; exact ⟨i, hi, rfl⟩))
      rw [hc] at h1
      obtain ⟨_, hlen, hcell⟩ := World.cells?_some h1
      exact ⟨y, hcell, hlen, hy⟩
    by_cases hz : 0 < len
    · obtain ⟨l, hl'⟩ := choose_lt (α := α) (p := fun i y => (∀ j, j < c → w.cell? ((ad.add (i * c)).add j) = (mk y)[j]?) ∧ (mk y).length = c ∧ Wf y) hel
      have hs : ad = ⟨ad.block, ad.off, none⟩ := by
        obtain ⟨h1, h2, _⟩ := hl' 0 hz
        have := h1 0 hc0
        simp only [Nat.zero_mul, Addr.add, if_true] at this
        rw [List.getElem?_eq_getElem (by omega)] at this
        exact cell_spot this
      have hadd : ∀ i j, (ad.add (i * c)).add j = ⟨ad.block, ad.off + i * c + j, none⟩ := by
        intro i j
        rw [hs]
        unfold Addr.add
        by_cases e1 : i * c = 0 <;> by_cases e2 : j = 0 <;> simp [e1, e2]
      refine ⟨ad.block, ad.off, l, fun _ => ⟨by rw [← hs], ?_⟩, hl, hm, fun i hi j hj => ?_, fun i hi => (hl' i hi).2.2, hrl⟩
      · obtain ⟨h1, h2, _⟩ := hl' 0 hz
        have := h1 0 hc0
        rw [hadd] at this
        rw [List.getElem?_eq_getElem (by omega)] at this
        unfold World.cell? at this
        split at this
        · rename_i hh; exact lt_of_at hh
        · cases this
      · rw [← hadd]; exact (hl' i hi).1 j hj
    · exact ⟨0, 0, fun _ => default, by omega, by omega, hm, by omega, by omega, hrl⟩
/-- The cells of a slice of elements, in one row. -/
theorem flat_get {α : Type} (mk : α → List Value) (c : Nat) (hc0 : 0 < c) : ∀ (ys : List α), (∀ y ∈ ys, (mk y).length = c) → ∀ j u, (ys.flatMap mk)[j]? = some u → ∃ i, ∃ h : i < ys.length, j = i * c + j % c ∧ (mk ys[i])[j % c]? = some u
  | [], _, j, u, h => by simp at h
  | a :: r, hy, j, u, h => by
    have ha := hy a (by simp)
    rw [List.flatMap_cons] at h
    by_cases hj : j < c
    · rw [List.getElem?_append_left (by omega)] at h
      refine ⟨0, by simp, by rw [Nat.mod_eq_of_lt hj]; omega, ?_⟩
      rw [Nat.mod_eq_of_lt hj]; exact h
    · rw [List.getElem?_append_right (by omega), ha] at h
      obtain ⟨i, hi, h1, h2⟩ := flat_get mk c hc0 r (fun y hy' => hy y (by simp [hy'])) (j - c) u h
      have hmod : (j - c) % c = j % c := by
        have : j = j - c + c := by omega
        conv => rhs; rw [this]
        rw [Nat.add_mod_right]
      rw [hmod] at h1 h2
      exact ⟨i + 1, by simpa using hi, by rw [Nat.add_mul]; omega, by simpa using h2⟩
theorem sl_of_rows {α : Type} (mk : α → List Value) {c len cap b off : Nat} {a : Option Addr} {l : Nat → α} (hc0 : 0 < c) (hmk : ∀ y, (mk y).length = c) (hone : ∀ y, ∀ u ∈ mk y, u.oneCell' = true)
    (h1 : 0 < len → a = some ⟨b, off, none⟩ ∧ b < w.heap.size) (h2 : len ≤ cap) (h3 : cap ≤ maxLen) (h4 : ∀ i, i < len → ∀ j, j < c → w.cell? ⟨b, off + i * c + j, none⟩ = (mk (l i))[j]?) :
    Sl w c a len cap (((List.range len).map l).flatMap mk) := by
  have hlen : ∀ ys : List α, (ys.flatMap mk).length = ys.length * c := by
    intro ys
    induction ys with
    | nil => simp
    | cons y r ih => rw [List.flatMap_cons, List.length_append, hmk, ih, List.length_cons, Nat.add_mul]; omega
  refine ⟨by rw [hlen]; simp, h2, h3, ?_, b, off, h1, fun j u hj => ?_⟩
  · intro u hu
    simp only [List.mem_flatMap] at hu
    obtain ⟨y, _, hy⟩ := hu
    exact hone y u hy
  · obtain ⟨i, hi, e1, e2⟩ := flat_get mk c hc0 _ (fun y _ => hmk y) j u hj
    have hi2 : i < len := by simpa using hi
    have hjc : j % c < c := Nat.mod_lt _ hc0
    have := h4 i hi2 (j % c) hjc
    rw [show off + i * c + j % c = off + j from by omega] at this
    rw [this]
    simpa using e2
theorem flat1 {α : Type} (f : α → Value) : ∀ l : List α, l.flatMap (fun d => [f d]) = l.map f
  | [] => rfl
  | a :: r => by rw [List.flatMap_cons, flat1 f r]; rfl
end
end Go.Proofs.YtgimdodbajhpoaaGreatDoor
