/- Bytes put together: parts and literals. What a link says: the program's and the document's. -/
import Derived.Test.YtgimdodbajhpoaaDoorG14
import Derived.Test.YtgimdodbajhpoaaDoorG16
import Derived.Test.YtgimdodbajhpoaaDoorG11
import Derived.Test.YtgimdodbajhpoaaDoorG08
import Derived.Test.YtgimdodbajhpoaaDoorG17
namespace Go.Proofs.YtgimdodbajhpoaaDoor
open Go.RowKit Go.Maps
set_option linter.unusedSimpArgs false
set_option linter.unusedVariables false

def ValR (l : List Int) (w : World) (v : Value) (w' : World) : Prop := ∃ p n c, v = .slice p n c ∧ n = l.length ∧ Sl w' 1 p n c (bs l) ∧ Mod [] w w'
theorem be2_of {n : Int} (h0 : 0 ≤ n) (h1 : n < 65536) : be 2 n = [n / 256, n % 256] := by simp [be]; omega
theorem flat3' (q p5 p6 : Option Addr) (m d n5 c5 n6 c6 : Nat) (A X Y : List Int) : flat [(q, m, d, A), (p5, n5, c5, X), (p6, n6, c6, Y)] = A ++ (X ++ Y) := by simp [flat]
theorem PartsAt.three' (w : World) {q p5 p6 : Option Addr} {m d n5 c5 n6 c6 : Nat} {A X Y : List Int} (T : TypeId) (h1 : Sl w 1 q m d (bs A)) (h2 : Sl w 1 p5 n5 c5 (bs X)) (h3 : Sl w 1 p6 n6 c6 (bs Y)) :
    PartsAt (w.alloc (.cells #[.slice q m d, .slice p5 n5 c5, .slice p6 n6 c6] T)) (some ⟨w.heap.size, 0, none⟩) 3 3 [(q, m, d, A), (p5, n5, c5, X), (p6, n6, c6, Y)] :=
  PartsAt.new w [(q, m, d, A), (p5, n5, c5, X), (p6, n6, c6, Y)] T (by simp [maxLen]) (by
    intro z hz
    simp only [List.mem_cons, List.not_mem_nil, or_false] at hz
    rcases hz with rfl | rfl | rfl
    · exact h1
    · exact h2
    · exact h3)
theorem flat4' (q p5 p6 p7 : Option Addr) (m d n5 c5 n6 c6 n7 c7 : Nat) (A X Y Z : List Int) : flat [(q, m, d, A), (p5, n5, c5, X), (p6, n6, c6, Y), (p7, n7, c7, Z)] = A ++ (X ++ (Y ++ Z)) := by simp [flat]
theorem PartsAt.four' (w : World) {q p5 p6 p7 : Option Addr} {m d n5 c5 n6 c6 n7 c7 : Nat} {A X Y Z : List Int} (T : TypeId) (h1 : Sl w 1 q m d (bs A)) (h2 : Sl w 1 p5 n5 c5 (bs X)) (h3 : Sl w 1 p6 n6 c6 (bs Y)) (h4 : Sl w 1 p7 n7 c7 (bs Z)) :
    PartsAt (w.alloc (.cells #[.slice q m d, .slice p5 n5 c5, .slice p6 n6 c6, .slice p7 n7 c7] T)) (some ⟨w.heap.size, 0, none⟩) 4 4 [(q, m, d, A), (p5, n5, c5, X), (p6, n6, c6, Y), (p7, n7, c7, Z)] :=
  PartsAt.new w [(q, m, d, A), (p5, n5, c5, X), (p6, n6, c6, Y), (p7, n7, c7, Z)] T (by simp [maxLen]) (by
    intro z hz
    simp only [List.mem_cons, List.not_mem_nil, or_false] at hz
    rcases hz with rfl | rfl | rfl | rfl
    · exact h1
    · exact h2
    · exact h3
    · exact h4)
theorem lit_bytes (W : World) (l : List Int) (T : TypeId) (hl : l.length ≤ 1000) : Sl (W.alloc (.cells (bs l).toArray T)) 1 (some ⟨W.heap.size, 0, none⟩) l.length l.length (bs l) :=
  Sl.new W (bs l) T 1 l.length (by rw [bs_len]; omega) (by unfold maxLen; omega) (bs_one _)

def NPayR (l : List Int) (w : World) (v : Value) (w' : World) : Prop := ∃ p n c, v = .slice p n c ∧ n = l.length ∧ (p = none ↔ l = []) ∧ Sl w' 1 p n c (bs l) ∧ Mod [] w w'
end Go.Proofs.YtgimdodbajhpoaaDoor
namespace Go.Proofs.YtgimdodbajhpoaaDoor
open Go.RowKit Go.Maps
set_option linter.unusedSimpArgs false
set_option linter.unusedVariables false

def linkOk (next : Int) (b : List Int) : Prop := 1 ≤ b.length ∧ b.length ≤ 1010 ∧ 0 ≤ next ∧ next ≤ 2147483647
instance (next : Int) (b : List Int) : Decidable (linkOk next b) := by unfold linkOk; exact inferInstance
def linkL (next : Int) (b : List Int) : List Int := if linkOk next b then be 4 next ++ (be 2 b.length ++ b) else []
theorem linkL_of {next : Int} {b : List Int} (h : linkOk next b) : linkL next b = be 4 next ++ (be 2 b.length ++ b) := if_pos h
theorem linkL_no {next : Int} {b : List Int} (h : ¬ linkOk next b) : linkL next b = [] := if_neg h
theorem linkL_len (next : Int) (b : List Int) : (linkL next b).length ≤ 1016 := by
  unfold linkL; split
  · rename_i h; simp [be_len]; have := h.2.1; omega
  · simp
theorem linkL_wf {next : Int} {b : List Int} (h : ∀ x ∈ b, 0 ≤ x ∧ x < 256) : ∀ x ∈ linkL next b, 0 ≤ x ∧ x < 256 := by
  intro x hx
  unfold linkL at hx
  split at hx
  · simp only [List.mem_append] at hx
    rcases hx with hx | hx | hx
    · exact be_wf _ _ x hx
    · exact be_wf _ _ x hx
    · exact h x hx
  · simp at hx

/-- As NPayR, and the block is a new one. -/
def LinkR (l : List Int) (w : World) (v : Value) (w' : World) : Prop := ∃ p n c, v = .slice p n c ∧ n = l.length ∧ (p = none ↔ l = []) ∧ Sl w' 1 p n c (bs l) ∧ Mod [] w w' ∧ ∀ a, p = some a → w.heap.size ≤ a.block
set_option maxRecDepth 100000 in
set_option maxHeartbeats 4000000 in
theorem link_in (q : Option Addr) (m d : Nat) (b : List Int) (next : Int) (w : World) (h : BytesIn w q m d b) :
    Calls Tryd.prog 25 #[.int .i64 next, .slice q m d] w (Ret (LinkR (linkL next b) w)) := by
  have hbl := h.len
  have hcm := h.sl.capm; have hle := h.sl.le
  unfold maxLen at hcm
  by_cases hok : linkOk next b
  · have HV : Hid (linkL next b = be 4 next ++ (be 2 m ++ b)) := by unfold Hid; rw [linkL_of hok, hbl]
    obtain ⟨o1, o2, o3, o4⟩ := hok
    have HSQ : Hid (Sl w 1 q m d (bs b)) := h.sl
    have HB2 := Lib.hid (be2_of (n := m) (by omega) (by omega))
    have hw8 : IntKind.u8.wrap ((m : Int) / 256) = (m : Int) / 256 := by rw [IntKind.wrap_u8]; omega
    have hw9 : IntKind.u8.wrap (m : Int) = (m : Int) % 256 := IntKind.wrap_u8 _
    have hw10 : IntKind.u32.wrap next = next := by rw [IntKind.wrap_u32]; omega
    obtain ⟨BB, hBB⟩ : ∃ BB, BB = be 4 next ++ (be 2 m ++ b) := ⟨_, rfl⟩
    obtain ⟨N, hN⟩ : ∃ N, N = m + 6 := ⟨_, rfl⟩
    have HBB : Hid (be 4 next ++ ([(m : Int) / 256, (m : Int) % 256] ++ b) = BB) := by unfold Hid; rw [hBB, HB2.out]
    have HBL : Hid (BB.length = N) := by unfold Hid; rw [hBB, hN]; simp [be_len]; omega
    have hNle : N ≤ 1016 := by omega
    have hN0 : 0 < N := by omega
    rw [← hBB] at HV
    have hm1 : 1 ≤ m := by omega
    have hm2 : m ≤ 1010 := by omega
    clear h hbl hBB hN o1 o2
    go_enter Tryd.func25, Tryd.ntmps25
    go_wp2_with fail
    refine (put32_any next _ (by omega) (by omega)).mono ?_
    rintro _ w2 ⟨_, rfl, p2, n2, c2, rfl, e2, s2, m2⟩
    obtain rfl : n2 = 4 := by rw [e2, be_len]
    have PA : Hid (PartsAt ((w2.alloc (.cells #[.int .u8 ((m : Int) / 256), .int .u8 ((m : Int) % 256)] 5)).alloc (.cells #[.slice p2 4 c2, .slice (some ⟨w2.heap.size, 0, none⟩) 2 2, .slice q m d] 22)) (some ⟨(w2.alloc (.cells #[.int .u8 ((m : Int) / 256), .int .u8 ((m : Int) % 256)] 5)).heap.size, 0, none⟩) 3 3 [(p2, 4, c2, be 4 next), (some ⟨w2.heap.size, 0, none⟩, 2, 2, [(m : Int) / 256, (m : Int) % 256]), (q, m, d, b)]) :=
      PartsAt.three' _ _ (s2.mod (Mod.of_alloc _ _) (by simp)) (lit_bytes w2 [(m : Int) / 256, (m : Int) % 256] _ (by show 2 ≤ 1000; omega)) (HSQ.out.mod (m2.alloc) (by simp))
    have HFLT : Hid (flat [(p2, 4, c2, be 4 next), (some ⟨w2.heap.size, 0, none⟩, 2, 2, [(m : Int) / 256, (m : Int) % 256]), (q, m, d, b)] = BB) := by unfold Hid; rw [flat3']; exact HBB.out
    generalize hfl : [(p2, 4, c2, be 4 next), (some ⟨w2.heap.size, 0, none⟩, 2, 2, [(m : Int) / 256, (m : Int) % 256]), (q, m, d, b)] = FL at PA HFLT
    have M2 : Hid (Mod [] w ((w2.alloc (.cells #[.int .u8 ((m : Int) / 256), .int .u8 ((m : Int) % 256)] 5)).alloc (.cells #[.slice p2 4 c2, .slice (some ⟨w2.heap.size, 0, none⟩) 2 2, .slice q m d] 22))) := (m2.alloc).alloc
    have hal : (w2.alloc (.cells #[.int .u8 ((m : Int) / 256), .int .u8 ((m : Int) % 256)] 5)).heap.size = w2.heap.size + 1 := Array.size_push _
    rw [hal] at PA
    clear e2 s2 m2 hfl hal
    go_wp2_with fail
    refine (concat_any _ 3 3 FL _ PA.out (by rw [HFLT.out, HBL.out]; omega)).mono ?_
    rintro _ w3 ⟨_, rfl, p3, n3, c3, rfl, e3, s3, m3⟩
    rw [HFLT.out] at e3 s3
    obtain rfl : n3 = N := by rw [e3]; exact HBL.out
    have S3 := Lib.hid (Sl.of_own s3 (bs_one _)).1
    have M3 := Lib.hid (M2.out.same m3)
    have Q3 : Hid (p3 ≠ none) := fun e => by obtain ⟨_, _, h, _⟩ := S3.out.addr hN0; rw [e] at h; cases h
    have F3 : Hid (∀ a, p3 = some a → w.heap.size ≤ a.block) := fun a ha => Nat.le_trans M2.out.size (own_base s3 a.block (by rw [ha]; simp [Value.ownBlock]))
    clear e3 s3 m3
    go_wp2
    go_ret
    exact .mk ⟨p3, _, c3, rfl, by rw [HV.out, HBL.out], ⟨fun e => absurd e Q3.out, fun e => by rw [HV.out] at e; rw [← HBB.out] at e; simp at e⟩, by rw [HV.out]; exact S3.out, M3.out, F3.out⟩
  · have HV := Lib.hid (linkL_no hok)
    unfold linkOk at hok
    rw [hbl] at hok
    have K : ∀ w', Mod [] w w' → LinkR (linkL next b) w (.slice none 0 0) w' := fun w' hm => ⟨none, 0, 0, rfl, by rw [HV.out]; rfl, by rw [HV.out]; simp, by rw [HV.out]; exact Sl.nil _ _, hm, fun a ha => by cases ha⟩
    have HK := Lib.hid K
    clear K h hbl
    by_cases o1 : 1 ≤ m
    · by_cases o2 : m ≤ 1010
      · by_cases o3 : 0 ≤ next
        · have o4 : 2147483647 < next := by omega
          clear hok
          go_enter Tryd.func25, Tryd.ntmps25
          go_wp2
          go_ret
          exact .mk (HK.out _ (Mod.refl _ _))
        · have o4 : next < 0 := by omega
          clear hok o3
          go_enter Tryd.func25, Tryd.ntmps25
          go_wp2
          go_ret
          exact .mk (HK.out _ (Mod.refl _ _))
      · have o4 : 1010 < m := by omega
        clear hok o2
        go_enter Tryd.func25, Tryd.ntmps25
        go_wp2
        go_ret
        exact .mk (HK.out _ (Mod.refl _ _))
    · obtain rfl : m = 0 := by omega
      clear hok o1
      go_enter Tryd.func25, Tryd.ntmps25
      go_wp2
      go_ret
      exact .mk (HK.out _ (Mod.refl _ _))

theorem link_any (q : Option Addr) (m d : Nat) (b : List Int) (next : Int) (w : World) (h : BytesIn w q m d b) :
    Calls Tryd.prog 25 #[.int .i64 next, .slice q m d] w (Ret (NPayR (linkL next b) w)) := by
  refine (link_in q m d b next w h).mono ?_
  rintro _ w' ⟨v, rfl, p, n, c, h1, h2, h3, h4, h5, _⟩
  exact .mk ⟨p, n, c, h1, h2, h3, h4, h5⟩

end Go.Proofs.YtgimdodbajhpoaaDoor
