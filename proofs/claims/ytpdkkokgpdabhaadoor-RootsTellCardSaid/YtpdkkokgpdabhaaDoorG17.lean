/- Roots: the document's FromPay. -/
import Derived.Test.YtpdkkokgpdabhaaDoorG16
namespace Go.Proofs.YtpdkkokgpdabhaaDoor
open Go.RowKit Go.Maps
set_option linter.unusedSimpArgs false
set_option linter.unusedVariables false

/-- Roots appended to a list of roots in an own block. -/
theorem app_roots (w : World) (base : Nat) (p : Option Addr) (n c : Nat) (rs : List Rt) (h : Tl w base 3 p n c (rcells rs)) (q : Option Addr) (m d : Nat) (ks : List Rt) (hs : Sl w 3 q m d (rcells ks)) (hb : n + m ≤ 1000000) (hbase : base ≤ w.heap.size) :
    ∃ p' c' w', (Builtin.append_ #[22, 22] 22 #[.slice p n c, .slice q m d]).run Tryd.prog w = .ok (.slice p' (n + m) c') w' ∧ Tl w' base 3 p' (n + m) c' (rcells (rs ++ ks)) ∧ Mod (p.map (·.block)).toList w w' ∧ (p' = none ↔ p = none ∧ m = 0) := by
  obtain ⟨i0, hi0, hz0, hz1, hz2⟩ := info_parts infoRoot
  obtain ⟨p', c', w', hr, h2, h3, h4, h5⟩ := run_append_tl (P := Tryd.prog) w base 22 22 34 i0 _ 3 32 Tryd.underlying22 hi0 hz0 hz1 hz2 rfl (by omega) p n c (rcells rs) h q m d (rcells ks) hs (by unfold maxLen; omega) (by omega) hbase
  exact ⟨p', c', w', hr, by rw [rcells_append]; exact h2, h3, h4⟩
def qfE (bb off c at_ k A1 E1 G : Nat) (p1 p2 p3 : Option Addr) (l1 : List Int) (pg ct : Int) (o : Option Addr) (m d B0 BB : Nat) (rs : List Rt) (ls : Array Bool) (vs : Nat → Value) (oi : Nat) (w : World) : Prop :=
  match oi with
  | 0 => vs 0 = .slice o m d
  | 1 => vs 1 = .slice (some ⟨bb, off, none⟩) 1016 c
  | 2 => vs 2 = .int .i64 at_
  | 3 => vs 3 = .int .i64 A1
  | 4 => vs 4 = .int .i64 at_
  | 5 => vs 5 = .int .i64 A1
  | 6 => vs 6 = .int .i64 k
  | 7 => vs 7 = .int .i64 E1
  | 8 => vs 8 = .slice p1 k (c - A1)
  | 9 => vs 9 = .string (strOfNums l1)
  | 10 => vs 10 = .slice (some ⟨bb, off, none⟩) 1016 c
  | 11 => vs 11 = .int .i64 at_
  | 12 => vs 12 = .int .i64 A1
  | 13 => vs 13 = .int .i64 k
  | 14 => vs 14 = .int .i64 E1
  | 15 => vs 15 = .slice p2 (1016 - E1) (c - E1)
  | 16 => vs 16 = .int .u32 pg
  | 17 => vs 17 = .int .i64 pg
  | 18 => vs 18 = .slice (some ⟨bb, off, none⟩) 1016 c
  | 19 => vs 19 = .int .i64 at_
  | 20 => vs 20 = .int .i64 (at_ + 5)
  | 21 => vs 21 = .int .i64 k
  | 22 => vs 22 = .int .i64 G
  | 23 => vs 23 = .slice p3 (1016 - G) (c - G)
  | 24 => vs 24 = .int .u32 ct
  | 25 => vs 25 = .int .i64 ct
  | 26 => vs 26 = .agg #[.string (strOfNums l1), .int .i64 pg, .int .i64 ct]
  | 27 => ∃ B, vs 27 = .slice (some ⟨B, 0, none⟩) 1 1 ∧ (ls.getD 28 true = true ∨ Sl w 3 (some ⟨B, 0, none⟩) 1 1 (rcells [⟨l1, pg, ct⟩]))
  | 28 => ∃ p c, vs 28 = .slice p (m + 1) c ∧ Tl w BB 3 p (m + 1) c (rcells (rs ++ [⟨l1, pg, ct⟩]))
  | 29 => ∃ p c, vs 29 = .slice p (m + 1) c ∧ Tl w BB 3 p (m + 1) c (rcells (rs ++ [⟨l1, pg, ct⟩]))
  | _ => True
theorem qfE_keep {bb off c at_ k A1 E1 G : Nat} {p1 p2 p3 : Option Addr} {l1 : List Int} {pg ct : Int} {o : Option Addr} {m d B0 BB : Nat} {rs : List Rt} {ls ls' : Array Bool} {vs : Nat → Value} {oi : Nat} {w w' : World} (hm : Mod [] w w') (hl : ∀ k, ls.getD k true = true → ls'.getD k true = true) (hr : qfE bb off c at_ k A1 E1 G p1 p2 p3 l1 pg ct o m d B0 BB rs ls vs oi w) : qfE bb off c at_ k A1 E1 G p1 p2 p3 l1 pg ct o m d B0 BB rs ls' vs oi w' := by
  unfold qfE at hr ⊢
  split at hr
  · exact hr
  · exact hr
  · exact hr
  · exact hr
  · exact hr
  · exact hr
  · exact hr
  · exact hr
  · exact hr
  · exact hr
  · exact hr
  · exact hr
  · exact hr
  · exact hr
  · exact hr
  · exact hr
  · exact hr
  · exact hr
  · exact hr
  · exact hr
  · exact hr
  · exact hr
  · exact hr
  · exact hr
  · exact hr
  · exact hr
  · exact hr
  · obtain ⟨B, h1, h2⟩ := hr; exact ⟨B, h1, h2.imp (hl _) (fun h => h.mod hm (by simp))⟩
  · obtain ⟨p, c, h1, h2⟩ := hr; exact ⟨p, c, h1, h2.mod hm (by simp)⟩
  · obtain ⟨p, c, h1, h2⟩ := hr; exact ⟨p, c, h1, h2.mod hm (by simp)⟩
  · trivial
theorem qfE_val {bb off c at_ k A1 E1 G : Nat} {p1 p2 p3 : Option Addr} {l1 : List Int} {pg ct : Int} {o : Option Addr} {m d B0 BB : Nat} {rs : List Rt} {ls ls' : Array Bool} {vs : Nat → Value} {oi : Nat} {w w' : World} (n27 : oi ≠ 27) (n28 : oi ≠ 28) (n29 : oi ≠ 29) (hr : qfE bb off c at_ k A1 E1 G p1 p2 p3 l1 pg ct o m d B0 BB rs ls vs oi w) : qfE bb off c at_ k A1 E1 G p1 p2 p3 l1 pg ct o m d B0 BB rs ls' vs oi w' := by
  unfold qfE at hr ⊢
  split at hr
  · exact hr
  · exact hr
  · exact hr
  · exact hr
  · exact hr
  · exact hr
  · exact hr
  · exact hr
  · exact hr
  · exact hr
  · exact hr
  · exact hr
  · exact hr
  · exact hr
  · exact hr
  · exact hr
  · exact hr
  · exact hr
  · exact hr
  · exact hr
  · exact hr
  · exact hr
  · exact hr
  · exact hr
  · exact hr
  · exact hr
  · exact hr
  · exact (n27 rfl).elim
  · exact (n28 rfl).elim
  · exact (n29 rfl).elim
  · trivial
theorem qfE_loc {bb off c at_ k A1 E1 G : Nat} {p1 p2 p3 : Option Addr} {l1 : List Int} {pg ct : Int} {o : Option Addr} {m d B0 BB : Nat} {rs : List Rt} {ls : Array Bool} {vs vs' : Nat → Value} {oi : Nat} {w : World} (h1 : vs oi = vs' oi)  (hr : qfE bb off c at_ k A1 E1 G p1 p2 p3 l1 pg ct o m d B0 BB rs ls vs oi w) : qfE bb off c at_ k A1 E1 G p1 p2 p3 l1 pg ct o m d B0 BB rs ls vs' oi w := by
  unfold qfE at hr ⊢
  split at hr
  · rw [← h1]; exact hr
  · rw [← h1]; exact hr
  · rw [← h1]; exact hr
  · rw [← h1]; exact hr
  · rw [← h1]; exact hr
  · rw [← h1]; exact hr
  · rw [← h1]; exact hr
  · rw [← h1]; exact hr
  · rw [← h1]; exact hr
  · rw [← h1]; exact hr
  · rw [← h1]; exact hr
  · rw [← h1]; exact hr
  · rw [← h1]; exact hr
  · rw [← h1]; exact hr
  · rw [← h1]; exact hr
  · rw [← h1]; exact hr
  · rw [← h1]; exact hr
  · rw [← h1]; exact hr
  · rw [← h1]; exact hr
  · rw [← h1]; exact hr
  · rw [← h1]; exact hr
  · rw [← h1]; exact hr
  · rw [← h1]; exact hr
  · rw [← h1]; exact hr
  · rw [← h1]; exact hr
  · rw [← h1]; exact hr
  · rw [← h1]; exact hr
  · rw [← h1]; exact hr
  · rw [← h1]; exact hr
  · rw [← h1]; exact hr
  · trivial
set_option maxRecDepth 100000 in
set_option maxHeartbeats 8000000 in
theorem qrfrom_any (p : Option Addr) (n c : Nat) (b : List Int) (w : World) (h : BytesIn w p n c b) : Calls Tryd.prog 10 #[.slice p n c] w (Ret (FromRes b w)) := by
  by_cases hn : n = 1016
  · subst hn
    have hbl := h.len
    have hle := h.sl.le
    have hcm := h.sl.capm
    unfold maxLen at hcm
    obtain ⟨bb, off, hp, hblt, hcs⟩ := h.sl.addr (by omega)
    have HCS : Hid (∀ j, j < 1016 → w.cell? ⟨bb, off + j, none⟩ = some (.int .u8 (b.getD j 0))) := fun j hj => hcs j _ (bs_get (by omega))
    have HBR : Hid (∀ j, j < 1016 → 0 ≤ b.getD j 0 ∧ b.getD j 0 < 256) := fun j hj => by rw [getD_at (by omega)]; exact h.wf _ (List.getElem_mem _)
    have hx4 := HBR.out 4 (by omega)
    have d4 := HCS.out 4 (by omega)
    have hidx := fun W => Sl.idx (P := Tryd.prog) (cap := c) (m := 1016) (size := 1) Tryd.underlying23 sizeBytes (fun _ => hp) W .i64
    have hi4 := fun W => hidx W 4 (by omega)
    simp only [Nat.mul_one, show ((4 : Nat) : Int) = 4 from rfl] at hi4 hidx
    obtain ⟨x, hx⟩ : ∃ x : Nat, b.getD 4 0 = x := ⟨(b.getD 4 0).toNat, by omega⟩
    rw [hx] at d4 hx4
    have D4 := Lib.hid d4
    have hw4 : IntKind.i64.wrap (x : Int) = (x : Int) := IntWalk.i64_in _ (by omega)
    have HPS : Hid (∀ i rs r, parseI b i = some (rs, r) → (∀ x ∈ rs, x.wf) ∧ (∀ x ∈ r, 0 ≤ x ∧ x < 256) ∧ r.length ≤ 1000000) := fun i rs r hp => parse_wf h.wf (by omega) hp
    have HPL : Hid (∀ i rs r, parseI b i = some (rs, r) → rs.length = i) := fun i rs r hp => (parse_len hp).1
    have HPD : Hid (∀ i rs r, parseI b i = some (rs, r) → r = b.drop (5 + (rs.flatMap rootBytes).length)) := fun i rs r hp => (parse_len hp).2.1
    have HGN : Hid (∀ i, i < x → parseI b (i + 1) = none → ¬ ∃ qs, (∀ x ∈ qs, WfL x.l) ∧ GoodR b qs) := fun i hi hp => good_none hp (by rw [hx]; omega)
    have HGI : Hid (∀ i rs r, parseI b i = some (rs, r) → x = i ∨ 13 ≤ x → (∃ qs, (∀ x ∈ qs, WfL x.l) ∧ GoodR b qs) → GoodR b rs) := fun i rs r hp hi => good_iff hbl hp (by rw [hx]; omega)
    have HLONG : Hid (∀ i rs r, parseI b i = some (rs, r) → i ≤ x → 1016 ≤ 5 + (rs.flatMap rootBytes).length → ¬ ∃ qs, (∀ x ∈ qs, WfL x.l) ∧ GoodR b qs) := fun i rs r hp hi hbig => by
      rintro ⟨qs, hw, hg⟩
      have hc := hg.count
      rw [hx] at hc
      have := hg.parse hw i (by omega)
      rw [hp] at this
      injection this with this
      injection this with e1 e2
      have h1 := hg.size
      have h2 : (rootsBytes qs).length = 5 + (qs.flatMap rootBytes).length := by unfold rootsBytes; rw [List.length_append]; rfl
      have h3 : (qs.flatMap rootBytes).length = (rs.flatMap rootBytes).length + ((qs.drop i).flatMap rootBytes).length := by
        rw [e1, ← List.length_append, ← List.flatMap_append, List.take_append_drop]
      omega
    have H0 : Hid (parseI b 0 = some ([], b.drop 5)) := rfl
    have HBL := Lib.hid hbl
    have HB := Lib.hid h
    obtain ⟨i0, hi0, hz0, hz1, hz2⟩ := info_parts infoU8
    clear h hbl hcs hx hx4 d4
    subst hp
    go_enter Tryd.func10, Tryd.ntmps10
    go_wp2
    go_loopw [4, 5, 6] (fun ov av iv wr => ∃ (i m d t : Nat) (o : Option Addr) (rs : List Rt), i ≤ x ∧ i ≤ 13 ∧ iv = .int .i64 i ∧ ov = .slice o m d ∧ av = .int .i64 t ∧ t < 1016 ∧ t = 5 + (rs.flatMap rootBytes).length ∧ parseI b i = some (rs, b.drop t) ∧ rs.length = m ∧ Tl wr w.heap.size 3 o m d (rcells rs) ∧ Mod [] w wr) (fun _ _ iv _ => 13 - (intOf iv).toNat)
    case atStart => exact ⟨0, 0, 0, 5, none, [], by omega, by omega, rfl, rfl, rfl, by omega, rfl, H0.out, rfl, Tl.none' _ _ _, Mod.refl _ _⟩
    case round =>
      obtain ⟨i, m, d, at_, o, rs, hix, hi13, rfl, rfl, rfl, hat, hate, hps, hm, ht, hmd⟩ := hrel
      have hmi : m = i := by rw [← hm]; exact HPL.out i rs _ hps
      subst hmi
      have OT := Lib.hid ht
      have HM := Lib.hid hmd
      have HP := Lib.hid hps
      have HLN := Lib.hid hm
      have HATE := Lib.hid hate
      have HV1 := Lib.hid (HPS.out m rs _ hps).1
      have d4 := (HM.out.cell (a := ⟨bb, _, none⟩) hblt (by simp)).trans D4.out
      clear ht hmd hps hm hate
      by_cases hlt : m < x ∧ m < 13
      · obtain ⟨hl1, hl2⟩ := hlt
        have hwi : IntKind.i64.wrap ((m : Int) + 1) = (m : Int) + 1 := IntWalk.i64_in _ (by omega)
        have hk0 := HBR.out at_ hat
        have da := HCS.out at_ hat
        obtain ⟨k, hk⟩ : ∃ k : Nat, b.getD at_ 0 = k := ⟨(b.getD at_ 0).toNat, by omega⟩
        rw [hk] at da hk0
        rw [← HM.out.cell (a := ⟨bb, _, none⟩) hblt (by simp)] at da
        have ja := fun W => hidx W at_ hat
        have hwk : IntKind.i64.wrap (k : Int) = (k : Int) := IntWalk.i64_in _ (by omega)
        have hw9 : IntKind.i64.wrap ((at_ : Int) + 9) = (at_ : Int) + 9 := IntWalk.i64_in _ (by omega)
        obtain ⟨T, hT⟩ : ∃ T, T = at_ + 9 + k := ⟨_, rfl⟩
        have hwT : IntKind.i64.wrap ((at_ : Int) + 9 + (k : Int)) = (T : Int) := by rw [IntWalk.i64_in _ (by omega)]; omega
        have hrl : (b.drop at_).length = 1016 - at_ := by rw [List.length_drop, HBL.out]
        have hkn : kN (b.drop at_) = k := by unfold kN; rw [List.getD_eq_getElem?_getD, List.getElem?_drop, Nat.add_zero, ← List.getD_eq_getElem?_getD, hk]; rfl
        by_cases hok : T ≤ 1016
        · have HOK : Hid (OneOk (b.drop at_)) := ⟨by omega, by rw [hkn]; omega⟩
          have hno : ¬ ((1016 : Int) < (T : Int)) := by omega
          obtain ⟨A1, hA1⟩ : ∃ A1, A1 = at_ + 1 := ⟨_, rfl⟩
          obtain ⟨E1, hE1⟩ : ∃ E1, E1 = at_ + 1 + k := ⟨_, rfl⟩
          obtain ⟨G, hG⟩ : ∃ G, G = at_ + 5 + k := ⟨_, rfl⟩
          have hwA : IntKind.i64.wrap ((at_ : Int) + 1) = (A1 : Int) := by rw [IntWalk.i64_in _ (by omega)]; omega
          have hwE : IntKind.i64.wrap ((A1 : Int) + (k : Int)) = (E1 : Int) := by rw [IntWalk.i64_in _ (by omega)]; omega
          have hw5 : IntKind.i64.wrap ((at_ : Int) + 5) = (at_ : Int) + 5 := IntWalk.i64_in _ (by omega)
          have hwG : IntKind.i64.wrap ((at_ : Int) + 5 + (k : Int)) = (G : Int) := by rw [IntWalk.i64_in _ (by omega)]; omega
          obtain ⟨p1, r1, s1, _⟩ := HB.out.sl.sub Tryd.underlying23 sizeBytes A1 E1 .i64 .i64 (by omega) (by omega)
          obtain ⟨p2, r2, s2, _⟩ := HB.out.sl.sub_l Tryd.underlying23 sizeBytes E1 .i64 (by omega)
          obtain ⟨p3, r3, s3, _⟩ := HB.out.sl.sub_l Tryd.underlying23 sizeBytes G .i64 (by omega)
          rw [show E1 - A1 = k from by omega] at r1 s1
          have HS1 : Hid (Sl w 1 p1 k (c - A1) (bs ((b.drop A1).take k))) := by simpa [Hid, bs, List.map_drop, List.map_take] using s1
          have HS2 : Hid (BytesIn w p2 (1016 - E1) (c - E1) (b.drop E1)) := ⟨by simpa [bs, List.map_drop] using s2, fun x hx => HB.out.wf x (List.mem_of_mem_drop hx)⟩
          have HS3 : Hid (BytesIn w p3 (1016 - G) (c - G) (b.drop G)) := ⟨by simpa [bs, List.map_drop] using s3, fun x hx => HB.out.wf x (List.mem_of_mem_drop hx)⟩
          have HGP := fun W (hm : Mod [] w W) => Lib.hid (qget32_any p2 (1016 - E1) (c - E1) (b.drop E1) W ⟨HS2.out.sl.mod hm (by simp), HS2.out.wf⟩)
          have HGC := fun W (hm : Mod [] w W) => Lib.hid (qget32_any p3 (1016 - G) (c - G) (b.drop G) W ⟨HS3.out.sl.mod hm (by simp), HS3.out.wf⟩)
          unfold Get32R at HGP HGC
          obtain ⟨g1, g2⟩ := un4_range HS2.out.wf 4
          obtain ⟨g3, g4⟩ := un4_range HS3.out.wf 4
          have HRT : Hid (oneRt (b.drop at_) = ⟨(b.drop A1).take k, un4 (b.drop E1) 4, un4 (b.drop G) 4⟩) := by
            unfold Hid oneRt; rw [hkn, List.drop_drop, List.drop_drop, List.drop_drop, hA1, hE1, hG, show at_ + (1 + k) = at_ + 1 + k from by omega, show at_ + (5 + k) = at_ + 5 + k from by omega]
          have HPN : Hid (parseI b (m + 1) = some (rs ++ [oneRt (b.drop at_)], b.drop T)) := by
            unfold Hid; rw [parse_succ HP.out, if_pos HOK.out, hkn, List.drop_drop, hT, show at_ + (9 + k) = at_ + 9 + k from by omega]
          have HTN : Hid (T = 5 + ((rs ++ [oneRt (b.drop at_)]).flatMap rootBytes).length) := by
            have hl : (oneRt (b.drop at_)).l.length = k := by unfold oneRt; simp [hkn]; rw [HBL.out]; omega
            unfold Hid
            rw [List.flatMap_append, List.length_append]
            simp only [List.flatMap_cons, List.flatMap_nil, List.append_nil, rootBytes_len, hl]
            have := HATE.out; omega
          rw [HRT.out] at HPN HTN
          replace g2 : un4 (b.drop E1) 4 < 4294967296 := g2
          replace g4 : un4 (b.drop G) 4 < 4294967296 := g4
          generalize un4 (b.drop E1) 4 = pg at *
          generalize un4 (b.drop G) 4 = ct at *
          generalize (b.drop A1).take k = l1 at *
          have hw6 : IntKind.i64.wrap pg = pg := IntWalk.i64_in _ (by omega)
          have hw7 : IntKind.i64.wrap ct = ct := IntWalk.i64_in _ (by omega)
          obtain ⟨BB, hBB⟩ : ∃ BB, BB = w.heap.size := ⟨_, rfl⟩
          have HBB := Lib.hid hBB
          rw [← hBB] at OT
          obtain ⟨B0, hB0⟩ : ∃ B0, B0 = wr.heap.size := ⟨_, rfl⟩
          have HB0 := Lib.hid hB0
          clear hk hkn hrl hA1 hE1 hG hT s1 s2 s3 hBB hB0 HRT
          go_wp2_with fail
          refine par_region2 (by kernel_rfl) (fun ls oi vs w => qfE bb off c at_ k A1 E1 G p1 p2 p3 l1 pg ct o m d B0 BB rs ls vs oi w) (fun ls w' => Mod [] w w' ∧ B0 ≤ w'.heap.size ∧ (ls.getD 28 true = true ∨ Tl w' BB 3 o m d (rcells rs))) (by kernel_rfl) (fun ls j vs vs' w o ho h1 hd h2 => qfE_loc h1  h2) ⟨⟨⟨⟨⟨⟨⟨⟨⟨⟨⟨⟨⟨⟨⟨⟨⟨⟨⟨⟨⟨⟨⟨⟨⟨⟨⟨⟨⟨⟨trivial, ?_⟩, ?_⟩, ?_⟩, ?_⟩, ?_⟩, ?_⟩, ?_⟩, ?_⟩, ?_⟩, ?_⟩, ?_⟩, ?_⟩, ?_⟩, ?_⟩, ?_⟩, ?_⟩, ?_⟩, ?_⟩, ?_⟩, ?_⟩, ?_⟩, ?_⟩, ?_⟩, ?_⟩, ?_⟩, ?_⟩, ?_⟩, ?_⟩, ?_⟩, ?_⟩ ⟨HM.out.same (Mod.of_drew wr), (by rw [HB0.out]; exact Nat.le_refl _), Or.inr (OT.out.mod (Mod.of_drew wr) (by simp))⟩ ?_
          · intro o ho listed vs a w' inv hun haft K hK
            obtain rfl := Option.some.inj ho
            refine par_run rfl ?_
            have hun' : ∀ h : listed.getD 0 true = true, False := fun h => by rw [hun] at h; cases h
            have e0 := inv.oldU hun 4 29 [28, 0] (by kernel_rfl) (by kernel_rfl)
            have INV := Lib.hid inv
            clear inv haft hun ho
            simp at e0
            have MO : ∀ k, listed.getD k true = true → (listed.setIfInBounds 0 true).getD k true = true := fun k h => set_mono h
            go_simp
            exact hK _ _ ⟨INV.out.inv.1, INV.out.inv.2.1, INV.out.inv.2.2.imp (MO _) id⟩ (fun j hj hl => qfE_keep (Mod.refl _ _) MO (INV.out.val j hj hl)) rfl
          · intro o ho listed vs a w' inv hun haft K hK
            obtain rfl := Option.some.inj ho
            refine par_run rfl ?_
            have hun' : ∀ h : listed.getD 1 true = true, False := fun h => by rw [hun] at h; cases h
            have e0 := inv.old 0 (by kernel_rfl)
            have INV := Lib.hid inv
            clear inv haft hun ho
            simp at e0
            have MO : ∀ k, listed.getD k true = true → (listed.setIfInBounds 1 true).getD k true = true := fun k h => set_mono h
            go_simp
            exact hK _ _ ⟨INV.out.inv.1, INV.out.inv.2.1, INV.out.inv.2.2.imp (MO _) id⟩ (fun j hj hl => qfE_keep (Mod.refl _ _) MO (INV.out.val j hj hl)) rfl
          · intro o ho listed vs a w' inv hun haft K hK
            obtain rfl := Option.some.inj ho
            refine par_run rfl ?_
            have hun' : ∀ h : listed.getD 2 true = true, False := fun h => by rw [hun] at h; cases h
            have e0 := inv.old 5 (by kernel_rfl)
            have INV := Lib.hid inv
            clear inv haft hun ho
            simp at e0
            have MO : ∀ k, listed.getD k true = true → (listed.setIfInBounds 2 true).getD k true = true := fun k h => set_mono h
            go_simp
            exact hK _ _ ⟨INV.out.inv.1, INV.out.inv.2.1, INV.out.inv.2.2.imp (MO _) id⟩ (fun j hj hl => qfE_keep (Mod.refl _ _) MO (INV.out.val j hj hl)) rfl
          · intro o ho listed vs a w' inv hun haft K hK
            obtain rfl := Option.some.inj ho
            refine par_run rfl ?_
            have hun' : ∀ h : listed.getD 3 true = true, False := fun h => by rw [hun] at h; cases h
            obtain ⟨e0, r0⟩ := inv.get haft 2 38 (by kernel_rfl) (by kernel_rfl)
            have INV := Lib.hid inv
            clear inv haft hun ho
            change vs 2 = .int .i64 at_ at r0
            rw [r0] at e0
            have g0 := getD_opt e0
            have MO : ∀ k, listed.getD k true = true → (listed.setIfInBounds 3 true).getD k true = true := fun k h => set_mono h
            go_simp
            exact hK _ _ ⟨INV.out.inv.1, INV.out.inv.2.1, INV.out.inv.2.2.imp (MO _) id⟩ (fun j hj hl => qfE_keep (Mod.refl _ _) MO (INV.out.val j hj hl)) rfl
          · intro o ho listed vs a w' inv hun haft K hK
            obtain rfl := Option.some.inj ho
            refine par_run rfl ?_
            have hun' : ∀ h : listed.getD 4 true = true, False := fun h => by rw [hun] at h; cases h
            have e0 := inv.old 5 (by kernel_rfl)
            have INV := Lib.hid inv
            clear inv haft hun ho
            simp at e0
            have MO : ∀ k, listed.getD k true = true → (listed.setIfInBounds 4 true).getD k true = true := fun k h => set_mono h
            go_simp
            exact hK _ _ ⟨INV.out.inv.1, INV.out.inv.2.1, INV.out.inv.2.2.imp (MO _) id⟩ (fun j hj hl => qfE_keep (Mod.refl _ _) MO (INV.out.val j hj hl)) rfl
          · intro o ho listed vs a w' inv hun haft K hK
            obtain rfl := Option.some.inj ho
            refine par_run rfl ?_
            have hun' : ∀ h : listed.getD 5 true = true, False := fun h => by rw [hun] at h; cases h
            obtain ⟨e0, r0⟩ := inv.get haft 4 40 (by kernel_rfl) (by kernel_rfl)
            have INV := Lib.hid inv
            clear inv haft hun ho
            change vs 4 = .int .i64 at_ at r0
            rw [r0] at e0
            have g0 := getD_opt e0
            have MO : ∀ k, listed.getD k true = true → (listed.setIfInBounds 5 true).getD k true = true := fun k h => set_mono h
            go_simp
            exact hK _ _ ⟨INV.out.inv.1, INV.out.inv.2.1, INV.out.inv.2.2.imp (MO _) id⟩ (fun j hj hl => qfE_keep (Mod.refl _ _) MO (INV.out.val j hj hl)) rfl
          · intro o ho listed vs a w' inv hun haft K hK
            obtain rfl := Option.some.inj ho
            refine par_run rfl ?_
            have hun' : ∀ h : listed.getD 6 true = true, False := fun h => by rw [hun] at h; cases h
            have e0 := inv.old 7 (by kernel_rfl)
            have INV := Lib.hid inv
            clear inv haft hun ho
            simp at e0
            have MO : ∀ k, listed.getD k true = true → (listed.setIfInBounds 6 true).getD k true = true := fun k h => set_mono h
            go_simp
            exact hK _ _ ⟨INV.out.inv.1, INV.out.inv.2.1, INV.out.inv.2.2.imp (MO _) id⟩ (fun j hj hl => qfE_keep (Mod.refl _ _) MO (INV.out.val j hj hl)) rfl
          · intro o ho listed vs a w' inv hun haft K hK
            obtain rfl := Option.some.inj ho
            refine par_run rfl ?_
            have hun' : ∀ h : listed.getD 7 true = true, False := fun h => by rw [hun] at h; cases h
            obtain ⟨e0, r0⟩ := inv.get haft 5 41 (by kernel_rfl) (by kernel_rfl)
            obtain ⟨e1, r1⟩ := inv.get haft 6 42 (by kernel_rfl) (by kernel_rfl)
            have INV := Lib.hid inv
            clear inv haft hun ho
            change vs 5 = .int .i64 A1 at r0
            rw [r0] at e0
            have g0 := getD_opt e0
            change vs 6 = .int .i64 k at r1
            rw [r1] at e1
            have g1 := getD_opt e1
            have MO : ∀ k, listed.getD k true = true → (listed.setIfInBounds 7 true).getD k true = true := fun k h => set_mono h
            go_simp
            exact hK _ _ ⟨INV.out.inv.1, INV.out.inv.2.1, INV.out.inv.2.2.imp (MO _) id⟩ (fun j hj hl => qfE_keep (Mod.refl _ _) MO (INV.out.val j hj hl)) rfl
          · intro o ho listed vs a w' inv hun haft K hK
            obtain rfl := Option.some.inj ho
            refine par_run rfl ?_
            have hun' : ∀ h : listed.getD 8 true = true, False := fun h => by rw [hun] at h; cases h
            obtain ⟨e0, r0⟩ := inv.get haft 1 37 (by kernel_rfl) (by kernel_rfl)
            obtain ⟨e1, r1⟩ := inv.get haft 3 39 (by kernel_rfl) (by kernel_rfl)
            obtain ⟨e2, r2⟩ := inv.get haft 7 43 (by kernel_rfl) (by kernel_rfl)
            have INV := Lib.hid inv
            clear inv haft hun ho
            change vs 1 = .slice (some ⟨bb, off, none⟩) 1016 c at r0
            rw [r0] at e0
            have g0 := getD_opt e0
            change vs 3 = .int .i64 A1 at r1
            rw [r1] at e1
            have g1 := getD_opt e1
            change vs 7 = .int .i64 E1 at r2
            rw [r2] at e2
            have g2 := getD_opt e2
            have MO : ∀ k, listed.getD k true = true → (listed.setIfInBounds 8 true).getD k true = true := fun k h => set_mono h
            go_simp
            exact hK _ _ ⟨INV.out.inv.1, INV.out.inv.2.1, INV.out.inv.2.2.imp (MO _) id⟩ (fun j hj hl => qfE_keep (Mod.refl _ _) MO (INV.out.val j hj hl)) rfl
          · intro o ho listed vs a w' inv hun haft K hK
            obtain rfl := Option.some.inj ho
            refine par_run rfl ?_
            have hun' : ∀ h : listed.getD 9 true = true, False := fun h => by rw [hun] at h; cases h
            obtain ⟨e0, r0⟩ := inv.get haft 8 44 (by kernel_rfl) (by kernel_rfl)
            have INV := Lib.hid inv
            clear inv haft hun ho
            change vs 8 = .slice p1 k (c - A1) at r0
            rw [r0] at e0
            have g0 := getD_opt e0
            have cv := (HS1.out.mod INV.out.inv.1 (by simp)).str 23 5 9 Tryd.underlying23 uU8 uStr
            have MO : ∀ k, listed.getD k true = true → (listed.setIfInBounds 9 true).getD k true = true := fun k h => set_mono h
            go_simp
            exact hK _ _ ⟨INV.out.inv.1, INV.out.inv.2.1, INV.out.inv.2.2.imp (MO _) id⟩ (fun j hj hl => qfE_keep (Mod.refl _ _) MO (INV.out.val j hj hl)) rfl
          · intro o ho listed vs a w' inv hun haft K hK
            obtain rfl := Option.some.inj ho
            refine par_run rfl ?_
            have hun' : ∀ h : listed.getD 10 true = true, False := fun h => by rw [hun] at h; cases h
            have e0 := inv.old 0 (by kernel_rfl)
            have INV := Lib.hid inv
            clear inv haft hun ho
            simp at e0
            have MO : ∀ k, listed.getD k true = true → (listed.setIfInBounds 10 true).getD k true = true := fun k h => set_mono h
            go_simp
            exact hK _ _ ⟨INV.out.inv.1, INV.out.inv.2.1, INV.out.inv.2.2.imp (MO _) id⟩ (fun j hj hl => qfE_keep (Mod.refl _ _) MO (INV.out.val j hj hl)) rfl
          · intro o ho listed vs a w' inv hun haft K hK
            obtain rfl := Option.some.inj ho
            refine par_run rfl ?_
            have hun' : ∀ h : listed.getD 11 true = true, False := fun h => by rw [hun] at h; cases h
            have e0 := inv.old 5 (by kernel_rfl)
            have INV := Lib.hid inv
            clear inv haft hun ho
            simp at e0
            have MO : ∀ k, listed.getD k true = true → (listed.setIfInBounds 11 true).getD k true = true := fun k h => set_mono h
            go_simp
            exact hK _ _ ⟨INV.out.inv.1, INV.out.inv.2.1, INV.out.inv.2.2.imp (MO _) id⟩ (fun j hj hl => qfE_keep (Mod.refl _ _) MO (INV.out.val j hj hl)) rfl
          · intro o ho listed vs a w' inv hun haft K hK
            obtain rfl := Option.some.inj ho
            refine par_run rfl ?_
            have hun' : ∀ h : listed.getD 12 true = true, False := fun h => by rw [hun] at h; cases h
            obtain ⟨e0, r0⟩ := inv.get haft 11 47 (by kernel_rfl) (by kernel_rfl)
            have INV := Lib.hid inv
            clear inv haft hun ho
            change vs 11 = .int .i64 at_ at r0
            rw [r0] at e0
            have g0 := getD_opt e0
            have MO : ∀ k, listed.getD k true = true → (listed.setIfInBounds 12 true).getD k true = true := fun k h => set_mono h
            go_simp
            exact hK _ _ ⟨INV.out.inv.1, INV.out.inv.2.1, INV.out.inv.2.2.imp (MO _) id⟩ (fun j hj hl => qfE_keep (Mod.refl _ _) MO (INV.out.val j hj hl)) rfl
          · intro o ho listed vs a w' inv hun haft K hK
            obtain rfl := Option.some.inj ho
            refine par_run rfl ?_
            have hun' : ∀ h : listed.getD 13 true = true, False := fun h => by rw [hun] at h; cases h
            have e0 := inv.old 7 (by kernel_rfl)
            have INV := Lib.hid inv
            clear inv haft hun ho
            simp at e0
            have MO : ∀ k, listed.getD k true = true → (listed.setIfInBounds 13 true).getD k true = true := fun k h => set_mono h
            go_simp
            exact hK _ _ ⟨INV.out.inv.1, INV.out.inv.2.1, INV.out.inv.2.2.imp (MO _) id⟩ (fun j hj hl => qfE_keep (Mod.refl _ _) MO (INV.out.val j hj hl)) rfl
          · intro o ho listed vs a w' inv hun haft K hK
            obtain rfl := Option.some.inj ho
            refine par_run rfl ?_
            have hun' : ∀ h : listed.getD 14 true = true, False := fun h => by rw [hun] at h; cases h
            obtain ⟨e0, r0⟩ := inv.get haft 12 48 (by kernel_rfl) (by kernel_rfl)
            obtain ⟨e1, r1⟩ := inv.get haft 13 49 (by kernel_rfl) (by kernel_rfl)
            have INV := Lib.hid inv
            clear inv haft hun ho
            change vs 12 = .int .i64 A1 at r0
            rw [r0] at e0
            have g0 := getD_opt e0
            change vs 13 = .int .i64 k at r1
            rw [r1] at e1
            have g1 := getD_opt e1
            have MO : ∀ k, listed.getD k true = true → (listed.setIfInBounds 14 true).getD k true = true := fun k h => set_mono h
            go_simp
            exact hK _ _ ⟨INV.out.inv.1, INV.out.inv.2.1, INV.out.inv.2.2.imp (MO _) id⟩ (fun j hj hl => qfE_keep (Mod.refl _ _) MO (INV.out.val j hj hl)) rfl
          · intro o ho listed vs a w' inv hun haft K hK
            obtain rfl := Option.some.inj ho
            refine par_run rfl ?_
            have hun' : ∀ h : listed.getD 15 true = true, False := fun h => by rw [hun] at h; cases h
            obtain ⟨e0, r0⟩ := inv.get haft 10 46 (by kernel_rfl) (by kernel_rfl)
            obtain ⟨e1, r1⟩ := inv.get haft 14 50 (by kernel_rfl) (by kernel_rfl)
            have INV := Lib.hid inv
            clear inv haft hun ho
            change vs 10 = .slice (some ⟨bb, off, none⟩) 1016 c at r0
            rw [r0] at e0
            have g0 := getD_opt e0
            change vs 14 = .int .i64 E1 at r1
            rw [r1] at e1
            have g1 := getD_opt e1
            have MO : ∀ k, listed.getD k true = true → (listed.setIfInBounds 15 true).getD k true = true := fun k h => set_mono h
            go_simp
            exact hK _ _ ⟨INV.out.inv.1, INV.out.inv.2.1, INV.out.inv.2.2.imp (MO _) id⟩ (fun j hj hl => qfE_keep (Mod.refl _ _) MO (INV.out.val j hj hl)) rfl
          · intro o ho listed vs a w' inv hun haft K hK
            obtain rfl := Option.some.inj ho
            refine par_run rfl ?_
            have hun' : ∀ h : listed.getD 16 true = true, False := fun h => by rw [hun] at h; cases h
            obtain ⟨e0, r0⟩ := inv.get haft 15 51 (by kernel_rfl) (by kernel_rfl)
            have INV := Lib.hid inv
            clear inv haft hun ho
            change vs 15 = .slice p2 (1016 - E1) (c - E1) at r0
            rw [r0] at e0
            have g0 := getD_opt e0
            have MO : ∀ k, listed.getD k true = true → (listed.setIfInBounds 16 true).getD k true = true := fun k h => set_mono h
            go_simp
            refine (HGP _ INV.out.inv.1).out.mono ?_
            rintro _ w3 ⟨_, rfl, rfl, rfl⟩
            have m3 := Mod.refl [] w3
            exact hK _ _ ⟨INV.out.inv.1.same m3, Nat.le_trans INV.out.inv.2.1 m3.size, INV.out.inv.2.2.imp (MO _) (fun h => h.mod m3 (by simp))⟩ (fun j hj hl => qfE_keep m3 MO (INV.out.val j hj hl)) rfl
          · intro o ho listed vs a w' inv hun haft K hK
            obtain rfl := Option.some.inj ho
            refine par_run rfl ?_
            have hun' : ∀ h : listed.getD 17 true = true, False := fun h => by rw [hun] at h; cases h
            obtain ⟨e0, r0⟩ := inv.get haft 16 52 (by kernel_rfl) (by kernel_rfl)
            have INV := Lib.hid inv
            clear inv haft hun ho
            change vs 16 = .int .u32 pg at r0
            rw [r0] at e0
            have g0 := getD_opt e0
            have MO : ∀ k, listed.getD k true = true → (listed.setIfInBounds 17 true).getD k true = true := fun k h => set_mono h
            go_simp
            exact hK _ _ ⟨INV.out.inv.1, INV.out.inv.2.1, INV.out.inv.2.2.imp (MO _) id⟩ (fun j hj hl => qfE_keep (Mod.refl _ _) MO (INV.out.val j hj hl)) rfl
          · intro o ho listed vs a w' inv hun haft K hK
            obtain rfl := Option.some.inj ho
            refine par_run rfl ?_
            have hun' : ∀ h : listed.getD 18 true = true, False := fun h => by rw [hun] at h; cases h
            have e0 := inv.old 0 (by kernel_rfl)
            have INV := Lib.hid inv
            clear inv haft hun ho
            simp at e0
            have MO : ∀ k, listed.getD k true = true → (listed.setIfInBounds 18 true).getD k true = true := fun k h => set_mono h
            go_simp
            exact hK _ _ ⟨INV.out.inv.1, INV.out.inv.2.1, INV.out.inv.2.2.imp (MO _) id⟩ (fun j hj hl => qfE_keep (Mod.refl _ _) MO (INV.out.val j hj hl)) rfl
          · intro o ho listed vs a w' inv hun haft K hK
            obtain rfl := Option.some.inj ho
            refine par_run rfl ?_
            have hun' : ∀ h : listed.getD 19 true = true, False := fun h => by rw [hun] at h; cases h
            have e0 := inv.old 5 (by kernel_rfl)
            have INV := Lib.hid inv
            clear inv haft hun ho
            simp at e0
            have MO : ∀ k, listed.getD k true = true → (listed.setIfInBounds 19 true).getD k true = true := fun k h => set_mono h
            go_simp
            exact hK _ _ ⟨INV.out.inv.1, INV.out.inv.2.1, INV.out.inv.2.2.imp (MO _) id⟩ (fun j hj hl => qfE_keep (Mod.refl _ _) MO (INV.out.val j hj hl)) rfl
          · intro o ho listed vs a w' inv hun haft K hK
            obtain rfl := Option.some.inj ho
            refine par_run rfl ?_
            have hun' : ∀ h : listed.getD 20 true = true, False := fun h => by rw [hun] at h; cases h
            obtain ⟨e0, r0⟩ := inv.get haft 19 55 (by kernel_rfl) (by kernel_rfl)
            have INV := Lib.hid inv
            clear inv haft hun ho
            change vs 19 = .int .i64 at_ at r0
            rw [r0] at e0
            have g0 := getD_opt e0
            have MO : ∀ k, listed.getD k true = true → (listed.setIfInBounds 20 true).getD k true = true := fun k h => set_mono h
            go_simp
            exact hK _ _ ⟨INV.out.inv.1, INV.out.inv.2.1, INV.out.inv.2.2.imp (MO _) id⟩ (fun j hj hl => qfE_keep (Mod.refl _ _) MO (INV.out.val j hj hl)) rfl
          · intro o ho listed vs a w' inv hun haft K hK
            obtain rfl := Option.some.inj ho
            refine par_run rfl ?_
            have hun' : ∀ h : listed.getD 21 true = true, False := fun h => by rw [hun] at h; cases h
            have e0 := inv.old 7 (by kernel_rfl)
            have INV := Lib.hid inv
            clear inv haft hun ho
            simp at e0
            have MO : ∀ k, listed.getD k true = true → (listed.setIfInBounds 21 true).getD k true = true := fun k h => set_mono h
            go_simp
            exact hK _ _ ⟨INV.out.inv.1, INV.out.inv.2.1, INV.out.inv.2.2.imp (MO _) id⟩ (fun j hj hl => qfE_keep (Mod.refl _ _) MO (INV.out.val j hj hl)) rfl
          · intro o ho listed vs a w' inv hun haft K hK
            obtain rfl := Option.some.inj ho
            refine par_run rfl ?_
            have hun' : ∀ h : listed.getD 22 true = true, False := fun h => by rw [hun] at h; cases h
            obtain ⟨e0, r0⟩ := inv.get haft 20 56 (by kernel_rfl) (by kernel_rfl)
            obtain ⟨e1, r1⟩ := inv.get haft 21 57 (by kernel_rfl) (by kernel_rfl)
            have INV := Lib.hid inv
            clear inv haft hun ho
            change vs 20 = .int .i64 (at_ + 5) at r0
            rw [r0] at e0
            have g0 := getD_opt e0
            change vs 21 = .int .i64 k at r1
            rw [r1] at e1
            have g1 := getD_opt e1
            have MO : ∀ k, listed.getD k true = true → (listed.setIfInBounds 22 true).getD k true = true := fun k h => set_mono h
            go_simp
            exact hK _ _ ⟨INV.out.inv.1, INV.out.inv.2.1, INV.out.inv.2.2.imp (MO _) id⟩ (fun j hj hl => qfE_keep (Mod.refl _ _) MO (INV.out.val j hj hl)) rfl
          · intro o ho listed vs a w' inv hun haft K hK
            obtain rfl := Option.some.inj ho
            refine par_run rfl ?_
            have hun' : ∀ h : listed.getD 23 true = true, False := fun h => by rw [hun] at h; cases h
            obtain ⟨e0, r0⟩ := inv.get haft 18 54 (by kernel_rfl) (by kernel_rfl)
            obtain ⟨e1, r1⟩ := inv.get haft 22 58 (by kernel_rfl) (by kernel_rfl)
            have INV := Lib.hid inv
            clear inv haft hun ho
            change vs 18 = .slice (some ⟨bb, off, none⟩) 1016 c at r0
            rw [r0] at e0
            have g0 := getD_opt e0
            change vs 22 = .int .i64 G at r1
            rw [r1] at e1
            have g1 := getD_opt e1
            have MO : ∀ k, listed.getD k true = true → (listed.setIfInBounds 23 true).getD k true = true := fun k h => set_mono h
            go_simp
            exact hK _ _ ⟨INV.out.inv.1, INV.out.inv.2.1, INV.out.inv.2.2.imp (MO _) id⟩ (fun j hj hl => qfE_keep (Mod.refl _ _) MO (INV.out.val j hj hl)) rfl
          · intro o ho listed vs a w' inv hun haft K hK
            obtain rfl := Option.some.inj ho
            refine par_run rfl ?_
            have hun' : ∀ h : listed.getD 24 true = true, False := fun h => by rw [hun] at h; cases h
            obtain ⟨e0, r0⟩ := inv.get haft 23 59 (by kernel_rfl) (by kernel_rfl)
            have INV := Lib.hid inv
            clear inv haft hun ho
            change vs 23 = .slice p3 (1016 - G) (c - G) at r0
            rw [r0] at e0
            have g0 := getD_opt e0
            have MO : ∀ k, listed.getD k true = true → (listed.setIfInBounds 24 true).getD k true = true := fun k h => set_mono h
            go_simp
            refine (HGC _ INV.out.inv.1).out.mono ?_
            rintro _ w3 ⟨_, rfl, rfl, rfl⟩
            have m3 := Mod.refl [] w3
            exact hK _ _ ⟨INV.out.inv.1.same m3, Nat.le_trans INV.out.inv.2.1 m3.size, INV.out.inv.2.2.imp (MO _) (fun h => h.mod m3 (by simp))⟩ (fun j hj hl => qfE_keep m3 MO (INV.out.val j hj hl)) rfl
          · intro o ho listed vs a w' inv hun haft K hK
            obtain rfl := Option.some.inj ho
            refine par_run rfl ?_
            have hun' : ∀ h : listed.getD 25 true = true, False := fun h => by rw [hun] at h; cases h
            obtain ⟨e0, r0⟩ := inv.get haft 24 60 (by kernel_rfl) (by kernel_rfl)
            have INV := Lib.hid inv
            clear inv haft hun ho
            change vs 24 = .int .u32 ct at r0
            rw [r0] at e0
            have g0 := getD_opt e0
            have MO : ∀ k, listed.getD k true = true → (listed.setIfInBounds 25 true).getD k true = true := fun k h => set_mono h
            go_simp
            exact hK _ _ ⟨INV.out.inv.1, INV.out.inv.2.1, INV.out.inv.2.2.imp (MO _) id⟩ (fun j hj hl => qfE_keep (Mod.refl _ _) MO (INV.out.val j hj hl)) rfl
          · intro o ho listed vs a w' inv hun haft K hK
            obtain rfl := Option.some.inj ho
            refine par_run rfl ?_
            have hun' : ∀ h : listed.getD 26 true = true, False := fun h => by rw [hun] at h; cases h
            obtain ⟨e0, r0⟩ := inv.get haft 9 45 (by kernel_rfl) (by kernel_rfl)
            obtain ⟨e1, r1⟩ := inv.get haft 17 53 (by kernel_rfl) (by kernel_rfl)
            obtain ⟨e2, r2⟩ := inv.get haft 25 61 (by kernel_rfl) (by kernel_rfl)
            have INV := Lib.hid inv
            clear inv haft hun ho
            change vs 9 = .string (strOfNums l1) at r0
            rw [r0] at e0
            have g0 := getD_opt e0
            change vs 17 = .int .i64 pg at r1
            rw [r1] at e1
            have g1 := getD_opt e1
            change vs 25 = .int .i64 ct at r2
            rw [r2] at e2
            have g2 := getD_opt e2
            have MO : ∀ k, listed.getD k true = true → (listed.setIfInBounds 26 true).getD k true = true := fun k h => set_mono h
            go_simp
            exact hK _ _ ⟨INV.out.inv.1, INV.out.inv.2.1, INV.out.inv.2.2.imp (MO _) id⟩ (fun j hj hl => qfE_keep (Mod.refl _ _) MO (INV.out.val j hj hl)) rfl
          · intro o ho listed vs a w' inv hun haft K hK
            obtain rfl := Option.some.inj ho
            refine par_run rfl ?_
            have hun' : ∀ h : listed.getD 27 true = true, False := fun h => by rw [hun] at h; cases h
            obtain ⟨e0, r0⟩ := inv.get haft 26 62 (by kernel_rfl) (by kernel_rfl)
            have INV := Lib.hid inv
            clear inv haft hun ho
            change vs 26 = .agg #[.string (strOfNums l1), .int .i64 pg, .int .i64 ct] at r0
            rw [r0] at e0
            have g0 := getD_opt e0
            have MO : ∀ k, listed.getD k true = true → (listed.setIfInBounds 27 true).getD k true = true := fun k h => set_mono h
            go_simp
            have m3 := Mod.of_alloc w' (.cells #[.string (strOfNums l1), .int .i64 pg, .int .i64 ct] 34)
            exact hK _ _ ⟨INV.out.inv.1.same m3, Nat.le_trans INV.out.inv.2.1 m3.size, INV.out.inv.2.2.imp (MO _) (fun h => h.mod m3 (by simp))⟩ (fun j hj hl => qfE_keep m3 MO (INV.out.val j hj hl)) ⟨w'.heap.size, rfl, Or.inr (sl_root w' l1 pg ct 34)⟩
          · intro o ho listed vs a w' inv hun haft K hK
            obtain rfl := Option.some.inj ho
            refine par_run rfl ?_
            have hun' : ∀ h : listed.getD 28 true = true, False := fun h => by rw [hun] at h; cases h
            obtain ⟨e0, r0⟩ := inv.get haft 0 36 (by kernel_rfl) (by kernel_rfl)
            obtain ⟨e1, r1⟩ := inv.get haft 27 63 (by kernel_rfl) (by kernel_rfl)
            have un28 : listed.getD 28 true = false := hun
            have un29 : listed.getD 29 true = false := inv.unlisted hun [28] 29 (by kernel_rfl)
            have INV := Lib.hid inv
            clear inv haft hun ho
            change vs 0 = .slice o m d at r0
            rw [r0] at e0
            have g0 := getD_opt e0
            have g1 := getD_opt e1
            have MO : ∀ k, listed.getD k true = true → (listed.setIfInBounds 28 true).getD k true = true := fun k h => set_mono h
            obtain ⟨B, h27, hB⟩ := r1
            have h27' := h27
            rw [h27] at g1 e1
            have hs := hB.resolve_left hun'
            have own := INV.out.inv.2.2.resolve_left hun'
            obtain ⟨p', c', w3, hr, ht', hm3, _⟩ := app_roots w' BB o m d rs own (some ⟨B, 0, none⟩) 1 1 [⟨l1, pg, ct⟩] hs (by omega) (by rw [HBB.out]; exact INV.out.inv.1.size)
            have M3 := Lib.hid (Tl.turned (w2 := w') own (by rw [HBB.out]) hm3 INV.out.inv.1)
            refine oper_append_run _ _ _ _ rfl _ _ _ _ (by simpa [Act.eval] using g0) (by simpa [Act.eval] using g1) hr ?_
            refine hK _ _ ⟨M3.out, Nat.le_trans INV.out.inv.2.1 hm3.size, Or.inl set_self⟩ (fun j hj hl => ?_) ⟨p', c', rfl, ht'⟩
            by_cases e27 : j = 27
            · subst e27; exact ⟨B, h27', Or.inl set_self⟩
            · exact qfE_val e27 (fun e => by subst e; rw [un28] at hl; cases hl) (fun e => by subst e; rw [un29] at hl; cases hl) (INV.out.val j hj hl)
          · intro o ho listed vs a w' inv hun haft K hK
            obtain rfl := Option.some.inj ho
            refine par_run rfl ?_
            have hun' : ∀ h : listed.getD 29 true = true, False := fun h => by rw [hun] at h; cases h
            obtain ⟨e0, r0⟩ := inv.get haft 28 64 (by kernel_rfl) (by kernel_rfl)
            have INV := Lib.hid inv
            clear inv haft hun ho
            have g0 := getD_opt e0
            have MO : ∀ k, listed.getD k true = true → (listed.setIfInBounds 29 true).getD k true = true := fun k h => set_mono h
            obtain ⟨p', c', h28, ht⟩ := r0
            rw [h28] at g0 e0
            have HT := Lib.hid ht
            clear ht h28
            go_simp
            exact hK _ _ ⟨INV.out.inv.1, INV.out.inv.2.1, INV.out.inv.2.2.imp (MO _) id⟩ (fun j hj hl => qfE_keep (Mod.refl _ _) MO (INV.out.val j hj hl)) ⟨p', c', rfl, HT.out⟩
          intro ls vs w2 X hall hm hr hslot hold hsize hdef
          have er := hslot 29 4 (by kernel_rfl)
          obtain ⟨p8, c8, h9, T9⟩ := hr 29 (by decide)
          rw [h9] at er
          clear h9
          have e0 := hold 0 (by kernel_rfl)
          have e1 := hold 1 (by kernel_rfl)
          have e2 := hold 2 (by kernel_rfl)
          have e3 := hold 3 (by kernel_rfl)
          have e5 := hold 5 (by kernel_rfl)
          have e6 := hold 6 (by kernel_rfl)
          have e7 := hold 7 (by kernel_rfl)
          have e8 := hold 8 (by kernel_rfl)
          have e9 := hold 9 (by kernel_rfl)
          have e10 := hold 10 (by kernel_rfl)
          have e11 := hold 11 (by kernel_rfl)
          have e12 := hold 12 (by kernel_rfl)
          have e13 := hold 13 (by kernel_rfl)
          have e14 := hold 14 (by kernel_rfl)
          have e15 := hold 15 (by kernel_rfl)
          have e16 := hold 16 (by kernel_rfl)
          have e17 := hold 17 (by kernel_rfl)
          have e18 := hold 18 (by kernel_rfl)
          have e19 := hold 19 (by kernel_rfl)
          have e20 := hold 20 (by kernel_rfl)
          have e21 := hold 21 (by kernel_rfl)
          have e22 := hold 22 (by kernel_rfl)
          have e23 := hold 23 (by kernel_rfl)
          have e24 := hold 24 (by kernel_rfl)
          have e25 := hold 25 (by kernel_rfl)
          have e26 := hold 26 (by kernel_rfl)
          have e27 := hold 27 (by kernel_rfl)
          have e28 := hold 28 (by kernel_rfl)
          have e29 := hold 29 (by kernel_rfl)
          have e30 := hold 30 (by kernel_rfl)
          have e31 := hold 31 (by kernel_rfl)
          have e32 := hold 32 (by kernel_rfl)
          have e33 := hold 33 (by kernel_rfl)
          have e34 := hold 34 (by kernel_rfl)
          have e35 := hold 35 (by kernel_rfl)
          have e65 := hold 65 (by kernel_rfl)
          have e66 := hold 66 (by kernel_rfl)
          have e67 := hold 67 (by kernel_rfl)
          have e68 := hold 68 (by kernel_rfl)
          have e69 := hold 69 (by kernel_rfl)
          have e70 := hold 70 (by kernel_rfl)
          have e71 := hold 71 (by kernel_rfl)
          have e72 := hold 72 (by kernel_rfl)
          have e73 := hold 73 (by kernel_rfl)
          have e74 := hold 74 (by kernel_rfl)
          have e75 := hold 75 (by kernel_rfl)
          have e76 := hold 76 (by kernel_rfl)
          have e77 := hold 77 (by kernel_rfl)
          have e78 := hold 78 (by kernel_rfl)
          have e79 := hold 79 (by kernel_rfl)
          have e80 := hold 80 (by kernel_rfl)
          have e81 := hold 81 (by kernel_rfl)
          have e82 := hold 82 (by kernel_rfl)
          have e83 := hold 83 (by kernel_rfl)
          have e84 := hold 84 (by kernel_rfl)
          have e85 := hold 85 (by kernel_rfl)
          have e86 := hold 86 (by kernel_rfl)
          have e87 := hold 87 (by kernel_rfl)
          have e88 := hold 88 (by kernel_rfl)
          simp only [Array.getD_eq_getD_getElem?, List.getElem?_toArray, List.getElem?_cons_zero, List.getElem?_cons_succ, Option.getD_some] at e0 e1 e2 e3 e5 e6 e7 e8 e9 e10 e11 e12 e13 e14 e15 e16 e17 e18 e19 e20 e21 e22 e23 e24 e25 e26 e27 e28 e29 e30 e31 e32 e33 e34 e35 e65 e66 e67 e68 e69 e70 e71 e72 e73 e74 e75 e76 e77 e78 e79 e80 e81 e82 e83 e84 e85 e86 e87 e88
          have MR := Lib.hid hm
          clear hr hslot hold hm
          obtain ⟨⟨xs⟩, df⟩ := X
          replace hdef : df = [] := hdef
          subst hdef
          replace hsize : xs.length = 89 := hsize
          obtain ⟨x0, xs0, rfl, hs0⟩ := cons_of hsize
          obtain ⟨x1, xs1, rfl, hs1⟩ := cons_of hs0
          obtain ⟨x2, xs2, rfl, hs2⟩ := cons_of hs1
          obtain ⟨x3, xs3, rfl, hs3⟩ := cons_of hs2
          obtain ⟨x4, xs4, rfl, hs4⟩ := cons_of hs3
          obtain ⟨x5, xs5, rfl, hs5⟩ := cons_of hs4
          obtain ⟨x6, xs6, rfl, hs6⟩ := cons_of hs5
          obtain ⟨x7, xs7, rfl, hs7⟩ := cons_of hs6
          obtain ⟨x8, xs8, rfl, hs8⟩ := cons_of hs7
          obtain ⟨x9, xs9, rfl, hs9⟩ := cons_of hs8
          obtain ⟨x10, xs10, rfl, hs10⟩ := cons_of hs9
          obtain ⟨x11, xs11, rfl, hs11⟩ := cons_of hs10
          obtain ⟨x12, xs12, rfl, hs12⟩ := cons_of hs11
          obtain ⟨x13, xs13, rfl, hs13⟩ := cons_of hs12
          obtain ⟨x14, xs14, rfl, hs14⟩ := cons_of hs13
          obtain ⟨x15, xs15, rfl, hs15⟩ := cons_of hs14
          obtain ⟨x16, xs16, rfl, hs16⟩ := cons_of hs15
          obtain ⟨x17, xs17, rfl, hs17⟩ := cons_of hs16
          obtain ⟨x18, xs18, rfl, hs18⟩ := cons_of hs17
          obtain ⟨x19, xs19, rfl, hs19⟩ := cons_of hs18
          obtain ⟨x20, xs20, rfl, hs20⟩ := cons_of hs19
          obtain ⟨x21, xs21, rfl, hs21⟩ := cons_of hs20
          obtain ⟨x22, xs22, rfl, hs22⟩ := cons_of hs21
          obtain ⟨x23, xs23, rfl, hs23⟩ := cons_of hs22
          obtain ⟨x24, xs24, rfl, hs24⟩ := cons_of hs23
          obtain ⟨x25, xs25, rfl, hs25⟩ := cons_of hs24
          obtain ⟨x26, xs26, rfl, hs26⟩ := cons_of hs25
          obtain ⟨x27, xs27, rfl, hs27⟩ := cons_of hs26
          obtain ⟨x28, xs28, rfl, hs28⟩ := cons_of hs27
          obtain ⟨x29, xs29, rfl, hs29⟩ := cons_of hs28
          obtain ⟨x30, xs30, rfl, hs30⟩ := cons_of hs29
          obtain ⟨x31, xs31, rfl, hs31⟩ := cons_of hs30
          obtain ⟨x32, xs32, rfl, hs32⟩ := cons_of hs31
          obtain ⟨x33, xs33, rfl, hs33⟩ := cons_of hs32
          obtain ⟨x34, xs34, rfl, hs34⟩ := cons_of hs33
          obtain ⟨x35, xs35, rfl, hs35⟩ := cons_of hs34
          obtain ⟨x36, xs36, rfl, hs36⟩ := cons_of hs35
          obtain ⟨x37, xs37, rfl, hs37⟩ := cons_of hs36
          obtain ⟨x38, xs38, rfl, hs38⟩ := cons_of hs37
          obtain ⟨x39, xs39, rfl, hs39⟩ := cons_of hs38
          obtain ⟨x40, xs40, rfl, hs40⟩ := cons_of hs39
          obtain ⟨x41, xs41, rfl, hs41⟩ := cons_of hs40
          obtain ⟨x42, xs42, rfl, hs42⟩ := cons_of hs41
          obtain ⟨x43, xs43, rfl, hs43⟩ := cons_of hs42
          obtain ⟨x44, xs44, rfl, hs44⟩ := cons_of hs43
          obtain ⟨x45, xs45, rfl, hs45⟩ := cons_of hs44
          obtain ⟨x46, xs46, rfl, hs46⟩ := cons_of hs45
          obtain ⟨x47, xs47, rfl, hs47⟩ := cons_of hs46
          obtain ⟨x48, xs48, rfl, hs48⟩ := cons_of hs47
          obtain ⟨x49, xs49, rfl, hs49⟩ := cons_of hs48
          obtain ⟨x50, xs50, rfl, hs50⟩ := cons_of hs49
          obtain ⟨x51, xs51, rfl, hs51⟩ := cons_of hs50
          obtain ⟨x52, xs52, rfl, hs52⟩ := cons_of hs51
          obtain ⟨x53, xs53, rfl, hs53⟩ := cons_of hs52
          obtain ⟨x54, xs54, rfl, hs54⟩ := cons_of hs53
          obtain ⟨x55, xs55, rfl, hs55⟩ := cons_of hs54
          obtain ⟨x56, xs56, rfl, hs56⟩ := cons_of hs55
          obtain ⟨x57, xs57, rfl, hs57⟩ := cons_of hs56
          obtain ⟨x58, xs58, rfl, hs58⟩ := cons_of hs57
          obtain ⟨x59, xs59, rfl, hs59⟩ := cons_of hs58
          obtain ⟨x60, xs60, rfl, hs60⟩ := cons_of hs59
          obtain ⟨x61, xs61, rfl, hs61⟩ := cons_of hs60
          obtain ⟨x62, xs62, rfl, hs62⟩ := cons_of hs61
          obtain ⟨x63, xs63, rfl, hs63⟩ := cons_of hs62
          obtain ⟨x64, xs64, rfl, hs64⟩ := cons_of hs63
          obtain ⟨x65, xs65, rfl, hs65⟩ := cons_of hs64
          obtain ⟨x66, xs66, rfl, hs66⟩ := cons_of hs65
          obtain ⟨x67, xs67, rfl, hs67⟩ := cons_of hs66
          obtain ⟨x68, xs68, rfl, hs68⟩ := cons_of hs67
          obtain ⟨x69, xs69, rfl, hs69⟩ := cons_of hs68
          obtain ⟨x70, xs70, rfl, hs70⟩ := cons_of hs69
          obtain ⟨x71, xs71, rfl, hs71⟩ := cons_of hs70
          obtain ⟨x72, xs72, rfl, hs72⟩ := cons_of hs71
          obtain ⟨x73, xs73, rfl, hs73⟩ := cons_of hs72
          obtain ⟨x74, xs74, rfl, hs74⟩ := cons_of hs73
          obtain ⟨x75, xs75, rfl, hs75⟩ := cons_of hs74
          obtain ⟨x76, xs76, rfl, hs76⟩ := cons_of hs75
          obtain ⟨x77, xs77, rfl, hs77⟩ := cons_of hs76
          obtain ⟨x78, xs78, rfl, hs78⟩ := cons_of hs77
          obtain ⟨x79, xs79, rfl, hs79⟩ := cons_of hs78
          obtain ⟨x80, xs80, rfl, hs80⟩ := cons_of hs79
          obtain ⟨x81, xs81, rfl, hs81⟩ := cons_of hs80
          obtain ⟨x82, xs82, rfl, hs82⟩ := cons_of hs81
          obtain ⟨x83, xs83, rfl, hs83⟩ := cons_of hs82
          obtain ⟨x84, xs84, rfl, hs84⟩ := cons_of hs83
          obtain ⟨x85, xs85, rfl, hs85⟩ := cons_of hs84
          obtain ⟨x86, xs86, rfl, hs86⟩ := cons_of hs85
          obtain ⟨x87, xs87, rfl, hs87⟩ := cons_of hs86
          obtain ⟨x88, xs88, rfl, hs88⟩ := cons_of hs87
          obtain rfl := List.eq_nil_of_length_eq_zero hs88
          clear hsize hs0 hs1 hs2 hs3 hs4 hs5 hs6 hs7 hs8 hs9 hs10 hs11 hs12 hs13 hs14 hs15 hs16 hs17 hs18 hs19 hs20 hs21 hs22 hs23 hs24 hs25 hs26 hs27 hs28 hs29 hs30 hs31 hs32 hs33 hs34 hs35 hs36 hs37 hs38 hs39 hs40 hs41 hs42 hs43 hs44 hs45 hs46 hs47 hs48 hs49 hs50 hs51 hs52 hs53 hs54 hs55 hs56 hs57 hs58 hs59 hs60 hs61 hs62 hs63 hs64 hs65 hs66 hs67 hs68 hs69 hs70 hs71 hs72 hs73 hs74 hs75 hs76 hs77 hs78 hs79 hs80 hs81 hs82 hs83 hs84 hs85 hs86 hs87 hs88
          rw [show (Array.mk (x0 :: x1 :: x2 :: x3 :: x4 :: x5 :: x6 :: x7 :: x8 :: x9 :: x10 :: x11 :: x12 :: x13 :: x14 :: x15 :: x16 :: x17 :: x18 :: x19 :: x20 :: x21 :: x22 :: x23 :: x24 :: x25 :: x26 :: x27 :: x28 :: x29 :: x30 :: x31 :: x32 :: x33 :: x34 :: x35 :: x36 :: x37 :: x38 :: x39 :: x40 :: x41 :: x42 :: x43 :: x44 :: x45 :: x46 :: x47 :: x48 :: x49 :: x50 :: x51 :: x52 :: x53 :: x54 :: x55 :: x56 :: x57 :: x58 :: x59 :: x60 :: x61 :: x62 :: x63 :: x64 :: x65 :: x66 :: x67 :: x68 :: x69 :: x70 :: x71 :: x72 :: x73 :: x74 :: x75 :: x76 :: x77 :: x78 :: x79 :: x80 :: x81 :: x82 :: x83 :: x84 :: x85 :: x86 :: x87 :: x88 :: []) : Array Value) = List.toArray (x0 :: x1 :: x2 :: x3 :: x4 :: x5 :: x6 :: x7 :: x8 :: x9 :: x10 :: x11 :: x12 :: x13 :: x14 :: x15 :: x16 :: x17 :: x18 :: x19 :: x20 :: x21 :: x22 :: x23 :: x24 :: x25 :: x26 :: x27 :: x28 :: x29 :: x30 :: x31 :: x32 :: x33 :: x34 :: x35 :: x36 :: x37 :: x38 :: x39 :: x40 :: x41 :: x42 :: x43 :: x44 :: x45 :: x46 :: x47 :: x48 :: x49 :: x50 :: x51 :: x52 :: x53 :: x54 :: x55 :: x56 :: x57 :: x58 :: x59 :: x60 :: x61 :: x62 :: x63 :: x64 :: x65 :: x66 :: x67 :: x68 :: x69 :: x70 :: x71 :: x72 :: x73 :: x74 :: x75 :: x76 :: x77 :: x78 :: x79 :: x80 :: x81 :: x82 :: x83 :: x84 :: x85 :: x86 :: x87 :: x88 :: []) from rfl]
          change x0 = _ at e0
          subst e0
          change x1 = _ at e1
          subst e1
          change x2 = _ at e2
          subst e2
          change x3 = _ at e3
          subst e3
          change x5 = _ at e5
          subst e5
          change x6 = _ at e6
          subst e6
          change x7 = _ at e7
          subst e7
          change x8 = _ at e8
          subst e8
          change x9 = _ at e9
          subst e9
          change x10 = _ at e10
          subst e10
          change x11 = _ at e11
          subst e11
          change x12 = _ at e12
          subst e12
          change x13 = _ at e13
          subst e13
          change x14 = _ at e14
          subst e14
          change x15 = _ at e15
          subst e15
          change x16 = _ at e16
          subst e16
          change x17 = _ at e17
          subst e17
          change x18 = _ at e18
          subst e18
          change x19 = _ at e19
          subst e19
          change x20 = _ at e20
          subst e20
          change x21 = _ at e21
          subst e21
          change x22 = _ at e22
          subst e22
          change x23 = _ at e23
          subst e23
          change x24 = _ at e24
          subst e24
          change x25 = _ at e25
          subst e25
          change x26 = _ at e26
          subst e26
          change x27 = _ at e27
          subst e27
          change x28 = _ at e28
          subst e28
          change x29 = _ at e29
          subst e29
          change x30 = _ at e30
          subst e30
          change x31 = _ at e31
          subst e31
          change x32 = _ at e32
          subst e32
          change x33 = _ at e33
          subst e33
          change x34 = _ at e34
          subst e34
          change x35 = _ at e35
          subst e35
          change x65 = _ at e65
          subst e65
          change x66 = _ at e66
          subst e66
          change x67 = _ at e67
          subst e67
          change x68 = _ at e68
          subst e68
          change x69 = _ at e69
          subst e69
          change x70 = _ at e70
          subst e70
          change x71 = _ at e71
          subst e71
          change x72 = _ at e72
          subst e72
          change x73 = _ at e73
          subst e73
          change x74 = _ at e74
          subst e74
          change x75 = _ at e75
          subst e75
          change x76 = _ at e76
          subst e76
          change x77 = _ at e77
          subst e77
          change x78 = _ at e78
          subst e78
          change x79 = _ at e79
          subst e79
          change x80 = _ at e80
          subst e80
          change x81 = _ at e81
          subst e81
          change x82 = _ at e82
          subst e82
          change x83 = _ at e83
          subst e83
          change x84 = _ at e84
          subst e84
          change x85 = _ at e85
          subst e85
          change x86 = _ at e86
          subst e86
          change x87 = _ at e87
          subst e87
          change x88 = _ at e88
          subst e88
          change x4 = .slice p8 (m + 1) c8 at er
          subst er
          have HT9 := Lib.hid T9
          have HMR := Lib.hid MR.1
          clear T9 MR hall
          by_cases hend : T = 1016
          · have HNO : Hid (¬ ∃ qs, (∀ x ∈ qs, WfL x.l) ∧ GoodR b qs) := HLONG.out _ _ _ HPN.out (by omega) (by rw [← HTN.out]; omega)
            have hge : (1016 : Int) ≤ (T : Int) := by omega
            clear hend
            go_wp2
            go_ret2
            exact .mk (Or.inr ⟨HNO.out, rfl, HMR.out⟩)
          · have hge : ¬ ((1016 : Int) ≤ (T : Int)) := by omega
            have hlt2 : (T : Int) < 1016 := by omega
            go_wp2
            go_roundw
            case rel => exact ⟨m + 1, m + 1, c8, T, p8, rs ++ [⟨l1, pg, ct⟩], by omega, by omega, by go_num, rfl, rfl, by omega, HTN.out, HPN.out, by simp [HLN.out], by
              have := HT9.out
              rw [HBB.out] at this
              exact this, HMR.out⟩
            case measure => simp [intOf]; omega
        · have HNO : Hid (¬ ∃ qs, (∀ x ∈ qs, WfL x.l) ∧ GoodR b qs) := HGN.out m hl1 (by
            rw [parse_succ HP.out, if_neg (fun h => by have := h.2; rw [hkn, hrl] at this; omega)])
          have hyes : (1016 : Int) < (T : Int) := by omega
          clear hk hkn hrl hT hok
          go_wp2
          go_ret2
          exact .mk (Or.inr ⟨HNO.out, rfl, HM.out⟩)
      · have RI : Hid (RtsIn wr o m d rs) := ⟨OT.out.sl, HV1.out⟩
        have HPAY := Lib.hid (qrpay_any o m d rs wr RI.out)
        unfold RPayR at HPAY
        have HGI1 : Hid ((∃ qs, (∀ x ∈ qs, WfL x.l) ∧ GoodR b qs) → GoodR b rs) := HGI.out m rs _ HP.out (by omega)
        have hcase : ¬ (m < x) ∨ (m < x ∧ ¬ (m < 13)) := by omega
        clear hlt
        rcases hcase with hlt | ⟨hlt, hlt2⟩
        · go_wp2_with fail
          refine HPAY.out.mono ?_
          rintro _ w2 ⟨_, rfl, p7, n7, c7, rfl, e7, z7, t7, m7⟩
          have E7 := Lib.hid e7
          have T7 := Lib.hid t7
          have M7 := Lib.hid m7
          have RI2 := Lib.hid (RI.out.mod0 m7)
          have HM7 := Lib.hid (HM.out.same m7)
          clear e7 z7 t7 m7 HPAY
          by_cases hmay : mayR rs = true
          · have HPV : Hid (payRs rs = rootsBytes rs) := if_pos hmay
            rw [HPV.out] at E7 T7
            have hn7 : n7 ≤ 401 := by rw [E7.out]; exact rootsBytes_len hmay
            have hn70 : 0 < n7 := by rw [E7.out]; simp [rootsBytes]
            have hz7 : ((n7 : Int) == 0) = false := by simp; omega
            have HGD : Hid (rootsBytes rs ++ List.replicate (1016 - n7) 0 = b → GoodR b rs) := fun h => ⟨hmay, by rw [← E7.out]; exact h.symm⟩
            have HGD2 : Hid (GoodR b rs → rootsBytes rs ++ List.replicate (1016 - n7) 0 = b) := fun h => by rw [E7.out]; exact h.2.symm
            generalize rootsBytes rs = PP at *
            obtain ⟨BS, hBS⟩ : ∃ BS, BS = wr.heap.size := ⟨_, rfl⟩
            have HBS := Lib.hid hBS
            rw [← hBS] at T7
            clear hBS
            generalize wr = w0 at *
            go_wp2
            go_loopw [8] (fun o wz => ∃ (m e : Nat) (u : Option Addr), m ≤ 1016 ∧ o = .slice u m e ∧ n7 ≤ m ∧ Tl wz BS 1 u m e (bs (PP ++ List.replicate (m - n7) 0)) ∧ Mod [] w0 wz) (fun o _ => match o with | .slice _ m _ => 1016 - m | _ => 0)
            case atStart => exact ⟨n7, c7, p7, by omega, rfl, Nat.le_refl _, by simpa using T7.out, M7.out⟩
            case round =>
              clear T7 M7
              obtain ⟨y, e, u, hy, rfl, hny, ht, hmd⟩ := hrel
              have OT3 := Lib.hid ht
              have MC := Lib.hid hmd
              clear ht hmd
              by_cases hlt : y < 1016
              · have OT4 : Hid (Tl (wr.alloc (.cells #[.int .u8 0] 5)) BS 1 u y e (bs (PP ++ List.replicate (y - n7) 0))) := OT3.out.mod (Mod.of_alloc wr _) (by simp)
                have MC2 : Hid (Mod [] w0 (wr.alloc (.cells #[.int .u8 0] 5))) := MC.out.alloc
                have HS5 : Hid (Sl (wr.alloc (.cells #[.int .u8 0] 5)) 1 (some ⟨wr.heap.size, 0, none⟩) 1 1 [.int .u8 0]) := Sl.one_new wr _ _ rfl
                have hs2 : BS ≤ (wr.alloc (.cells #[.int .u8 0] 5)).heap.size := by rw [HBS.out]; exact MC2.out.size
                go_wp2_with (first
                  | (at_builtin; go_must (refine wpList_append_tl _ rfl _ _ _ rfl BS 5 i0 _ 1 1 Tryd.underlying23 hi0 hz0 hz1 hz2 rfl (by omega) _ _ _ _ rfl OT4.out _ _ _ _ rfl HS5.out (y + 1) rfl (by unfold maxLen; omega) (by omega) hs2 ?_); intro p9 c9 w9 ht9 hm9 hnil9 hor9; (have OT9 := Lib.hid ht9); (have MC9 := Lib.hid (OT4.out.turned (w2 := w) (w0 := w0) HBS.out.symm hm9 MC2.out)); clear ht9 hm9 hnil9 hor9)
                  | go_in)
                go_roundw
                case rel => exact ⟨y + 1, c9, p9, by omega, rfl, by omega, by
                  have := OT9.out
                  rw [show y + 1 - n7 = (y - n7) + 1 from by omega, List.replicate_succ', ← List.append_assoc, bs_append]
                  exact this, MC9.out⟩
                case measure => show 1016 - (y + 1) < 1016 - y; omega
              · obtain rfl : y = 1016 := by omega
                have HB1 := Lib.hid (HB.out.sl.mod (HM.out.same MC.out) (by simp))
                go_wp2_with fail
                refine (qsame_any _ _ _ _ _ _ (PP ++ List.replicate (1016 - n7) 0) b _ OT3.out.sl HB1.out).mono ?_
                rintro _ w10 ⟨_, rfl, rfl, hm10⟩
                have MC10 : Hid (Mod [] w0 w10) := MC.out.same hm10
                clear hm10
                obtain ⟨D, hD⟩ : ∃ D, D = decide (PP ++ List.replicate (1016 - n7) 0 = b) := ⟨_, rfl⟩
                rw [← hD]
                have HD := Lib.hid hD
                clear hD
                cases D with
                | false =>
                  have HNO : Hid (¬ ∃ qs, (∀ x ∈ qs, WfL x.l) ∧ GoodR b qs) := fun h => by
                    have h2 := HD.out
                    rw [decide_eq_true (HGD2.out (HGI1.out h))] at h2; cases h2
                  go_wp2
                  go_ret2
                  exact .mk (Or.inr ⟨HNO.out, rfl, HM.out.same MC10.out⟩)
                | true =>
                  have HG : Hid (GoodR b rs) := HGD.out (of_decide_eq_true HD.out.symm)
                  go_wp2
                  go_ret2
                  exact .mk (Or.inl ⟨rs, HV1.out, HG.out, o, _, d, rfl, RI.out.mod0 MC10.out, HM.out.same MC10.out⟩)
          · have HPV : Hid (payRs rs = []) := if_neg hmay
            have HNO : Hid (¬ ∃ qs, (∀ x ∈ qs, WfL x.l) ∧ GoodR b qs) := fun h => hmay (HGI1.out h).1
            rw [HPV.out] at E7
            obtain rfl : n7 = 0 := E7.out
            clear E7
            go_wp2
            go_ret2
            exact .mk (Or.inr ⟨HNO.out, rfl, HM7.out⟩)
        · go_wp2_with fail
          refine HPAY.out.mono ?_
          rintro _ w2 ⟨_, rfl, p7, n7, c7, rfl, e7, z7, t7, m7⟩
          have E7 := Lib.hid e7
          have T7 := Lib.hid t7
          have M7 := Lib.hid m7
          have RI2 := Lib.hid (RI.out.mod0 m7)
          have HM7 := Lib.hid (HM.out.same m7)
          clear e7 z7 t7 m7 HPAY
          by_cases hmay : mayR rs = true
          · have HPV : Hid (payRs rs = rootsBytes rs) := if_pos hmay
            rw [HPV.out] at E7 T7
            have hn7 : n7 ≤ 401 := by rw [E7.out]; exact rootsBytes_len hmay
            have hn70 : 0 < n7 := by rw [E7.out]; simp [rootsBytes]
            have hz7 : ((n7 : Int) == 0) = false := by simp; omega
            have HGD : Hid (rootsBytes rs ++ List.replicate (1016 - n7) 0 = b → GoodR b rs) := fun h => ⟨hmay, by rw [← E7.out]; exact h.symm⟩
            have HGD2 : Hid (GoodR b rs → rootsBytes rs ++ List.replicate (1016 - n7) 0 = b) := fun h => by rw [E7.out]; exact h.2.symm
            generalize rootsBytes rs = PP at *
            obtain ⟨BS, hBS⟩ : ∃ BS, BS = wr.heap.size := ⟨_, rfl⟩
            have HBS := Lib.hid hBS
            rw [← hBS] at T7
            clear hBS
            generalize wr = w0 at *
            go_wp2
            go_loopw [8] (fun o wz => ∃ (m e : Nat) (u : Option Addr), m ≤ 1016 ∧ o = .slice u m e ∧ n7 ≤ m ∧ Tl wz BS 1 u m e (bs (PP ++ List.replicate (m - n7) 0)) ∧ Mod [] w0 wz) (fun o _ => match o with | .slice _ m _ => 1016 - m | _ => 0)
            case atStart => exact ⟨n7, c7, p7, by omega, rfl, Nat.le_refl _, by simpa using T7.out, M7.out⟩
            case round =>
              clear T7 M7
              obtain ⟨y, e, u, hy, rfl, hny, ht, hmd⟩ := hrel
              have OT3 := Lib.hid ht
              have MC := Lib.hid hmd
              clear ht hmd
              by_cases hlt : y < 1016
              · have OT4 : Hid (Tl (wr.alloc (.cells #[.int .u8 0] 5)) BS 1 u y e (bs (PP ++ List.replicate (y - n7) 0))) := OT3.out.mod (Mod.of_alloc wr _) (by simp)
                have MC2 : Hid (Mod [] w0 (wr.alloc (.cells #[.int .u8 0] 5))) := MC.out.alloc
                have HS5 : Hid (Sl (wr.alloc (.cells #[.int .u8 0] 5)) 1 (some ⟨wr.heap.size, 0, none⟩) 1 1 [.int .u8 0]) := Sl.one_new wr _ _ rfl
                have hs2 : BS ≤ (wr.alloc (.cells #[.int .u8 0] 5)).heap.size := by rw [HBS.out]; exact MC2.out.size
                go_wp2_with (first
                  | (at_builtin; go_must (refine wpList_append_tl _ rfl _ _ _ rfl BS 5 i0 _ 1 1 Tryd.underlying23 hi0 hz0 hz1 hz2 rfl (by omega) _ _ _ _ rfl OT4.out _ _ _ _ rfl HS5.out (y + 1) rfl (by unfold maxLen; omega) (by omega) hs2 ?_); intro p9 c9 w9 ht9 hm9 hnil9 hor9; (have OT9 := Lib.hid ht9); (have MC9 := Lib.hid (OT4.out.turned (w2 := w) (w0 := w0) HBS.out.symm hm9 MC2.out)); clear ht9 hm9 hnil9 hor9)
                  | go_in)
                go_roundw
                case rel => exact ⟨y + 1, c9, p9, by omega, rfl, by omega, by
                  have := OT9.out
                  rw [show y + 1 - n7 = (y - n7) + 1 from by omega, List.replicate_succ', ← List.append_assoc, bs_append]
                  exact this, MC9.out⟩
                case measure => show 1016 - (y + 1) < 1016 - y; omega
              · obtain rfl : y = 1016 := by omega
                have HB1 := Lib.hid (HB.out.sl.mod (HM.out.same MC.out) (by simp))
                go_wp2_with fail
                refine (qsame_any _ _ _ _ _ _ (PP ++ List.replicate (1016 - n7) 0) b _ OT3.out.sl HB1.out).mono ?_
                rintro _ w10 ⟨_, rfl, rfl, hm10⟩
                have MC10 : Hid (Mod [] w0 w10) := MC.out.same hm10
                clear hm10
                obtain ⟨D, hD⟩ : ∃ D, D = decide (PP ++ List.replicate (1016 - n7) 0 = b) := ⟨_, rfl⟩
                rw [← hD]
                have HD := Lib.hid hD
                clear hD
                cases D with
                | false =>
                  have HNO : Hid (¬ ∃ qs, (∀ x ∈ qs, WfL x.l) ∧ GoodR b qs) := fun h => by
                    have h2 := HD.out
                    rw [decide_eq_true (HGD2.out (HGI1.out h))] at h2; cases h2
                  go_wp2
                  go_ret2
                  exact .mk (Or.inr ⟨HNO.out, rfl, HM.out.same MC10.out⟩)
                | true =>
                  have HG : Hid (GoodR b rs) := HGD.out (of_decide_eq_true HD.out.symm)
                  go_wp2
                  go_ret2
                  exact .mk (Or.inl ⟨rs, HV1.out, HG.out, o, _, d, rfl, RI.out.mod0 MC10.out, HM.out.same MC10.out⟩)
          · have HPV : Hid (payRs rs = []) := if_neg hmay
            have HNO : Hid (¬ ∃ qs, (∀ x ∈ qs, WfL x.l) ∧ GoodR b qs) := fun h => hmay (HGI1.out h).1
            rw [HPV.out] at E7
            obtain rfl : n7 = 0 := E7.out
            clear E7
            go_wp2
            go_ret2
            exact .mk (Or.inr ⟨HNO.out, rfl, HM7.out⟩)
  · have HNO : Hid (¬ ∃ rs, (∀ x ∈ rs, WfL x.l) ∧ GoodR b rs) := by
      rintro ⟨rs, _, hg⟩
      apply hn
      rw [← h.len, hg.2]
      have := hg.size
      simp; omega
    have hne : ((n : Int) != 1016) = true := by simp; omega
    clear hn h
    go_enter Tryd.func10, Tryd.ntmps10
    go_wp2
    go_ret2
    exact .mk (Or.inr ⟨HNO.out, rfl, Mod.refl _ _⟩)
end Go.Proofs.YtpdkkokgpdabhaaDoor
