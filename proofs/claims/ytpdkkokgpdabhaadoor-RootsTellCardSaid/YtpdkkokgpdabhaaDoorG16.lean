/- Roots: which bytes are a list of roots' page, plainly. bytes.HasPrefix. Roots: the program's FromPay. -/
import Derived.Handy
import Derived.Test.YtpdkkokgpdabhaaDoorG15
import Derived.Test.YtpdkkokgpdabhaaDoorG03
namespace Go.Proofs.YtpdkkokgpdabhaaDoor
open Go.RowKit Go.Maps
set_option linter.unusedSimpArgs false
set_option linter.unusedVariables false

def GoodR (b : List Int) (rs : List Rt) : Prop := mayR rs = true ∧ b = rootsBytes rs ++ List.replicate (1016 - (rootsBytes rs).length) 0
def parseI (b : List Int) : Nat → Option (List Rt × List Int)
  | 0 => some ([], b.drop 5)
  | i + 1 => (parseI b i).bind fun x => if OneOk x.2 then some (x.1 ++ [oneRt x.2], x.2.drop (9 + kN x.2)) else none
theorem GoodR.count {b : List Int} {rs : List Rt} (h : GoodR b rs) : b.getD 4 0 = (rs.length : Int) ∧ rs.length ≤ 12 := by
  refine ⟨?_, mayR_len h.1⟩
  rw [h.2]; simp [rootsBytes]
theorem GoodR.size {b : List Int} {rs : List Rt} (h : GoodR b rs) : (rootsBytes rs).length ≤ 401 := rootsBytes_len h.1
theorem un4_be' {v : Int} (a r : List Int) (h0 : 0 ≤ v) (h1 : v < 4294967296) {k : Nat} (hk : k = a.length) : un4 ((a ++ (be 4 v ++ r)).drop k) 4 = v := by
  subst hk; rw [List.drop_left]; exact un4_be r h0 h1
theorem root_read {r : Rt} {t : List Int} (hok : r.ok = true) (hw : WfL r.l) : OneOk (rootBytes r ++ t) ∧ oneRt (rootBytes r ++ t) = r ∧ kN (rootBytes r ++ t) = r.l.length ∧ (rootBytes r ++ t).drop (9 + r.l.length) = t := by
  obtain ⟨⟨h1, h2⟩, ⟨h3, h4⟩, ⟨h5, h6⟩⟩ := ok_spec hok
  have hk : kN (rootBytes r ++ t) = r.l.length := by unfold kN rootBytes; simp
  refine ⟨⟨by simp [rootBytes], by rw [hk, List.length_append, rootBytes_len]; omega⟩, ?_, hk, ?_⟩
  · unfold oneRt
    rw [hk]
    have e1 : ((rootBytes r ++ t).drop 1).take r.l.length = r.l := by
      unfold rootBytes
      show (r.l ++ (be 4 r.page ++ be 4 r.count) ++ t).take r.l.length = r.l
      rw [List.append_assoc, List.take_left]
    have e2 : un4 ((rootBytes r ++ t).drop (1 + r.l.length)) 4 = r.page := by
      have : rootBytes r ++ t = ((r.l.length : Int) :: r.l) ++ (be 4 r.page ++ (be 4 r.count ++ t)) := by simp [rootBytes]
      rw [this]
      exact un4_be' _ _ h3 (by omega) (by simp; omega)
    have e3 : un4 ((rootBytes r ++ t).drop (5 + r.l.length)) 4 = r.count := by
      have : rootBytes r ++ t = ((r.l.length : Int) :: (r.l ++ be 4 r.page)) ++ (be 4 r.count ++ t) := by simp [rootBytes]
      rw [this]
      exact un4_be' _ _ h5 (by omega) (by simp [be_len]; omega)
    rw [e1, e2, e3]
  · exact List.drop_left' (by rw [rootBytes_len]; omega)
theorem GoodR.parse {b : List Int} {rs : List Rt} (h : GoodR b rs) (hw : ∀ r ∈ rs, WfL r.l) : ∀ i, i ≤ rs.length → parseI b i = some (rs.take i, (rs.drop i).flatMap rootBytes ++ List.replicate (1016 - (rootsBytes rs).length) 0)
  | 0, _ => by
    unfold parseI
    rw [h.2]
    have e : rootsBytes rs ++ List.replicate (1016 - (rootsBytes rs).length) 0 = [67, 82, 79, 79, (rs.length : Int)] ++ (rs.flatMap rootBytes ++ List.replicate (1016 - (rootsBytes rs).length) 0) := by
      conv => lhs; arg 1; unfold rootsBytes
      rw [List.append_assoc]
    rw [e]; rfl
  | i + 1, hi => by
    have ih := GoodR.parse h hw i (by omega)
    unfold parseI
    rw [ih]
    simp only [Option.bind_some]
    have hd : rs.drop i = rs[i] :: rs.drop (i + 1) := List.drop_eq_getElem_cons (by omega)
    have hok := mayR_ok h.1 (i := i) (by omega)
    rw [List.getD_eq_getElem?_getD, List.getElem?_eq_getElem (by omega), Option.getD_some] at hok
    have e : (rs.drop i).flatMap rootBytes ++ List.replicate (1016 - (rootsBytes rs).length) 0 = rootBytes rs[i] ++ ((rs.drop (i + 1)).flatMap rootBytes ++ List.replicate (1016 - (rootsBytes rs).length) 0) := by
      rw [hd, List.flatMap_cons, List.append_assoc]
    obtain ⟨g1, g2, g3, g4⟩ := root_read (t := (rs.drop (i + 1)).flatMap rootBytes ++ List.replicate (1016 - (rootsBytes rs).length) 0) hok (hw _ (List.getElem_mem _))
    rw [e, if_pos g1, g2, g3, g4, List.take_succ_eq_append_getElem (by omega)]
/-- Where what has been read begins and ends. -/
theorem parse_len {b : List Int} : ∀ {i : Nat} {rs : List Rt} {r : List Int}, parseI b i = some (rs, r) → rs.length = i ∧ r = b.drop (5 + (rs.flatMap rootBytes).length) ∧ (∀ x ∈ rs, x.l.length ≤ b.length)
  | 0, rs, r, h => by
    unfold parseI at h
    injection h with h
    injection h with h1 h2
    subst h1; subst h2
    exact ⟨rfl, rfl, by simp⟩
  | i + 1, rs, r, h => by
    unfold parseI at h
    cases hp : parseI b i with
    | none => rw [hp] at h; cases h
    | some x =>
      obtain ⟨qs, q⟩ := x
      rw [hp] at h
      simp only [Option.bind_some] at h
      obtain ⟨h1, h2, h3⟩ := parse_len hp
      by_cases hok : OneOk q
      · rw [if_pos hok] at h
        injection h with h
        injection h with e1 e2
        subst e1; subst e2
        have hl : (oneRt q).l.length = kN q := by unfold oneRt; simp; have := hok.2; omega
        refine ⟨by simp [h1], ?_, fun x hx => ?_⟩
        · rw [List.flatMap_append, List.length_append]
          simp only [List.flatMap_cons, List.flatMap_nil, List.append_nil, rootBytes_len, hl]
          rw [h2, List.drop_drop]
          congr 1; omega
        · rcases List.mem_append.1 hx with hx | hx
          · exact h3 x hx
          · simp at hx; subst hx
            rw [hl]
            have h9 := hok.2
            have hq : q.length ≤ b.length := by rw [h2, List.length_drop]; omega
            omega
      · rw [if_neg hok] at h; cases h
theorem drop_wf {b : List Int} (h : ∀ x ∈ b, 0 ≤ x ∧ x < 256) {k : Nat} : ∀ x ∈ b.drop k, 0 ≤ x ∧ x < 256 := fun x hx => h x (List.mem_of_mem_drop hx)
theorem oneRt_wf {l : List Int} (h : ∀ x ∈ l, 0 ≤ x ∧ x < 256) (hl : l.length ≤ 1000000000000000) : (oneRt l).wf :=
  ⟨fun x hx => h x (List.mem_of_mem_drop (List.mem_of_mem_take hx)), by unfold oneRt; simp; omega⟩
theorem parse_wf {b : List Int} (hb : ∀ x ∈ b, 0 ≤ x ∧ x < 256) (hl : b.length ≤ 1000000) : ∀ {i : Nat} {rs : List Rt} {r : List Int}, parseI b i = some (rs, r) → (∀ x ∈ rs, x.wf) ∧ (∀ x ∈ r, 0 ≤ x ∧ x < 256) ∧ r.length ≤ 1000000
  | 0, rs, r, h => by
    unfold parseI at h
    injection h with h
    injection h with h1 h2
    subst h1; subst h2
    exact ⟨by simp, drop_wf hb, by rw [List.length_drop]; omega⟩
  | i + 1, rs, r, h => by
    unfold parseI at h
    cases hp : parseI b i with
    | none => rw [hp] at h; cases h
    | some x =>
      obtain ⟨qs, q⟩ := x
      rw [hp] at h
      simp only [Option.bind_some] at h
      obtain ⟨h1, h2, h3⟩ := parse_wf hb hl hp
      by_cases hok : OneOk q
      · rw [if_pos hok] at h
        injection h with h
        injection h with e1 e2
        subst e1; subst e2
        refine ⟨fun x hx => ?_, drop_wf h2, by rw [List.length_drop]; omega⟩
        rcases List.mem_append.1 hx with hx | hx
        · exact h1 x hx
        · simp at hx; subst hx; exact oneRt_wf h2 (by omega)
      · rw [if_neg hok] at h; cases h
/-- What the program asks, is what makes it good. -/
theorem good_iff {b : List Int} (hl : b.length = 1016) {i : Nat} {rs : List Rt} {r : List Int} (hp : parseI b i = some (rs, r)) (hi : b.getD 4 0 = (i : Int) ∨ 13 ≤ b.getD 4 0) :
    (∃ qs, (∀ x ∈ qs, WfL x.l) ∧ GoodR b qs) → GoodR b rs := by
  rintro ⟨qs, hw, hg⟩
  obtain ⟨c1, c2⟩ := hg.count
  rcases hi with hi | hi
  · have hil : i = qs.length := by omega
    have := hg.parse hw i (by omega)
    rw [hp] at this
    injection this with this
    injection this with e1 e2
    rw [e1, hil, List.take_length]; exact hg
  · omega
/-- A page that isn't read isn't good. -/
theorem good_none {b : List Int} {i : Nat} (hp : parseI b (i + 1) = none) (hi : ((i + 1 : Nat) : Int) ≤ b.getD 4 0) : ¬ ∃ qs, (∀ x ∈ qs, WfL x.l) ∧ GoodR b qs := by
  rintro ⟨qs, hw, hg⟩
  obtain ⟨c1, c2⟩ := hg.count
  have := hg.parse hw (i + 1) (by omega)
  rw [hp] at this; cases this
/-- What is read makes the page, where its bytes begin it and zeros are left. -/
theorem good_of {b : List Int} (hl : b.length = 1016) {i : Nat} {rs : List Rt} {r : List Int} (hp : parseI b i = some (rs, r)) (hm : mayR rs = true) (hpre : rootsBytes rs <+: b) (hz : ∀ x ∈ r, x = 0) : GoodR b rs := by
  obtain ⟨h1, h2, _⟩ := parse_len hp
  refine ⟨hm, ?_⟩
  obtain ⟨t, ht⟩ := hpre
  have hlen : (rootsBytes rs).length = 5 + (rs.flatMap rootBytes).length := by unfold rootsBytes; rw [List.length_append]; rfl
  have ht2 : t = r := by rw [h2, ← ht, ← hlen, List.drop_left]
  rw [← ht, ht2]
  congr 1
  rw [List.eq_replicate_iff]
  refine ⟨?_, hz⟩
  have := congrArg List.length ht
  rw [List.length_append, hl, ht2] at this
  omega
theorem GoodR.rest {b : List Int} (hl : b.length = 1016) {rs : List Rt} {r : List Int} {i : Nat} (hp : parseI b i = some (rs, r)) (h : GoodR b rs) : ∀ x ∈ r, x = 0 := by
  obtain ⟨h1, h2, _⟩ := parse_len hp
  have hlen : (rootsBytes rs).length = 5 + (rs.flatMap rootBytes).length := by unfold rootsBytes; rw [List.length_append]; rfl
  have : r = List.replicate (1016 - (rootsBytes rs).length) 0 := by
    rw [h2, ← hlen]
    conv => lhs; rw [h.2]
    rw [List.drop_left]
  rw [this]
  intro x hx; exact List.eq_of_mem_replicate hx
theorem GoodR.prefix_ {b : List Int} {rs : List Rt} (h : GoodR b rs) : rootsBytes rs <+: b := ⟨_, h.2.symm⟩
theorem parse_succ {b : List Int} {i : Nat} {rs : List Rt} {r : List Int} (hp : parseI b i = some (rs, r)) : parseI b (i + 1) = if OneOk r then some (rs ++ [oneRt r], r.drop (9 + kN r)) else none := by
  conv => lhs; unfold parseI
  rw [hp]; rfl
/-- What both sides tell of a page. -/
def FromRes (b : List Int) (w : World) (v : Value) (w' : World) : Prop :=
  (∃ rs, (∀ x ∈ rs, x.wf) ∧ GoodR b rs ∧ ∃ p n c, v = .tuple #[.slice p n c, .int .i64 0] ∧ RtsIn w' p n c rs ∧ Mod [] w w') ∨
  ((¬ ∃ rs, (∀ x ∈ rs, WfL x.l) ∧ GoodR b rs) ∧ v = .tuple #[.slice none 0 0, .int .i64 5] ∧ Mod [] w w')
end Go.Proofs.YtpdkkokgpdabhaaDoor
namespace Go.Proofs.YtpdkkokgpdabhaaDoor
open Go.RowKit Go.Maps
set_option linter.unusedSimpArgs false
set_option linter.unusedVariables false

set_option maxRecDepth 100000 in
theorem hasprefix_any (p q : Option Addr) (n m c d : Nat) (l k : List Int) (w : World) (h1 : BytesIn w p n c l) (h2 : BytesIn w q m d k) :
    Calls Tryd.prog 25 #[.slice p n c, .slice q m d] w (Ret (EqB (decide (l.take k.length = k)) w)) := by
  have e1 := h1.len; have e2 := h2.len
  have HB : Hid (m ≤ n → decide (l.take m = k) = decide (l.take k.length = k)) := fun _ => by rw [e2]
  have HB0 : Hid (¬ m ≤ n → decide (l.take k.length = k) = false) := fun h => decide_eq_false fun e => h (by
    have := congrArg List.length e; rw [List.length_take] at this; omega)
  obtain ⟨B, hB⟩ : ∃ B, B = decide (l.take k.length = k) := ⟨_, rfl⟩
  rw [← hB] at HB HB0 ⊢
  have hc := h1.sl.capm; have hc2 := h1.sl.le
  unfold maxLen at hc
  have H1 := Lib.hid h1; have H2 := Lib.hid h2
  clear h1 h2 hB e1 e2
  by_cases hmn : m ≤ n
  · have hb : decide (m ≤ n) = true := decide_eq_true hmn
    obtain ⟨r1, s1⟩ := H1.out.sl.sub_h Tryd.underlying23 sizeBytes m .i64 hmn
    have HS : Hid (BytesIn w p m c (l.take m)) := ⟨by rw [Nat.mul_one] at s1; simpa [bs, List.map_take] using s1, fun x hx => H1.out.wf x (List.mem_of_mem_take hx)⟩
    have HB' := Lib.hid (HB.out hmn)
    clear s1
    go_enter Tryd.func25, Tryd.ntmps25
    go_wp2_with fail
    refine (equal_any p q m m c d (l.take m) k _ HS.out H2.out).mono ?_
    rintro _ w1 ⟨_, rfl, rfl, rfl⟩
    rw [HB'.out]
    go_wp2
    go_ret
    exact .mk ⟨rfl, rfl⟩
  · have hb : decide (m ≤ n) = false := decide_eq_false hmn
    have HB' := Lib.hid (HB0.out hmn)
    go_enter Tryd.func25, Tryd.ntmps25
    go_wp2
    go_ret
    exact .mk ⟨by rw [HB'.out]; rfl, rfl⟩
end Go.Proofs.YtpdkkokgpdabhaaDoor
namespace Go.Proofs.YtpdkkokgpdabhaaDoor
open Go.RowKit Go.Maps
set_option linter.unusedSimpArgs false
set_option linter.unusedVariables false

set_option maxRecDepth 100000 in
set_option maxHeartbeats 8000000 in
theorem rfrom_any (p : Option Addr) (n c : Nat) (b : List Int) (w : World) (h : BytesIn w p n c b) : Calls Tryd.prog 9 #[.slice p n c] w (Ret (FromRes b w)) := by
  by_cases hn : n = 1016
  · subst hn
    have hbl := h.len
    have hle := h.sl.le
    have hcm := h.sl.capm
    unfold maxLen at hcm
    obtain ⟨bb, off, hp, hblt, hcs⟩ := h.sl.addr (by omega)
    have hx4 : 0 ≤ b.getD 4 0 ∧ b.getD 4 0 < 256 := by rw [getD_at (by omega)]; exact h.wf _ (List.getElem_mem _)
    have d4 := hcs 4 _ (bs_get (by omega))
    obtain ⟨p5, r5, s5, b5⟩ := h.sl.sub_l Tryd.underlying23 sizeBytes 5 .i64 (by omega)
    have r5' : ∀ W, (Instr.slice 23 (.slice p 1016 c) (some (.int .i64 5)) none none).run Tryd.prog W = .ok (.slice p5 1011 (c - 5)) W := r5
    have HS5 : Hid (Sl w 1 p5 1011 (c - 5) (bs (b.drop 5))) := by simpa [Hid, bs, List.map_drop] using s5
    have hi4 := fun W => Sl.idx (P := Tryd.prog) (cap := c) (m := 1016) (size := 1) Tryd.underlying23 sizeBytes (fun _ => hp) W .i64 4 (by omega)
    simp only [Nat.mul_one, show ((4 : Nat) : Int) = 4 from rfl] at hi4
    obtain ⟨x, hx⟩ : ∃ x : Nat, b.getD 4 0 = x := ⟨(b.getD 4 0).toNat, by omega⟩
    rw [hx] at d4 hx4
    obtain ⟨N, hN⟩ : ∃ N, N = min x 13 := ⟨_, rfl⟩
    have hw4 : IntKind.i64.wrap (x : Int) = (x : Int) := IntWalk.i64_in _ (by omega)
    have HN : Hid (N ≤ 13 ∧ N ≤ x ∧ (x = N ∨ (13 ≤ x ∧ N = 13))) := by unfold Hid; omega
    have hN13 : N ≤ 13 := by omega
    have HPS : Hid (∀ i rs r, parseI b i = some (rs, r) → (∀ x ∈ rs, x.wf) ∧ (∀ x ∈ r, 0 ≤ x ∧ x < 256) ∧ r.length ≤ 1000000) := fun i rs r hp => parse_wf h.wf (by omega) hp
    have HPL : Hid (∀ i rs r, parseI b i = some (rs, r) → rs.length = i) := fun i rs r hp => (parse_len hp).1
    have HGN : Hid (∀ i, i < N → parseI b (i + 1) = none → ¬ ∃ qs, (∀ x ∈ qs, WfL x.l) ∧ GoodR b qs) := fun i hi hp => good_none hp (by rw [hx]; omega)
    have HGI : Hid (∀ rs r, parseI b N = some (rs, r) → (∃ qs, (∀ x ∈ qs, WfL x.l) ∧ GoodR b qs) → GoodR b rs) := fun rs r hp => good_iff hbl hp (by rw [hx]; omega)
    have HGO : Hid (∀ rs r, parseI b N = some (rs, r) → mayR rs = true → rootsBytes rs <+: b → (∀ x ∈ r, x = 0) → GoodR b rs) := fun rs r hp => good_of hbl hp
    have HGR : Hid (∀ rs r, parseI b N = some (rs, r) → GoodR b rs → ∀ x ∈ r, x = 0) := fun rs r hp hg => GoodR.rest hbl hp hg
    have H0 : Hid (parseI b 0 = some ([], b.drop 5)) := rfl
    have HB5 : Hid (∀ a, p5 = some a → a.block < w.heap.size) := fun a ha => by
      obtain ⟨a0, e0, e1⟩ := b5 a ha
      rw [hp] at e0; cases e0
      rw [e1]; exact hblt
    have HB := Lib.hid h
    have q23 : ∀ (W : World) (a : Option Addr) (n c n' c' : Nat), (binOp .eql 23 (.slice a n c) (.slice none n' c')).run Tryd.prog W = .ok (.bool a.isNone) W := fun W a n c n' c' => Lib.run_eql_slice_nil W _ _ a n c n' c' Tryd.underlying23
    obtain ⟨i0, hi0, hz0, hz1, hz2⟩ := info_parts infoRoot
    clear h hbl hcs hx hN s5 r5 hx4 b5
    subst hp
    go_enter Tryd.func9, Tryd.ntmps9
    go_wp2
    all_goals (
      have hNN := HN.out
      first | rw [show (x : Int) = (N : Int) by omega] | rw [show (13 : Int) = (N : Int) by omega]
      clear hNN
      go_loopw [4, 5, 20] (fun ov lv iv wr => ∃ (i m d k e : Nat) (o q : Option Addr) (rs : List Rt) (r : List Int), i ≤ N ∧ iv = .int .i64 i ∧ ov = .slice o m d ∧ lv = .slice q k e ∧ parseI b i = some (rs, r) ∧ rs.length = m ∧ Tl wr w.heap.size 3 o m d (rcells rs) ∧ Sl wr 1 q k e (bs r) ∧ (∀ a, q = some a → a.block < w.heap.size) ∧ Mod [] w wr) (fun _ _ iv _ => N - (intOf iv).toNat)
      case atStart => exact ⟨0, 0, 0, 1011, c - 5, none, p5, [], b.drop 5, Nat.zero_le _, rfl, rfl, rfl, H0.out, rfl, Tl.none' _ _ _, HS5.out, HB5.out, Mod.refl _ _⟩
      case round =>
        obtain ⟨i, m, d, k, e, o, q, rs, r, hi, rfl, rfl, rfl, hps, hm, ht, hsl, hqb, hmd⟩ := hrel
        have hmi : m = i := by rw [← hm]; exact HPL.out i rs r hps
        subst hmi
        have OT := Lib.hid ht
        have HSL := Lib.hid hsl
        have HM := Lib.hid hmd
        have HQB := Lib.hid hqb
        clear hqb
        have HP := Lib.hid hps
        have HLN := Lib.hid hm
        obtain ⟨v1, v2, v3⟩ := HPS.out m rs r hps
        have HV1 := Lib.hid v1
        have HV2 := Lib.hid v2
        have hk : r.length = k := by have := hsl.len; rw [bs_len] at this; omega
        have HK := Lib.hid hk
        have hkl : k ≤ 1000000 := by omega
        clear ht hsl hmd hps v1 v2 v3 hm hk
        by_cases hlt : m < N
        · have hwi : IntKind.i64.wrap ((m : Int) + 1) = (m : Int) + 1 := IntWalk.i64_in _ (by omega)
          go_wp2_with fail
          refine (rone_any q k e r wr ⟨HSL.out, HV2.out⟩ hkl).mono ?_
          rintro _ w2 ⟨v, rfl, hone⟩
          by_cases hok : OneOk r
          · unfold OneR at hone
            rw [if_pos hok] at hone
            obtain ⟨p', d', rfl, hsl', hb', hm2⟩ := hone
            have HQB2 : Hid (∀ a, p' = some a → a.block < w.heap.size) := fun a ha => by
              obtain ⟨a0, e0, e1⟩ := hb' a ha
              rw [e1]; exact HQB.out a0 e0
            have HPN : Hid (parseI b (m + 1) = some (rs ++ [oneRt r], r.drop (9 + kN r))) := by unfold Hid; rw [parse_succ HP.out, if_pos hok]
            have HSL2 := Lib.hid hsl'
            have OT2 := Lib.hid (OT.out.mod hm2 (by simp))
            have HM2 := Lib.hid (HM.out.same hm2)
            have HML := Lib.hid hm2
            clear hsl' hm2 hok hb'
            generalize hrt : oneRt r = rt at *
            obtain ⟨l, pg, ct⟩ := rt
            clear hrt
            obtain ⟨W2, hW2⟩ : ∃ W2, W2 = (w2.alloc (.cells #[.string (strOfNums l), .int .i64 pg, .int .i64 ct] 34)).alloc (.cells #[.string (strOfNums l), .int .i64 pg, .int .i64 ct] 34) := ⟨_, rfl⟩
            have SR : Hid (Sl W2 3 (some ⟨w2.heap.size + 1, 0, none⟩) 1 1 (rcells [⟨l, pg, ct⟩])) := by
              have := sl_root (w2.alloc (.cells #[.string (strOfNums l), .int .i64 pg, .int .i64 ct] 34)) l pg ct 34
              rw [hW2]; unfold Hid; simpa using this
            have hmw : Mod [] w2 W2 := by rw [hW2]; exact ((Mod.refl [] w2).alloc).alloc
            have OT3 := Lib.hid (OT2.out.mod hmw (by simp))
            have HM3 := Lib.hid (HM2.out.same hmw)
            have HSL3 := Lib.hid (HSL2.out.mod hmw (by simp))
            have L3 := HM3.out.size
            rw [hW2] at SR OT3 HM3 HSL3 L3
            clear hW2 hmw
            unfold Rt.val
            simp only
            go_wp2_with (first
              | (at_builtin; go_must (refine wpList_append_tl _ rfl _ _ _ rfl w.heap.size 34 i0 _ 3 32 Tryd.underlying22 hi0 hz0 hz1 hz2 rfl (by omega) _ _ _ _ rfl OT3.out _ _ _ _ rfl SR.out (m + 1) rfl (by unfold maxLen; omega) (by omega) L3 ?_); intro p9 c9 w9 ht9 hm9 hnil9 hor9; (have OT9 := Lib.hid ht9); (have MC9 := Lib.hid (OT3.out.turned (w2 := w) rfl hm9 HM3.out)); (have HS9 := Lib.hid (HSL3.out.mod hm9 (fun a ha hp hb => by
                  have h1 := HQB2.out a ha
                  cases o with
                  | none => simp at hb
                  | some e => simp at hb; have h2 := (OT3.out.own e rfl).2.1; omega))); clear ht9 hm9 hnil9 hor9)
              | go_in)
            go_roundw
            case rel => exact ⟨m + 1, m + 1, c9, r.length - (9 + kN r), d', p9, p', rs ++ [⟨l, pg, ct⟩], r.drop (9 + kN r), by omega, by go_num, rfl, rfl, HPN.out, by simp [HLN.out], by rw [rcells_append]; exact OT9.out, HS9.out, HQB2.out, MC9.out⟩
            case measure => simp [intOf]; omega
          · unfold OneR at hone
            rw [if_neg hok] at hone
            obtain ⟨rfl, hm2⟩ := hone
            have HNO := Lib.hid (HGN.out m hlt (by rw [parse_succ HP.out, if_neg hok]))
            have HM2 := Lib.hid (HM.out.same hm2)
            clear hm2 hok
            unfold Rt.val
            simp only
            go_wp2
            go_ret2
            exact .mk (Or.inr ⟨HNO.out, rfl, HM2.out.alloc⟩)
        · obtain rfl : m = N := by omega
          have RI : Hid (RtsIn wr o m d rs) := ⟨OT.out.sl, HV1.out⟩
          have HPAY := Lib.hid (rpay_any o m d rs wr RI.out)
          unfold RPayR at HPAY
          go_wp2_with fail
          refine HPAY.out.mono ?_
          rintro _ w2 ⟨_, rfl, p7, n7, c7, rfl, e7, z7, t7, m7⟩
          have E7 := Lib.hid e7
          have Z7 := Lib.hid z7
          have T7 := Lib.hid t7
          have M7 := Lib.hid (HM.out.same m7)
          have RI2 := Lib.hid (RI.out.mod0 m7)
          have HSL2 := Lib.hid (HSL.out.mod m7 (by simp))
          clear e7 z7 t7 m7 HPAY
          by_cases hmay : mayR rs = true
          · have HPV : Hid (payRs rs = rootsBytes rs) := if_pos hmay
            rw [HPV.out] at E7 Z7 T7
            have hp7 : p7 ≠ none := fun e => by have := Z7.out.1 e; simp [rootsBytes] at this
            obtain ⟨a7, rfl⟩ := Option.ne_none_iff_exists'.1 hp7
            have HBI : Hid (BytesIn w2 (some a7) n7 c7 (rootsBytes rs)) := ⟨T7.out.sl, rootsBytes_wf (fun r hr => (HV1.out r hr).1) hmay⟩
            have HBB : Hid (BytesIn w2 (some ⟨bb, off, none⟩) 1016 c b) := ⟨HB.out.sl.mod M7.out (by simp), HB.out.wf⟩
            have HPRE := Lib.hid (hasprefix_any _ _ _ _ _ _ b (rootsBytes rs) w2 HBB.out HBI.out)
            have HPW : Hid (decide (b.take (rootsBytes rs).length = rootsBytes rs) = true → rootsBytes rs <+: b) := fun h => by
              have := of_decide_eq_true h
              rw [← this]; exact List.take_prefix _ _
            have HPW2 : Hid (rootsBytes rs <+: b → decide (b.take (rootsBytes rs).length = rootsBytes rs) = true) := fun h => decide_eq_true (List.prefix_iff_eq_take.1 h).symm
            generalize decide (b.take (rootsBytes rs).length = rootsBytes rs) = D at *
            unfold EqB at HPRE
            clear hp7
            go_wp2_with fail
            refine HPRE.out.mono ?_
            rintro _ w3 ⟨_, rfl, rfl, rfl⟩
            cases D with
            | false =>
              have HNO : Hid (¬ ∃ rs, (∀ x ∈ rs, WfL x.l) ∧ GoodR b rs) := fun h => by
                have := HPW2.out (HGI.out rs r HP.out h).prefix_
                cases this
              go_wp2
              go_ret2
              exact .mk (Or.inr ⟨HNO.out, rfl, M7.out⟩)
            | true =>
              go_wp2_with fail
              refine (trim_any q k e r _ HSL2.out).mono ?_
              rintro _ w4 ⟨_, rfl, q9, k9, d9, rfl, hz9, m9⟩
              have M9 := Lib.hid (M7.out.same m9)
              have RI9 := Lib.hid (RI2.out.mod0 m9)
              have HZ9 := Lib.hid hz9
              clear m9 hz9
              by_cases h90 : k9 = 0
              · have HG : Hid (GoodR b rs) := HGO.out rs r HP.out hmay (HPW.out (by first | rfl | trivial)) (HZ9.out.1 h90)
                subst h90
                go_wp2
                go_ret2
                exact .mk (Or.inl ⟨rs, HV1.out, HG.out, o, m, d, rfl, RI9.out, M9.out⟩)
              · have HNO : Hid (¬ ∃ rs, (∀ x ∈ rs, WfL x.l) ∧ GoodR b rs) := fun h => h90 (HZ9.out.2 (HGR.out rs r HP.out (HGI.out rs r HP.out h)))
                have hz1 : decide (0 < k9) = true := by simp; omega
                go_wp2
                go_ret2
                exact .mk (Or.inr ⟨HNO.out, rfl, M9.out⟩)
          · have HPV : Hid (payRs rs = []) := if_neg hmay
            have HNO : Hid (¬ ∃ rs, (∀ x ∈ rs, WfL x.l) ∧ GoodR b rs) := fun h => hmay (HGI.out rs r HP.out h).1
            rw [HPV.out] at E7 Z7 T7
            obtain rfl : p7 = none := Z7.out.2 rfl
            obtain rfl : n7 = 0 := E7.out
            clear E7 Z7 T7
            go_wp2
            go_ret2
            exact .mk (Or.inr ⟨HNO.out, rfl, M7.out⟩))
  · have HNO : Hid (¬ ∃ rs, (∀ x ∈ rs, WfL x.l) ∧ GoodR b rs) := by
      rintro ⟨rs, _, hg⟩
      apply hn
      rw [← h.len, hg.2]
      have := hg.size
      simp; omega
    have hne : ((n : Int) != 1016) = true := by simp; omega
    clear hn h
    go_enter Tryd.func9, Tryd.ntmps9
    go_wp2
    go_ret2
    exact .mk (Or.inr ⟨HNO.out, rfl, Mod.refl _ _⟩)
end Go.Proofs.YtpdkkokgpdabhaaDoor
