/- Bytes as numbers, plainly. The document's numbers as bytes: Key, Same. Bytes as a text. Numbers as bytes: Key. Numbers as bytes: Put32; bits. -/
import Derived.Laws.BytesArg
import Derived.Test.YtgimdodbajhpoaaGreatDoorG04
import Derived.Test.YtgimdodbajhpoaaGreatDoorRows
namespace Go.Proofs.YtgimdodbajhpoaaGreatDoor
open Go.RowKit Go.Maps
set_option linter.unusedSimpArgs false
set_option linter.unusedVariables false

def bs (l : List Int) : List Value := l.map (.int .u8 ·)
theorem bs_len (l : List Int) : (bs l).length = l.length := by simp [bs]
theorem bs_one (l : List Int) : ∀ u ∈ bs l, u.oneCell' = true := by
  intro u hu; simp [bs] at hu; obtain ⟨a, _, rfl⟩ := hu; rfl
theorem bs_append (a b : List Int) : bs (a ++ b) = bs a ++ bs b := by simp [bs]
theorem bs_get {l : List Int} {k : Nat} (hk : k < l.length) : (bs l)[k]? = some (.int .u8 (l.getD k 0)) := by
  rw [getD_at hk, bs, List.getElem?_map, List.getElem?_eq_getElem hk]; rfl

/-- The n low bytes of a number, the greatest first. -/
def be : Nat → Int → List Int
  | 0, _ => []
  | n + 1, v => be n (v / 256) ++ [v % 256]
theorem be_len : ∀ (n : Nat) (v : Int), (be n v).length = n
  | 0, _ => rfl
  | n + 1, v => by rw [be, List.length_append, be_len n]; rfl
theorem be_succ : ∀ (n : Nat) (v : Int), be (n + 1) v = (v / 256 ^ n % 256) :: be n v
  | 0, v => by simp [be]
  | n + 1, v => by
    rw [be, be_succ n (v / 256), be, Int.ediv_ediv_of_nonneg (by omega), List.cons_append, Int.pow_succ, Int.mul_comm]

theorem getD_ext {l m : List Int} (hl : l.length = m.length) (h : ∀ j, j < l.length → l.getD j 0 = m.getD j 0) : l = m := by
  apply List.ext_getElem hl
  intro i h1 h2
  have := h i h1
  rwa [getD_at h1, getD_at h2] at this
/-- A slice of bytes that came in. -/
structure BytesIn (w : World) (p : Option Addr) (n c : Nat) (l : List Int) : Prop where
  sl : Sl w 1 p n c (bs l)
  wf : ∀ x ∈ l, 0 ≤ x ∧ x < 256
/-- Block b is one of bytes. -/
def IsBytes (w : World) (b : Nat) : Prop := ∃ cs, w.heap[b]? = some (.cells cs 5 (0, 0))
theorem IsBytes.mod {w w' : World} {S : List Nat} {b : Nat} (h : IsBytes w b) (hm : Mod S w w') (hn : b ∉ S) : IsBytes w' b := by obtain ⟨cs, h⟩ := h; exact ⟨cs, hm.at h hn⟩
theorem IsBytes.of_own {w : World} {base n : Nat} {v : Value} {xs : List Value} (h : w.ownsRow base 5 1 v n xs) : ∀ b, v.ownBlock = some b → IsBytes w b := by
  intro b hb
  rcases h.2 with ⟨e, _⟩ | ⟨g, cap, cur, e, _, hat, _⟩
  · rw [e] at hb; cases hb
  · rw [e] at hb; cases hb; exact ⟨_, hat⟩
theorem BytesIn.len {w : World} {p : Option Addr} {n c : Nat} {l : List Int} (h : BytesIn w p n c l) : l.length = n := by have := h.sl.len; rw [bs_len] at this; omega
/-- The number that bytes say, the greatest first. -/
def un (l : List Int) : Int := l.foldl (fun a x => a * 256 + x) 0
theorem un_succ {l : List Int} {k : Nat} (hk : k < l.length) : un (l.take (k + 1)) = un (l.take k) * 256 + l.getD k 0 := by
  rw [List.take_succ_eq_append_getElem hk, un, List.foldl_append, getD_at hk]; rfl
theorem un_range {l : List Int} (h : ∀ x ∈ l, 0 ≤ x ∧ x < 256) : ∀ k : Nat, k ≤ l.length → 0 ≤ un (l.take k) ∧ un (l.take k) < 256 ^ k
  | 0, _ => by simp [un]
  | k + 1, hk => by
    obtain ⟨h1, h2⟩ := un_range h k (by omega)
    have hx := h (l.getD k 0) (by rw [getD_at (by omega)]; exact List.getElem_mem _)
    rw [un_succ (by omega), Int.pow_succ]
    constructor <;> omega

/-- The number that the first four bytes say; a byte that isn't there counts as 0. -/
def un4 (l : List Int) : Nat → Int
  | 0 => 0
  | k + 1 => un4 l k * 256 + l.getD k 0
theorem un4_range {l : List Int} (h : ∀ x ∈ l, 0 ≤ x ∧ x < 256) : ∀ k : Nat, 0 ≤ un4 l k ∧ un4 l k < 256 ^ k
  | 0 => by simp [un4]
  | k + 1 => by
    obtain ⟨h1, h2⟩ := un4_range h k
    have hx : 0 ≤ l.getD k 0 ∧ l.getD k 0 < 256 := by
      rcases Nat.lt_or_ge k l.length with hk | hk
      · exact h _ (by rw [getD_at hk]; exact List.getElem_mem _)
      · rw [show l.getD k 0 = 0 from by simp [List.getD, List.getElem?_eq_none hk]]; omega
    rw [un4, Int.pow_succ]
    constructor <;> omega
theorem be_drop (v : Int) : (be 8 v).drop 4 = be 4 v := by
  rw [be_succ 7, be_succ 6, be_succ 5, be_succ 4]; rfl
def BytesS (l : List Int) (w : World) (v : Value) (w' : World) : Prop := ∃ p n c, v = .slice p n c ∧ n = l.length ∧ Sl w' 1 p n c (bs l) ∧ Mod [] w w'

/-- One byte more, read as part of a number. -/
theorem un_append (a : List Int) (x : Int) : un (a ++ [x]) = un a * 256 + x := by simp [un, List.foldl_append]
theorem un_be : ∀ (n : Nat) (v : Int), 0 ≤ v → v < 256 ^ n → un (be n v) = v
  | 0, v, h0, h1 => by simp at h1; simp [be, un]; omega
  | n + 1, v, h0, h1 => by
    rw [Int.pow_succ] at h1
    rw [be, un_append, un_be n (v / 256) (by omega) (by omega)]
    omega
theorem un4_take {l : List Int} : ∀ {k : Nat}, k ≤ l.length → un4 l k = un (l.take k)
  | 0, _ => by simp [un4, un]
  | k + 1, h => by rw [un4, un4_take (by omega), un_succ (by omega)]
theorem be_wf : ∀ (n : Nat) (v : Int), ∀ x ∈ be n v, 0 ≤ x ∧ x < 256
  | 0, _, _, h => by simp [be] at h
  | n + 1, v, x, h => by
    rw [be] at h
    rcases List.mem_append.1 h with h | h
    · exact be_wf n _ x h
    · simp at h; omega
theorem un4_be {v : Int} (r : List Int) (h0 : 0 ≤ v) (h1 : v < 4294967296) : un4 (be 4 v ++ r) 4 = v := by
  rw [un4_take (by rw [List.length_append, be_len]; omega), List.take_append_of_le_length (by rw [be_len]; omega), List.take_of_length_le (by rw [be_len]; omega), un_be 4 v h0 h1]
theorem un8_be {v : Int} (r : List Int) (h0 : 0 ≤ v) (h1 : v < 18446744073709551616) : un ((be 8 v ++ r).take 8) = v := by
  rw [List.take_append_of_le_length (by rw [be_len]; omega), List.take_of_length_le (by rw [be_len]; omega), un_be 8 v h0 h1]
theorem unkey_range {l : List Int} (h : ∀ x ∈ l, 0 ≤ x ∧ x < 256) {a : Nat} : 0 ≤ un ((l.drop a).take 8) ∧ un ((l.drop a).take 8) < 18446744073709551616 := by
  have hw : ∀ x ∈ (l.drop a).take 8, 0 ≤ x ∧ x < 256 := fun x hx => h x (List.mem_of_mem_drop (List.mem_of_mem_take hx))
  obtain ⟨h1, h2⟩ := un_range hw _ (Nat.le_refl _)
  rw [List.take_of_length_le (Nat.le_refl _)] at h1 h2
  refine ⟨h1, Int.lt_of_lt_of_le h2 ?_⟩
  have hlen : ((l.drop a).take 8).length ≤ 8 := by rw [List.length_take]; omega
  obtain ⟨e, he⟩ : ∃ e, 8 = ((l.drop a).take 8).length + e := ⟨8 - ((l.drop a).take 8).length, by omega⟩
  have h8 : (18446744073709551616 : Int) = 256 ^ 8 := by decide
  rw [h8]
  conv => rhs; rw [he, Int.pow_add]
  have h1 : (1 : Int) ≤ 256 ^ e := Int.pow_pos (by omega)
  have h9 := Int.mul_le_mul_of_nonneg_left h1 (Int.le_of_lt (show (0 : Int) < 256 ^ ((l.drop a).take 8).length from Int.pow_pos (by omega)))
  rwa [Int.mul_one] at h9
end Go.Proofs.YtgimdodbajhpoaaGreatDoor
namespace Go.Proofs.YtgimdodbajhpoaaGreatDoor
open Go.RowKit Go.Maps
set_option linter.unusedSimpArgs false
set_option linter.unusedVariables false

theorem own_lit {w : World} (T : TypeId) (x : Value) (hx : x.oneCell' = true) (base : Nat) (hb : base ≤ w.heap.size) : (w.alloc (.cells #[x] T)).ownsRow base T 1 (.slice (some ⟨w.heap.size, 0, none⟩) 1 1) 1 [x] := by
  refine ⟨by simp, Or.inr ⟨w.heap.size, 1, #[x], rfl, hb, at_alloc w _, by omega, by unfold maxLen; omega, by simp, by simp⟩⟩
theorem infoU8 : (Tryz.prog.info? 5).map (fun i => (i.zero, i.size, i.bytes)) = some (some (.int .u8 0), 1, 1) := by kernel_rfl

def BytesR (l : List Int) (w : World) (v : Value) (w' : World) : Prop := ∃ p n c, v = .slice p n c ∧ n = l.length ∧ w'.ownsRow w.heap.size 5 1 (.slice p n c) n (bs l) ∧ Mod [] w w'
set_option maxRecDepth 100000 in
set_option maxHeartbeats 1000000 in
theorem qkey_any (v : Int) (w : World) (h0 : 0 ≤ v) (h1 : v < 2 ^ 64) :
    Calls Tryz.prog 45 #[.int .u64 v] w (Ret (BytesR (be 8 v) w)) := by
  obtain ⟨i0, hi0, hz0, hz1, hz2⟩ := info_parts infoU8
  go_enter Tryz.func45, Tryz.ntmps45
  go_wp2
  go_loopw [0, 3, 4] (fun x o i wr => ∃ (k : Nat) (q : Option Addr) (d : Nat), k ≤ 8 ∧ i = .int .i64 k ∧ x = .int .u64 (v / 256 ^ k) ∧ o = .slice q k d ∧ wr.ownsRow w.heap.size 5 1 (.slice q k d) k (bs (be k v)) ∧ Mod [] w wr) (fun _ _ i _ => 8 - (intOf i).toNat)
  case atStart => exact ⟨0, none, 0, by omega, rfl, by simp, rfl, ⟨by simp [bs, be], Or.inl ⟨rfl, rfl⟩⟩, Mod.refl _ _⟩
  case round =>
    obtain ⟨k, q, d, hk, rfl, rfl, rfl, hown, hm⟩ := hrel
    have HO := Lib.hid hown
    have HM := Lib.hid hm
    have hsz := hm.size
    clear hown hm
    by_cases hlt : k < 8
    · obtain ⟨V, hV⟩ : ∃ V, V = v / 256 ^ k := ⟨_, rfl⟩
      have hp : (0 : Int) < 256 ^ k := Int.pow_pos (by omega)
      have hV0 : 0 ≤ V ∧ V < 2 ^ 64 := by
        rw [hV]; exact ⟨Int.ediv_nonneg h0 (by omega), Int.lt_of_le_of_lt (Int.ediv_le_self _ h0) h1⟩
      have hn : V / 256 = v / 256 ^ (k + 1) := by rw [hV, Int.ediv_ediv_of_nonneg (by omega), Int.pow_succ]
      have HN := Lib.hid hn
      have HB := Lib.hid (be_succ k v)
      rw [← hV] at HB ⊢
      have hwr : IntKind.u8.wrap (V % 256) = V % 256 := by rw [IntKind.wrap_u8]; omega
      clear hV hp hn
      go_wp2_with (first
        | (at_builtin; go_must (refine wpList_append_src _ rfl _ _ _ rfl w.heap.size 5 i0 _ 1 1 Tryz.underlying40 hi0 hz0 hz1 hz2 rfl (by omega) (.slice (some ⟨wr.heap.size, 0, none⟩) 1 1) 1 [.int .u8 (V % 256)] rfl (own_lit _ _ rfl _ hsz) _ _ _ (bs (be k v)) rfl ((Sl.of_own HO.out (bs_one _)).1.mod (Mod.of_alloc wr _) (by simp)) (k + 1) (by omega) (by unfold maxLen; omega) (by omega) (by simp; omega) ?_); intro p' c' w1 hown1 hgrow hnil hlie; (have HO1 := Lib.hid hown1); (have HG1 := Lib.hid hgrow); clear hown1 hgrow hnil hlie)
        | go_in)
      go_roundw
      case rel => exact ⟨k + 1, p', c', by omega, by go_num, by rw [HN.out], rfl, by rw [HB.out]; exact HO1.out, (HM.out.same (Mod.of_alloc wr _)).trans (Mod.of_grown' HG1.out) (fun b hb => by simp [Value.ownBlock] at hb; omega)⟩
      case measure => simp [intOf]; omega
    · obtain rfl : k = 8 := by omega
      go_wp2
      go_ret
      exact .mk ⟨q, 8, d, rfl, by rw [be_len], HO.out, HM.out⟩
theorem sizeBytes (W : World) : (sizeOf (Tryz.prog.elem 40)).run Tryz.prog W = .ok 1 W := by kernel_rfl
def SameR (w : World) (b : Bool) (v : Value) (w' : World) : Prop := v = .bool b ∧ Mod [] w w'
end Go.Proofs.YtgimdodbajhpoaaGreatDoor
namespace Go.Proofs.YtgimdodbajhpoaaGreatDoor
open Go.RowKit Go.Maps
set_option linter.unusedSimpArgs false
set_option linter.unusedVariables false

theorem Sl.str {P : Program} {w : World} {p : Option Addr} {n c : Nat} {l : List Int} (h : Sl w 1 p n c (bs l)) (src e dst : TypeId) (hs : P.underlying src = some (.slice e)) (he : P.underlying e = some (.int .u8)) (hd : P.underlying dst = some .string) :
    (convert src dst (.slice p n c)).run P w = .ok (.string (strOfNums l)) w := by
  have hl : l.length = n := by have := h.len; rw [bs_len] at this; omega
  rcases Nat.eq_zero_or_pos n with h0 | h0
  · subst h0
    obtain rfl : l = [] := List.eq_nil_of_length_eq_zero hl
    rw [run_convert_bytes_string w src dst e _ 0 c hs he hd]
    cases p <;> simp [Conv.bytesToString, loadCells]
    all_goals rfl
  · obtain ⟨b, off, rfl, _, hc⟩ := h.addr h0
    exact run_convert_bytes_arg w src e hs he b off n c l hl (fun i hi => hc i _ (bs_get (by omega))) dst hd
theorem str_inj {l m : List Int} (h1 : ∀ x ∈ l, 0 ≤ x ∧ x < 256) (h2 : ∀ x ∈ m, 0 ≤ x ∧ x < 256) (h : strOfNums l = strOfNums m) : l = m := by
  have e : l.map (fun n => UInt8.ofNat n.toNat) = m.map (fun n => UInt8.ofNat n.toNat) := by rw [← strOfNums_data, ← strOfNums_data, h]
  have hl : l.length = m.length := by have := congrArg List.length e; simpa using this
  apply List.ext_getElem hl
  intro i a b
  have e1 := congrArg (fun q => q[i]?) e
  simp only [List.getElem?_map, List.getElem?_eq_getElem a, List.getElem?_eq_getElem b, Option.map_some, Option.some.injEq] at e1
  have e2 := congrArg UInt8.toNat e1
  simp only [UInt8.toNat_ofNat'] at e2
  have g1 := h1 _ (List.getElem_mem a)
  have g2 := h2 _ (List.getElem_mem b)
  omega
theorem toList_inj {a b : ByteArray} (h : a.toList = b.toList) : a = b := by
  rw [ByteArray.toList_eq, ByteArray.toList_eq] at h
  cases a; cases b
  exact congrArg ByteArray.mk (Array.toList_inj.1 h)
theorem str_beq {l m : List Int} (h1 : ∀ x ∈ l, 0 ≤ x ∧ x < 256) (h2 : ∀ x ∈ m, 0 ≤ x ∧ x < 256) : ((strOfNums l).toList == (strOfNums m).toList) = decide (l = m) := by
  by_cases h : l = m
  · simp [h]
  · rw [decide_eq_false h]
    refine beq_eq_false_iff_ne.2 fun e => h (str_inj h1 h2 (toList_inj e))
end Go.Proofs.YtgimdodbajhpoaaGreatDoor
namespace Go.Proofs.YtgimdodbajhpoaaGreatDoor
open Go.RowKit Go.Maps
set_option linter.unusedSimpArgs false
set_option linter.unusedVariables false

theorem bytes_own {w : World} {B base : Nat} {l : List Int} {n : Nat} (h : w.heap[B]? = some (.cells (bs l).toArray 5 (0, 0))) (hn : l.length = n) (hb : base ≤ B) (hm : n ≤ maxLen) : w.ownsRow base 5 1 (.slice (some ⟨B, 0, none⟩) n n) n (bs l) :=
  ⟨by simp [bs, hn], Or.inr ⟨B, n, (bs l).toArray, rfl, hb, h, by omega, hm, by simp [bs, hn], by simp [bs]; exact List.take_of_length_le (by simp [hn])⟩⟩

set_option maxRecDepth 100000 in
set_option maxHeartbeats 1000000 in
theorem key_any (v : Int) (w : World) (h0 : 0 ≤ v) (h1 : v < 2 ^ 64) :
    Calls Tryz.prog 56 #[.int .u64 v] w (Ret (BytesR (be 8 v) w)) := by
  obtain ⟨i0, hi0, hz0, hz1, hz2⟩ := info_parts infoU8
  have hmk := fun W => run_makeSlice (P := Tryz.prog) W 40 5 i0 (.int .u8 0) Tryz.underlying40 hi0 hz0 .i64 .i64 8 8 (by omega) (by omega) (by rw [hz1]; decide) (by rw [hz2]; decide)
  go_enter Tryz.func56, Tryz.ntmps56
  go_wp2
  have hmc : madeCells #[.int .u8 0] 8 = (bs (List.replicate 8 0)).toArray := by kernel_rfl
  have hB0 : (w.alloc (.cells (madeCells #[.int .u8 0] 8) 5)).heap[w.heap.size]? = some (.cells (bs (List.replicate 8 0)).toArray 5 (0, 0)) := by rw [hmc]; exact at_alloc w _
  have HB0 := Lib.hid hB0
  have hM0 : Mod [] w (w.alloc (.cells (madeCells #[.int .u8 0] 8) 5)) := Mod.of_alloc w _
  have HM0 := Lib.hid hM0
  clear hmk hB0 hM0 hmc
  have hidx : ∀ (W : World) (j : Nat), j < 8 → (Instr.indexAt 40 (.slice (some ⟨w.heap.size, 0, none⟩) 8 8) (.int .i64 j)).run Tryz.prog W = .ok (.pointer (some ⟨w.heap.size, 0 + j * 1, none⟩)) W :=
    fun W => Sl.idx (P := Tryz.prog) (cap := 8) Tryz.underlying40 sizeBytes (fun _ => rfl) W .i64
  go_loopw [8] (fun i wr => ∃ (k : Nat), k ≤ 8 ∧ i = .int .i64 k ∧ wr.heap[w.heap.size]? = some (.cells (bs (List.replicate (8 - k) 0 ++ be k v)).toArray 5 (0, 0)) ∧ Mod [] w wr) (fun i _ => 8 - (intOf i).toNat)
  case atStart => exact ⟨0, by omega, rfl, by simpa [be] using HB0.out, HM0.out⟩
  case round =>
    obtain ⟨k, hk, rfl, hat, hm⟩ := hrel
    have HA := Lib.hid hat
    have HM := Lib.hid hm
    clear hat hm HB0 HM0
    by_cases hlt : k < 8
    · obtain ⟨j, hj⟩ : ∃ j, j = 7 - k := ⟨_, rfl⟩
      have hjk : (7 : Int) - (k : Int) = (j : Int) := by omega
      have hw1 : IntKind.i64.wrap (7 - (k : Int)) = (j : Int) := by rw [IntWalk.i64_in _ (by omega)]; exact hjk
      have hj8 : j < 8 := by omega
      have hf : wr.frozen? ⟨w.heap.size, j, none⟩ = false := free_of_at HA.out j
      have hll : (List.replicate (8 - k) 0 ++ be k v).length = 8 := by rw [List.length_append, be_len, List.length_replicate]; omega
      have hc : wr.cell? ⟨w.heap.size, j, none⟩ = some (.int .u8 ((List.replicate (8 - k) 0 ++ be k v).getD j 0)) := by
        rw [cell_of_at HA.out j, List.getElem?_toArray]; exact bs_get (by rw [hll]; exact hj8)
      have h256 : (2 : Int) ^ (8 * k) = 256 ^ k := by rw [show 8 * k = k * 8 from by omega, Nat.mul_comm, Int.pow_mul]; rfl
      have HFin : Hid (((bs (List.replicate (8 - k) 0 ++ be k v)).toArray.setIfInBounds j (.int .u8 (v / 2 ^ (8 * k) % 256))) = (bs (List.replicate (8 - (k + 1)) 0 ++ be (k + 1) v)).toArray) := by
        have e8 : 8 - k = (8 - (k + 1)) + 1 := by omega
        have ej : j = 8 - (k + 1) := by omega
        rw [List.setIfInBounds_toArray, h256, be_succ, e8, List.replicate_succ', List.append_assoc]
        congr 1
        simp only [bs, List.map_append, List.map_cons, List.singleton_append, List.cons_append, List.nil_append]
        rw [List.set_append_right _ _ (by simp; omega)]
        simp [ej]
      clear hll h256
      have HJ := Lib.hid hj
      clear hj
      generalize hG : v / 2 ^ (8 * k) % 256 = G at HFin
      go_wp2
      go_roundw
      case rel => exact ⟨k + 1, by omega, by go_num, by rw [← HFin.out]; exact at_setCell HA.out j _, HM.out.trans (Mod.of_setCell wr _ _ _) (by simp)⟩
      case measure => simp [intOf]; omega
    · obtain rfl : k = 8 := by omega
      go_wp2
      go_ret
      exact .mk ⟨_, 8, 8, rfl, by rw [be_len], bytes_own (by simpa using HA.out) (be_len _ _) (Nat.le_refl _) (by unfold maxLen; omega), HM.out⟩

def UnkeyR (n : Nat) (l : List Int) (w : World) (v : Value) (w' : World) : Prop := v = .tuple #[.int .u64 (if n = 8 then un l else 0), .bool (n == 8)] ∧ w' = w
def Get32R (l : List Int) (w : World) (v : Value) (w' : World) : Prop := v = .int .u32 (un4 l 4) ∧ w' = w
end Go.Proofs.YtgimdodbajhpoaaGreatDoor
namespace Go.Proofs.YtgimdodbajhpoaaGreatDoor
open Go.RowKit Go.Maps
set_option linter.unusedSimpArgs false
set_option linter.unusedVariables false

set_option maxRecDepth 100000 in
set_option maxHeartbeats 1000000 in
theorem put32_any (v : Int) (w : World) (h0 : 0 ≤ v) (h1 : v < 2 ^ 32) :
    Calls Tryz.prog 41 #[.int .u32 v] w (Ret (BytesS (be 4 v) w)) := by
  have hwr : IntKind.u64.wrap v = v := by rw [IntKind.wrap_u64]; omega
  go_enter Tryz.func41, Tryz.ntmps41
  go_wp2_with fail
  refine (key_any v _ h0 (by omega)).mono ?_
  rintro _ w1 ⟨_, rfl, p, n, c, rfl, hn, hown, hm⟩
  obtain rfl : n = 8 := by rw [hn, be_len]
  have hsl := (Sl.of_own hown (bs_one _)).1
  obtain ⟨p2, r2, s2, _⟩ := hsl.sub_l Tryz.underlying40 sizeBytes 4 .i64 (by omega)
  have HS := Lib.hid s2
  have HM := Lib.hid hm
  clear hown hm hn hsl s2
  simp only [show ((4 : Nat) : Int) = 4 from rfl] at r2
  go_wp2
  go_ret
  refine .mk ⟨p2, 4, c - 4, rfl, by rw [be_len], ?_, HM.out⟩
  have h := HS.out
  rw [show List.drop (4 * 1) (bs (be 8 v)) = bs (be 4 v) from by rw [← be_drop]; simp [bs]] at h
  exact h

/-- Bits that don't meet are added. -/
theorem or_add (k : IntKind) (a b j : Nat) (hb : b < 2 ^ j) (h : a * 2 ^ j + b < 2 ^ k.bits) : bits .or k ((a * 2 ^ j : Nat) : Int) (b : Int) = k.wrap ((a * 2 ^ j + b : Nat) : Int) := by
  have h1 : a * 2 ^ j < 2 ^ k.bits := by omega
  have h2 : b < 2 ^ k.bits := by omega
  have h3 := Nat.shiftLeft_add_eq_or_of_lt hb a
  rw [Nat.shiftLeft_eq] at h3
  unfold bits
  have e1 : ((a * 2 ^ j : Nat) : Int) = Int.ofNat (a * 2 ^ j) := rfl
  rw [h3]
  congr 1
  simp only [BitVec.toNat_or, BitVec.ofInt_natCast, BitVec.toNat_ofNat, Nat.mod_eq_of_lt h1, Nat.mod_eq_of_lt h2]
end Go.Proofs.YtgimdodbajhpoaaGreatDoor
