/- What frames are, in plain lists: a frame's parts, what is got of it, and what a frame's sum is. -/
import Derived.Test.YtjednkbgdbalnaaFrC
import Derived.Test.YtjednkbgdbalnaaFrM
namespace Go.Proofs.Ytjednkbgdbalnaa.Fr
open Go.RowKit Go.Proofs.YtjednkbgdbalnaaW.PrintWords Go.Proofs.YtjednkbgdbalnaaW.PrintMore

def ones : BitVec 32 := 4294967295#32
theorem max_ones : IntKind.u32.max = toI ones := by decide +kernel
theorem sumOf_toI (l : List Int) (h : IsBytes l) : sumOf l = toI (ones ^^^ run ones l) := by
  unfold sumOf
  have e : bits .xor .u32 IntKind.u32.max 0 = toI ones := by
    rw [max_ones, show (0 : Int) = toI 0#32 from rfl, xor_toI]
    rfl
  rw [e, crcFrom_toI ones l h, max_ones, xor_toI]

theorem stps_up (n m : Nat) (a : BitVec 32) (hn : n ≤ m) (ha : ∀ i, 32 ≤ i + n → a.getLsbD i = false) : stps m (a <<< n) = stps (m - n) a := by
  rw [show m = (m - n) + n by omega, stps_add]
  congr 1
  · omega
  · rw [stps_shift]
    · apply BitVec.eq_of_getLsbD_eq
      intro i hi
      rw [BitVec.getLsbD_ushiftRight, BitVec.getLsbD_shiftLeft]
      by_cases h : n + i < 32
      · rw [show n + i - n = i by omega]
        simp [h]
      · rw [ha i (by omega)]
        simp [h]
    · intro i hi
      rw [BitVec.getLsbD_shiftLeft]
      simp [hi]
/-- A word's bytes, the lowest first. -/
theorem word_split (v : BitVec 32) : v = toB (toI v % 256) ^^^ (toB (toI v / 256 % 256) <<< 8) ^^^ (toB (toI v / 65536 % 256) <<< 16) ^^^ (toB (toI v / 16777216) <<< 24) := by
  have hb : ∀ (m i : Nat), m < 256 → (BitVec.ofNat 32 m).getLsbD i = m.testBit i := by
    intro m i hm
    rw [BitVec.getLsbD_ofNat]
    by_cases h : i < 32
    · simp [h]
    · rw [Nat.testBit_lt_two_pow (show m < 2 ^ i from Nat.lt_of_lt_of_le hm (by have : (2 : Nat) ^ 8 ≤ 2 ^ i := Nat.pow_le_pow_right (by decide) (by omega); omega))]
      simp
  have e0 : (toI v % 256).toNat = v.toNat % 2 ^ 8 := by unfold toI; omega
  have e1 : (toI v / 256 % 256).toNat = v.toNat / 2 ^ 8 % 2 ^ 8 := by unfold toI; omega
  have e2 : (toI v / 65536 % 256).toNat = v.toNat / 2 ^ 16 % 2 ^ 8 := by unfold toI; omega
  have e3 : (toI v / 16777216).toNat = v.toNat / 2 ^ 24 % 2 ^ 8 := by unfold toI; have := v.isLt; omega
  unfold toB
  rw [e0, e1, e2, e3]
  apply BitVec.eq_of_getLsbD_eq
  intro i hi
  simp only [BitVec.getLsbD_xor, BitVec.getLsbD_shiftLeft]
  rw [hb _ _ (by omega), hb _ _ (by omega), hb _ _ (by omega), hb _ _ (by omega)]
  simp only [Nat.testBit_mod_two_pow, Nat.testBit_div_two_pow, hi, decide_true, Bool.true_and]
  show v.toNat.testBit i = _
  rcases Nat.lt_or_ge i 8 with h | h
  · simp [h, show i < 16 by omega, show i < 24 by omega]
  · rcases Nat.lt_or_ge i 16 with h1 | h1
    · simp [show ¬ i < 8 by omega, h1, show i < 24 by omega, show i - 8 < 8 by omega, show i - 8 + 8 = i by omega]
    · rcases Nat.lt_or_ge i 24 with h2 | h2
      · simp [show ¬ i < 8 by omega, show ¬ i < 16 by omega, h2, show ¬ i - 8 < 8 by omega, show i - 16 < 8 by omega, show i - 16 + 16 = i by omega]
      · simp [show ¬ i < 8 by omega, show ¬ i < 16 by omega, show ¬ i < 24 by omega, show ¬ i - 8 < 8 by omega, show ¬ i - 16 < 8 by omega, show i - 24 < 8 by omega, show i - 24 + 24 = i by omega]
theorem run_tail (s v : BitVec 32) : run s (tailOf (toI v)) = stps 32 (s ^^^ v) := by
  have hv := toI_range v
  have h8 : ∀ c : Int, c < 256 → ∀ n, n ≤ 24 → ∀ i, 32 ≤ i + n → (toB c).getLsbD i = false := fun c hc n hn i hi => toB_high c hc i (by omega)
  have ev : stps 32 v = stps 32 (toB (toI v % 256)) ^^^ stps 24 (toB (toI v / 256 % 256)) ^^^ stps 16 (toB (toI v / 65536 % 256)) ^^^ stps 8 (toB (toI v / 16777216)) := by
    conv => lhs; rw [word_split v]
    rw [stps_xor, stps_xor, stps_xor, stps_up 8 32 _ (by omega) (h8 _ (by omega) 8 (by omega)), stps_up 16 32 _ (by omega) (h8 _ (by omega) 16 (by omega)), stps_up 24 32 _ (by omega) (h8 _ (by omega) 24 (by omega))]
  rw [stps_xor, ev]
  show stps 8 (stps 8 (stps 8 (stps 8 (s ^^^ toB (toI v % 256)) ^^^ toB (toI v / 256 % 256)) ^^^ toB (toI v / 65536 % 256)) ^^^ toB (toI v / 16777216)) = _
  simp only [stps_xor, ← stps_add]
  ac_rfl
/-- What all sealed bytes come to. -/
def good : BitVec 32 := stps 32 ones
theorem run_sealed (l : List Int) (h : IsBytes l) : run ones (l ++ tailOf (sumOf l)) = good := by
  rw [run_append, sumOf_toI l h, run_tail]
  unfold good
  congr 1
  rw [show run ones l ^^^ (ones ^^^ run ones l) = ones ^^^ (run ones l ^^^ run ones l) by ac_rfl, BitVec.xor_self, BitVec.xor_zero]

/-! ### frames -/
theorem IsBytes.append {a b : List Int} (ha : IsBytes a) (hb : IsBytes b) : IsBytes (a ++ b) := fun x hx => (List.mem_append.mp hx).elim (ha x) (hb x)
theorem IsBytes.take {a : List Int} (ha : IsBytes a) (n : Nat) : IsBytes (a.take n) := fun x hx => ha x (List.mem_of_mem_take hx)
theorem IsBytes.drop {a : List Int} (ha : IsBytes a) (n : Nat) : IsBytes (a.drop n) := fun x hx => ha x (List.mem_of_mem_drop hx)
theorem hdr_bytes (n : Int) (h0 : 0 ≤ n) (h1 : n < 65536) : IsBytes (hdr n) := by
  intro x hx
  simp only [hdr, List.mem_cons, List.not_mem_nil, or_false] at hx
  rcases hx with rfl | rfl | rfl | rfl <;> omega
theorem tail_bytes (s : Int) (h0 : 0 ≤ s) (h1 : s < 4294967296) : IsBytes (tailOf s) := by
  intro x hx
  simp only [tailOf, List.mem_cons, List.not_mem_nil, or_false] at hx
  rcases hx with rfl | rfl | rfl | rfl <;> omega
theorem hdr_len (n : Int) : (hdr n).length = 4 := rfl
theorem tail_len (s : Int) : (tailOf s).length = 4 := rfl
theorem frame_len (l : List Int) : (frameOf l).length = l.length + 8 := by
  unfold frameOf bodyOf
  rw [List.length_append, List.length_append, hdr_len, tail_len]
  omega
theorem frame_bytes (l : List Int) (h : IsBytes l) (h1 : l.length ≤ 8192) : IsBytes (frameOf l) := by
  unfold frameOf bodyOf
  exact ((hdr_bytes _ (by omega) (by omega)).append h).append (tail_bytes _ (sumOf_range _).1 (sumOf_range _).2)
theorem sizeI_of (n : Int) (h1 : 1 ≤ n) (h2 : n ≤ 8192) : sizeI n = n + 8 := by
  unfold sizeI
  rw [if_neg (by omega), if_neg (by omega)]
theorem sizeI_no (n : Int) (h : n < 1 ∨ 8192 < n) : sizeI n = 0 := by
  unfold sizeI
  by_cases h1 : n < 1
  · rw [if_pos h1]
  · rw [if_neg h1, if_pos (by omega)]
theorem put_no (l : List Int) (h : l.length < 1 ∨ 8192 < l.length) : putL l = [] := by
  unfold putL
  rw [if_pos (sizeI_no _ (by omega))]
theorem put_yes (l : List Int) (h1 : 1 ≤ l.length) (h2 : l.length ≤ 8192) : putL l = frameOf l := by
  unfold putL
  rw [sizeI_of _ (by omega) (by omega), if_neg (by omega)]
theorem put_bytes (l : List Int) (h : IsBytes l) : IsBytes (putL l) := by
  by_cases h1 : l.length < 1 ∨ 8192 < l.length
  · rw [put_no l h1]
    intro x hx
    simp at hx
  · rw [put_yes l (by omega) (by omega)]
    exact frame_bytes l h (by omega)
theorem put_len (l : List Int) : ((putL l).length : Int) = sizeI l.length := by
  by_cases h1 : l.length < 1 ∨ 8192 < l.length
  · rw [put_no l h1, sizeI_no _ (by omega)]
    rfl
  · rw [put_yes l (by omega) (by omega), frame_len, sizeI_of _ (by omega) (by omega)]
    omega
theorem nOf_hdr (n : Int) (l : List Int) : nOf (hdr n ++ l) = n := by
  show n / 256 * 256 + n % 256 = n
  omega
theorem frame_shape (l more : List Int) : frameOf l ++ more = hdr l.length ++ (l ++ (tailOf (sumOf (bodyOf l)) ++ more)) := by
  unfold frameOf
  conv => lhs; unfold bodyOf
  simp only [List.append_assoc]
  rfl
theorem take_hdr (n : Int) (l : List Int) : (hdr n ++ l).take 4 = hdr n := by
  show (hdr n ++ l).take (hdr n).length = _
  exact List.take_left
theorem frame_take (l more : List Int) : (frameOf l ++ more).take (l.length + 4) = bodyOf l := by
  have e : l.length + 4 = (bodyOf l).length := by unfold bodyOf; rw [List.length_append, hdr_len]; omega
  unfold frameOf
  rw [List.append_assoc, e]
  exact List.take_left
theorem frame_whole (l more : List Int) : (frameOf l ++ more).take (l.length + 8) = frameOf l := by
  rw [← frame_len]
  exact List.take_left
theorem body_drop (l : List Int) : (bodyOf l).drop 4 = l := by
  unfold bodyOf
  show (hdr l.length ++ l).drop (hdr l.length).length = _
  exact List.drop_left
/-- What is in a frame is got of it. -/
theorem first_frame (l more : List Int) (h1 : 1 ≤ l.length) (h2 : l.length ≤ 8192) : firstL (frameOf l ++ more) = (l, (l.length : Int) + 8, 0) := by
  have hn : nOf (frameOf l ++ more) = l.length := by rw [frame_shape, nOf_hdr]
  have hlen : (frameOf l ++ more).length = l.length + 8 + more.length := by rw [List.length_append, frame_len]
  have h := firstL_ok (frameOf l ++ more) (by omega) (by rw [hn, sizeI_of _ (by omega) (by omega)]; omega) (by rw [hn, frame_shape, take_hdr]) (by rw [hn, sizeI_of _ (by omega) (by omega)]; omega)
    (by rw [hn, show ((l.length : Int) + 4).toNat = l.length + 4 by omega, show ((l.length : Int) + 8).toNat = l.length + 8 by omega, frame_take, frame_whole]; rfl)
  rw [h, hn, show ((l.length : Int) + 4).toNat = l.length + 4 by omega, frame_take, body_drop]
theorem eq_of_mid (l h : List Int) (hh : l.take 4 = h) (n : Nat) : l.take (n + 4) = h ++ (l.take (n + 4)).drop 4 := by
  conv => lhs; rw [← List.take_append_drop 4 (l.take (n + 4))]
  rw [List.take_take, show min 4 (n + 4) = 4 by omega, hh]
/-- What may come of bytes. -/
theorem first_cases (l : List Int) (hB : IsBytes l) : firstL l = ([], 0, 21) ∨ firstL l = ([], 0, 22) ∨
    (1 ≤ nOf l ∧ nOf l ≤ 8192 ∧ nOf l + 8 ≤ l.length ∧ l.take 4 = hdr (nOf l) ∧
      (firstL l = ([], nOf l + 8, 22) ∨ ∃ y, firstL l = (y, nOf l + 8, 0) ∧ (y.length : Int) = nOf l ∧ l.take (nOf l + 8).toNat = frameOf y ∧ IsBytes y)) := by
  by_cases h4 : l.length < 4
  · exact .inl (firstL_short l h4)
  by_cases hz : sizeI (nOf l) = 0
  · exact .inr (.inl (firstL_bad l h4 hz))
  by_cases he : l.take 4 = hdr (nOf l)
  case neg => exact .inr (.inl (firstL_bad2 l h4 he))
  obtain ⟨hs, hn1, hn2⟩ := sizeI_ne _ hz
  by_cases hl : (l.length : Int) < sizeI (nOf l)
  · exact .inl (firstL_cut l h4 hz he hl)
  refine .inr (.inr ⟨hn1, hn2, by omega, he, ?_⟩)
  by_cases hq : l.take (nOf l + 4).toNat ++ tailOf (sumOf (l.take (nOf l + 4).toNat)) = l.take (nOf l + 8).toNat
  case neg => exact .inl (firstL_sum l h4 hz he hl hq)
  refine .inr ⟨_, firstL_ok l h4 hz he hl hq, ?_, ?_, (hB.take _).drop _⟩
  · rw [List.length_drop, List.length_take]
    omega
  · rw [← hq]
    obtain ⟨n, hn⟩ := Int.eq_ofNat_of_zero_le (show 0 ≤ nOf l by omega)
    rw [hn, show ((n : Int) + 4).toNat = n + 4 by omega]
    have hlen : (((l.take (n + 4)).drop 4).length : Int) = n := by rw [List.length_drop, List.length_take]; omega
    have hb : bodyOf ((l.take (n + 4)).drop 4) = l.take (n + 4) := by
      unfold bodyOf
      rw [hlen, ← hn, ← eq_of_mid l _ he]
    unfold frameOf
    rw [hb]
/-- A frame that is cut is too short. -/
theorem first_short (l : List Int) (h1 : 1 ≤ l.length) (h2 : l.length ≤ 8192) (j : Nat) (hj : j < l.length + 8) : firstL ((frameOf l).take j) = ([], 0, 21) := by
  have hlen : ((frameOf l).take j).length = j := by rw [List.length_take, frame_len]; omega
  by_cases h4 : j < 4
  · exact firstL_short _ (by omega)
  have e4 : ((frameOf l).take j).take 4 = hdr l.length := by
    rw [List.take_take, show min 4 j = 4 by omega]
    have := frame_shape l []
    rw [List.append_nil] at this
    rw [this, take_hdr]
  have hn : nOf ((frameOf l).take j) = l.length := by
    have e : (frameOf l).take j = hdr l.length ++ ((frameOf l).take j).drop 4 := by
      conv => lhs; rw [← List.take_append_drop 4 ((frameOf l).take j), e4]
    rw [e, nOf_hdr]
  exact firstL_cut _ (by omega) (by rw [hn, sizeI_of _ (by omega) (by omega)]; omega) (by rw [hn, e4]) (by rw [hn, sizeI_of _ (by omega) (by omega)]; omega)
end Go.Proofs.Ytjednkbgdbalnaa.Fr
