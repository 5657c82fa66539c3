/- Bits within 32 that turn in a frame: what the frame's sum makes of them. -/
import Derived.Test.YtjednkbgdbalnaaPureCommon
namespace Go.Proofs.Ytjednkbgdbalnaa.Pure
open Go.RowKit Go.Proofs.YtjednkbgdbalnaaW.PrintWords Go.Proofs.YtjednkbgdbalnaaW.PrintMore Go.Proofs.Ytjednkbgdbalnaa.Fr Go.Proofs.Ytjednkbgdbalnaa.Ext
set_option linter.unusedVariables false

theorem shl_bit (b : Nat) (h : b < 8) : shl .u8 1 (b : Int) = ((2 ^ b : Nat) : Int) := by
  have key : ∀ b : Fin 8, shl .u8 1 ((b.val : Nat) : Int) = ((2 ^ b.val : Nat) : Int) := by decide +kernel
  exact key ⟨b, h⟩
/-- A byte with a bit turned. -/
theorem turn_byte (c : Int) (b : Nat) (h0 : 0 ≤ c) (h1 : c < 256) (hb : b < 8) :
    0 ≤ bits .xor .u8 c (shl .u8 1 (b : Int)) ∧ bits .xor .u8 c (shl .u8 1 (b : Int)) < 256 ∧ toB (bits .xor .u8 c (shl .u8 1 (b : Int))) = toB c ^^^ (1#32 <<< b) := by
  refine ⟨(xor_u8_range _ _).1, (xor_u8_range _ _).2, ?_⟩
  obtain ⟨m, rfl⟩ := Int.eq_ofNat_of_zero_le h0
  have hm : m < 256 := by omega
  rw [shl_bit b hb]
  have h : bits .xor .u8 (m : Int) ((2 ^ b : Nat) : Int) = IntKind.u8.wrap ((BitVec.ofNat 8 m ^^^ BitVec.ofNat 8 (2 ^ b)).toNat : Int) := by
    simp only [bits, IntKind.bits, BitVec.ofInt_natCast]
    rfl
  have hp : 2 ^ b < 256 := Nat.lt_of_lt_of_le (Nat.pow_lt_pow_right (by decide) hb) (by decide)
  have e1 : (BitVec.ofNat 8 m ^^^ BitVec.ofNat 8 (2 ^ b)).toNat = m ^^^ 2 ^ b := by
    rw [BitVec.toNat_xor, BitVec.toNat_ofNat, BitVec.toNat_ofNat, Nat.mod_eq_of_lt hm, Nat.mod_eq_of_lt hp]
  have hlt : m ^^^ 2 ^ b < 256 := Nat.xor_lt_two_pow (n := 8) hm hp
  rw [h, e1, IntKind.wrap_u8]
  have e2 : ((m ^^^ 2 ^ b : Nat) : Int) % 256 = ((m ^^^ 2 ^ b : Nat) : Int) := by omega
  rw [e2]
  apply BitVec.eq_of_toNat_eq
  unfold toB
  rw [BitVec.toNat_xor, BitVec.toNat_ofNat, BitVec.toNat_ofNat, Int.toNat_natCast, Int.toNat_natCast, BitVec.toNat_shiftLeft, Nat.mod_eq_of_lt (by omega), Nat.mod_eq_of_lt (show m < 2 ^ 32 by omega)]
  rw [show (1#32).toNat = 1 from rfl, Nat.shiftLeft_eq, Nat.one_mul, Nat.mod_eq_of_lt (show 2 ^ b < 2 ^ 32 by omega)]

theorem one_bits (n : Nat) : ∀ i, 32 ≤ i + n → n < 32 → (1#32).getLsbD i = false := by
  intro i hi hn
  rw [BitVec.getLsbD_one]
  have : i ≠ 0 := by omega
  simp [this]
/-- Bit k + i of the bytes y turns their sum by that bit's word. -/
theorem run_turn (y : List Int) (K i : Nat) (hi : i < 32) (hK : K + 32 ≤ 8 * y.length) (v : Int) (hv : toB v = toB (rd y (((K + i) / 8 : Nat) : Int)) ^^^ (1#32 <<< ((K + i) % 8))) :
    run ones (y.set ((K + i) / 8) v) = run ones y ^^^ stps (8 * y.length - K) (1#32 <<< i) := by
  have hp : (K + i) / 8 < y.length := by omega
  rw [run_set ones y ((K + i) / 8) hp v (1#32 <<< ((K + i) % 8)) (by rw [hv]; rfl)]
  congr 1
  rw [stps_up ((K + i) % 8) _ 1#32 (by omega) (fun j hj => one_bits _ j hj (by omega)), stps_up i _ 1#32 (by omega) (fun j hj => one_bits _ j hj hi)]
  congr 1
  omega

/-- The first bits of a word. -/
def lowBits (a : Nat) : Nat → BitVec 32
  | 0 => 0#32
  | n + 1 => lowBits a n ^^^ (if a.testBit n then 1#32 <<< n else 0#32)
theorem lowBits_get (a n j : Nat) (hj : j < 32) : (lowBits a n).getLsbD j = (decide (j < n) && a.testBit j) := by
  induction n with
  | zero => simp [lowBits]
  | succ n ih =>
    rw [lowBits, BitVec.getLsbD_xor, ih]
    by_cases h : a.testBit n
    · rw [if_pos h, BitVec.getLsbD_shiftLeft, BitVec.getLsbD_one]
      by_cases e : j = n
      · subst e
        simp [h, hj]
      · by_cases hlt : j < n
        · have h1 : j < n + 1 := by omega
          simp [hlt, h1]
        · have h1 : ¬ j < n + 1 := by omega
          have h2 : j - n ≠ 0 := by omega
          simp [hlt, h1, h2]
    · rw [if_neg h]
      by_cases e : j = n
      · subst e
        simp [h]
      · by_cases hlt : j < n
        · have h1 : j < n + 1 := by omega
          simp [hlt, h1]
        · have h1 : ¬ j < n + 1 := by omega
          simp [hlt, h1]
theorem lowBits_all (a : Nat) (h : a < 2 ^ 32) : lowBits a 32 = BitVec.ofNat 32 a := by
  apply BitVec.eq_of_getLsbD_eq
  intro j hj
  rw [lowBits_get a 32 j hj, BitVec.getLsbD_ofNat]
theorem burst_ne (a : Nat) (h : a < 2 ^ 32) (h0 : a ≠ 0) (m : Nat) : stps m (lowBits a 32) ≠ 0#32 := by
  apply stps_ne
  rw [lowBits_all a h]
  intro e
  have := congrArg BitVec.toNat e
  rw [BitVec.toNat_ofNat, Nat.mod_eq_of_lt h] at this
  exact h0 this
theorem ne_of_burst (g d : BitVec 32) (h : d ≠ 0#32) : g ^^^ d ≠ g := by
  intro e
  apply h
  have : g ^^^ (g ^^^ d) = g ^^^ g := by rw [e]
  rwa [← BitVec.xor_assoc, BitVec.xor_self, BitVec.zero_xor] at this
/-- The test of a word's bit. -/
theorem test_bit (a : Nat) (i : Nat) (hi : i < 32) : (Int.tmod (shr .u32 (a : Int) (i : Int)) 2 = 1) ↔ a.testBit i = true := by
  have e : shr .u32 (a : Int) (i : Int) = ((a / 2 ^ i : Nat) : Int) := by
    unfold shr
    rw [Int.toNat_natCast, show min i IntKind.u32.bits = i from Nat.min_eq_left (by simp [IntKind.bits]; omega)]
    rw [Int.natCast_ediv]
    rfl
  rw [e, tmod_pos _ _ (Int.natCast_nonneg _), Nat.testBit_eq_decide_div_mod_eq]
  generalize a / 2 ^ i = q
  constructor
  · intro h
    exact decide_eq_true (by omega)
  · intro h
    have := of_decide_eq_true h
    omega
end Go.Proofs.Ytjednkbgdbalnaa.Pure
