/- Sums as words of 32 bits: a sum is linear; a bit that turns, turns the sum by a known word; that word is never zero for bits within 32. -/
import Derived.Test.YtjednkbgdbalnaaFrA
namespace Go.Proofs.Ytjednkbgdbalnaa.Fr
open Go.RowKit Go.Proofs.YtjednkbgdbalnaaW.PrintWords Go.Proofs.YtjednkbgdbalnaaW.PrintMore

def poly : BitVec 32 := 2197175160#32
def stp (s : BitVec 32) : BitVec 32 := (s >>> 1) ^^^ (if s.getLsbD 0 then poly else 0#32)
def stps : Nat → BitVec 32 → BitVec 32
  | 0, s => s
  | n + 1, s => stp (stps n s)
def toI (s : BitVec 32) : Int := (s.toNat : Int)
theorem toI_inj {a b : BitVec 32} (h : toI a = toI b) : a = b := by
  unfold toI at h
  exact BitVec.eq_of_toNat_eq (by omega)
theorem toI_range (s : BitVec 32) : 0 ≤ toI s ∧ toI s < 4294967296 := by
  unfold toI
  have := s.isLt
  omega
theorem toI_of (x : Int) (h0 : 0 ≤ x) (h1 : x < 4294967296) : ∃ s, toI s = x := by
  refine ⟨BitVec.ofNat 32 x.toNat, ?_⟩
  unfold toI
  rw [BitVec.toNat_ofNat, Nat.mod_eq_of_lt (by omega)]
  omega
theorem xor_toI (a b : BitVec 32) : bits .xor .u32 (toI a) (toI b) = toI (a ^^^ b) := by
  have h : bits .xor .u32 (toI a) (toI b) = IntKind.u32.wrap ((a ^^^ b).toNat : Int) := by
    simp only [bits, toI, IntKind.bits, BitVec.ofInt_natCast, BitVec.ofNat_toNat, BitVec.setWidth_eq]
    rfl
  rw [h, IntKind.wrap_u32]
  unfold toI
  have := (a ^^^ b).isLt
  omega
theorem and1_toI (a : BitVec 32) : bits .and .u32 (toI a) 1 = if a.getLsbD 0 then 1 else 0 := by
  have h : bits .and .u32 (toI a) 1 = IntKind.u32.wrap ((a &&& 1#32).toNat : Int) := by
    simp only [bits, toI, IntKind.bits, BitVec.ofInt_natCast, BitVec.ofNat_toNat, BitVec.setWidth_eq]
    rfl
  rw [h, IntKind.wrap_u32, BitVec.toNat_and]
  have e : a.toNat &&& 1 = a.toNat % 2 := Nat.and_two_pow_sub_one_eq_mod a.toNat 1
  rw [show (1#32).toNat = 1 from rfl, e]
  have e2 : a.getLsbD 0 = decide (a.toNat % 2 = 1) := by
    rw [BitVec.getLsbD, Nat.testBit_zero]
  rw [e2]
  by_cases h2 : a.toNat % 2 = 1
  · simp [h2]
  · have : a.toNat % 2 = 0 := by omega
    simp [this]
theorem stepI_toI (a : BitVec 32) : stepI (toI a) = toI (stp a) := by
  unfold stepI stp
  have e : toI a / (2 : Int) = toI (a >>> 1) := by
    unfold toI
    rw [BitVec.toNat_ushiftRight, Nat.shiftRight_eq_div_pow]
    omega
  have e2 : (if a.getLsbD 0 = true then (1 : Int) else 0) * 2197175160 % 4294967296 = toI (if a.getLsbD 0 = true then poly else 0#32) := by
    by_cases h : a.getLsbD 0 = true
    · rw [if_pos h, if_pos h]; rfl
    · rw [if_neg h, if_neg h]; rfl
  rw [and1_toI, ← xor_toI, e, e2]
theorem stepsI_toI (n : Nat) (a : BitVec 32) : stepsI n (toI a) = toI (stps n a) := by
  induction n with
  | zero => rfl
  | succ n ih => rw [stepsI, ih, stepI_toI, stps]

theorem stp_xor (a b : BitVec 32) : stp (a ^^^ b) = stp a ^^^ stp b := by
  unfold stp
  rw [BitVec.ushiftRight_xor_distrib, BitVec.getLsbD_xor]
  have hp : poly ^^^ poly = 0#32 := BitVec.xor_self
  cases a.getLsbD 0 <;> cases b.getLsbD 0
  · simp
  · simp only [Bool.bne_true, Bool.not_false, ↓reduceIte, Bool.false_eq_true, BitVec.xor_zero]; ac_rfl
  · simp only [Bool.bne_false, ↓reduceIte, Bool.false_eq_true, BitVec.xor_zero]; ac_rfl
  · simp only [bne_self_eq_false, ↓reduceIte, Bool.false_eq_true]
    rw [show (a >>> 1 ^^^ poly) ^^^ (b >>> 1 ^^^ poly) = (a >>> 1 ^^^ b >>> 1) ^^^ (poly ^^^ poly) by ac_rfl, hp]
theorem stp_zero : stp 0#32 = 0#32 := by decide
theorem stps_xor (n : Nat) (a b : BitVec 32) : stps n (a ^^^ b) = stps n a ^^^ stps n b := by
  induction n with
  | zero => rfl
  | succ n ih => rw [stps, ih, stp_xor, stps, stps]
theorem stps_zero (n : Nat) : stps n 0#32 = 0#32 := by
  induction n with
  | zero => rfl
  | succ n ih => rw [stps, ih, stp_zero]
theorem stps_add (m n : Nat) (a : BitVec 32) : stps (m + n) a = stps m (stps n a) := by
  induction m with
  | zero => rw [Nat.zero_add]; rfl
  | succ m ih => rw [Nat.succ_add, stps, ih, stps]
theorem stp_ne (a : BitVec 32) (h : stp a = 0#32) : a = 0#32 := by
  unfold stp at h
  by_cases h0 : a.getLsbD 0
  · rw [if_pos h0] at h
    have h1 := congrArg (fun x => x.getLsbD 31) h
    simp [poly] at h1
  · rw [if_neg h0, BitVec.xor_zero] at h
    apply BitVec.eq_of_getLsbD_eq
    intro i hi
    rcases i with _ | i
    · simpa using h0
    · have h1 := congrArg (fun x => x.getLsbD i) h
      simpa [BitVec.getLsbD_ushiftRight, Nat.add_comm] using h1
theorem stps_ne (n : Nat) (a : BitVec 32) (h : a ≠ 0#32) : stps n a ≠ 0#32 := by
  induction n with
  | zero => exact h
  | succ n ih => exact fun e => ih (stp_ne _ e)
/-- What has no low bits goes down by as many. -/
theorem stps_shift (n : Nat) (a : BitVec 32) (h : ∀ i, i < n → a.getLsbD i = false) : stps n a = a >>> n := by
  induction n with
  | zero => simp [stps]
  | succ n ih =>
    rw [stps, ih (fun i hi => h i (by omega)), stp]
    have h0 : (a >>> n).getLsbD 0 = false := by
      rw [BitVec.getLsbD_ushiftRight]
      exact h n (by omega)
    rw [h0]
    simp [BitVec.shiftRight_add]

/-! ### bytes -/
def toB (c : Int) : BitVec 32 := BitVec.ofNat 32 c.toNat
theorem toI_toB (c : Int) (h0 : 0 ≤ c) (h1 : c < 256) : toI (toB c) = c := by
  unfold toI toB
  rw [BitVec.toNat_ofNat, Nat.mod_eq_of_lt (by omega)]
  omega
theorem toB_high (c : Int) (h1 : c < 256) (i : Nat) (hi : 8 ≤ i) : (toB c).getLsbD i = false := by
  unfold toB
  rw [BitVec.getLsbD_ofNat]
  have : c.toNat.testBit i = false := Nat.testBit_lt_two_pow (by
    have : (2 : Nat) ^ 8 ≤ 2 ^ i := Nat.pow_le_pow_right (by decide) hi
    omega)
  simp [this]
theorem xor8 (s : BitVec 32) (c : Int) (h0 : 0 ≤ c) (h1 : c < 256) : bits .xor .u8 (toI s % 256) c = toI ((s &&& 255#32) ^^^ toB c) := by
  obtain ⟨m, rfl⟩ := Int.eq_ofNat_of_zero_le h0
  have hm : m < 256 := by omega
  have h : bits .xor .u8 (toI s % 256) (m : Int) = IntKind.u8.wrap ((BitVec.ofNat 8 (s.toNat % 256) ^^^ BitVec.ofNat 8 m).toNat : Int) := by
    have e : (toI s % 256) = ((s.toNat % 256 : Nat) : Int) := by unfold toI; omega
    rw [e]
    simp only [bits, IntKind.bits, BitVec.ofInt_natCast]
    rfl
  rw [h, IntKind.wrap_u8]
  unfold toI toB
  have e1 : (BitVec.ofNat 8 (s.toNat % 256) ^^^ BitVec.ofNat 8 m).toNat = (s.toNat % 256) ^^^ m := by
    rw [BitVec.toNat_xor, BitVec.toNat_ofNat, BitVec.toNat_ofNat]
    congr 1 <;> omega
  have e2 : ((s &&& 255#32) ^^^ BitVec.ofNat 32 (m : Int).toNat).toNat = (s.toNat % 256) ^^^ m := by
    rw [BitVec.toNat_xor, BitVec.toNat_and, BitVec.toNat_ofNat, BitVec.toNat_ofNat, show 255 % 2 ^ 32 = 2 ^ 8 - 1 from rfl, Nat.and_two_pow_sub_one_eq_mod, Int.toNat_natCast]
    congr 1
    omega
  rw [e2, ← e1]
  have := (BitVec.ofNat 8 (s.toNat % 256) ^^^ BitVec.ofNat 8 m).isLt
  omega
theorem low_high (s : BitVec 32) : s = (s &&& 255#32) ^^^ (s &&& 4294967040#32) := by
  apply BitVec.eq_of_getLsbD_eq
  intro i hi
  rw [BitVec.getLsbD_xor, BitVec.getLsbD_and, BitVec.getLsbD_and]
  have key : ∀ j : Fin 32, (255#32).getLsbD j = !(4294967040#32).getLsbD j := by decide
  have := key ⟨i, hi⟩
  simp only at this
  rw [this]
  cases s.getLsbD i <;> cases (4294967040#32).getLsbD i <;> rfl
/-- A byte taken in. -/
theorem crcByte_toI (s : BitVec 32) (c : Int) (h0 : 0 ≤ c) (h1 : c < 256) : crcByte (toI s) c = toI (stps 8 (s ^^^ toB c)) := by
  unfold crcByte
  rw [xor8 s c h0 h1, stepsI_toI]
  have e : toI s / (256 : Int) = toI (s >>> 8) := by
    unfold toI
    rw [BitVec.toNat_ushiftRight, Nat.shiftRight_eq_div_pow]
    omega
  rw [e, xor_toI]
  congr 1
  have hh : stps 8 (s &&& 4294967040#32) = s >>> 8 := by
    rw [stps_shift]
    · apply BitVec.eq_of_getLsbD_eq
      intro i hi
      rw [BitVec.getLsbD_ushiftRight, BitVec.getLsbD_ushiftRight, BitVec.getLsbD_and]
      by_cases hj : 8 + i < 32
      · have key : ∀ j : Fin 32, 8 ≤ j.val → (4294967040#32).getLsbD j = true := by decide
        have := key ⟨8 + i, hj⟩ (by simp)
        simp only at this
        rw [this]
        simp
      · rw [BitVec.getLsbD_of_ge s _ (by omega)]
        simp
    · intro i hi
      rw [BitVec.getLsbD_and]
      have key : ∀ j : Fin 8, (4294967040#32).getLsbD j = false := by decide
      have := key ⟨i, hi⟩
      simp only at this
      rw [this]
      simp
  conv => rhs; rw [low_high s]
  rw [← hh, ← stps_xor]
  congr 1
  ac_rfl

def run (s : BitVec 32) (l : List Int) : BitVec 32 := l.foldl (fun s c => stps 8 (s ^^^ toB c)) s
theorem crcFrom_toI (s : BitVec 32) (l : List Int) (h : IsBytes l) : crcFrom (toI s) l = toI (run s l) := by
  induction l generalizing s with
  | nil => rfl
  | cons c l ih =>
    have hc := h c (by simp)
    show crcFrom (crcByte (toI s) c) l = toI (run (stps 8 (s ^^^ toB c)) l)
    rw [crcByte_toI s c hc.1 hc.2]
    exact ih _ fun x hx => h x (by simp [hx])
theorem run_append (s : BitVec 32) (a b : List Int) : run s (a ++ b) = run (run s a) b := List.foldl_append
/-- The state's part goes on by itself. -/
theorem run_split (s d : BitVec 32) (l : List Int) : run (s ^^^ d) l = run s l ^^^ stps (8 * l.length) d := by
  induction l generalizing s d with
  | nil => rfl
  | cons c l ih =>
    show run (stps 8 (s ^^^ d ^^^ toB c)) l = run (stps 8 (s ^^^ toB c)) l ^^^ _
    rw [show s ^^^ d ^^^ toB c = (s ^^^ toB c) ^^^ d by ac_rfl, stps_xor, ih, ← stps_add, show 8 * l.length + 8 = 8 * (c :: l).length by simp only [List.length_cons]; omega]
/-- A byte turned by some bits. -/
theorem run_set (s : BitVec 32) (l : List Int) (p : Nat) (hp : p < l.length) (v : Int) (d : BitVec 32) (hv : toB v = toB (l.getD p 0) ^^^ d) :
    run s (l.set p v) = run s l ^^^ stps (8 * (l.length - p)) d := by
  induction l generalizing s p with
  | nil => simp at hp
  | cons c l ih =>
    rcases p with _ | p
    · show run (stps 8 (s ^^^ toB v)) l = run (stps 8 (s ^^^ toB c)) l ^^^ _
      have hv : toB v = toB c ^^^ d := by simpa using hv
      rw [hv, show s ^^^ (toB c ^^^ d) = (s ^^^ toB c) ^^^ d by ac_rfl, stps_xor, run_split, ← stps_add]
      simp only [List.length_cons, Nat.sub_zero]
      congr 2
    · show run (stps 8 (s ^^^ toB c)) (l.set p v) = run (stps 8 (s ^^^ toB c)) l ^^^ _
      rw [ih _ p (by simpa using hp) (by simpa using hv), show (c :: l).length - (p + 1) = l.length - p by simp only [List.length_cons]; omega]
end Go.Proofs.Ytjednkbgdbalnaa.Fr
