/- Is a string at most another one, by 'less' alone. -/
import Derived.Test.YteplnpedakdjkaaZWWords
namespace Go.Proofs.Yteplnpedakdjkaa.Hw
open Go.RowKit

theorem leq_not : ∀ a b : List UInt8, (Op.bytesLess a b || a == b) = !Op.bytesLess b a
  | [], [] => rfl
  | [], _ :: _ => rfl
  | _ :: _, [] => rfl
  | a :: x, b :: y => by
    have ih := leq_not x y
    rw [Op.bytesLess, Op.bytesLess, List.cons_beq_cons]
    have tri : a < b ∨ a = b ∨ b < a := by
      rcases Nat.lt_trichotomy a.toNat b.toNat with h | h | h
      · exact .inl (UInt8.lt_iff_toNat_lt.2 h)
      · exact .inr (.inl (UInt8.toNat_inj.1 h))
      · exact .inr (.inr (UInt8.lt_iff_toNat_lt.2 h))
    rcases tri with h | h | h
    · have h1 : ¬ b < a := UInt8.not_lt.2 (UInt8.le_of_lt h)
      have h2 : b ≠ a := fun e => UInt8.lt_irrefl _ (e ▸ h)
      simp [h, h1, h2]
    · subst h
      have h1 : ¬ a < a := UInt8.lt_irrefl _
      simp only [h1, decide_false, Bool.false_or, beq_self_eq_true, Bool.true_and]
      exact ih
    · have h1 : ¬ a < b := UInt8.not_lt.2 (UInt8.le_of_lt h)
      have h2 : a ≠ b := fun e => UInt8.lt_irrefl _ (e ▸ h)
      simp [h, h1, h2]
theorem leq_sem (t : TypeId) (a b : ByteArray) : Go.binOp .leq t (.string a) (.string b) = pure (.bool (!Op.bytesLess b.toList a.toList)) := by
  rw [← leq_not]
  simp [Go.binOp, Op.stringOp]
end Go.Proofs.Yteplnpedakdjkaa.Hw

