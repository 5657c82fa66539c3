/- What a scan tells: over numbers and lists alone. -/
import Derived.Test.YtjednkbgdbalnaaPureCommon
namespace Go.Proofs.Ytjednkbgdbalnaa.Pure
open Go.RowKit Go.Proofs.YtjednkbgdbalnaaW.PrintWords Go.Proofs.YtjednkbgdbalnaaW.PrintMore Go.Proofs.Ytjednkbgdbalnaa.Fr Go.Proofs.Ytjednkbgdbalnaa.Ext

/-- A body: where its frame begins, how long that is, what it has. -/
abbrev Itm := Nat × Nat × List Int
/-- What is told from a place on: the bodies, how many were passed by, where it ends, and why. -/
def scanGo : Nat → List Int → Nat → Nat → List Itm → List Itm × Nat × Nat × Int
  | 0, _, at_, bad, pre => (pre, bad, at_, 0)
  | k + 1, l, at_, bad, pre =>
    if at_ < l.length then
      if (firstL (l.drop at_)).2.1 = 0 then (pre, bad, at_, (firstL (l.drop at_)).2.2)
      else if (firstL (l.drop at_)).2.2 = 0 then scanGo k l (at_ + (firstL (l.drop at_)).2.1.toNat) bad (pre ++ [(at_, (firstL (l.drop at_)).2.1.toNat, (firstL (l.drop at_)).1)])
      else scanGo k l (at_ + (firstL (l.drop at_)).2.1.toNat) (bad + 1) pre
    else (pre, bad, at_, 0)
/-- What may be got of bytes: nothing, and why; or so many bytes of them. -/
theorem first_kinds (l : List Int) (hB : IsBytes l) : ∃ xs k e, firstL l = (xs, k, e) ∧ ((k = 0 ∧ xs = [] ∧ (e = 21 ∨ e = 22)) ∨ ∃ n : Nat, k = n ∧ 9 ≤ n ∧ n ≤ l.length ∧ ((e = 22 ∧ xs = []) ∨ (e = 0 ∧ xs.length + 8 = n ∧ 1 ≤ xs.length ∧ xs.length ≤ 8192 ∧ frameOf xs = l.take n ∧ IsBytes xs))) := by
  rcases first_cases l hB with h | h | ⟨g1, g2, g3, g4, h | ⟨z, h, hz, hzf, hzB⟩⟩
  · exact ⟨_, _, _, h, .inl ⟨rfl, rfl, .inl rfl⟩⟩
  · exact ⟨_, _, _, h, .inl ⟨rfl, rfl, .inr rfl⟩⟩
  · exact ⟨_, _, _, h, .inr ⟨(nOf l + 8).toNat, by omega, by omega, by omega, .inl ⟨rfl, rfl⟩⟩⟩
  · exact ⟨_, _, _, h, .inr ⟨(nOf l + 8).toNat, by omega, by omega, by omega, .inr ⟨rfl, by omega, by omega, by omega, hzf.symm, hzB⟩⟩⟩
end Go.Proofs.Ytjednkbgdbalnaa.Pure
