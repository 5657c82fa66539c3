/- Is too much found? Over lists alone. -/
import Derived.Test.YteplnpedakdjkaaZHuO
import Derived.Test.YteplnpedakdjkaaZPtx6
namespace Go.Proofs.Yteplnpedakdjkaa.Hu
set_option linter.unusedVariables false
set_option linter.unusedSimpArgs false
open Go.RowKit Go.Proofs.Yteplnpedakdjkaa.Pt Go.Proofs.YteplnpedakdjkaaW.PrintWords Go.Proofs.YteplnpedakdjkaaW.PrintLast Go.Proofs.Yteplnpedakdjkaa.Fr Go.Proofs.Yteplnpedakdjkaa.Ext Go.Proofs.Yteplnpedakdjkaa.Sc Go.Proofs.Yteplnpedakdjkaa.Hn Go.Proofs.Yteplnpedakdjkaa.Pure

theorem rdF_at (l : List Fo) (i : Nat) (h : i < l.length) : rd_T39 l (i : Int) = l[i] := by
  unfold rd_T39
  rw [Int.toNat_natCast, List.getD_eq_getElem?_getD, List.getElem?_eq_getElem h]
  rfl
theorem great_loop (l : List Fo) (hm : l.length ≤ maxLen) (n : Nat) : ∀ (i : Nat) (s : Int), i + n = l.length → ∃ b, (∀ k, n + 1 ≤ k → souterrainlaw11_great.l0 k l s (i : Int) = some b) ∧ (b = false → l.length ≤ 300) := by
  have hmx : maxLen = 9223372036854775807 := rfl
  induction n with
  | zero =>
    intro i s hi
    by_cases h : s ≥ 9000
    · refine ⟨true, fun k hk => ?_, fun h => by cases h⟩
      obtain ⟨k, rfl⟩ : ∃ j, k = j + 1 := ⟨k - 1, by omega⟩
      rw [souterrainlaw11_great.l0, if_neg (by omega), if_pos h]
    · refine ⟨decide ((l.length : Int) > 300), fun k hk => ?_, fun hb => by have := of_decide_eq_false hb; omega⟩
      obtain ⟨k, rfl⟩ : ∃ j, k = j + 1 := ⟨k - 1, by omega⟩
      rw [souterrainlaw11_great.l0, if_neg (by omega), if_neg h]
  | succ n ih =>
    intro i s hi
    by_cases h : s < 9000
    · obtain ⟨b, g1, g2⟩ := ih (i + 1) (wrap64 (s + (mn (wrap64 (((l[i].f2.f1).size : Int) + ((l[i].f2.f5).length : Int))) 9000))) (by omega)
      refine ⟨b, fun k hk => ?_, g2⟩
      obtain ⟨k, rfl⟩ : ∃ j, k = j + 1 := ⟨k - 1, by omega⟩
      rw [souterrainlaw11_great.l0, if_pos (by omega), if_pos h, if_pos (by omega), rdF_at l i (by omega), w64 ((i : Int) + 1) (by omega) (by omega), show (i : Int) + 1 = ((i + 1 : Nat) : Int) by omega]
      exact g1 k (by omega)
    · refine ⟨true, fun k hk => ?_, fun h => by cases h⟩
      obtain ⟨k, rfl⟩ : ∃ j, k = j + 1 := ⟨k - 1, by omega⟩
      rw [souterrainlaw11_great.l0, if_pos (by omega), if_neg h, if_pos (by omega)]
theorem great_ex (l : List Fo) (hm : l.length ≤ maxLen) : ∃ b, (∀ k, l.length + 1 ≤ k → souterrainlaw11_great.f k l = some b) ∧ (b = false → l.length ≤ 300) :=
  great_loop l hm l.length 0 (l.length : Int) (by omega)
theorem of_f (l : List Fo) (hm : l.length ≤ 300) (hs : ∀ x ∈ l, x.f2.f1.size ≤ maxLen) : hint_Of.f l = some (ofL l) := by
  unfold hint_Of.f
  rw [if_pos ⟨by omega, List.all_eq_true.2 fun x hx => decide_eq_true (hs x hx)⟩]
end Go.Proofs.Yteplnpedakdjkaa.Hu

