/- A frame that is cut anywhere is too short: over numbers and lists alone. -/
import Derived.Test.YtjednkbgdbalnaaPrx4
import Derived.Test.YtjednkbgdbalnaaFrN
namespace Go.Proofs.Ytjednkbgdbalnaa.Pure
open Go.RowKit Go.Proofs.Ytjednkbgdbalnaa.Pr Go.Proofs.YtjednkbgdbalnaaW.PrintWords Go.Proofs.YtjednkbgdbalnaaW.PrintLast Go.Proofs.Ytjednkbgdbalnaa.Fr Go.Proofs.Ytjednkbgdbalnaa.Ext

theorem bytes_of_wf (l : List Int) (h : ∀ x ∈ l, (Lit.int .u8 x).wf = true) : IsBytes l := by
  intro x hx
  have := h x hx
  simp [Lit.wf, IntKind.min, IntKind.max, IntKind.signed, IntKind.bits] at this
  omega
theorem u16_of_wf (a : Int) (h : (Lit.int .u16 a).wf = true) : 0 ≤ a ∧ a < 65536 := by
  simp [Lit.wf, IntKind.min, IntKind.max, IntKind.signed, IntKind.bits] at h
  omega
theorem w64 (a : Int) (h0 : -9223372036854775808 ≤ a) (h1 : a < 9223372036854775808) : wrap64 a = a := by
  unfold wrap64
  omega
theorem tmod_pos (a b : Int) (h0 : 0 ≤ a) : Int.tmod a b = a % b := Int.tmod_eq_emod_of_nonneg h0

theorem FrameCut : souterrainlaw02_FrameCut.Pure := by
  intro l a hm hl hb ha
  have hB := bytes_of_wf l hb
  obtain ⟨a0, a1⟩ := u16_of_wf a ha
  unfold souterrainlaw02_FrameCut.f
  simp only [souterrainlaw02_head.f, frame_Put.f, Option.bind_some]
  rw [w64 a (by omega) (by omega), tmod_pos a _ a0]
  by_cases h1 : l.length < 1 ∨ 8192 < l.length
  · rw [put_no l h1]; rfl
  · have hp := put_yes l (by omega) (by omega)
    have hpl := frame_len l
    rw [hp, hpl]
    have hj0 : 0 ≤ a % ((l.length + 8 : Nat) : Int) := Int.emod_nonneg _ (by omega)
    have hj1 : a % ((l.length + 8 : Nat) : Int) < ((l.length + 8 : Nat) : Int) := Int.emod_lt_of_pos _ (by omega)
    rw [if_neg (by omega), if_pos hj0, if_pos (by omega)]
    have hf : frame_First.f ((frameOf l).take (a % ((l.length + 8 : Nat) : Int)).toNat) = some ([], 0, 21) := by
      unfold frame_First.f
      rw [if_pos ((bytesB_iff _).mpr ((frame_bytes l hB (by omega)).take _)), first_short l (by omega) (by omega) _ (by omega)]
    rw [hf]
    rfl
end Go.Proofs.Ytjednkbgdbalnaa.Pure
