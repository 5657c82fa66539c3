/- The law ScanSpoilt, walked: out of what it computes. -/
import Derived.Test.YtjednkbgdbalnaaPureScanSpoilt
import Derived.Test.YtjednkbgdbalnaaRowsOf
namespace Go.Proofs.Ytjednkbgdbalnaa.Pure
open Go.RowKit Go.Proofs.Ytjednkbgdbalnaa.Pt Go.Proofs.YtjednkbgdbalnaaW.PrintWords Go.Proofs.Ytjednkbgdbalnaa.Fr Go.Proofs.Ytjednkbgdbalnaa.Ext

theorem ScanSpoilt.walk (a0 : Option Addr) (n0 c0 : Nat) (z0 : List (List Int)) (b0 : Int) (b1 : Int) (b2 : Int) (W : World) (h0 : z0.length = n0 ∧ n0 ≤ c0 ∧ Kd.C (Kd.slice 5 (Kd.int .u8)) W a0 n0 z0 ∧ ∀ l ∈ z0, IsBytes l ∧ l.length ≤ maxLen) (g0 : (Lit.int .u8 b0).wf = true) (g1 : (Lit.int .u16 b1).wf = true) (g2 : (Lit.int .u32 b2).wf = true) :
    Calls Try.prog 11 #[.slice a0 n0 c0, .int .u8 b0, .int .u16 b1, .int .u32 b2] W fun e w' => e = .returned (.bool true) ∧ Below W.heap.size W w' := by
  obtain ⟨rfl, p0, q0, r0⟩ := h0
  have m0 : z0.length ≤ maxLen := q0.2.1
  obtain ⟨k, hk⟩ := ScanSpoilt z0 b0 b1 b2 m0 (fun x hx => (r0 x hx).1) g0 g1 g2
  exact souterrainlaw03_ScanSpoilt.calls k a0 c0 z0 b0 b1 b2 true W q0 p0 hk
end Go.Proofs.Ytjednkbgdbalnaa.Pure
