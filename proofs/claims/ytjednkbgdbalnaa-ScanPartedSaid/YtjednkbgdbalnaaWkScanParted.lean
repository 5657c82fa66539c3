/- The law ScanParted, walked: out of what it computes. -/
import Derived.Test.YtjednkbgdbalnaaPureScanParted
import Derived.Test.YtjednkbgdbalnaaRowsOf
namespace Go.Proofs.Ytjednkbgdbalnaa.Pure
open Go.RowKit Go.Proofs.Ytjednkbgdbalnaa.Pt Go.Proofs.YtjednkbgdbalnaaW.PrintWords Go.Proofs.Ytjednkbgdbalnaa.Fr Go.Proofs.Ytjednkbgdbalnaa.Ext

theorem ScanParted.walk (a0 : Option Addr) (n0 c0 : Nat) (z0 : List (List Int)) (a1 : Option Addr) (n1 c1 : Nat) (z1 : List (List Int)) (W : World) (h0 : z0.length = n0 ∧ n0 ≤ c0 ∧ Kd.C (Kd.slice 5 (Kd.int .u8)) W a0 n0 z0 ∧ ∀ l ∈ z0, IsBytes l ∧ l.length ≤ maxLen) (h1 : z1.length = n1 ∧ n1 ≤ c1 ∧ Kd.C (Kd.slice 5 (Kd.int .u8)) W a1 n1 z1 ∧ ∀ l ∈ z1, IsBytes l ∧ l.length ≤ maxLen) :
    Calls Try.prog 13 #[.slice a0 n0 c0, .slice a1 n1 c1] W fun e w' => e = .returned (.bool true) ∧ Below W.heap.size W w' := by
  obtain ⟨rfl, p0, q0, r0⟩ := h0
  have m0 : z0.length ≤ maxLen := q0.2.1
  obtain ⟨rfl, p1, q1, r1⟩ := h1
  have m1 : z1.length ≤ maxLen := q1.2.1
  obtain ⟨k, hk⟩ := ScanParted z0 z1 m0 m1 (fun x hx => (r0 x hx).1) (fun x hx => (r1 x hx).1)
  exact souterrainlaw03_ScanParted.calls k a0 c0 z0 a1 c1 z1 true W q0 p0 q1 p1 hk
end Go.Proofs.Ytjednkbgdbalnaa.Pure
