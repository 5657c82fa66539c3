/- The law HintLast, walked: out of what it computes. -/
import Derived.Test.YteplnpedakdjkaaHuL
import Derived.Test.YteplnpedakdjkaaGe
namespace Go.Proofs.Yteplnpedakdjkaa.Hu
set_option linter.unusedVariables false
open Go.RowKit Go.Proofs.Yteplnpedakdjkaa.Pt Go.Proofs.YteplnpedakdjkaaW.PrintWords Go.Proofs.Yteplnpedakdjkaa.Fr Go.Proofs.Yteplnpedakdjkaa.Ext Go.Proofs.Yteplnpedakdjkaa.Hn Go.Proofs.Yteplnpedakdjkaa.Pure Go.Proofs.Yteplnpedakdjkaa.HrA

theorem HintLast.walk (a0 : Option Addr) (n0 c0 : Nat) (z0 : List Fo) (W : World)
    (h0 : z0.length = n0 ∧ n0 ≤ c0 ∧ c0 ≤ maxLen ∧ Kd.C k39 W a0 n0 z0 ∧ ∀ y ∈ z0, OkF y) :
    Calls Try.prog 5 #[.slice a0 n0 c0] W fun e w' => e = .returned (.bool true) ∧ Below W.heap.size W w' := by
  obtain ⟨rfl, p0, m0, q0, r0⟩ := h0
  obtain ⟨k, hk⟩ := last_pure z0 (by omega) (fun x hx => (r0 x hx).2.2.2.1)
  exact souterrainlaw11_HintLast.calls k a0 c0 z0 true W q0 p0 hk
end Go.Proofs.Yteplnpedakdjkaa.Hu
