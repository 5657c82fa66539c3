/- The law HintSize, walked: out of what it computes. -/
import Derived.Test.YteplnpedakdjkaaHuZ
import Derived.Test.YteplnpedakdjkaaGe
namespace Go.Proofs.Yteplnpedakdjkaa.Hu
set_option linter.unusedVariables false
open Go.RowKit Go.Proofs.Yteplnpedakdjkaa.Pt Go.Proofs.YteplnpedakdjkaaW.PrintWords Go.Proofs.Yteplnpedakdjkaa.Fr Go.Proofs.Yteplnpedakdjkaa.Ext Go.Proofs.Yteplnpedakdjkaa.Hn Go.Proofs.Yteplnpedakdjkaa.Pure Go.Proofs.Yteplnpedakdjkaa.HrA

theorem HintSize.walk (a0 : Option Addr) (n0 c0 : Nat) (z0 : List Hi) (a1 : Int) (W : World) (u0 : n0 ≤ 1048576)
    (h0 : z0.length = n0 ∧ n0 ≤ c0 ∧ c0 ≤ maxLen ∧ Kd.C k41 W a0 n0 z0 ∧ ∀ y ∈ z0, OkH y) (g1 : (Lit.int .i64 a1).wf = true) :
    Calls Try.prog 7 #[.slice a0 n0 c0, .int .i64 a1] W fun e w' => e = .returned (.bool true) ∧ Below W.heap.size W w' := by
  obtain ⟨rfl, p0, m0, q0, r0⟩ := h0
  obtain ⟨k, hk⟩ := size_pure z0 a1 u0 (fun x hx => (r0 x hx).2.1)
  exact souterrainlaw11_HintSize.calls k a0 c0 z0 a1 true W q0 p0 hk
end Go.Proofs.Yteplnpedakdjkaa.Hu
