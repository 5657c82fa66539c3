/- The law HintBack, walked: out of what it computes. -/
import Derived.Test.YteplnpedakdjkaaHuB
import Derived.Test.YteplnpedakdjkaaGe
namespace Go.Proofs.Yteplnpedakdjkaa.Hu
set_option linter.unusedVariables false
open Go.RowKit Go.Proofs.Yteplnpedakdjkaa.Pt Go.Proofs.YteplnpedakdjkaaW.PrintWords Go.Proofs.Yteplnpedakdjkaa.Fr Go.Proofs.Yteplnpedakdjkaa.Ext Go.Proofs.Yteplnpedakdjkaa.Hn Go.Proofs.Yteplnpedakdjkaa.Pure Go.Proofs.Yteplnpedakdjkaa.HrA

theorem HintBack.walk (a0 : Option Addr) (n0 c0 : Nat) (z0 : List Hi) (a1 a2 : Int) (a3 : Option Addr) (n3 c3 : Nat) (z3 : List Int) (W : World)
    (h0 : z0.length = n0 ∧ n0 ≤ c0 ∧ c0 ≤ maxLen ∧ Kd.C k41 W a0 n0 z0 ∧ ∀ y ∈ z0, OkH y) (g1 : (Lit.int .i64 a1).wf = true) (g2 : (Lit.int .i64 a2).wf = true)
    (h3 : z3.length = n3 ∧ n3 ≤ c3 ∧ c3 ≤ maxLen ∧ Kd.C (Kd.int .u8) W a3 n3 z3 ∧ ∀ y ∈ z3, (Lit.int .u8 y).wf = true) :
    Calls Try.prog 4 #[.slice a0 n0 c0, .int .i64 a1, .int .i64 a2, .slice a3 n3 c3] W fun e w' => e = .returned (.bool true) ∧ Below W.heap.size W w' := by
  obtain ⟨rfl, p0, m0, q0, r0⟩ := h0
  obtain ⟨rfl, p3, m3, q3, r3⟩ := h3
  obtain ⟨k, hk⟩ := back_pure z0 a1 a2 z3 (by omega) (fun x hx => (r0 x hx).2.1) (bytes_of_wf _ r3)
  exact souterrainlaw11_HintBack.calls k a0 c0 z0 a1 a2 a3 c3 z3 true W q0 p0 q3 p3 hk
end Go.Proofs.Yteplnpedakdjkaa.Hu
