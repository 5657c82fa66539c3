/- The law HintTells, walked: what it computes is true. -/
import Derived.Test.YteplnpedakdjkaaZPtx16
import Derived.Test.YteplnpedakdjkaaZHuK
import Derived.Test.YteplnpedakdjkaaZHvG
import Derived.Test.YteplnpedakdjkaaZGe
namespace Go.Proofs.Yteplnpedakdjkaa.Hv
set_option linter.unusedVariables false
set_option linter.unusedSimpArgs false
open Go.RowKit Go.Proofs.Yteplnpedakdjkaa.Pt Go.Proofs.YteplnpedakdjkaaW.PrintWords Go.Proofs.YteplnpedakdjkaaW.PrintLast Go.Proofs.Yteplnpedakdjkaa.Fr Go.Proofs.Yteplnpedakdjkaa.Ext Go.Proofs.Yteplnpedakdjkaa.Sc Go.Proofs.Yteplnpedakdjkaa.Hn Go.Proofs.Yteplnpedakdjkaa.Pure Go.Proofs.Yteplnpedakdjkaa.Hu Go.Proofs.Yteplnpedakdjkaa.HrA

theorem tells_pure (l : List Hi) (size : Int) (b : List Int) (f : List Fo) (hl : l.length ≤ maxLen) (hs : ∀ h ∈ l, h.f1.size ≤ maxLen) (hB : IsBytes b) (hf : f.length ≤ maxLen) (hfs : ∀ x ∈ f, x.f2.f1.size ≤ maxLen) : ∃ k, souterrainlaw11_HintTells.f k l size b f = some true := by
  obtain ⟨m, hm, hmf⟩ := many_ex l hl hs
  obtain ⟨g, hg, hgf⟩ := great_ex f hf
  refine ⟨l.length + f.length + 4000000 + 1, ?_⟩
  have hj : ∀ x, souterrainlaw11_HintTells.j0 (l.length + f.length + 4000000 + 1) l size b f x true = some x := fun x => by rw [souterrainlaw11_HintTells.j0, if_pos rfl]
  unfold souterrainlaw11_HintTells.f souterrainlaw11_head.f
  rw [Option.bind_some, hm _ (by omega), Option.bind_some]
  cases m with
  | true => rw [if_pos rfl, hj]
  | false =>
    obtain ⟨m1, m2⟩ := hmf rfl
    rw [if_neg (by decide), hg _ (by omega), Option.bind_some]
    cases g with
    | true => rw [if_pos rfl, hj]
    | false =>
      have hf3 := hgf rfl
      rw [if_neg (by decide)]
      by_cases hb : (b.length : Int) > 9000
      · rw [decide_eq_true hb, hj]
      · rw [decide_eq_false hb, souterrainlaw11_HintTells.j0, if_neg (by decide)]
        obtain ⟨y, is, h1, h2, h3⟩ := ref_get b hB (by omega) size (l.length + f.length + 4000000) (by omega)
        have ho := ofL_len f
        rw [h1, Option.bind_some, h2, Option.bind_some, if_pos rfl]
        unfold hint_Right.f souterrainref11_Of.f
        rw [Option.bind_some, ref_right l (by omega) _ (by omega), Option.bind_some, if_pos (by simp), put_f l size (by omega) _ (by omega), Option.bind_some, ref_put l size (by omega) _ (by omega), Option.bind_some, if_pos rfl]
        dsimp only
        rw [same_refl y (by omega) _ (by omega), Option.bind_some, if_pos rfl, if_pos (by simp), of_f f hf3 hfs, Option.bind_some, if_pos (by omega), Option.bind_some, same_refl _ (by omega) _ (by omega), Option.bind_some]
theorem HintTells.walk (a0 : Option Addr) (n0 c0 : Nat) (z0 : List Hi) (a1 : Int) (a2 : Option Addr) (n2 c2 : Nat) (z2 : List Int) (a3 : Option Addr) (n3 c3 : Nat) (z3 : List Fo) (W : World)
    (h0 : z0.length = n0 ∧ n0 ≤ c0 ∧ c0 ≤ maxLen ∧ Kd.C k41 W a0 n0 z0 ∧ ∀ y ∈ z0, OkH y) (g1 : (Lit.int .i64 a1).wf = true)
    (h2 : z2.length = n2 ∧ n2 ≤ c2 ∧ c2 ≤ maxLen ∧ Kd.C (Kd.int .u8) W a2 n2 z2 ∧ ∀ y ∈ z2, (Lit.int .u8 y).wf = true)
    (h3 : z3.length = n3 ∧ n3 ≤ c3 ∧ c3 ≤ maxLen ∧ Kd.C k39 W a3 n3 z3 ∧ ∀ y ∈ z3, OkF y) :
    Calls Try.prog 3 #[.slice a0 n0 c0, .int .i64 a1, .slice a2 n2 c2, .slice a3 n3 c3] W fun e w' => e = .returned (.bool true) ∧ Below W.heap.size W w' := by
  obtain ⟨rfl, p0, m0, q0, r0⟩ := h0
  obtain ⟨rfl, p2, m2, q2, r2⟩ := h2
  obtain ⟨rfl, p3, m3, q3, r3⟩ := h3
  obtain ⟨k, hk⟩ := tells_pure z0 a1 z2 z3 (by omega) (fun x hx => (r0 x hx).2.1) (bytes_of_wf _ r2) (by omega) (fun x hx => (r3 x hx).2.2.2.1)
  exact souterrainlaw11_HintTells.calls k a0 c0 z0 a1 a2 c2 z2 a3 c3 z3 true ⟨rfl⟩ W q0 p0 q2 p2 q3 p3 hk
end Go.Proofs.Yteplnpedakdjkaa.Hv

