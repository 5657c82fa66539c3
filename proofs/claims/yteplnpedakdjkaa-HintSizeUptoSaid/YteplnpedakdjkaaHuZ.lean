/- The law HintSize, over lists alone. -/
import Derived.Test.YteplnpedakdjkaaGe
import Derived.Test.YteplnpedakdjkaaPtx4
namespace Go.Proofs.Yteplnpedakdjkaa.Hu
set_option linter.unusedVariables false
set_option linter.unusedSimpArgs false
open Go.RowKit Go.Proofs.Yteplnpedakdjkaa.Pt Go.Proofs.YteplnpedakdjkaaW.PrintWords Go.Proofs.YteplnpedakdjkaaW.PrintLast Go.Proofs.Yteplnpedakdjkaa.Fr Go.Proofs.Yteplnpedakdjkaa.Ext Go.Proofs.Yteplnpedakdjkaa.Sc Go.Proofs.Yteplnpedakdjkaa.Hn Go.Proofs.Yteplnpedakdjkaa.Pure

/-- How many bytes hints have, without those of the end. -/
def wt : List Hi → Nat
  | [] => 0
  | x :: l => 15 + x.f1.size + wt l
theorem wt_bound (l : List Hi) (hs : ∀ h ∈ l, h.f1.size < 9000) : wt l ≤ 9015 * l.length := by
  induction l with
  | nil => exact Nat.le_refl _
  | cons x l ih =>
    have h1 := ih (fun h hh => hs h (List.mem_cons_of_mem _ hh))
    have h2 := hs x List.mem_cons_self
    simp only [wt, List.length_cons]
    omega
theorem cat_wt (l : List Hi) (hs : ∀ h ∈ l, h.f1.size ≤ 64) : (cat (recs l)).length = wt l := by
  induction l with
  | nil => rfl
  | cons x l ih =>
    have h1 := ih (fun h hh => hs h (List.mem_cons_of_mem _ hh))
    have h2 := (put_body x (hs x List.mem_cons_self)).2
    simp only [recs, List.map_cons, cat, List.length_append, wt] at h1 ⊢
    omega
theorem size_loop (l : List Hi) (hm : l.length ≤ 300) (hs : ∀ h ∈ l, h.f1.size < 9000) (p : List Int) (n : Nat) : ∀ (i s : Nat), i + n = l.length → s + 9015 * n ≤ 100000000 → ∀ K, souterrainlaw11_HintSize.l0 (K + n + 1) l true p (s : Int) (i : Int) = some ((p.length : Int) == ((s + wt (l.drop i) : Nat) : Int)) := by
  induction n with
  | zero =>
    intro i s hi h1 K
    rw [souterrainlaw11_HintSize.l0, if_neg (by omega), if_pos rfl, List.drop_eq_nil_of_le (by omega)]
    rfl
  | succ n ih =>
    intro i s hi h1 K
    have hil : i < l.length := by omega
    have hsz := hs _ (List.getElem_mem hil)
    rw [souterrainlaw11_HintSize.l0, if_pos (by omega), if_pos (by omega), rdT_at l i hil, w64 ((s : Int) + 15) (by omega) (by omega), w64 _ (by omega) (by omega), w64 _ (by omega) (by omega), show (i : Int) + 1 = ((i + 1 : Nat) : Int) by omega,
      show (s : Int) + 15 + (l[i].f1.size : Int) = ((s + 15 + l[i].f1.size : Nat) : Int) by omega, show K + (n + 1) = K + n + 1 by omega, ih (i + 1) (s + 15 + l[i].f1.size) (by omega) (by omega) K, List.drop_eq_getElem_cons hil]
    simp only [wt]
    rw [show s + 15 + l[i].f1.size + wt (List.drop (i + 1) l) = s + (15 + l[i].f1.size + wt (List.drop (i + 1) l)) by omega]
theorem size_pure (l : List Hi) (size : Int) (hl : l.length ≤ 1048576) (hs : ∀ h ∈ l, h.f1.size ≤ maxLen) : ∃ k, souterrainlaw11_HintSize.f k l size = some true := by
  have hmx : maxLen = 9223372036854775807 := rfl
  obtain ⟨m, hm, hmf⟩ := many_ex l (by omega) hs
  refine ⟨2 + l.length + 1 + 1, ?_⟩
  unfold souterrainlaw11_HintSize.f souterrainlaw11_head.f
  rw [Option.bind_some, put_f l size (by omega) _ (by omega), Option.bind_some, hm _ (by omega), Option.bind_some]
  cases m with
  | true => rw [if_pos rfl, souterrainlaw11_HintSize.j0, if_pos rfl]
  | false =>
    obtain ⟨m1, m2⟩ := hmf rfl
    rw [if_neg (by decide), souterrainlaw11_HintSize.j0]
    by_cases hr : rightL l = true ∧ 0 ≤ size ∧ size ≤ 1073741824
    · have hp : putAll l size = putH l size := if_pos hr
      have hlen : (putH l size).length = 21 + wt l := by
        have h1 := (put_end (cat (recs l)) (l.length : Int) size).2
        have h2 := cat_wt l (fun h hh => ((fine_iff h).1 (right_fine hr.1 hh)).2.1.2)
        simp only [putH, List.length_append]
        omega
      have hne : (((putH l size).length : Int) == 0) = false := beq_eq_false_iff_ne.mpr (by omega)
      rw [hp, hne, if_neg (by decide)]
      have := size_loop l m1 m2 (putH l size) l.length 0 21 (by omega) (by omega) 2
      rw [show (((21 : Nat) : Int)) = 21 from rfl, show (((0 : Nat) : Int)) = 0 from rfl] at this
      rw [this, hlen]
      simp
    · have hp : putAll l size = [] := if_neg hr
      rw [hp, if_pos (by rfl)]
end Go.Proofs.Yteplnpedakdjkaa.Hu
