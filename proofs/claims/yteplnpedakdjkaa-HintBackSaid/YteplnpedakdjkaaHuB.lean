/- The law HintBack, over lists alone. -/
import Derived.Test.YteplnpedakdjkaaGe
import Derived.Test.YteplnpedakdjkaaPtx5
namespace Go.Proofs.Yteplnpedakdjkaa.Hu
set_option linter.unusedVariables false
set_option linter.unusedSimpArgs false
open Go.RowKit Go.Proofs.Yteplnpedakdjkaa.Pt Go.Proofs.YteplnpedakdjkaaW.PrintWords Go.Proofs.YteplnpedakdjkaaW.PrintLast Go.Proofs.Yteplnpedakdjkaa.Fr Go.Proofs.Yteplnpedakdjkaa.Ext Go.Proofs.Yteplnpedakdjkaa.Sc Go.Proofs.Yteplnpedakdjkaa.Hn Go.Proofs.Yteplnpedakdjkaa.Pure

theorem got (b : List Int) (o : Int) (hB : IsBytes b) (hm : b.length ≤ 9000) (k : Nat) (hk : 9010 ≤ k) :
    ((hint_Get.f b o).bind fun bt177 => (if bt177.2 = true then ((hint_Put.f k bt177.1 o).bind fun t181 => (some ((strOfNums t181).toList == (strOfNums b).toList))) else (if (bt177.1.length : Int) = 0 then (some true) else (some false)))) = some true := by
  obtain ⟨y, is, h, h1, h2⟩ := get_any b o hB (by omega)
  rw [h, Option.bind_some]
  cases is with
  | false => rw [h1 rfl]; rfl
  | true =>
    obtain ⟨p1, p2, p3, p4, p5⟩ := h2 rfl
    simp only [if_true]
    rw [put_f y o (by omega) k (by omega), Option.bind_some, putAll, if_pos ⟨p1, p2, p3⟩, p4]
    simp
theorem back_pure (l : List Hi) (size other : Int) (b : List Int) (hl : l.length ≤ maxLen) (hs : ∀ h ∈ l, h.f1.size ≤ maxLen) (hB : IsBytes b) : ∃ k, souterrainlaw11_HintBack.f k l size other b = some true := by
  obtain ⟨m, hm, hmf⟩ := many_ex l hl hs
  refine ⟨l.length + 10000 + 1 + 1, ?_⟩
  unfold souterrainlaw11_HintBack.f souterrainlaw11_head.f
  rw [Option.bind_some, hm _ (by omega), Option.bind_some]
  cases m with
  | true => rw [if_pos rfl, souterrainlaw11_HintBack.j0, if_pos rfl]
  | false =>
    obtain ⟨m1, m2⟩ := hmf rfl
    rw [if_neg (by decide), souterrainlaw11_HintBack.j0]
    by_cases hb : (b.length : Int) > 9000
    · rw [decide_eq_true hb, if_pos rfl]
    rw [decide_eq_false hb, if_neg (by decide), put_f l size (by omega) _ (by omega), Option.bind_some]
    have hgot := got b size hB (by omega)
    by_cases hr : rightL l = true ∧ 0 ≤ size ∧ size ≤ 1073741824
    · have hp : putAll l size = putH l size := if_pos hr
      have hpos : ((putH l size).length : Int) > 0 := by
        have := (put_end (cat (recs l)) (l.length : Int) size).2
        simp only [putH, List.length_append]
        omega
      rw [hp, if_pos hpos, get_put l size size hr.1 hr.2.1 hr.2.2 (by omega), Option.bind_some, if_pos rfl, get_put l size other hr.1 hr.2.1 hr.2.2 (by omega), Option.bind_some]
      simp only [if_true]
      rw [same_refl l (by omega) _ (by omega), Option.bind_some, if_pos rfl]
      have he : ((if other = size then (l, true) else (([] : List Hi), false)).2 != (other == size)) = false := by
        by_cases h : other = size
        · rw [if_pos h]; simp [h]
        · rw [if_neg h]; simp [h]
      rw [he, souterrainlaw11_HintBack.j1, if_neg (by decide)]
      simp only [if_true]
      exact hgot _ (by omega)
    · have hp : putAll l size = [] := if_neg hr
      rw [hp, if_neg (by decide)]
      unfold hint_Right.f
      rw [Option.bind_some]
      have hj : souterrainlaw11_HintBack.j2 (l.length + 10000 + 1) size b true false = some true := by
        rw [souterrainlaw11_HintBack.j2, if_neg (by decide)]
        simp only [if_true]
        exact hgot _ (by omega)
      by_cases h1 : rightL l = true
      · rw [if_pos h1]
        by_cases h2 : size ≥ 0
        · rw [if_pos h2, decide_eq_false (fun h => hr ⟨h1, h2, h⟩)]
          exact hj
        · rw [if_neg h2]
          exact hj
      · rw [if_neg h1]
        exact hj
end Go.Proofs.Yteplnpedakdjkaa.Hu
