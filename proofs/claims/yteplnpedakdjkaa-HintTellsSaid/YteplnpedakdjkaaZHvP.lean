/- The document's hints are the machine's: Right, Put. Over lists alone. -/
import Derived.Test.YteplnpedakdjkaaZPtx12
import Derived.Test.YteplnpedakdjkaaZHuO
import Derived.Test.YteplnpedakdjkaaZHvR
namespace Go.Proofs.Yteplnpedakdjkaa.Hv
set_option linter.unusedVariables false
set_option linter.unusedSimpArgs false
open Go.RowKit Go.Proofs.Yteplnpedakdjkaa.Pt Go.Proofs.YteplnpedakdjkaaW.PrintWords Go.Proofs.YteplnpedakdjkaaW.PrintLast Go.Proofs.Yteplnpedakdjkaa.Fr Go.Proofs.Yteplnpedakdjkaa.Ext Go.Proofs.Yteplnpedakdjkaa.Sc Go.Proofs.Yteplnpedakdjkaa.Hn Go.Proofs.Yteplnpedakdjkaa.Pure Go.Proofs.Yteplnpedakdjkaa.Hu

theorem less_key {x y : ByteArray} : Op.bytesLess x.toList y.toList = decide (keyL x < keyL y) := by
  rw [list_key, list_key, bytesLess_eq]
/-- The rows behind one: each fine, the keys rising. -/
def chk : Option Hi → List Hi → Bool
  | _, [] => true
  | p, h :: t => fineH h && ((match p with | none => true | some q => decide (keyL q.f1 < keyL h.f1)) && chk (some h) t)
theorem chk_cons (p : Option Hi) (h : Hi) (t : List Hi) : chk p (h :: t) = (fineH h && ((match p with | none => true | some q => decide (keyL q.f1 < keyL h.f1)) && chk (some h) t)) := by
  cases p <;> rfl
theorem chk_some (l : List Hi) : ∀ q, chk (some q) l = (risesL (q :: l) && l.all fineH) := by
  induction l with
  | nil => intro q; rfl
  | cons h t ih =>
    intro q
    rw [chk_cons, ih h, risesL, List.all_cons]
    show (fineH h && (decide (keyL q.f1 < keyL h.f1) && (risesL (h :: t) && t.all fineH))) = _
    generalize decide (keyL q.f1 < keyL h.f1) = A
    generalize risesL (h :: t) = B
    generalize t.all fineH = C
    generalize fineH h = D
    cases A <;> cases B <;> cases C <;> cases D <;> rfl
theorem chk_none (l : List Hi) : chk none l = rightL l := by
  cases l with
  | nil => rfl
  | cons h t =>
    rw [chk_cons, chk_some, rightL, List.all_cons]
    cases fineH h <;> simp
theorem key_f (s : ByteArray) : souterrainref04_Key.f s = some (decide (1 ≤ s.size ∧ s.size ≤ 64)) := by
  unfold souterrainref04_Key.f
  by_cases h : (s.size : Int) ≥ 1
  · rw [if_pos h]
    congr 1
    exact decide_eq_decide.2 ⟨fun h2 => ⟨by omega, by omega⟩, fun h2 => by omega⟩
  · rw [if_neg h, decide_eq_false (by omega)]
theorem tail_fine (h : Hi) (X : Option Bool) (hf : (0 ≤ h.f2 ∧ h.f2 ≤ 1073741824) ∧ (9 ≤ h.f3 ∧ h.f3 ≤ 8200)) :
    (if h.f2 < 0 then some false else if h.f2 > 1073741824 then some false else if h.f3 < 9 then some false else if h.f3 > 8200 then some false else X) = X := by
  rw [if_neg (by omega), if_neg (by omega), if_neg (by omega), if_neg (by omega)]
theorem tail_not (h : Hi) (X : Option Bool) (hf : ¬ ((0 ≤ h.f2 ∧ h.f2 ≤ 1073741824) ∧ (9 ≤ h.f3 ∧ h.f3 ≤ 8200))) :
    (if h.f2 < 0 then some false else if h.f2 > 1073741824 then some false else if h.f3 < 9 then some false else if h.f3 > 8200 then some false else X) = some false := by
  split
  · rfl
  split
  · rfl
  split
  · rfl
  split
  · rfl
  · exact absurd ⟨⟨by omega, by omega⟩, by omega, by omega⟩ hf
theorem right_loop (l : List Hi) (hm : l.length ≤ 1000000000) (n : Nat) : ∀ i : Nat, i + n = l.length → ∀ K, n + 1 ≤ K → souterrainref11_Right.l0 K l (i : Int) = some (chk (if i = 0 then none else l[i - 1]?) (l.drop i)) := by
  induction n with
  | zero =>
    intro i hi K hK
    obtain ⟨K, rfl⟩ : ∃ j, K = j + 1 := ⟨K - 1, by omega⟩
    rw [souterrainref11_Right.l0, if_neg (by omega), List.drop_eq_nil_of_le (by omega)]
    cases (if i = 0 then none else l[i - 1]?) <;> rfl
  | succ n ih =>
    intro i hi K hK
    obtain ⟨K, rfl⟩ : ∃ j, K = j + 1 := ⟨K - 1, by omega⟩
    have hil : i < l.length := by omega
    have h1 := ih (i + 1) (by omega) K (by omega)
    rw [if_neg (by omega), Nat.add_sub_cancel, List.getElem?_eq_getElem hil] at h1
    rw [souterrainref11_Right.l0, if_pos (by omega), if_pos (by omega), rdT_at l i hil, List.drop_eq_getElem_cons hil, chk_cons, key_f, Option.bind_some, show wrap64 ((i : Int) + 1) = ((i + 1 : Nat) : Int) by rw [w64 _ (by omega) (by omega)]; omega, h1]
    have hfi := fine_iff l[i]
    by_cases c1 : l[i].f0 < 2
    · rw [if_pos c1, show fineH l[i] = false from Bool.eq_false_iff.2 (fun hh => by have := (hfi.1 hh).1; omega)]
      rfl
    rw [if_neg c1]
    by_cases c2 : l[i].f0 > 4
    · rw [if_pos c2, show fineH l[i] = false from Bool.eq_false_iff.2 (fun hh => by have := (hfi.1 hh).1; omega)]
      rfl
    rw [if_neg c2]
    by_cases c3 : 1 ≤ l[i].f1.size ∧ l[i].f1.size ≤ 64
    case neg =>
      rw [decide_eq_false c3, if_neg (by decide), show fineH l[i] = false from Bool.eq_false_iff.2 (fun hh => c3 (hfi.1 hh).2.1)]
      rfl
    rw [decide_eq_true c3, if_pos rfl]
    by_cases c4 : (0 ≤ l[i].f2 ∧ l[i].f2 ≤ 1073741824) ∧ (9 ≤ l[i].f3 ∧ l[i].f3 ≤ 8200)
    · rw [tail_fine _ _ c4, show fineH l[i] = true from hfi.2 ⟨⟨by omega, by omega⟩, c3, c4⟩, Bool.true_and]
      by_cases c5 : (i : Int) > 0
      · rw [if_pos c5, w64 _ (by omega) (by omega), show (i : Int) - 1 = ((i - 1 : Nat) : Int) by omega, if_pos (by omega), if_pos (by omega), rdT_at l (i - 1) (by omega), less_key, if_neg (show ¬ i = 0 by omega), List.getElem?_eq_getElem (by omega)]
        by_cases c6 : keyL l[i - 1].f1 < keyL l[i].f1
        · rw [if_pos (decide_eq_true c6)]
          simp only [decide_eq_true c6, Bool.true_and]
        · rw [if_neg (by rw [decide_eq_true_iff]; exact c6)]
          simp only [decide_eq_false c6, Bool.false_and]
      · rw [if_neg c5, if_pos (show i = 0 by omega)]
        simp only [Bool.true_and]
    · rw [tail_not _ _ c4, show fineH l[i] = false from Bool.eq_false_iff.2 (fun hh => c4 (hfi.1 hh).2.2), Bool.false_and]
      by_cases c5 : (i : Int) > 0
      · rw [if_pos c5, w64 _ (by omega) (by omega), if_pos (by omega), if_pos (by omega)]
        split <;> rfl
      · rw [if_neg c5]
theorem ref_right (l : List Hi) (hm : l.length ≤ 1000000000) (k : Nat) (hk : l.length + 1 ≤ k) : souterrainref11_Right.f k l = some (rightL l) := by
  have := right_loop l hm l.length 0 (by omega) k hk
  rw [if_pos rfl, List.drop_zero, chk_none] at this
  exact this
theorem four_r (l : List Int) (a : Int) (h : l.length < 140737488355000) : souterrainref11_four.f l a = some (l ++ four4 a) := by
  unfold souterrainref11_four.f
  simp only [Option.bind_some]
  rw [if_pos (by simp only [List.length_cons, List.length_nil]; omega)]
  rfl
theorem end_is (fr : List Int) (n a : Int) : (([7] ++ four4 n) ++ four4 a) ++ four4 (sumOf fr) = endL fr n a := by
  rw [List.append_assoc, List.append_assoc]
  rfl
theorem body_is (h : Hi) (hf : fineH h = true) : (([h.f0 % 256] ++ four4 h.f2) ++ [(wrap64 (Int.tdiv h.f3 256)) % 256, (Int.tmod h.f3 256) % 256]) ++ bytesOf h.f1 = bodyL h := by
  have hh := (fine_iff h).1 hf
  have e1 : Int.tdiv h.f3 256 = h.f3 / 256 := Int.tdiv_eq_ediv_of_nonneg (by omega)
  have e2 : Int.tmod h.f3 256 = h.f3 % 256 := Int.tmod_eq_emod_of_nonneg (by omega)
  rw [e1, e2, w64 _ (by omega) (by omega), Int.emod_emod_of_dvd _ (Int.dvd_refl _)]
  rfl
theorem put_rloop (l : List Hi) (a : Int) (hm : l.length ≤ 1010) (hf : ∀ h ∈ l, fineH h = true) (n : Nat) : ∀ (i : Nat) (fr : List Int), i + n = l.length → IsBytes fr → fr.length + 80 * n ≤ 100000 → ∀ K, n + 1100000 ≤ K →
    souterrainref11_Put.l0 K l a fr (i : Int) = some ((fr ++ cat (recs (l.drop i))) ++ putL (endL (fr ++ cat (recs (l.drop i))) (l.length : Int) a)) := by
  induction n with
  | zero =>
    intro i fr hi hB hl K hK
    obtain ⟨K, rfl⟩ : ∃ j, K = j + 1 := ⟨K - 1, by omega⟩
    have h2 := (put_end fr (l.length : Int) a).2
    have hs := sumOf_range fr
    rw [souterrainref11_Put.l0, if_neg (by omega), List.drop_eq_nil_of_le (by omega), four_r _ _ (by simp), Option.bind_some, four_r _ _ (by simp [four4]), Option.bind_some, ref02_bit fr hB (by omega) K (by omega), Option.bind_some, w64 _ (by omega) (by omega),
      four_r _ _ (by simp [four4]), Option.bind_some, end_is, ref02_put _ (endL_bytes _ _ _) K (by omega), Option.bind_some]
    simp only [recs, List.map_nil, cat, List.append_nil]
    rw [if_pos (by omega)]
  | succ n ih =>
    intro i fr hi hB hl K hK
    obtain ⟨K, rfl⟩ : ∃ j, K = j + 1 := ⟨K - 1, by omega⟩
    have hil : i < l.length := by omega
    have hfi := hf _ (List.getElem_mem hil)
    have hh := (fine_iff l[i]).1 hfi
    have hb := put_body l[i] hh.2.1.2
    have hbl := bodyL_len l[i]
    rw [souterrainref11_Put.l0, if_pos (by omega), if_pos (by omega), rdT_at l i hil, four_r _ _ (by simp), Option.bind_some, Option.bind_some, if_pos (by simp [four4]), Option.bind_some, if_pos (by simp [four4]; omega), body_is _ hfi, ref02_put _ (bodyL_bytes _) K (by omega), Option.bind_some,
      if_pos (by omega), show wrap64 ((i : Int) + 1) = ((i + 1 : Nat) : Int) by rw [w64 _ (by omega) (by omega)]; omega, ih (i + 1) (fr ++ putL (bodyL l[i])) (by omega) (hB.append (put_bytes _ (bodyL_bytes _))) (by rw [List.length_append]; omega) K (by omega), List.drop_eq_getElem_cons hil]
    simp only [recs, List.map_cons, cat, List.append_assoc]
theorem ref_put (l : List Hi) (a : Int) (hm : l.length ≤ 1010) (k : Nat) (hk : 2000000 ≤ k) : souterrainref11_Put.f k l a = some (putAll l a) := by
  obtain ⟨k, rfl⟩ : ∃ j, k = j + 1 := ⟨k - 1, by omega⟩
  unfold souterrainref11_Put.f Hu.putAll
  rw [ref_right l (by omega) _ (by omega), Option.bind_some]
  by_cases hr : rightL l = true
  · rw [if_pos hr]
    have hgo : souterrainref11_Put.j0 (k + 1) l a false = some (putH l a) := by
      rw [souterrainref11_Put.j0, if_neg (by decide)]
      have := put_rloop l a hm (fun h hh => right_fine hr hh) l.length 0 [] (by omega) (by intro x hx; cases hx) (by simp; omega) k (by omega)
      simpa [putH] using this
    have hno : souterrainref11_Put.j0 (k + 1) l a true = some [] := by rw [souterrainref11_Put.j0, if_pos rfl]
    by_cases h0 : a < 0
    · rw [if_pos h0, hno, if_neg (fun h => by omega)]
    · rw [if_neg h0]
      by_cases h1 : a > 1073741824
      · rw [decide_eq_true h1, hno, if_neg (fun h => by omega)]
      · rw [decide_eq_false h1, hgo, if_pos ⟨hr, by omega, by omega⟩]
  · rw [if_neg hr, souterrainref11_Put.j0, if_pos rfl, if_neg (fun h => hr h.1)]
end Go.Proofs.Yteplnpedakdjkaa.Hv

