/- The law HintLast, over lists alone. -/
import Derived.Test.YteplnpedakdjkaaHuO
import Derived.Test.YteplnpedakdjkaaPtx7
namespace Go.Proofs.Yteplnpedakdjkaa.Hu
set_option linter.unusedVariables false
set_option linter.unusedSimpArgs false
open Go.RowKit Go.Proofs.Yteplnpedakdjkaa.Pt Go.Proofs.YteplnpedakdjkaaW.PrintWords Go.Proofs.YteplnpedakdjkaaW.PrintLast Go.Proofs.Yteplnpedakdjkaa.Fr Go.Proofs.Yteplnpedakdjkaa.Ext Go.Proofs.Yteplnpedakdjkaa.Sc Go.Proofs.Yteplnpedakdjkaa.Hn Go.Proofs.Yteplnpedakdjkaa.Pure

theorem rdF_at (l : List Fo) (i : Nat) (h : i < l.length) : rd_T39 l (i : Int) = l[i] := by
  unfold rd_T39
  rw [Int.toNat_natCast, List.getD_eq_getElem?_getD, List.getElem?_eq_getElem h]
  rfl
theorem great_loop (l : List Fo) (hm : l.length ≤ maxLen) (n : Nat) : ∀ (i : Nat) (s : Int), i + n = l.length → ∃ b, (∀ k, n + 1 ≤ k → souterrainlaw11_great.l0 k l s (i : Int) = some b) ∧ (b = false → l.length ≤ 300) := by
  have hmx : maxLen = 9223372036854775807 := rfl
  induction n with
  | zero =>
    intro i s hi
    by_cases h : s ≥ 9000
    · refine ⟨true, fun k hk => ?_, fun h => by cases h⟩
      obtain ⟨k, rfl⟩ : ∃ j, k = j + 1 := ⟨k - 1, by omega⟩
      rw [souterrainlaw11_great.l0, if_neg (by omega), if_pos h]
    · refine ⟨decide ((l.length : Int) > 300), fun k hk => ?_, fun hb => by have := of_decide_eq_false hb; omega⟩
      obtain ⟨k, rfl⟩ : ∃ j, k = j + 1 := ⟨k - 1, by omega⟩
      rw [souterrainlaw11_great.l0, if_neg (by omega), if_neg h]
  | succ n ih =>
    intro i s hi
    by_cases h : s < 9000
    · obtain ⟨b, g1, g2⟩ := ih (i + 1) (wrap64 (s + (mn (wrap64 (((l[i].f2.f1).size : Int) + ((l[i].f2.f5).length : Int))) 9000))) (by omega)
      refine ⟨b, fun k hk => ?_, g2⟩
      obtain ⟨k, rfl⟩ : ∃ j, k = j + 1 := ⟨k - 1, by omega⟩
      rw [souterrainlaw11_great.l0, if_pos (by omega), if_pos h, if_pos (by omega), rdF_at l i (by omega), w64 ((i : Int) + 1) (by omega) (by omega), show (i : Int) + 1 = ((i + 1 : Nat) : Int) by omega]
      exact g1 k (by omega)
    · refine ⟨true, fun k hk => ?_, fun h => by cases h⟩
      obtain ⟨k, rfl⟩ : ∃ j, k = j + 1 := ⟨k - 1, by omega⟩
      rw [souterrainlaw11_great.l0, if_pos (by omega), if_neg h, if_pos (by omega)]
theorem great_ex (l : List Fo) (hm : l.length ≤ maxLen) : ∃ b, (∀ k, l.length + 1 ≤ k → souterrainlaw11_great.f k l = some b) ∧ (b = false → l.length ≤ 300) :=
  great_loop l hm l.length 0 (l.length : Int) (by omega)
theorem of_f (l : List Fo) (hm : l.length ≤ 300) (hs : ∀ x ∈ l, x.f2.f1.size ≤ maxLen) : hint_Of.f l = some (ofL l) := by
  unfold hint_Of.f
  rw [if_pos ⟨by omega, List.all_eq_true.2 fun x hx => decide_eq_true (hs x hx)⟩]

section
variable (f : List Fo) (hm : f.length ≤ 300)
include hm
/-- Is each record's key told? -/
theorem last_l3 (k : Nat) (hk : k < f.length) (n : Nat) : ∀ (i : Nat) (b : Bool), i + n = (ofL f).length → (b = true ∨ ∃ j, ∃ hj : j < (ofL f).length, i ≤ j ∧ (ofL f)[j].f1 = f[k].f2.f1) → ∀ K, (∀ K', K ≤ K' → souterrainlaw11_HintLast.l2 K' f true (ofL f) ((k + 1 : Nat) : Int) = some true) →
    ∀ K', K + n + 1 ≤ K' → souterrainlaw11_HintLast.l3 K' f true (ofL f) (k : Int) b (i : Int) = some true := by
  have hl := ofL_len f
  induction n with
  | zero =>
    intro i b hi hb K hK K' hK'
    obtain ⟨K', rfl⟩ : ∃ j, K' = j + 1 := ⟨K' - 1, by omega⟩
    have hbt : b = true := by
      rcases hb with h | ⟨j, hj, h1, _⟩
      · exact h
      · omega
    subst hbt
    rw [souterrainlaw11_HintLast.l3, if_neg (by omega), if_pos rfl, w64 _ (by omega) (by omega), show (k : Int) + 1 = ((k + 1 : Nat) : Int) by omega]
    exact hK K' (by omega)
  | succ n ih =>
    intro i b hi hb K hK K' hK'
    obtain ⟨K', rfl⟩ : ∃ j, K' = j + 1 := ⟨K' - 1, by omega⟩
    have hil : i < (ofL f).length := by omega
    rw [souterrainlaw11_HintLast.l3, if_pos (by omega)]
    cases b with
    | true =>
      rw [if_pos rfl, w64 _ (by omega) (by omega), show (i : Int) + 1 = ((i + 1 : Nat) : Int) by omega]
      exact ih (i + 1) true (by omega) (.inl rfl) K hK K' (by omega)
    | false =>
      rw [if_neg (by decide), if_pos (by omega), if_pos (by omega), if_pos (by omega), rdT_at _ i hil, rdF_at f k hk, w64 _ (by omega) (by omega), show (i : Int) + 1 = ((i + 1 : Nat) : Int) by omega]
      refine ih (i + 1) _ (by omega) ?_ K hK K' (by omega)
      rcases hb with h | ⟨j, hj, h1, h2⟩
      · cases h
      · by_cases hij : j = i
        · subst hij
          exact .inl (by rw [h2]; simp)
        · exact .inr ⟨j, hj, by omega, h2⟩
theorem last_l2 (n : Nat) : ∀ (k : Nat), k + n = f.length → ∀ K', 400 * n + 1 ≤ K' → souterrainlaw11_HintLast.l2 K' f true (ofL f) (k : Int) = some true := by
  have hl := ofL_len f
  induction n with
  | zero =>
    intro k hk K' hK'
    obtain ⟨K', rfl⟩ : ∃ j, K' = j + 1 := ⟨K' - 1, by omega⟩
    rw [souterrainlaw11_HintLast.l2, if_neg (by omega)]
  | succ n ih =>
    intro k hk K' hK'
    obtain ⟨K', rfl⟩ : ∃ j, K' = j + 1 + 1 := ⟨K' - 2, by omega⟩
    have hkl : k < f.length := by omega
    rw [souterrainlaw11_HintLast.l2, if_pos (by omega), if_pos (by omega), rdF_at f k hkl]
    have go : ∀ b, (b = true ∨ tellsF f[k] = true) → souterrainlaw11_HintLast.j3 (K' + 1) f true (ofL f) (k : Int) b = some true := by
      intro b hb
      rw [souterrainlaw11_HintLast.j3]
      refine last_l3 f hm k hkl (ofL f).length 0 b (by omega) ?_ (400 * n + 1) (fun K2 hK2 => ih (k + 1) (by omega) K2 hK2) K' (by omega)
      rcases hb with h | h
      · exact .inl h
      · obtain ⟨x, h1, h2⟩ := of_has f f[k] (List.getElem_mem hkl) h
        obtain ⟨j, hj, rfl⟩ := List.getElem_of_mem h1
        exact .inr ⟨j, hj, Nat.zero_le _, key_inj h2⟩
    by_cases h : f[k].f2.f0 < 2
    · rw [if_pos h]
      exact go true (.inl rfl)
    · rw [if_neg h]
      by_cases h2 : f[k].f2.f0 > 4
      · rw [decide_eq_true h2]
        exact go true (.inl rfl)
      · rw [decide_eq_false h2]
        exact go false (.inr (by unfold tellsF; exact decide_eq_true ⟨by omega, by omega⟩))
/-- The last record of a hint's key. -/
theorem last_l1 (i : Nat) (hi : i < (ofL f).length) (i0 : Nat) (hi0 : i0 < f.length) (ht : tellsF f[i0] = true) (he : hintF f[i0] = (ofL f)[i]) (hlast : ∀ j, ∀ hj : j < f.length, i0 < j → tellsF f[j] = true → keyL (f[j]).f2.f1 ≠ keyL (ofL f)[i].f1)
    (n : Nat) : ∀ (k : Nat) (x6 : Int), k + n = f.length → (i0 < k → x6 = (i0 : Int)) → ∀ K, (∀ K', K ≤ K' → souterrainlaw11_HintLast.l0 K' f true (ofL f) ((i + 1 : Nat) : Int) = some true) →
    ∀ K', K + n + 1 ≤ K' → souterrainlaw11_HintLast.l1 K' f true (ofL f) (i : Int) x6 (k : Int) = some true := by
  have hl := ofL_len f
  induction n with
  | zero =>
    intro k x6 hk hx K hK K' hK'
    obtain ⟨K', rfl⟩ : ∃ j, K' = j + 1 := ⟨K' - 1, by omega⟩
    have hx6 := hx (by omega)
    have e0 : (f[i0]).f0 = (ofL f)[i].f2 := congrArg (fun h : Hi => h.f2) he
    have e1 : (f[i0]).f1 = (ofL f)[i].f3 := congrArg (fun h : Hi => h.f3) he
    have e2 : (f[i0]).f2.f0 = (ofL f)[i].f0 := congrArg (fun h : Hi => h.f0) he
    have hnext := hK K' (by omega)
    rw [souterrainlaw11_HintLast.l1, if_neg (by omega), if_neg (by omega), if_pos (by omega), if_pos (by omega), if_pos (by omega), if_pos (by omega), hx6, rdF_at f i0 hi0, rdT_at _ i hi, if_pos e0, if_pos e1, if_pos e2, w64 ((i : Int) + 1) (by omega) (by omega), show (i : Int) + 1 = ((i + 1 : Nat) : Int) by omega]
    by_cases hz : (i : Int) > 0
    · have hw : wrap64 ((i : Int) - 1) = ((i - 1 : Nat) : Int) := by rw [w64 _ (by omega) (by omega)]; omega
      have hlt : keyL (ofL f)[i - 1].f1 < keyL (ofL f)[i].f1 := List.pairwise_iff_getElem.1 (ofL_rises f) (i - 1) i (by omega) hi (by omega)
      rw [if_pos hz, hw, if_pos (by omega), if_pos (by omega), rdT_at _ (i - 1) (by omega), list_key, list_key, bytesLess_eq, if_pos (decide_eq_true hlt)]
      exact hnext
    · rw [if_neg hz]
      exact hnext
  | succ n ih =>
    intro k x6 hk hx K hK K' hK'
    obtain ⟨K', rfl⟩ : ∃ j, K' = j + 1 := ⟨K' - 1, by omega⟩
    have hkl : k < f.length := by omega
    rw [souterrainlaw11_HintLast.l1, if_pos (by omega), if_pos (by omega), if_pos (by omega), if_pos (by omega), rdF_at f k hkl, rdT_at _ i hi, w64 ((k : Int) + 1) (by omega) (by omega), show (k : Int) + 1 = ((k + 1 : Nat) : Int) by omega]
    have stay : (k ≠ i0) → souterrainlaw11_HintLast.l1 K' f true (ofL f) (i : Int) x6 ((k + 1 : Nat) : Int) = some true := fun hne => ih (k + 1) x6 (by omega) (fun h => hx (by omega)) K hK K' (by omega)
    by_cases hk0 : k = i0
    · subst hk0
      have e3 : (f[k]).f2.f1 = (ofL f)[i].f1 := congrArg (fun h : Hi => h.f1) he
      have ht2 : 2 ≤ f[k].f2.f0 ∧ f[k].f2.f0 ≤ 4 := of_decide_eq_true ht
      rw [if_pos (by rw [e3]), if_pos (by omega), if_pos (by omega)]
      exact ih (k + 1) (k : Int) (by omega) (fun _ => rfl) K hK K' (by omega)
    · by_cases h1 : (f[k]).f2.f1.toList = (ofL f)[i].f1.toList
      · rw [if_pos h1]
        rw [list_key, list_key] at h1
        by_cases h2 : f[k].f2.f0 ≥ 2
        · rw [if_pos h2]
          by_cases h3 : f[k].f2.f0 ≤ 4
          · rw [if_pos h3]
            have hkt : tellsF f[k] = true := decide_eq_true ⟨h2, h3⟩
            have hlt : k < i0 := by
              rcases Nat.lt_or_ge k i0 with h | h
              · exact h
              · exact absurd h1 (hlast k hkl (by omega) hkt)
            exact ih (k + 1) (k : Int) (by omega) (fun h => by omega) K hK K' (by omega)
          · rw [if_neg h3]; exact stay hk0
        · rw [if_neg h2]; exact stay hk0
      · rw [if_neg h1]; exact stay hk0
theorem last_l0 (n : Nat) : ∀ (i : Nat), i + n = (ofL f).length → ∀ K', 400 * n + 200000 ≤ K' → souterrainlaw11_HintLast.l0 K' f true (ofL f) (i : Int) = some true := by
  have hl := ofL_len f
  induction n with
  | zero =>
    intro i hi K' hK'
    obtain ⟨K', rfl⟩ : ∃ j, K' = j + 1 := ⟨K' - 1, by omega⟩
    rw [souterrainlaw11_HintLast.l0, if_neg (by omega)]
    exact last_l2 f hm f.length 0 (by omega) K' (by omega)
  | succ n ih =>
    intro i hi K' hK'
    obtain ⟨K', rfl⟩ : ∃ j, K' = j + 1 := ⟨K' - 1, by omega⟩
    have hil : i < (ofL f).length := by omega
    obtain ⟨i0, h0, h1, h2, h3⟩ := (of_told f _).1 (List.getElem_mem hil)
    rw [souterrainlaw11_HintLast.l0, if_pos (by omega)]
    exact last_l1 f hm i hil i0 h0 h1 h2 h3 f.length 0 (-1) (by omega) (fun h => by omega) (400 * n + 200000) (fun K2 hK2 => ih (i + 1) (by omega) K2 hK2) K' (by omega)
end
theorem last_pure (f : List Fo) (hl : f.length ≤ maxLen) (hs : ∀ x ∈ f, x.f2.f1.size ≤ maxLen) : ∃ k, souterrainlaw11_HintLast.f k f = some true := by
  obtain ⟨b, h1, h2⟩ := great_ex f hl
  refine ⟨f.length + 1000000, ?_⟩
  unfold souterrainlaw11_HintLast.f souterrainlaw11_head.f
  rw [Option.bind_some, h1 _ (by omega), Option.bind_some]
  cases b with
  | true => rw [if_pos rfl]
  | false =>
    have hm := h2 rfl
    have hlen := ofL_len f
    rw [if_neg (by decide), of_f f hm hs, Option.bind_some]
    exact last_l0 f hm (ofL f).length 0 (by omega) _ (by omega)
end Go.Proofs.Yteplnpedakdjkaa.Hu
