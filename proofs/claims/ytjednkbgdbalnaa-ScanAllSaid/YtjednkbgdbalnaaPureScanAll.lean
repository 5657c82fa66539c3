/- Frames one behind the other are all found, in order: over numbers and lists alone. -/
import Derived.Test.YtjednkbgdbalnaaPtx4
import Derived.Test.YtjednkbgdbalnaaScF
namespace Go.Proofs.Ytjednkbgdbalnaa.Pure
open Go.RowKit Go.Proofs.Ytjednkbgdbalnaa.Pt Go.Proofs.YtjednkbgdbalnaaW.PrintWords Go.Proofs.YtjednkbgdbalnaaW.PrintLast Go.Proofs.Ytjednkbgdbalnaa.Fr Go.Proofs.Ytjednkbgdbalnaa.Ext Go.Proofs.Ytjednkbgdbalnaa.Sc

theorem one_of (pre suf : List Itm) (x : Itm) : (((pre ++ x :: suf).map toS).take ((pre.length : Int) + 1).toNat).drop ((pre.length : Int)).toNat = [(⟨(x.1 : Int), (x.2.1 : Int), x.2.2⟩ : S41)] := by
  rw [show ((pre.length : Int) + 1).toNat = pre.length + 1 by omega, Int.toNat_natCast, List.drop_take, show pre.length + 1 - pre.length = 1 by omega, ← List.map_drop, List.drop_left]
  rfl
theorem all_loop (l : List Int) (hB : IsBytes l) (hm : l.length ≤ 200000) (W : List Itm) (hW : W.length ≤ 20000) (g : List (List Int)) : ∀ (a : Nat) (pre : List Itm), a ≤ l.length → l.drop a = cat g → W = pre ++ its a g → ∀ k, 20010 + (its a g).length ≤ k →
    souterrainlaw03_ScanAll.l0 k true l (W.map toS) (W.map toS) 0 (l.length : Int) 0 (a : Int) (pre.length : Int) = some true := by
  induction g with
  | nil =>
    intro a pre ha hd hw k hk
    obtain ⟨k, rfl⟩ : ∃ m, k = m + 1 := ⟨k - 1, by omega⟩
    simp only [its, List.append_nil] at hw
    subst hw
    have hl : a = l.length := by have := congrArg List.length hd; simp [cat] at this; omega
    rw [souterrainlaw03_ScanAll.l0, if_neg (by rw [List.length_map]; omega), if_pos rfl, same_refl _ (by rw [List.length_map]; omega) _ (by rw [List.length_map]; omega), Option.bind_some, if_pos rfl, if_pos rfl, if_pos rfl, if_pos rfl, hl]
    simp
  | cons x g ih =>
    intro a pre ha hd hw k hk
    by_cases hg : 1 ≤ x.length ∧ x.length ≤ 8192
    · have hs : Scan l a (its a (x :: g) ++ []) 0 l.length 0 := by
        refine scan_cat l (x :: g) a [] [] 0 l.length 0 ha (by rw [hd, List.append_nil]) ?_
        have he : a + (cat (x :: g)).length = l.length := by
          have := congrArg List.length hd
          rw [List.length_drop] at this
          omega
        rw [he]
        exact .done _ rfl
      rw [List.append_nil] at hs
      simp only [its, if_pos hg, List.length_cons] at hs hw hk
      obtain ⟨k, rfl⟩ : ∃ m, k = m + 1 := ⟨k - 1, by omega⟩
      have hlen := congrArg List.length hd
      simp only [cat, put_yes x hg.1 hg.2, List.length_drop, List.length_append, frame_len] at hlen hd
      have hWl := congrArg List.length hw
      rw [List.length_append, List.length_cons] at hWl
      rw [souterrainlaw03_ScanAll.l0, if_pos (by rw [List.length_map]; omega), next_of l hB (by omega) hs, Option.bind_some, if_pos rfl, if_pos (by omega), w64 _ (by omega) (by omega), if_pos (by omega), if_pos (by rw [List.length_map]; omega), hw, one_of, ← hw,
        same_refl _ (by simp) _ (by simp only [List.length_singleton]; omega), Option.bind_some, if_pos rfl]
      have := ih (a + (x.length + 8)) (pre ++ [(a, x.length + 8, x)]) (by omega) (by rw [← List.drop_drop, hd, show x.length + 8 = (frameOf x).length from (frame_len x).symm, List.drop_left]) (by rw [hw]; simp) k (by omega)
      rw [List.length_append, List.length_singleton] at this
      rw [show (pre.length : Int) + 1 = ((pre.length + 1 : Nat) : Int) by omega]
      exact this
    · simp only [its, if_neg hg] at hw hk
      simp only [cat, put_no x (by omega), List.nil_append] at hd
      exact ih a pre ha hd hw k hk

theorem ScanAll (l : List (List Int)) (hm : l.length ≤ maxLen) (hB : AllBytes l) : ∃ k, souterrainlaw03_ScanAll.f k l = some true := by
  obtain ⟨b, h1, h2⟩ := great_ex l hm
  refine ⟨l.length + 200000, ?_⟩
  rw [souterrainlaw03_ScanAll.f, souterrainlaw03_head.f, Option.bind_some, h1 _ (by omega), Option.bind_some]
  cases b with
  | true => rw [if_pos rfl]
  | false =>
    have h3 := h2 rfl
    have h4 := cat_len l
    have h5 := its_len l 0
    rw [if_neg (by decide), put_ex l hB h3 _ (by omega), Option.bind_some]
    simp only
    rw [all_of (cat l) (cat_bytes l hB) (by omega) (scan_whole l), Option.bind_some]
    exact all_loop (cat l) (cat_bytes l hB) (by omega) (its 0 l) (by omega) l 0 [] (by omega) (by simp) (by simp) _ (by omega)
end Go.Proofs.Ytjednkbgdbalnaa.Pure
