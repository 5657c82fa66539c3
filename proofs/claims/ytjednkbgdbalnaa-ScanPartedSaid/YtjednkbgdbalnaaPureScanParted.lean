/- Bytes that are parted between frames have the bodies of both parts: over numbers and lists alone. -/
import Derived.Test.YtjednkbgdbalnaaPtx7
import Derived.Test.YtjednkbgdbalnaaScF
namespace Go.Proofs.Ytjednkbgdbalnaa.Pure
open Go.RowKit Go.Proofs.Ytjednkbgdbalnaa.Pt Go.Proofs.YtjednkbgdbalnaaW.PrintWords Go.Proofs.YtjednkbgdbalnaaW.PrintLast Go.Proofs.Ytjednkbgdbalnaa.Fr Go.Proofs.Ytjednkbgdbalnaa.Ext Go.Proofs.Ytjednkbgdbalnaa.Sc

def mv (c : Nat) (x : Itm) : Itm := (x.1 + c, x.2.1, x.2.2)
theorem parted_loop (x y : List Int) (hxB : IsBytes x) (hyB : IsBytes y) (hx : x.length ≤ 200000) (hy : y.length ≤ 200000) (P : List Itm) (hP : P.length ≤ 20000) (M : List Itm) (hM : M.length ≤ 20000) (hMa : ∀ z ∈ M, z.1 ≤ 200000)
    (hs : Scan (x ++ y) 0 (P ++ M.map (mv x.length)) 0 (x ++ y).length 0) (suf : List Itm) : ∀ (pre : List Itm), M = pre ++ suf → ∀ k, 40100 + suf.length ≤ k →
    souterrainlaw03_ScanParted.l0 k true x y (P.map toS) (x.length : Int) ((pre.map (mv x.length) ++ suf).map toS) (pre.length : Int) = some true := by
  induction suf with
  | nil =>
    intro pre hw k hk
    obtain ⟨k, rfl⟩ : ∃ m, k = m + 1 := ⟨k - 1, by omega⟩
    rw [List.append_nil] at hw
    subst hw
    rw [souterrainlaw03_ScanParted.l0, if_neg (by simp), Option.bind_some, if_pos (by simp; omega), Option.bind_some, List.nil_append, if_pos (by omega), all_of (x ++ y) (hxB.append hyB) (by rw [List.length_append]; omega) hs, Option.bind_some, if_pos rfl, if_pos rfl,
      if_pos (by simp only [List.length_map, List.length_append, List.length_nil]; omega), List.append_nil, ← List.map_append, same_refl _ (by simp only [List.length_map, List.length_append]; omega) _ (by simp only [List.length_map, List.length_append]; omega), Option.bind_some, if_pos rfl]
    dsimp only
    rw [if_pos (show ((0 : Nat) : Int) = 0 from rfl), w64 _ (by omega) (by omega), if_pos (by rw [List.length_append]; omega)]
    rfl
  | cons z suf ih =>
    intro pre hw k hk
    rw [List.length_cons] at hk
    obtain ⟨k, rfl⟩ : ∃ m, k = m + 1 := ⟨k - 1, by omega⟩
    have hMl := congrArg List.length hw
    rw [List.length_append, List.length_cons] at hMl
    have hz := hMa z (by rw [hw]; simp)
    have hr : rd_T41 ((pre.map (mv x.length) ++ z :: suf).map toS) (pre.length : Int) = toS z := by
      unfold rd_T41
      rw [Int.toNat_natCast, List.getD_eq_getElem?_getD, List.map_append, List.map_cons, List.getElem?_append_right (by simp), List.length_map, List.length_map, Nat.sub_self]
      rfl
    have hset : ((pre.map (mv x.length) ++ z :: suf).map toS).set pre.length (toS (mv x.length z)) = ((pre ++ [z]).map (mv x.length) ++ suf).map toS := by
      rw [List.map_append, List.map_cons, List.set_append_right _ _ (by simp), List.length_map, List.length_map, Nat.sub_self, List.set_cons_zero]
      simp
    have hmv : (⟨wrap64 ((toS z).f0 + (x.length : Int)), (toS z).f1, (toS z).f2⟩ : S41) = toS (mv x.length z) := by
      have e : wrap64 ((toS z).f0 + (x.length : Int)) = ((z.1 + x.length : Nat) : Int) := by
        show wrap64 ((z.1 : Int) + (x.length : Int)) = _
        rw [w64 _ (by omega) (by omega)]; omega
      rw [e]; rfl
    rw [souterrainlaw03_ScanParted.l0, if_pos (by simp only [List.length_map, List.length_append, List.length_cons]; omega), if_pos (by omega), hr, hmv, Int.toNat_natCast, hset, w64 _ (by omega) (by omega), show (pre.length : Int) + 1 = (((pre ++ [z]).length : Nat) : Int) by rw [List.length_append, List.length_singleton]; omega]
    exact ih (pre ++ [z]) (by rw [hw]; simp) k (by omega)

theorem its_at (g : List (List Int)) : ∀ a, ∀ z ∈ its a g, z.1 ≤ a + (cat g).length := by
  induction g with
  | nil => intro a z hz; cases hz
  | cons x g ih =>
    intro a z hz
    simp only [its] at hz
    simp only [cat, List.length_append]
    split at hz
    · rename_i hg
      rw [put_yes x hg.1 hg.2, frame_len]
      rcases List.mem_cons.1 hz with rfl | hz
      · simp only; omega
      · have := ih _ z hz; omega
    · have := ih _ z hz; omega

theorem ScanParted (l m : List (List Int)) (hl : l.length ≤ maxLen) (hm : m.length ≤ maxLen) (hlB : AllBytes l) (hmB : AllBytes m) : ∃ k, souterrainlaw03_ScanParted.f k l m = some true := by
  obtain ⟨b, h1, h2⟩ := great_ex l hl
  obtain ⟨c, i1, i2⟩ := great_ex m hm
  refine ⟨l.length + m.length + 200000, ?_⟩
  rw [souterrainlaw03_ScanParted.f, souterrainlaw03_head.f, Option.bind_some, h1 _ (by omega), Option.bind_some]
  obtain ⟨k, hk⟩ : ∃ k, l.length + m.length + 200000 = k + 1 := ⟨_, rfl⟩
  cases b with
  | true => rw [if_pos rfl, hk, souterrainlaw03_ScanParted.j0, if_pos rfl]
  | false =>
    rw [if_neg (by decide), i1 _ (by omega), Option.bind_some, hk, souterrainlaw03_ScanParted.j0]
    cases c with
    | true => rw [if_pos rfl]
    | false =>
      have h3 := h2 rfl
      have h4 := cat_len l
      have h5 := its_len l 0
      have i3 := i2 rfl
      have i4 := cat_len m
      have i5 := its_len m 0
      rw [if_neg (by decide), put_ex l hlB h3 _ (by omega), Option.bind_some, put_ex m hmB i3 _ (by omega), Option.bind_some]
      simp only
      rw [all_of (cat l) (cat_bytes l hlB) (by omega) (scan_whole l), Option.bind_some, all_of (cat m) (cat_bytes m hmB) (by omega) (scan_whole m), Option.bind_some]
      have hs := scan_whole (l ++ m)
      have hsh := its_shift m (cat l).length 0
      rw [cat_append, its_append, Nat.zero_add] at hs
      rw [Nat.add_zero] at hsh
      rw [hsh] at hs
      exact parted_loop (cat l) (cat m) (cat_bytes l hlB) (cat_bytes m hmB) (by omega) (by omega) (its 0 l) (by omega) (its 0 m) (by omega) (fun z hz => by have := its_at m 0 z hz; omega) hs (its 0 m) [] (by simp) k (by omega)
end Go.Proofs.Ytjednkbgdbalnaa.Pure
