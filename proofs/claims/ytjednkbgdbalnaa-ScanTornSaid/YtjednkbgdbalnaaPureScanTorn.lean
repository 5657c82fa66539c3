/- Of frames that are cut anywhere those that are whole are found: over numbers and lists alone. -/
import Derived.Test.YtjednkbgdbalnaaPtx6
import Derived.Test.YtjednkbgdbalnaaScF
namespace Go.Proofs.Ytjednkbgdbalnaa.Pure
open Go.RowKit Go.Proofs.Ytjednkbgdbalnaa.Pt Go.Proofs.YtjednkbgdbalnaaW.PrintWords Go.Proofs.YtjednkbgdbalnaaW.PrintLast Go.Proofs.Ytjednkbgdbalnaa.Fr Go.Proofs.Ytjednkbgdbalnaa.Ext Go.Proofs.Ytjednkbgdbalnaa.Sc

theorem rd_item (pre suf : List Itm) (x : Itm) : rd_T41 ((pre ++ x :: suf).map toS) (pre.length : Int) = toS x := by
  unfold rd_T41
  rw [Int.toNat_natCast, List.getD_eq_getElem?_getD, List.map_append, List.map_cons, List.getElem?_append_right (by simp), List.length_map, Nat.sub_self]
  rfl
theorem torn_end (L : List Int) (hB : IsBytes L) (hm : L.length ≤ 200000) (n : Nat) (hn : n ≤ L.length) (pre suf : List Itm) (hW : pre.length ≤ 20000) (a : Nat) (ha : a ≤ n)
    (hs : Scan (L.take n) 0 pre 0 a (if a < n then 21 else 0)) (k : Nat) (hk : 20010 ≤ k) :
    souterrainlaw03_ScanTorn.j1 k true L ((pre ++ suf).map toS) (n : Int) (pre.length : Int) (a : Int) = some true := by
  obtain ⟨k, rfl⟩ : ∃ m, k = m + 1 := ⟨k - 1, by omega⟩
  rw [souterrainlaw03_ScanTorn.j1, if_pos (by omega), if_pos (by omega), Int.toNat_natCast, all_of (L.take n) (hB.take n) (by rw [List.length_take]; omega) hs, Option.bind_some, Int.toNat_natCast]
  have hp : ((pre ++ suf).map toS).take pre.length = pre.map toS := by rw [List.map_append, show pre.length = (pre.map toS).length by rw [List.length_map], List.take_left]
  have hl : ((pre.length : Int)) ≤ (((pre ++ suf).map toS).length : Int) := by rw [List.length_map, List.length_append]; omega
  have hsame := same_refl (pre.map toS) (by rw [List.length_map]; omega) k (by rw [List.length_map]; omega)
  by_cases h : a < n
  · rw [if_pos (by omega), if_pos rfl, if_pos (by omega), if_pos hl, hp, hsame, Option.bind_some, if_pos rfl]
    dsimp only
    rw [if_pos (show ((0 : Nat) : Int) = 0 from rfl), if_pos rfl, if_pos h]
    rfl
  · rw [if_neg (by omega), if_pos rfl, if_pos (by omega), if_pos hl, hp, hsame, Option.bind_some, if_pos rfl]
    dsimp only
    rw [if_pos (show ((0 : Nat) : Int) = 0 from rfl), if_pos rfl, if_neg h]
    rfl
theorem torn_loop (L : List Int) (hB : IsBytes L) (hm : L.length ≤ 200000) (n : Nat) (hn : n ≤ L.length) (W : List Itm) (hW : W.length ≤ 20000) (g : List (List Int)) : ∀ (a : Nat) (pre : List Itm), a ≤ n → L.drop a = cat g → W = pre ++ its a g →
    (∀ J B e f, Scan (L.take n) a J B e f → Scan (L.take n) 0 (pre ++ J) B e f) → ∀ k, 20020 + (its a g).length ≤ k →
    souterrainlaw03_ScanTorn.l0 k true L (W.map toS) (n : Int) (pre.length : Int) (a : Int) = some true := by
  have hnl : (L.take n).length = n := by rw [List.length_take]; omega
  induction g with
  | nil =>
    intro a pre ha hd hw hS k hk
    obtain ⟨k, rfl⟩ : ∃ m, k = m + 1 := ⟨k - 1, by omega⟩
    have hl : a = n := by have := congrArg List.length hd; simp [cat] at this; omega
    subst hl
    have hs := hS [] 0 a 0 (.done _ hnl.symm)
    rw [List.append_nil] at hs
    have hw' : W = pre ++ [] := hw
    have h1 := torn_end L hB hm a hn pre [] (by have := congrArg List.length hw'; rw [List.length_append] at this; omega) a (Nat.le_refl _) (by rw [if_neg (by omega)]; exact hs) k (by omega)
    rw [← hw'] at h1
    rw [souterrainlaw03_ScanTorn.l0, if_neg (by rw [List.length_map, hw', List.append_nil]; omega)]
    exact h1
  | cons x g ih =>
    intro a pre ha hd hw hS k hk
    by_cases hg : 1 ≤ x.length ∧ x.length ≤ 8192
    · simp only [its, if_pos hg, List.length_cons] at hw hk
      obtain ⟨k, rfl⟩ : ∃ m, k = m + 1 := ⟨k - 1, by omega⟩
      have hlen := congrArg List.length hd
      simp only [cat, put_yes x hg.1 hg.2, List.length_drop, List.length_append, frame_len] at hlen hd
      have hWl := congrArg List.length hw
      rw [List.length_append, List.length_cons] at hWl
      have hdt : (L.take n).drop a = (frameOf x ++ cat g).take (n - a) := by rw [List.drop_take, hd]
      have hr := rd_item pre (its (a + (x.length + 8)) g) (a, x.length + 8, x)
      rw [← hw] at hr
      rw [souterrainlaw03_ScanTorn.l0, if_pos (by rw [List.length_map]; omega), if_pos (by omega), hr]
      have e1 : (toS (a, x.length + 8, x)).f0 + (toS (a, x.length + 8, x)).f1 = ((a + (x.length + 8) : Nat) : Int) := by
        show (a : Int) + ((x.length + 8 : Nat) : Int) = _
        omega
      rw [e1, w64 _ (by omega) (by omega)]
      by_cases hc : a + (x.length + 8) ≤ n
      · rw [if_pos (by omega), w64 _ (by omega) (by omega), show (pre.length : Int) + 1 = ((pre.length + 1 : Nat) : Int) by omega]
        have := ih (a + (x.length + 8)) (pre ++ [(a, x.length + 8, x)]) (by omega) (by rw [← List.drop_drop, hd, show x.length + 8 = (frameOf x).length from (frame_len x).symm, List.drop_left]) (by rw [hw]; simp) (fun J B e f h => by
          rw [List.append_assoc]
          refine hS _ B e f (.take a (x.length + 8) x J B e f (by omega) (by omega) ?_ h)
          rw [hdt, List.take_append, List.take_of_length_le (by rw [frame_len]; omega), first_frame x _ hg.1 hg.2]
          simp) k (by omega)
        rw [List.length_append, List.length_singleton] at this
        exact this
      · rw [if_neg (by omega)]
        have hs := hS [] 0 a (if a < n then 21 else 0) (by
          by_cases h : a < n
          · rw [if_pos h]
            refine .stop a 21 [] (by omega) ?_ (.inl rfl)
            rw [hdt, List.take_append_of_le_length (by rw [frame_len]; omega)]
            exact first_short x hg.1 hg.2 _ (by omega)
          · rw [if_neg h]
            exact .done a (by omega))
        rw [List.append_nil] at hs
        have h1 := torn_end L hB hm n hn pre ((a, x.length + 8, x) :: its (a + (x.length + 8)) g) (by omega) a ha hs k (by omega)
        rw [← hw] at h1
        exact h1
    · simp only [its, if_neg hg] at hw hk
      simp only [cat, put_no x (by omega), List.nil_append] at hd
      exact ih a pre ha hd hw hS k hk

theorem ScanTorn (l : List (List Int)) (a1 : Int) (hm : l.length ≤ maxLen) (hB : AllBytes l) (ha : (Lit.int .u16 a1).wf = true) : ∃ k, souterrainlaw03_ScanTorn.f k l a1 = some true := by
  obtain ⟨b, h1, h2⟩ := great_ex l hm
  obtain ⟨p0, p1⟩ := u16_of_wf a1 ha
  refine ⟨l.length + 200000, ?_⟩
  rw [souterrainlaw03_ScanTorn.f, souterrainlaw03_head.f, Option.bind_some, h1 _ (by omega), Option.bind_some]
  cases b with
  | true => rw [if_pos rfl]
  | false =>
    have h3 := h2 rfl
    have h4 := cat_len l
    have h5 := its_len l 0
    rw [if_neg (by decide), put_ex l hB h3 _ (by omega), Option.bind_some]
    simp only
    rw [w64 (((cat l).length : Int) + 1) (by omega) (by omega), if_neg (by omega), w64 a1 (by omega) (by omega), tmod_pos a1 _ p0]
    have hk0 : 0 ≤ a1 % (((cat l).length : Int) + 1) := Int.emod_nonneg _ (by omega)
    have hk1 : a1 % (((cat l).length : Int) + 1) < ((cat l).length : Int) + 1 := Int.emod_lt_of_pos _ (by omega)
    generalize a1 % (((cat l).length : Int) + 1) = K at hk0 hk1
    obtain ⟨K, rfl⟩ := Int.eq_ofNat_of_zero_le hk0
    exact torn_loop (cat l) (cat_bytes l hB) (by omega) K (by omega) (its 0 l) (by omega) l 0 [] (by omega) (by simp) (by simp) (fun J B e f h => h) _ (by omega)
end Go.Proofs.Ytjednkbgdbalnaa.Pure
