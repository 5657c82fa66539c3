/- With one frame spoilt all others are found, and it is passed by: over numbers and lists alone. -/
import Derived.Test.YtjednkbgdbalnaaPtx5
import Derived.Test.YtjednkbgdbalnaaScF
import Derived.Test.YtjednkbgdbalnaaBurst
namespace Go.Proofs.Ytjednkbgdbalnaa.Pure
open Go.RowKit Go.Proofs.Ytjednkbgdbalnaa.Pt Go.Proofs.YtjednkbgdbalnaaW.PrintWords Go.Proofs.YtjednkbgdbalnaaW.PrintLast Go.Proofs.YtjednkbgdbalnaaW.PrintMore Go.Proofs.Ytjednkbgdbalnaa.Fr Go.Proofs.Ytjednkbgdbalnaa.Ext Go.Proofs.Ytjednkbgdbalnaa.Sc
set_option linter.unusedVariables false

theorem bytes_set {l : List Int} (h : IsBytes l) (p : Nat) (v : Int) (h0 : 0 ≤ v) (h1 : v < 256) : IsBytes (l.set p v) := by
  intro x hx
  rcases List.mem_or_eq_of_mem_set hx with hx | rfl
  · exact h x hx
  · exact ⟨h0, h1⟩
/-- What has been got of a frame whose sum is not good. -/
theorem spoilt_got (f y more : List Int) (n : Nat) (hn1 : 1 ≤ n) (hn2 : n ≤ 8192) (hy : y.length = n + 8) (hyB : IsBytes y) (hmB : IsBytes more) (hbad : run ones y ≠ good) :
    (y.take 4 = hdr n → firstL (y ++ more) = ([], (n : Int) + 8, 22)) ∧ ((firstL (y ++ more)).2.2 ≠ 0 ∨ (firstL (y ++ more)).2.1 ≠ (n : Int) + 8) := by
  have key : ∀ z : List Int, IsBytes z → y = frameOf z → False := by
    intro z hz e
    apply hbad
    rw [e]
    unfold frameOf
    apply run_sealed
    unfold bodyOf
    have : z.length = n := by have := congrArg List.length e; rw [frame_len] at this; omega
    exact (hdr_bytes _ (by omega) (by omega)).append hz
  have hlen : (y ++ more).length = n + 8 + more.length := by rw [List.length_append, hy]
  have htake : (y ++ more).take (n + 8) = y := by rw [← hy]; exact List.take_left
  rcases first_cases (y ++ more) (hyB.append hmB) with h | h | ⟨g1, g2, g3, g4, h | ⟨z, h, hz, hzf, hzB⟩⟩
  · refine ⟨fun h4 => ?_, .inl (by rw [h]; decide)⟩
    exfalso
    have h5 : (y ++ more).take 4 = hdr n := by rw [List.take_append_of_le_length (by omega)]; exact h4
    have hn : nOf (y ++ more) = n := by
      rw [show y ++ more = hdr n ++ (y ++ more).drop 4 by rw [← h5, List.take_append_drop], nOf_hdr]
    have hs := sizeI_of n (by omega) (by omega)
    by_cases hq : (y ++ more).take (nOf (y ++ more) + 4).toNat ++ tailOf (sumOf ((y ++ more).take (nOf (y ++ more) + 4).toNat)) = (y ++ more).take (nOf (y ++ more) + 8).toNat
    · have := firstL_ok (y ++ more) (by omega) (by rw [hn, hs]; omega) (by rw [h5, hn]) (by rw [hn, hs]; omega) hq
      rw [h] at this
      injection this with _ this
      injection this with _ this
      cases this
    · have := firstL_sum (y ++ more) (by omega) (by rw [hn, hs]; omega) (by rw [h5, hn]) (by rw [hn, hs]; omega) hq
      rw [h] at this
      injection this with _ this
      injection this with _ this
      cases this
  · refine ⟨fun h4 => ?_, .inl (by rw [h]; decide)⟩
    exfalso
    have h5 : (y ++ more).take 4 = hdr n := by rw [List.take_append_of_le_length (by omega)]; exact h4
    have hn : nOf (y ++ more) = n := by
      rw [show y ++ more = hdr n ++ (y ++ more).drop 4 by rw [← h5, List.take_append_drop], nOf_hdr]
    have hs := sizeI_of n (by omega) (by omega)
    by_cases hq : (y ++ more).take (nOf (y ++ more) + 4).toNat ++ tailOf (sumOf ((y ++ more).take (nOf (y ++ more) + 4).toNat)) = (y ++ more).take (nOf (y ++ more) + 8).toNat
    · have := firstL_ok (y ++ more) (by omega) (by rw [hn, hs]; omega) (by rw [h5, hn]) (by rw [hn, hs]; omega) hq
      rw [h] at this
      injection this with _ this
      injection this with _ this
      cases this
    · have := firstL_sum (y ++ more) (by omega) (by rw [hn, hs]; omega) (by rw [h5, hn]) (by rw [hn, hs]; omega) hq
      rw [h] at this
      injection this with _ this
      injection this with this _
      omega
  · refine ⟨fun h4 => ?_, .inl (by rw [h]; show (22 : Int) ≠ 0; decide)⟩
    have h5 : (y ++ more).take 4 = hdr n := by rw [List.take_append_of_le_length (by omega)]; exact h4
    have hn : nOf (y ++ more) = n := by
      rw [show y ++ more = hdr n ++ (y ++ more).drop 4 by rw [← h5, List.take_append_drop], nOf_hdr]
    rw [h, hn]
  · have hno : nOf (y ++ more) ≠ n := by
      intro hn
      rw [hn, show ((n : Int) + 8).toNat = n + 8 by omega, htake] at hzf
      exact key z hzB hzf
    refine ⟨fun h4 => ?_, .inr (by rw [h]; simp only; omega)⟩
    exfalso
    have h5 : (y ++ more).take 4 = hdr n := by rw [List.take_append_of_le_length (by omega)]; exact h4
    apply hno
    rw [show y ++ more = hdr n ++ (y ++ more).drop 4 by rw [← h5, List.take_append_drop], nOf_hdr]

/-- Frames, parted at the one of a number. -/
theorem split_its (g : List (List Int)) : ∀ (a k : Nat), k < (its a g).length → ∃ g1 x g2, g = g1 ++ x :: g2 ∧ 1 ≤ x.length ∧ x.length ≤ 8192 ∧ (its a g1).length = k := by
  induction g with
  | nil => intro a k h; exact absurd h (by simp [its])
  | cons y g ih =>
    intro a k h
    by_cases hg : 1 ≤ y.length ∧ y.length ≤ 8192
    · simp only [its, if_pos hg, List.length_cons] at h
      rcases k with _ | k
      · exact ⟨[], y, g, rfl, hg.1, hg.2, rfl⟩
      · obtain ⟨g1, x, g2, rfl, h1, h2, h3⟩ := ih (a + (y.length + 8)) k (by omega)
        exact ⟨y :: g1, x, g2, rfl, h1, h2, by simp only [its, if_pos hg, List.length_cons, h3]⟩
    · simp only [its, if_neg hg] at h
      obtain ⟨g1, x, g2, rfl, h1, h2, h3⟩ := ih _ k h
      exact ⟨y :: g1, x, g2, rfl, h1, h2, by simp only [its, if_neg hg, h3]⟩

/-- The scan of frames of which one is spoilt. -/
theorem scan_spoilt (g1 : List (List Int)) (x : List Int) (g2 : List (List Int)) (y : List Int) (h1 : 1 ≤ x.length) (h2 : x.length ≤ 8192) (hy : y.length = x.length + 8) (hf : firstL (y ++ cat g2) = ([], (x.length : Int) + 8, 22)) :
    Scan (cat g1 ++ (y ++ cat g2)) 0 (its 0 g1 ++ its ((cat g1).length + (x.length + 8)) g2) 1 (cat g1 ++ (y ++ cat g2)).length 0 := by
  have hlen : (cat g1 ++ (y ++ cat g2)).length = (cat g1).length + (x.length + 8) + (cat g2).length := by rw [List.length_append, List.length_append, hy]; omega
  refine scan_cat _ g1 0 (y ++ cat g2) _ 1 _ 0 (Nat.zero_le _) rfl ?_
  rw [Nat.zero_add]
  refine .pass _ (x.length + 8) _ 0 _ 0 (by omega) (by omega) ?_ ?_
  · rw [List.drop_left, hf]; simp
  · have hd : (cat g1 ++ (y ++ cat g2)).drop ((cat g1).length + (x.length + 8)) = cat g2 ++ [] := by
      rw [← List.drop_drop, List.drop_left, ← hy, List.drop_left, List.append_nil]
    have hs := scan_cat (cat g1 ++ (y ++ cat g2)) g2 ((cat g1).length + (x.length + 8)) [] [] 0 (cat g1 ++ (y ++ cat g2)).length 0 (by omega) hd (by rw [← hlen]; exact .done _ rfl)
    rw [List.append_nil] at hs
    exact hs

theorem add8 (c K i : Nat) (h : 8 * c + (K + i) < 2000000) : wrap64 (((8 * c + K : Nat) : Int) + (i : Int)) = ((8 * c + (K + i) : Nat) : Int) := by
  rw [w64 _ (by omega) (by omega)]; omega
theorem div8 (c n : Nat) (h : 8 * c + n < 2000000) : wrap64 (Int.tdiv ((8 * c + n : Nat) : Int) 8) = ((c + n / 8 : Nat) : Int) := by
  rw [tdiv_pos _ _ (by omega), w64 _ (by omega) (by omega)]; omega
theorem mod8 (c n : Nat) : Int.tmod ((8 * c + n : Nat) : Int) 8 = ((n % 8 : Nat) : Int) := by
  rw [tmod_pos _ _ (by omega)]; omega
theorem spoilt_loop (g1 : List (List Int)) (x : List Int) (g2 : List (List Int)) (hB1 : AllBytes g1) (hB2 : AllBytes g2) (h1 : 1 ≤ x.length) (h2 : x.length ≤ 8192) (K a : Nat) (hK0 : 32 ≤ K) (hK : K + 32 ≤ 8 * (x.length + 8)) (ha : a < 2 ^ 32) (ha0 : a ≠ 0)
    (L : List Int) (hL : L.length = (cat g1).length + (x.length + 8) + (cat g2).length) (hm : L.length ≤ 200000) (W : List Itm) (hW : W.length ≤ 20000) (hWe : W = its 0 g1 ++ ((cat g1).length, x.length + 8, x) :: its ((cat g1).length + (x.length + 8)) g2) (d : Nat) :
    ∀ (k i : Nat) (y : List Int), i + d = 32 → 20010 + d < k → y.length = x.length + 8 → IsBytes y → run ones y = good ^^^ stps (8 * (x.length + 8) - K) (lowBits a i) → y.take 4 = hdr x.length →
      souterrainlaw03_ScanSpoilt.l0 k (a : Int) true L (W.map toS) ((its 0 g1).length : Int) ((8 * (cat g1).length + K : Nat) : Int) (cat g1 ++ (y ++ cat g2)) (i : Int) = some true := by
  have hlen : ∀ y : List Int, y.length = x.length + 8 → (cat g1 ++ (y ++ cat g2)).length = L.length := fun y hy => by rw [List.length_append, List.length_append, hy]; omega
  have hWl := congrArg List.length hWe
  rw [List.length_append, List.length_cons] at hWl
  induction d with
  | zero =>
    intro k i y hi hk hy hyB hrun h4
    obtain ⟨k, rfl⟩ : ∃ m, k = m + 1 := ⟨k - 1, by omega⟩
    obtain rfl : i = 32 := by omega
    have hbad : run ones y ≠ good := by
      rw [hrun]
      exact ne_of_burst _ _ (burst_ne a ha ha0 _)
    obtain ⟨q1, q2⟩ := spoilt_got y y (cat g2) x.length h1 h2 hy hyB (cat_bytes g2 hB2) hbad
    have hs := scan_spoilt g1 x g2 y h1 h2 hy (q1 h4)
    rw [hlen y hy] at hs
    have ht : (W.map toS).take (its 0 g1).length = (its 0 g1).map toS := by rw [hWe, List.map_append, show (its 0 g1).length = ((its 0 g1).map toS).length by rw [List.length_map], List.take_left]
    have hdr : (W.map toS).drop ((its 0 g1).length + 1) = (its ((cat g1).length + (x.length + 8)) g2).map toS := by
      rw [hWe, List.map_append, ← List.drop_drop, show (its 0 g1).length = ((its 0 g1).map toS).length by rw [List.length_map], List.drop_left, List.map_cons, List.drop_one, List.tail_cons]
    have hall := all_of (cat g1 ++ (y ++ cat g2)) ((cat_bytes g1 hB1).append (hyB.append (cat_bytes g2 hB2))) (by rw [hlen y hy]; omega) hs
    rw [souterrainlaw03_ScanSpoilt.l0, if_neg (by omega), Option.bind_some, if_pos (by omega), if_pos (by rw [List.length_map]; omega), Int.toNat_natCast, ht, Option.bind_some, List.nil_append, if_pos (by simp only [List.length_map, List.length_nil]; omega), Option.bind_some, w64 _ (by omega) (by omega),
      if_pos (by omega), if_pos (by rw [List.length_map]; omega), show (((its 0 g1).length : Int) + 1).toNat = (its 0 g1).length + 1 by omega, hdr, Option.bind_some, if_pos (by simp only [List.length_map]; omega), hall, Option.bind_some, if_pos rfl, ← List.map_append,
      same_refl _ (by simp only [List.length_map, List.length_append]; omega) _ (by simp only [List.length_map, List.length_append]; omega), Option.bind_some, if_pos rfl]
    dsimp only
    rw [if_pos (show ((1 : Nat) : Int) = 1 from rfl), if_pos rfl]
    rfl
  | succ d ih =>
    intro k i y hi hk hy hyB hrun h4
    obtain ⟨k, rfl⟩ : ∃ m, k = m + 1 := ⟨k - 1, by omega⟩
    rw [souterrainlaw03_ScanSpoilt.l0, if_pos (by omega), if_pos (by omega), w64 ((i : Int) + 1) (by omega) (by omega), show (i : Int) + 1 = ((i + 1 : Nat) : Int) by omega]
    have ht := test_bit a i (by omega)
    by_cases hb : a.testBit i = true
    · rw [if_pos (ht.mpr hb)]
      have hc8 : 8 * (cat g1).length + (K + i) < 2000000 := by clear ht hWl hWe hrun ih; omega
      have hp : (K + i) / 8 < y.length := by omega
      have hlt8 : (cat g1).length + (K + i) / 8 < (cat g1 ++ (y ++ cat g2)).length := by rw [hlen y hy, hL]; omega
      have hrd : rd (cat g1 ++ (y ++ cat g2)) (((cat g1).length + (K + i) / 8 : Nat) : Int) = rd y (((K + i) / 8 : Nat) : Int) := by
        unfold rd
        rw [Int.toNat_natCast, Int.toNat_natCast, List.getD_eq_getElem?_getD, List.getD_eq_getElem?_getD, List.getElem?_append_right (by omega), show (cat g1).length + (K + i) / 8 - (cat g1).length = (K + i) / 8 by omega, List.getElem?_append_left hp]
      have hset : ∀ v, (cat g1 ++ (y ++ cat g2)).set ((cat g1).length + (K + i) / 8) v = cat g1 ++ (y.set ((K + i) / 8) v ++ cat g2) := by
        intro v
        rw [List.set_append_right _ _ (by omega), show (cat g1).length + (K + i) / 8 - (cat g1).length = (K + i) / 8 by omega, List.set_append_left _ _ hp]
      obtain ⟨c0, c1⟩ := hyB _ (rd_mem y (((K + i) / 8 : Nat) : Int) (Int.natCast_nonneg _) (by omega))
      obtain ⟨v0, v1, v2⟩ := turn_byte (rd y (((K + i) / 8 : Nat) : Int)) ((K + i) % 8) c0 c1 (Nat.mod_lt _ (by decide))
      rw [add8 _ _ _ hc8, div8 _ _ hc8, mod8, if_pos (Int.natCast_nonneg _), if_pos (Int.ofNat_lt.mpr hlt8), if_pos (Int.natCast_nonneg _), Int.toNat_natCast, hset, hrd]
      refine ih k (i + 1) _ (by omega) (by omega) (by rw [List.length_set, hy]) (bytes_set hyB _ _ v0 v1) ?_ ?_
      · rw [run_turn y K i (by omega) (by omega) _ v2, hrun, hy, lowBits, if_pos hb, stps_xor, BitVec.xor_assoc]
      · rw [List.take_set_of_le (by omega)]
        exact h4
    · rw [if_neg (fun h => hb (ht.mp h))]
      refine ih k (i + 1) y (by omega) (by omega) hy hyB ?_ h4
      rw [lowBits, if_neg hb, BitVec.xor_zero, hrun]

theorem rd_item (pre suf : List Itm) (x : Itm) : rd_T41 ((pre ++ x :: suf).map toS) (pre.length : Int) = toS x := by
  unfold rd_T41
  rw [Int.toNat_natCast, List.getD_eq_getElem?_getD, List.map_append, List.map_cons, List.getElem?_append_right (by simp), List.length_map, Nat.sub_self]
  rfl
theorem ScanSpoilt (l : List (List Int)) (a1 a2 a3 : Int) (hm : l.length ≤ maxLen) (hB : AllBytes l) (g0 : (Lit.int .u8 a1).wf = true) (g1 : (Lit.int .u16 a2).wf = true) (g2 : (Lit.int .u32 a3).wf = true) : ∃ k, souterrainlaw03_ScanSpoilt.f k l a1 a2 a3 = some true := by
  obtain ⟨b, h1, h2⟩ := great_ex l hm
  obtain ⟨o0, o1⟩ := u8_of_wf a1 g0
  obtain ⟨p0, p1⟩ := u16_of_wf a2 g1
  obtain ⟨q0, q1⟩ := u32_of_wf a3 g2
  refine ⟨l.length + 200000, ?_⟩
  rw [souterrainlaw03_ScanSpoilt.f, souterrainlaw03_head.f, Option.bind_some, h1 _ (by omega), Option.bind_some]
  obtain ⟨k, hk⟩ : ∃ k, l.length + 200000 = k + 1 := ⟨_, rfl⟩
  rw [hk]
  cases b with
  | true => rw [if_pos rfl, souterrainlaw03_ScanSpoilt.j0, if_pos rfl]
  | false =>
    have h3 := h2 rfl
    have h4 := cat_len l
    have h5 := its_len l 0
    rw [if_neg (by decide)]
    by_cases h0 : a3 = 0
    · subst h0
      rw [souterrainlaw03_ScanSpoilt.j0, if_pos (by decide)]
    rw [show (a3 == 0) = false from beq_eq_false_iff_ne.mpr h0, souterrainlaw03_ScanSpoilt.j0, if_neg (by decide), put_ex l hB h3 _ (by omega), Option.bind_some]
    dsimp only
    by_cases hn : (its 0 l).length = 0
    · rw [if_pos (by rw [List.length_map, hn]; rfl)]
    rw [if_neg (by rw [List.length_map]; omega), w64 a1 (by omega) (by omega), tmod_pos a1 _ o0, List.length_map]
    have hk0 : 0 ≤ a1 % ((its 0 l).length : Int) := Int.emod_nonneg _ (by omega)
    have hk1 : a1 % ((its 0 l).length : Int) < ((its 0 l).length : Int) := Int.emod_lt_of_pos _ (by omega)
    generalize a1 % ((its 0 l).length : Int) = J at hk0 hk1
    obtain ⟨J, rfl⟩ := Int.eq_ofNat_of_zero_le hk0
    obtain ⟨l1, x, l2, rfl, x1, x2, x3⟩ := split_its l 0 J (by omega)
    have hWe : its 0 (l1 ++ x :: l2) = its 0 l1 ++ ((cat l1).length, x.length + 8, x) :: its ((cat l1).length + (x.length + 8)) l2 := by
      rw [its_append, Nat.zero_add]
      simp only [its, if_pos (show 1 ≤ x.length ∧ x.length ≤ 8192 from ⟨x1, x2⟩)]
    have hLe : cat (l1 ++ x :: l2) = cat l1 ++ (frameOf x ++ cat l2) := by
      rw [cat_append]
      simp only [cat, put_yes x x1 x2]
    have hLl := congrArg List.length hLe
    rw [List.length_append, List.length_append, frame_len] at hLl
    have hr := rd_item (its 0 l1) (its ((cat l1).length + (x.length + 8)) l2) ((cat l1).length, x.length + 8, x)
    rw [← hWe, x3] at hr
    rw [if_pos (by omega), if_pos (by omega), hr]
    have e1 : wrap64 (wrap64 (8 * wrap64 ((toS ((cat l1).length, x.length + 8, x)).f1 - 4)) - 31) = ((8 * (x.length + 4) - 31 : Nat) : Int) := by
      show wrap64 (wrap64 (8 * wrap64 (((x.length + 8 : Nat) : Int) - 4)) - 31) = _
      rw [w64 (((x.length + 8 : Nat) : Int) - 4) (by omega) (by omega), w64 (8 * (((x.length + 8 : Nat) : Int) - 4)) (by omega) (by omega), w64 _ (by omega) (by omega)]
      omega
    have e2 : wrap64 (8 * wrap64 ((toS ((cat l1).length, x.length + 8, x)).f0 + 4)) = ((8 * (cat l1).length + 32 : Nat) : Int) := by
      show wrap64 (8 * wrap64 (((cat l1).length : Int) + 4)) = _
      rw [w64 (((cat l1).length : Int) + 4) (by omega) (by omega), w64 _ (by omega) (by omega)]
      omega
    rw [e1, e2, if_neg (by omega), Option.bind_some, List.nil_append, if_pos (by simp only [List.length_nil]; omega), w64 a2 (by omega) (by omega), tmod_pos a2 _ p0]
    have hk2 : 0 ≤ a2 % ((8 * (x.length + 4) - 31 : Nat) : Int) := Int.emod_nonneg _ (by omega)
    have hk3 : a2 % ((8 * (x.length + 4) - 31 : Nat) : Int) < ((8 * (x.length + 4) - 31 : Nat) : Int) := Int.emod_lt_of_pos _ (by omega)
    generalize a2 % ((8 * (x.length + 4) - 31 : Nat) : Int) = K at hk2 hk3
    obtain ⟨K, rfl⟩ := Int.eq_ofNat_of_zero_le hk2
    obtain ⟨a, rfl⟩ := Int.eq_ofNat_of_zero_le q0
    rw [w64 (((8 * (cat l1).length + 32 : Nat) : Int) + (K : Int)) (by omega) (by omega), show ((8 * (cat l1).length + 32 : Nat) : Int) + (K : Int) = ((8 * (cat l1).length + (32 + K) : Nat) : Int) by omega, ← x3]
    have hB1 : AllBytes l1 := fun z hz => hB z (List.mem_append_left _ hz)
    have hB2 : AllBytes l2 := fun z hz => hB z (List.mem_append_right _ (List.mem_cons_of_mem _ hz))
    have hxB : IsBytes x := hB x (List.mem_append_right _ List.mem_cons_self)
    have h44 : (frameOf x).take 4 = hdr x.length := by
      have := frame_shape x []
      rw [List.append_nil] at this
      rw [this, take_hdr]
    have := spoilt_loop l1 x l2 hB1 hB2 x1 x2 (32 + K) a (by omega) (by omega) (by omega) (by omega) (cat (l1 ++ x :: l2)) (by omega) (by omega) (its 0 (l1 ++ x :: l2)) (by omega) hWe 32 k 0 (frameOf x) (by omega) (by omega) (frame_len x) (frame_bytes x hxB x2) (by
      rw [lowBits, stps_zero, BitVec.xor_zero]
      unfold frameOf
      exact run_sealed _ ((hdr_bytes _ (by omega) (by omega)).append hxB)) h44
    rw [← hLe] at this
    exact this
end Go.Proofs.Ytjednkbgdbalnaa.Pure
