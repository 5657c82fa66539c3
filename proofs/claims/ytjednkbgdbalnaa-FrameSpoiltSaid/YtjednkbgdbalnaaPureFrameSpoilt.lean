/- A frame in which something within 32 bits has turned is not got as one of its length: over numbers and lists alone. -/
import Derived.Test.YtjednkbgdbalnaaPrx4
import Derived.Test.YtjednkbgdbalnaaBurst
namespace Go.Proofs.Ytjednkbgdbalnaa.Pure
open Go.RowKit Go.Proofs.Ytjednkbgdbalnaa.Pr Go.Proofs.YtjednkbgdbalnaaW.PrintWords Go.Proofs.YtjednkbgdbalnaaW.PrintMore Go.Proofs.Ytjednkbgdbalnaa.Fr Go.Proofs.Ytjednkbgdbalnaa.Ext
set_option linter.unusedVariables false

theorem bytes_set {l : List Int} (h : IsBytes l) (p : Nat) (v : Int) (h0 : 0 ≤ v) (h1 : v < 256) : IsBytes (l.set p v) := by
  intro x hx
  rcases List.mem_or_eq_of_mem_set hx with hx | rfl
  · exact h x hx
  · exact ⟨h0, h1⟩
/-- What has been got of a frame whose sum is not good. -/
theorem spoilt_got (f y more : List Int) (n : Nat) (hn1 : 1 ≤ n) (hn2 : n ≤ 8192) (hy : y.length = n + 8) (hyB : IsBytes y) (hmB : IsBytes more) (hbad : run ones y ≠ good) :
    (y.take 4 = hdr n → firstL (y ++ more) = ([], (n : Int) + 8, 22)) ∧ ((firstL (y ++ more)).2.2 ≠ 0 ∨ (firstL (y ++ more)).2.1 ≠ (n : Int) + 8) := by
  have key : ∀ z : List Int, IsBytes z → y = frameOf z → False := by
    intro z hz e
    apply hbad
    rw [e]
    unfold frameOf
    apply run_sealed
    unfold bodyOf
    have : z.length = n := by have := congrArg List.length e; rw [frame_len] at this; omega
    exact (hdr_bytes _ (by omega) (by omega)).append hz
  have hlen : (y ++ more).length = n + 8 + more.length := by rw [List.length_append, hy]
  have htake : (y ++ more).take (n + 8) = y := by rw [← hy]; exact List.take_left
  rcases first_cases (y ++ more) (hyB.append hmB) with h | h | ⟨g1, g2, g3, g4, h | ⟨z, h, hz, hzf, hzB⟩⟩
  · refine ⟨fun h4 => ?_, .inl (by rw [h]; decide)⟩
    exfalso
    have h5 : (y ++ more).take 4 = hdr n := by rw [List.take_append_of_le_length (by omega)]; exact h4
    have hn : nOf (y ++ more) = n := by
      rw [show y ++ more = hdr n ++ (y ++ more).drop 4 by rw [← h5, List.take_append_drop], nOf_hdr]
    have hs := sizeI_of n (by omega) (by omega)
    by_cases hq : (y ++ more).take (nOf (y ++ more) + 4).toNat ++ tailOf (sumOf ((y ++ more).take (nOf (y ++ more) + 4).toNat)) = (y ++ more).take (nOf (y ++ more) + 8).toNat
    · have := firstL_ok (y ++ more) (by omega) (by rw [hn, hs]; omega) (by rw [h5, hn]) (by rw [hn, hs]; omega) hq
      rw [h] at this
      injection this with _ this
      injection this with _ this
      cases this
    · have := firstL_sum (y ++ more) (by omega) (by rw [hn, hs]; omega) (by rw [h5, hn]) (by rw [hn, hs]; omega) hq
      rw [h] at this
      injection this with _ this
      injection this with _ this
      cases this
  · refine ⟨fun h4 => ?_, .inl (by rw [h]; decide)⟩
    exfalso
    have h5 : (y ++ more).take 4 = hdr n := by rw [List.take_append_of_le_length (by omega)]; exact h4
    have hn : nOf (y ++ more) = n := by
      rw [show y ++ more = hdr n ++ (y ++ more).drop 4 by rw [← h5, List.take_append_drop], nOf_hdr]
    have hs := sizeI_of n (by omega) (by omega)
    by_cases hq : (y ++ more).take (nOf (y ++ more) + 4).toNat ++ tailOf (sumOf ((y ++ more).take (nOf (y ++ more) + 4).toNat)) = (y ++ more).take (nOf (y ++ more) + 8).toNat
    · have := firstL_ok (y ++ more) (by omega) (by rw [hn, hs]; omega) (by rw [h5, hn]) (by rw [hn, hs]; omega) hq
      rw [h] at this
      injection this with _ this
      injection this with _ this
      cases this
    · have := firstL_sum (y ++ more) (by omega) (by rw [hn, hs]; omega) (by rw [h5, hn]) (by rw [hn, hs]; omega) hq
      rw [h] at this
      injection this with _ this
      injection this with this _
      omega
  · refine ⟨fun h4 => ?_, .inl (by rw [h]; show (22 : Int) ≠ 0; decide)⟩
    have h5 : (y ++ more).take 4 = hdr n := by rw [List.take_append_of_le_length (by omega)]; exact h4
    have hn : nOf (y ++ more) = n := by
      rw [show y ++ more = hdr n ++ (y ++ more).drop 4 by rw [← h5, List.take_append_drop], nOf_hdr]
    rw [h, hn]
  · have hno : nOf (y ++ more) ≠ n := by
      intro hn
      rw [hn, show ((n : Int) + 8).toNat = n + 8 by omega, htake] at hzf
      exact key z hzB hzf
    refine ⟨fun h4 => ?_, .inr (by rw [h]; simp only; omega)⟩
    exfalso
    have h5 : (y ++ more).take 4 = hdr n := by rw [List.take_append_of_le_length (by omega)]; exact h4
    apply hno
    rw [show y ++ more = hdr n ++ (y ++ more).drop 4 by rw [← h5, List.take_append_drop], nOf_hdr]

theorem spoilt_loop (f more : List Int) (n K a : Nat) (hn1 : 1 ≤ n) (hn2 : n ≤ 8192) (hf : f.length = n + 8) (hmB : IsBytes more) (hK : K + 32 ≤ 8 * f.length) (ha : a < 2 ^ 32) (ha0 : a ≠ 0) (hf4 : f.take 4 = hdr n) (d : Nat) :
    ∀ (k i : Nat) (y : List Int), i + d = 32 → d < k → y.length = f.length → IsBytes y → run ones y = good ^^^ stps (8 * f.length - K) (lowBits a i) → (32 ≤ K → y.take 4 = hdr n) →
      souterrainlaw02_FrameSpoilt.l0 k (a : Int) true f (K : Int) (y ++ more) (i : Int) = some true := by
  induction d with
  | zero =>
    intro k i y hi hk hy hyB hrun h4
    obtain ⟨k, rfl⟩ : ∃ m, k = m + 1 := ⟨k - 1, by omega⟩
    obtain rfl : i = 32 := by omega
    have hbad : run ones y ≠ good := by
      rw [hrun]
      exact ne_of_burst _ _ (burst_ne a ha ha0 _)
    obtain ⟨g1, g2⟩ := spoilt_got f y more n hn1 hn2 (by omega) hyB hmB hbad
    simp only [souterrainlaw02_FrameSpoilt.l0]
    rw [if_neg (by omega), first_some _ (hyB.append hmB)]
    simp only [Option.bind_some, if_true]
    by_cases h32 : 32 ≤ K
    · rw [g1 (h4 h32), if_pos (by omega)]
      simp only [if_true]
      rw [if_pos (by omega)]
      rfl
    · rw [if_neg (by omega)]
      by_cases h0 : (firstL (y ++ more)).2.2 = 0
      · rw [if_pos h0]
        have := g2.resolve_left (fun h => h h0)
        rw [hf]
        congr 1
        exact bne_iff_ne.mpr (by omega)
      · rw [if_neg h0]
  | succ d ih =>
    intro k i y hi hk hy hyB hrun h4
    obtain ⟨k, rfl⟩ : ∃ m, k = m + 1 := ⟨k - 1, by omega⟩
    simp only [souterrainlaw02_FrameSpoilt.l0]
    rw [if_pos (by omega), if_pos (by omega), w64 ((i : Int) + 1) (by omega) (by omega), show (i : Int) + 1 = ((i + 1 : Nat) : Int) by omega]
    have ht := test_bit a i (by omega)
    by_cases hb : a.testBit i = true
    · rw [if_pos (ht.mpr hb)]
      have e1 : wrap64 ((K : Int) + (i : Int)) = ((K + i : Nat) : Int) := by rw [w64 _ (by omega) (by omega)]; omega
      have e2 : wrap64 (Int.tdiv ((K + i : Nat) : Int) 8) = (((K + i) / 8 : Nat) : Int) := by rw [tdiv_pos _ _ (by omega), w64 _ (by omega) (by omega)]; omega
      have e3 : Int.tmod ((K + i : Nat) : Int) 8 = (((K + i) % 8 : Nat) : Int) := by rw [tmod_pos _ _ (by omega)]; omega
      have hp : (K + i) / 8 < y.length := by omega
      rw [e1, e2, e3, if_pos (by omega), if_pos (by rw [List.length_append]; omega), if_pos (by omega), Int.toNat_natCast, List.set_append_left _ _ hp]
      have hrd : rd (y ++ more) (((K + i) / 8 : Nat) : Int) = rd y (((K + i) / 8 : Nat) : Int) := by
        unfold rd
        rw [Int.toNat_natCast, List.getD_eq_getElem?_getD, List.getD_eq_getElem?_getD, List.getElem?_append_left hp]
      rw [hrd]
      obtain ⟨c0, c1⟩ := hyB _ (rd_mem y (((K + i) / 8 : Nat) : Int) (by omega) (by omega))
      obtain ⟨v0, v1, v2⟩ := turn_byte (rd y (((K + i) / 8 : Nat) : Int)) ((K + i) % 8) c0 c1 (by omega)
      refine ih k (i + 1) _ (by omega) (by omega) (by rw [List.length_set, hy]) (bytes_set hyB _ _ v0 v1) ?_ ?_
      · rw [run_turn y K i (by omega) (by omega) _ v2, hrun, hy, lowBits, if_pos hb, stps_xor, BitVec.xor_assoc]
      · intro h32
        rw [List.take_set_of_le (by omega)]
        exact h4 h32
    · rw [if_neg (fun h => hb (ht.mp h))]
      refine ih k (i + 1) y (by omega) (by omega) hy hyB ?_ h4
      rw [lowBits, if_neg hb, BitVec.xor_zero, hrun]

theorem FrameSpoilt : souterrainlaw02_FrameSpoilt.Pure := by
  intro l a1 a2 more hm hl hb ha1 ha2 hm3 hl3 hb3
  have hB := bytes_of_wf l hb
  have hmB := bytes_of_wf more hb3
  obtain ⟨p0, p1⟩ := u16_of_wf a1 ha1
  obtain ⟨q0, q1⟩ := u32_of_wf a2 ha2
  refine ⟨100, ?_⟩
  unfold souterrainlaw02_FrameSpoilt.f
  simp only [souterrainlaw02_head.f, frame_Put.f, Option.bind_some]
  by_cases h1 : l.length < 1 ∨ 8192 < l.length
  · rw [put_no l h1]
    rw [if_pos (show (([] : List Int).length : Int) < 9 by decide)]
    simp only [souterrainlaw02_FrameSpoilt.j0, if_true]
  have hp := put_yes l (by omega) (by omega)
  have hpl := frame_len l
  rw [hp]
  rw [if_neg (by omega)]
  by_cases h3 : (more.length : Int) > 9000
  · rw [if_pos h3]
    simp only [souterrainlaw02_FrameSpoilt.j0, if_true]
  rw [if_neg h3]
  by_cases h0 : a2 = 0
  · subst h0
    simp [souterrainlaw02_FrameSpoilt.j0]
  have e0 : (a2 == 0) = false := beq_eq_false_iff_ne.mpr h0
  have e1 : wrap64 (wrap64 (8 * ((frameOf l).length : Int)) - 31) = 8 * (l.length + 8 : Nat) - 31 := by
    rw [hpl, w64 (8 * ((l.length + 8 : Nat) : Int)) (by omega) (by omega), w64 _ (by omega) (by omega)]
  rw [e0]
  simp only [souterrainlaw02_FrameSpoilt.j0, Bool.false_eq_true, if_false, Option.bind_some, List.nil_append, List.length_nil, Nat.zero_add]
  rw [e1, if_neg (by omega), if_pos (by omega), if_pos (by omega), w64 a1 (by omega) (by omega), tmod_pos a1 _ p0]
  have hk0 : 0 ≤ a1 % (8 * ((l.length + 8 : Nat) : Int) - 31) := Int.emod_nonneg _ (by omega)
  have hk1 : a1 % (8 * ((l.length + 8 : Nat) : Int) - 31) < 8 * ((l.length + 8 : Nat) : Int) - 31 := Int.emod_lt_of_pos _ (by omega)
  generalize a1 % (8 * ((l.length + 8 : Nat) : Int) - 31) = K at hk0 hk1
  obtain ⟨K, rfl⟩ := Int.eq_ofNat_of_zero_le hk0
  obtain ⟨a, rfl⟩ := Int.eq_ofNat_of_zero_le q0
  have h4 : (frameOf l).take 4 = hdr l.length := by
    have := frame_shape l []
    rw [List.append_nil] at this
    rw [this, take_hdr]
  refine spoilt_loop (frameOf l) more l.length K a (by omega) (by omega) hpl hmB (by omega) (by omega) (by omega) h4 32 99 0 (frameOf l) (by omega) (by omega) rfl (frame_bytes l hB (by omega)) ?_ (fun _ => h4)
  rw [lowBits, stps_zero, BitVec.xor_zero]
  unfold frameOf
  exact run_sealed _ ((hdr_bytes _ (by omega) (by omega)).append hB)
end Go.Proofs.Ytjednkbgdbalnaa.Pure
