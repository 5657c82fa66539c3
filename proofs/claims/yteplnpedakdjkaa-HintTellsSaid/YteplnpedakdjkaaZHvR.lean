/- The document's frames are the machine's: over numbers and lists alone. -/
import Derived.Test.YteplnpedakdjkaaZPtx9
import Derived.Test.YteplnpedakdjkaaZGa
namespace Go.Proofs.Yteplnpedakdjkaa.Pure
open Go.RowKit Go.Proofs.Yteplnpedakdjkaa.Pt Go.Proofs.YteplnpedakdjkaaW.PrintWords Go.Proofs.YteplnpedakdjkaaW.PrintLast Go.Proofs.Yteplnpedakdjkaa.Fr Go.Proofs.Yteplnpedakdjkaa.Ext

theorem ref02_size (n : Int) : souterrainref02_Size.f n = some (sizeI n) := by
  unfold souterrainref02_Size.f sizeI
  by_cases h1 : n < 1
  · rw [if_pos h1, if_pos h1]
  · rw [if_neg h1, if_neg h1]
    by_cases h2 : n > 8192
    · rw [if_pos h2, if_pos h2]
    · rw [if_neg h2, if_neg h2, w64 _ (by omega) (by omega)]

theorem bit_step (a : BitVec 32) : (if Int.tmod (toI a) 2 = 1 then Go.bits .xor .u32 ((Int.tdiv (toI a) 2) % 4294967296) 2197175160 else (Int.tdiv (toI a) 2) % 4294967296) = toI (stp a) := by
  have hr := toI_range a
  rw [tmod_pos _ _ hr.1, tdiv_pos _ _ hr.1]
  have e : (toI a / (2 : Int)) % (4294967296 : Int) = toI (a >>> 1) := by
    unfold toI
    rw [BitVec.toNat_ushiftRight, Nat.shiftRight_eq_div_pow]
    have := a.isLt
    omega
  have e2 : a.getLsbD 0 = decide (a.toNat % 2 = 1) := by rw [BitVec.getLsbD, Nat.testBit_zero]
  rw [e]
  unfold stp
  by_cases h : toI a % 2 = 1
  · have h2 : a.getLsbD 0 = true := by
      rw [e2]
      unfold toI at h
      exact decide_eq_true (by omega)
    rw [if_pos h, if_pos h2, show (2197175160 : Int) = toI poly from rfl, xor_toI]
  · have h2 : a.getLsbD 0 = false := by
      rw [e2]
      unfold toI at h
      exact decide_eq_false (by omega)
    rw [if_neg h, h2]
    simp
theorem bit_inner (l : List Int) (x4 : Int) (K n : Nat) : ∀ (j : Nat) (a : BitVec 32), j + n = 8 → souterrainref01_Bit.l1 (K + 1 + n) l (toI a) x4 (j : Int) = souterrainref01_Bit.l0 K l (toI (stps n a)) (wrap64 (x4 + 1)) := by
  induction n with
  | zero =>
    intro j a hj
    obtain rfl : j = 8 := by omega
    show souterrainref01_Bit.l1 (K + 1) _ _ _ _ = _
    unfold souterrainref01_Bit.l1
    rw [if_neg (by omega)]
    rfl
  | succ n ih =>
    intro j a hj
    rw [show K + 1 + (n + 1) = (K + 1 + n) + 1 by omega]
    unfold souterrainref01_Bit.l1
    rw [if_pos (by omega), w64 _ (by omega) (by omega), ← apply_ite (fun z => souterrainref01_Bit.l1 (K + 1 + n) l z x4 ((j : Int) + 1)), bit_step, show (j : Int) + 1 = ((j + 1 : Nat) : Int) by omega, ih (j + 1) (stp a) (by omega), stps_add n 1]
    rfl
theorem bit_outer (l : List Int) (hB : IsBytes l) (hm : l.length ≤ 9223372036854775000) (K n : Nat) : ∀ (i : Nat) (s : BitVec 32), i + n = l.length → souterrainref01_Bit.l0 (K + 10 * n + 1) l (toI s) (i : Int) = some (toI (ones ^^^ run s (l.drop i))) := by
  induction n with
  | zero =>
    intro i s hi
    unfold souterrainref01_Bit.l0
    rw [if_neg (by omega), List.drop_eq_nil_of_le (by omega), show (4294967295 : Int) = toI ones from rfl, xor_toI]
    show some (toI (s ^^^ ones)) = some (toI (ones ^^^ s))
    rw [BitVec.xor_comm]
  | succ n ih =>
    intro i s hi
    have hlt : i < l.length := by omega
    have e : l.drop i = rd l i :: l.drop (i + 1) := by
      rw [List.drop_eq_getElem_cons hlt]
      simp [rd, List.getD_eq_getElem?_getD, List.getElem?_eq_getElem hlt]
    have hc := hB (rd l i) (by
      have : rd l (i : Int) ∈ l.drop i := by rw [e]; simp
      exact List.mem_of_mem_drop this)
    rw [show K + 10 * (n + 1) + 1 = (K + 10 * n + 1 + 1 + 8) + 1 by omega]
    unfold souterrainref01_Bit.l0
    rw [if_pos (by omega), if_pos (by omega), Int.emod_eq_of_lt hc.1 (by omega)]
    have ex : Go.bits .xor .u32 (toI s) (rd l (i : Int)) = toI (s ^^^ toB (rd l i)) := by
      rw [← xor_toI, toI_toB _ hc.1 hc.2]
    rw [ex, show (0 : Int) = ((0 : Nat) : Int) from rfl, bit_inner l i (K + 10 * n + 1) 8 0 _ (by omega), w64 _ (by omega) (by omega), show (i : Int) + 1 = ((i + 1 : Nat) : Int) by omega, ih (i + 1) _ (by omega), e]
    rfl
theorem ref02_bit (l : List Int) (hB : IsBytes l) (hm : l.length ≤ 9223372036854775000) (k : Nat) (hk : 10 * l.length + 1 ≤ k) : souterrainref01_Bit.f k l = some (sumOf l) := by
  obtain ⟨K, rfl⟩ : ∃ K, k = K + 10 * l.length + 1 := ⟨k - (10 * l.length + 1), by omega⟩
  unfold souterrainref01_Bit.f
  rw [show (4294967295 : Int) = toI ones from rfl, show (0 : Int) = ((0 : Nat) : Int) from rfl, bit_outer l hB hm K l.length 0 ones (by omega), sumOf_toI l hB]
  rfl

theorem hdr_ref (n : Nat) (h : n ≤ 8192) : [(wrap64 ((n : Int) / 256)) % 256, (n : Int) % 256, (wrap64 (255 - (wrap64 ((n : Int) / 256)))) % 256, 255 - ((n : Int) % 256)] = hdr n := by
  unfold hdr
  rw [w64 ((n : Int) / 256) (by omega) (by omega), w64 _ (by omega) (by omega)]
  congr 1
  · omega
  congr 1
  congr 1
  omega
theorem ref02_put (l : List Int) (hB : IsBytes l) (k : Nat) (hk : 90000 ≤ k) : souterrainref02_Put.f k l = some (putL l) := by
  unfold souterrainref02_Put.f
  rw [ref02_size, Option.bind_some]
  by_cases h0 : sizeI (l.length : Int) = 0
  · rw [if_pos h0, putL, if_pos h0]
  · rw [if_neg h0, putL, if_neg h0, Option.bind_some]
    obtain ⟨_, h1, h2⟩ := sizeI_ne _ h0
    have hb : IsBytes (hdr l.length ++ l) := (hdr_bytes l.length (by omega) (by omega)).append hB
    have hl : (hdr l.length ++ l).length = l.length + 4 := by rw [List.length_append, hdr_len]; omega
    have hs := sumOf_range (hdr l.length ++ l)
    rw [hdr_ref l.length (by omega), if_pos (by rw [hdr_len]; omega), Option.bind_some, ref02_bit _ hb (by omega) k (by omega), Option.bind_some, Option.bind_some,
      if_pos (by rw [hl]; show l.length + 4 + 4 < _; omega)]
    have et : [sumOf (hdr l.length ++ l) % 256, sumOf (hdr l.length ++ l) / 256 % 256, sumOf (hdr l.length ++ l) / 65536 % 256, sumOf (hdr l.length ++ l) / 16777216 % 256] = tailOf (sumOf (hdr l.length ++ l)) := by
      unfold tailOf
      rw [show sumOf (hdr l.length ++ l) / 16777216 % 256 = sumOf (hdr l.length ++ l) / 16777216 by omega]
    rw [et]
    rfl

theorem ref02_first (l : List Int) (hB : IsBytes l) (hm : l.length ≤ 9223372036854775000) (k : Nat) (hk : 90001 ≤ k) : souterrainref02_First.f k l = some (firstL l) := by
  obtain ⟨K, rfl⟩ : ∃ K, k = K + 1 := ⟨k - 1, by omega⟩
  unfold souterrainref02_First.f firstL
  by_cases h4 : l.length < 4
  · rw [if_pos (by omega), if_pos h4]
  · rw [if_neg (by omega), if_neg h4, if_pos (by omega), if_pos (by omega)]
    have r0 := hB _ (rd_mem l 0 (by omega) (by omega))
    have r1 := hB _ (rd_mem l 1 (by omega) (by omega))
    have r2 := hB _ (rd_mem l 2 (by omega) (by omega))
    have r3 := hB _ (rd_mem l 3 (by omega) (by omega))
    have en : wrap64 (wrap64 (256 * wrap64 (rd l 0)) + wrap64 (rd l 1)) = nOf l := by
      unfold nOf
      rw [w64 (rd l 0) (by omega) (by omega), w64 (rd l 1) (by omega) (by omega), w64 (256 * _) (by omega) (by omega), w64 _ (by omega) (by omega)]
      omega
    have hn0 : 0 ≤ nOf l ∧ nOf l < 65536 := by unfold nOf; omega
    have hd0 : nOf l / 256 = rd l 0 := by unfold nOf; omega
    have hd1 : nOf l % 256 = rd l 1 := by unfold nOf; omega
    rw [en, ref02_size, Option.bind_some, tdiv_pos _ _ hn0.1, tmod_pos _ _ hn0.1, w64 (rd l 2) (by omega) (by omega), w64 (rd l 3) (by omega) (by omega), w64 (nOf l / 256) (by omega) (by omega), w64 (255 - nOf l / 256) (by omega) (by omega), w64 (255 - nOf l % 256) (by omega) (by omega)]
    have ht : l.take 4 = [rd l 0, rd l 1, rd l 2, rd l 3] := take4 l (by omega)
    have hh : l.take 4 = hdr (nOf l) ↔ rd l 2 = 255 - nOf l / 256 ∧ rd l 3 = 255 - nOf l % 256 := by
      rw [ht]
      unfold hdr
      rw [hd0, hd1]
      simp
    have bad : souterrainref02_First.j0 (K + 1) l (nOf l) true = some ([], 0, 22) := by
      rw [souterrainref02_First.j0, if_pos rfl]
    by_cases hz : sizeI (nOf l) = 0
    · rw [if_pos hz, bad, if_pos (.inl hz)]
    · rw [if_neg hz, if_pos (by omega)]
      by_cases g2 : rd l 2 = 255 - nOf l / 256
      · rw [if_pos g2, if_pos (by omega)]
        by_cases g3 : rd l 3 = 255 - nOf l % 256
        · rw [show (rd l 3 != 255 - nOf l % 256) = false from bne_eq_false_iff_eq.mpr g3]
          have hk : l.take 4 = hdr (nOf l) := hh.mpr ⟨g2, g3⟩
          obtain ⟨hs, n1, n2⟩ := sizeI_ne _ hz
          rw [if_neg (fun h => h.elim hz (fun h => h hk)), hs]
          rw [souterrainref02_First.j0, if_neg Bool.false_ne_true, w64 (nOf l + 8) (by omega) (by omega), w64 (nOf l + 4) (by omega) (by omega)]
          by_cases hs : (l.length : Int) < nOf l + 8
          · rw [if_pos hs, if_pos hs]
          · rw [if_neg hs, if_neg hs, Option.bind_some, if_pos (by omega), if_pos (by omega)]
            obtain ⟨n, hn⟩ := Int.eq_ofNat_of_zero_le hn0.1
            have e4 : (nOf l + 4).toNat = n + 4 := by omega
            have e8 : (nOf l + 8).toNat = n + 8 := by omega
            have hxl : ((l.take (n + 4)).drop 4).length = n := by rw [List.length_drop, List.length_take]; omega
            have hxB : IsBytes ((l.take (n + 4)).drop 4) := (hB.take _).drop _
            have hmid := eq_of_mid l _ hk n
            rw [e4, e8, List.nil_append, if_pos (by rw [hxl]; show 0 + n < _; omega), Option.bind_some, ref02_put _ hxB K (by omega), Option.bind_some, put_yes _ (by omega) (by omega), if_pos (by omega), if_pos (by omega)]
            have hb : bodyOf ((l.take (n + 4)).drop 4) = l.take (n + 4) := by
              unfold bodyOf
              rw [hxl, ← hn, ← hmid]
            have hf : frameOf ((l.take (n + 4)).drop 4) = l.take (n + 4) ++ tailOf (sumOf (l.take (n + 4))) := by
              unfold frameOf
              rw [hb]
            have hi := str_iff (frame_bytes _ hxB (by omega)) (hB.take (n + 8))
            by_cases he : frameOf ((l.take (n + 4)).drop 4) = l.take (n + 8)
            · rw [if_pos (hi.mpr he), if_neg (by rw [← hf]; exact fun h => h he)]
            · rw [if_neg (fun h => he (hi.mp h)), if_pos (by rw [← hf]; exact he)]
        · rw [show (rd l 3 != 255 - nOf l % 256) = true from bne_iff_ne.mpr g3, bad, if_pos (.inr fun h => g3 (hh.mp h).2)]
      · rw [if_neg g2, bad, if_pos (.inr fun h => g2 (hh.mp h).1)]
end Go.Proofs.Yteplnpedakdjkaa.Pure

