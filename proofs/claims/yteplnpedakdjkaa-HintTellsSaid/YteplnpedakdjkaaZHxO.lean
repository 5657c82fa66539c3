/- ref11.Of: its walk, by hand. -/
import Derived.Test.YteplnpedakdjkaaZHuF
import Derived.Test.YteplnpedakdjkaaZHuO
namespace Go.Proofs.Yteplnpedakdjkaa.Hx
set_option linter.unusedVariables false
set_option linter.unusedSimpArgs false
open Go.RowKit Go.Maps Go.Shelf Go.Lib Go.Proofs.Yteplnpedakdjkaa.Pt Go.Proofs.YteplnpedakdjkaaW.PrintWords Go.Proofs.YteplnpedakdjkaaW.PrintLast Go.Proofs.YteplnpedakdjkaaW.PrintMore Go.Proofs.Yteplnpedakdjkaa.Fr Go.Proofs.Yteplnpedakdjkaa.Ext Go.Proofs.Yteplnpedakdjkaa.Hn Go.Proofs.Yteplnpedakdjkaa.Lw Go.Proofs.Yteplnpedakdjkaa.Pure Go.Proofs.Yteplnpedakdjkaa.Hu

theorem key_same {x y : ByteArray} : (x.toList == y.toList) = decide (keyL x = keyL y) := by
  rw [list_key, list_key]
  by_cases h : keyL x = keyL y
  · rw [decide_eq_true h, h]; simp
  · rw [decide_eq_false h]; exact beq_eq_false_iff_ne.mpr h
theorem key_less {x y : ByteArray} : Op.bytesLess x.toList y.toList = decide (keyL x < keyL y) := by
  rw [list_key, list_key, bytesLess_eq]
/-- How many at the head have lesser keys. -/
def posH (h : Hi) : List Hi → Nat
  | [] => 0
  | a :: l => if keyL a.f1 < keyL h.f1 then posH h l + 1 else 0
/-- Without the first one, if it has the key. -/
def restH (h : Hi) : List Hi → List Hi
  | [] => []
  | a :: l => if keyL a.f1 = keyL h.f1 then l else a :: l
def hitH (h : Hi) : List Hi → Bool
  | [] => false
  | a :: _ => decide (keyL a.f1 = keyL h.f1)
theorem rest_is (h : Hi) (r : List Hi) : restH h r = if hitH h r = true then r.drop 1 else r := by
  cases r with
  | nil => rfl
  | cons a t =>
    show (if keyL a.f1 = keyL h.f1 then t else a :: t) = if decide (keyL a.f1 = keyL h.f1) = true then (a :: t).drop 1 else a :: t
    by_cases e : keyL a.f1 = keyL h.f1
    · rw [if_pos e, if_pos (decide_eq_true e)]; rfl
    · rw [if_neg e, if_neg (by rw [decide_eq_true_iff]; exact e)]
theorem ins_is (h : Hi) (l : List Hi) : insH h l = l.take (posH h l) ++ (h :: restH h (l.drop (posH h l))) := by
  induction l with
  | nil => rfl
  | cons a l ih =>
    unfold insH posH
    by_cases h1 : keyL a.f1 < keyL h.f1
    · have h2 : ¬ keyL h.f1 < keyL a.f1 := fun h2 => List.lt_irrefl _ (List.lt_trans h1 h2)
      have h3 : ¬ keyL h.f1 = keyL a.f1 := fun h3 => by rw [h3] at h1; exact List.lt_irrefl _ h1
      rw [if_neg h2, if_neg h3, if_pos h1, ih]
      rfl
    · rw [if_neg h1]
      by_cases h2 : keyL h.f1 < keyL a.f1
      · have h3 : ¬ keyL a.f1 = keyL h.f1 := fun h3 => by rw [h3] at h2; exact List.lt_irrefl _ h2
        rw [if_pos h2]
        show _ = h :: restH h (a :: l)
        rw [restH, if_neg h3]
      · rcases lt_tri (keyL h.f1) (keyL a.f1) with h3 | h3 | h3
        · exact absurd h3 h2
        · rw [if_neg h2, if_pos h3]
          show _ = h :: restH h (a :: l)
          rw [restH, if_pos h3.symm]
        · exact absurd h3 h1
theorem pos_le (h : Hi) (l : List Hi) : posH h l ≤ l.length := by
  induction l with
  | nil => exact Nat.le_refl _
  | cons a l ih => unfold posH; split <;> simp only [List.length_cons] <;> omega
theorem pos_below (h : Hi) (l : List Hi) : ∀ j g, j < posH h l → l[j]? = some g → keyL g.f1 < keyL h.f1 := by
  induction l with
  | nil => intro j g hj; exact absurd hj (Nat.not_lt_zero j)
  | cons a l ih =>
    intro j g hj hg
    unfold posH at hj
    by_cases h1 : keyL a.f1 < keyL h.f1
    · rw [if_pos h1] at hj
      cases j with
      | zero => simp at hg; subst hg; exact h1
      | succ j => exact ih j g (by omega) (by simpa using hg)
    · rw [if_neg h1] at hj
      exact absurd hj (Nat.not_lt_zero j)
theorem pos_at (h : Hi) (l : List Hi) : ∀ g, l[posH h l]? = some g → ¬ keyL g.f1 < keyL h.f1 := by
  induction l with
  | nil => intro g hg; simp at hg
  | cons a l ih =>
    intro g hg
    unfold posH at hg
    by_cases h1 : keyL a.f1 < keyL h.f1
    · rw [if_pos h1] at hg
      exact ih g (by simpa using hg)
    · rw [if_neg h1] at hg
      simp at hg; subst hg; exact h1

abbrev kHi := k41
theorem hint_KM {W W1 : World} {base : Nat} {ok : Nat → Prop} {h : Hi} {cs : List Value} (hk : kHi.K W h cs) : kHi.M W1 base ok h cs := by
  obtain rfl := k41_open hk
  exact k41_mkM _ _ _ h
theorem hint_KK {W W1 : World} {h : Hi} {cs : List Value} (hk : kHi.K W h cs) : kHi.K W1 h cs := kHi.K_of_M (hint_KM (W1 := W1) (base := 0) (ok := fun _ => True) hk)
-- TABLE14
def T14 : Bool × List (List Nat × List Nat) := (true, [([], []), ([], []), ([], []), ([1, 2], [1, 2]), ([0, 3], [0, 3]), ([], []), ([5], [5]), ([4, 6, 4], [4, 6]), ([], []), ([7, 8, 7], [7, 8]), ([9, 9, 0, 1, 2, 3, 4, 5, 6, 7, 8, 9], [1, 9])])
def B14 : List Nat := [0, 0, 0, 6, 15, 0, 32, 127, 0, 511, 1023]
theorem tab14 : rtab .any (opsOf Try.f20 14) = T14 := by kernel_rfl
theorem bits14 : waitsOk T14.2 B14 = true := by kernel_rfl
-- ENDTABLE14
set_option maxHeartbeats 4000000 in
set_option maxRecDepth 100000 in
theorem ref_of_calls (A : Option Addr) (c : Nat) (l : List Fo) (w : World) (hl : l.length ≤ 1000000000) (hc : l.length ≤ c) (hr : Kd.C k39 w A l.length l) :
    Calls Try.prog 20 #[.slice A l.length c] w fun e w' => ∃ v, e = .returned v ∧ Kd.R kHi 41 w' w.heap.size (fun _ => True) v (ofL l) ∧ RowKit.Below w.heap.size w w' := by
  have HR := Aside0.mk hr
  have HC := Aside0.mk hc
  have hu41 := Try.underlying41
  clear hr hc
  go_enter Try.func20, Try.ntmps20
  go_wp2
  go_loopg [3, 4] l.length (fun kq v3 v4 wr => ∃ (k : Nat) (out : List Hi), v4 = .int .i64 k ∧ Aside0 (k + kq = l.length) ∧ Aside0 (ofGo (l.drop k) out = ofL l) ∧ Aside0 (out.length ≤ k) ∧ Aside0 (Kd.R kHi 41 wr w.heap.size (fun _ => True) v3 out) ∧ Aside0 (RowKit.Below w.heap.size w wr))
  case atStart => exact ⟨0, [], rfl, ⟨by omega⟩, ⟨rfl⟩, ⟨Nat.le_refl _⟩, ⟨Kd.R_nil _ _ _ _ _⟩, ⟨RowKit.Below.refl _ _⟩⟩
  case round =>
    obtain ⟨k, out, rfl, HK, HO, HL, HRo, HB⟩ := hrel
    cases gk with
    | zero =>
      obtain rfl : k = l.length := by have := HK.out; omega
      have hk : decide ((l.length : Int) < (l.length : Int)) = false := decide_eq_false (by omega)
      have ho := HO.out
      rw [List.drop_length] at ho
      obtain rfl : out = ofL l := ho
      go_wp2
      go_ret
      exact ⟨_, rfl, HRo.out, HB.out⟩
    | succ gk =>
      have hk0 : k < l.length := by have := HK.out; omega
      have hk : decide ((k : Int) < (l.length : Int)) = true := decide_eq_true (by omega)
      have hk1 : decide (k < l.length) = true := decide_eq_true hk0
      have hk2 : (k < l.length) = True := eq_true hk0
      obtain ⟨ad, A7, c7, A8, c8, e0, x0, x1, x2, x3, x4, x5, x6, x7, x8, _⟩ := at_F HR.out k hk0
      cases e0
      have hdr : l.drop k = rd_T39 l k :: l.drop (k + 1) := by
        rw [List.drop_eq_getElem_cons hk0]
        unfold rd_T39
        rw [Int.toNat_natCast, List.getD_eq_getElem?_getD, List.getElem?_eq_getElem hk0]; rfl
      replace x0 := cell_on HB.out x0
      replace x1 := cell_on HB.out x1
      replace x2 := cell_on HB.out x2
      replace x3 := cell_on HB.out x3
      replace x4 := cell_on HB.out x4
      replace x5 := cell_on HB.out x5
      replace x6 := cell_on HB.out x6
      replace x7 := cell_on HB.out x7
      replace x8 := cell_on HB.out x8
      generalize rd_T39 l k = x at x0 x1 x2 x3 x4 x5 x6 x7 x8 hdr
      have ho := HO.out
      rw [hdr] at ho
      have HO2 := Aside0.mk (show ofGo (l.drop (k + 1)) (if tellsF x then insH (hintF x) out else out) = ofL l from ho)
      clear ho hdr HO
      go_upto_region 6 with (fail)
      have hb3 := below_alloc (RowKit.Below.refl wr.heap.size wr) (.cells #[.int .i64 x.f0, .int .i64 x.f1, .int .i64 x.f2.f0, .string x.f2.f1, .int .i64 x.f2.f2, .int .i64 x.f2.f3, .int .i64 x.f2.f4, .slice A7 x.f2.f5.length c7, .slice A8 x.f2.f6.length c8] 39)
      have BK := Aside0.mk (heap_alloc_new wr (.cells #[.int .i64 x.f0, .int .i64 x.f1, .int .i64 x.f2.f0, .string x.f2.f1, .int .i64 x.f2.f2, .int .i64 x.f2.f3, .int .i64 x.f2.f4, .slice A7 x.f2.f5.length c7, .slice A8 x.f2.f6.length c8] 39))
      have HB3 := Aside0.mk (below_then HB.out HB.out.size hb3)
      have HR3 := Aside0.mk (Kd.R_below HRo.out hb3)
      clear hb3 x0 x1 x2 x3 x4 x5 x6 x7 x8 HRo HB
      generalize wr.alloc (.cells #[.int .i64 x.f0, .int .i64 x.f1, .int .i64 x.f2.f0, .string x.f2.f1, .int .i64 x.f2.f2, .int .i64 x.f2.f3, .int .i64 x.f2.f4, .slice A7 x.f2.f5.length c7, .slice A8 x.f2.f6.length c8] 39) = w3 at BK HB3 HR3 ⊢
      generalize wr.heap.size = g3 at BK ⊢
      have y0 := (blk_cell BK.out 0).trans rfl
      have y1 := (blk_cell BK.out 1).trans rfl
      have y2 := (blk_cell BK.out 2).trans rfl
      have y3 := (blk_cell BK.out 3).trans rfl
      by_cases c1 : x.f2.f0 < 2
      · have c1b : decide (x.f2.f0 < 2) = true := decide_eq_true c1
        have ht : tellsF x = false := decide_eq_false (by omega)
        have ho := HO2.out
        rw [ht] at ho
        have HO3 := Aside0.mk ho
        clear ho HO2 c1 ht
        go_wp2
        go_roundg gk
        case measure => omega
        case rel => exact ⟨k + 1, out, by go_num, ⟨by have := HK.out; omega⟩, HO3, ⟨by have := HL.out; omega⟩, HR3, HB3⟩
      have c1b : decide (x.f2.f0 < 2) = false := decide_eq_false c1
      by_cases c2 : x.f2.f0 > 4
      · have c2b : decide (x.f2.f0 > 4) = true := decide_eq_true c2
        have c2c : decide (4 < x.f2.f0) = true := decide_eq_true c2
        have ht : tellsF x = false := decide_eq_false (by omega)
        have ho := HO2.out
        rw [ht] at ho
        have HO3 := Aside0.mk ho
        clear ho HO2 c1 c2 ht
        go_wp2
        go_roundg gk
        case measure => omega
        case rel => exact ⟨k + 1, out, by go_num, ⟨by have := HK.out; omega⟩, HO3, ⟨by have := HL.out; omega⟩, HR3, HB3⟩
      have c2b : decide (x.f2.f0 > 4) = false := decide_eq_false c2
      have c2c : decide (4 < x.f2.f0) = false := decide_eq_false c2
      have ht : tellsF x = true := decide_eq_true (by omega)
      have ho := HO2.out
      rw [ht, if_pos rfl, ins_is] at ho
      have HO3 := Aside0.mk ho
      clear ho HO2 c1 c2 ht
      go_upto_region 8 with (fail)
      have hb4 := below_alloc (RowKit.Below.refl w3.heap.size w3) (.cells #[.int .i64 x.f2.f0, .string x.f2.f1, .int .i64 x.f0, .int .i64 x.f1] 41)
      have BK4 := Aside0.mk (heap_alloc_new w3 (.cells #[.int .i64 x.f2.f0, .string x.f2.f1, .int .i64 x.f0, .int .i64 x.f1] 41))
      have HB4 := Aside0.mk (below_then HB3.out HB3.out.size hb4)
      have HR4 := Aside0.mk (Kd.R_below HR3.out hb4)
      clear hb4 y0 y1 y2 y3 HR3 HB3 BK c1b c2b c2c
      generalize w3.alloc (.cells #[.int .i64 x.f2.f0, .string x.f2.f1, .int .i64 x.f0, .int .i64 x.f1] 41) = w4 at BK4 HB4 HR4 ⊢
      generalize w3.heap.size = g4 at BK4 ⊢
      obtain ⟨Ao, co, rfl⟩ := Kd.R_slice HR4.out
      have HCo := Aside0.mk (Kd.R_reads' HR4.out).2
      have HPL := Aside0.mk (pos_le (hintF x) out)
      have hop := HL.out
      go_upto_block 2 with (fail)
      go_cut [7] (fun v7 wc => v7 = .int .i64 (posH (hintF x) out : Int) ∧ Aside0 (RowKit.Below w4.heap.size w4 wc))
      case first =>
        go_wp2
        go_loopg [7] (posH (hintF x) out) (fun kq v7 wr => ∃ (j : Nat), v7 = .int .i64 j ∧ Aside0 (j + kq = posH (hintF x) out) ∧ Aside0 (RowKit.Below w4.heap.size w4 wr))
        case atStart => exact ⟨0, rfl, ⟨by omega⟩, ⟨RowKit.Below.refl _ _⟩⟩
        case round =>
          obtain ⟨j, rfl, HJ, HD⟩ := hrel
          have z1 := cell_on HD.out ((blk_cell BK4.out 1).trans rfl)
          have hpl := HPL.out
          cases gk with
          | zero =>
            obtain rfl : j = posH (hintF x) out := by have := HJ.out; omega
            by_cases hpn : posH (hintF x) out = out.length
            · have j0 : decide (((posH (hintF x) out : Nat) : Int) < (out.length : Int)) = false := decide_eq_false (by omega)
              go_wp2
              repeat (go_quiet (fail); try go_wp2)
              go_meet
              case rel => exact ⟨rfl, ⟨by repeat (first | (with_reducible first | exact HD.out | apply below_alloc | apply pw_below_drewN | apply below_drew1) | exact HD.out)⟩⟩
            · have hpl2 : posH (hintF x) out < out.length := by omega
              obtain ⟨g, hg⟩ : ∃ g, out[posH (hintF x) out]? = some g := ⟨_, List.getElem?_eq_getElem hpl2⟩
              have e1 : Op.bytesLess g.f1.toList x.f2.f1.toList = false := by rw [key_less]; exact decide_eq_false (pos_at (hintF x) out g hg)
              obtain ⟨ad2, e0, q0, q1, q2, q3⟩ := at_H HCo.out.2 _ g hg
              cases e0
              replace q1 := cell_on HD.out q1
              generalize posH (hintF x) out = p at *
              have j0 : decide ((p : Int) < (out.length : Int)) = true := decide_eq_true (by omega)
              have j1 : decide (p < out.length) = true := decide_eq_true hpl2
              have j2 : (p < out.length) = True := eq_true hpl2
              go_wp2
              repeat (go_quiet (fail); try go_wp2)
              go_meet
              case rel => exact ⟨rfl, ⟨by repeat (first | (with_reducible first | exact HD.out | apply below_alloc | apply pw_below_drewN | apply below_drew1) | exact HD.out)⟩⟩
          | succ gm =>
            have hjp : j < posH (hintF x) out := by have := HJ.out; omega
            have hjo : j < out.length := by omega
            obtain ⟨g, hg⟩ : ∃ g, out[j]? = some g := ⟨_, List.getElem?_eq_getElem hjo⟩
            have e1 : Op.bytesLess g.f1.toList x.f2.f1.toList = true := by rw [key_less]; exact decide_eq_true (pos_below (hintF x) out j g hjp hg)
            obtain ⟨ad2, e0, q0, q1, q2, q3⟩ := at_H HCo.out.2 _ g hg
            cases e0
            replace q1 := cell_on HD.out q1
            have j0 : decide ((j : Int) < (out.length : Int)) = true := decide_eq_true (by omega)
            have j1 : decide (j < out.length) = true := decide_eq_true hjo
            have j2 : (j < out.length) = True := eq_true hjo
            go_wp2
            repeat (go_quiet (fail); try go_wp2)
            go_roundg gm
            case measure => omega
            case rel => exact ⟨j + 1, by go_num, ⟨by have := HJ.out; omega⟩, ⟨by repeat (first | (with_reducible first | exact HD.out | apply below_alloc | apply pw_below_drewN | apply below_drew1) | exact HD.out)⟩⟩
      case rest =>
        obtain ⟨rfl, HD⟩ := hcut
        generalize posH (hintF x) out = p at *
        obtain ⟨i0, hi0, _, hsz, _⟩ := info_parts info41
        have hpl := HPL.out
        have hcf := cut_from (P := Try.prog) 22 41 .i64 Try.underlying22 hi0 4 hsz Ao out.length co (p : Int) (by omega) (by omega)
        rw [Int.toNat_natCast] at hcf
        go_upto_region 12 with (fail)
        have hlen : out.length - p = (out.drop p).length := List.length_drop.symm
        have hDr : Kd.C kHi w4 (if co = p then Ao else Ao.map (·.add (p * 4))) (out.drop p).length (out.drop p) := Kd.C_drop HCo.out.2 hpl HCo.out.1
        have hcd : (out.drop p).length ≤ co - p := by rw [List.length_drop]; have := HCo.out.1; omega
        rw [hlen]
        have hcap : (out.drop p).length ≤ 1000000000 := by rw [List.length_drop]; omega
        have hrd : (out.drop p).length + p = out.length := by rw [List.length_drop]; omega
        clear hcf hlen
        generalize (if co = p then Ao else Ao.map (·.add (p * 4))) = Ad at hDr ⊢
        generalize co - p = cd at hcd ⊢
        have ho := HO3.out
        generalize out.drop p = r0 at ho hDr hcd hcap hrd ⊢
        have HO := Aside0.mk ho
        have HDr := Aside0.mk hDr
        clear ho hDr HO3
        go_cut [70] (fun v70 wc => ∃ d, v70 = .bool d ∧ Aside0 (hitH (hintF x) r0 = d) ∧ Aside0 (RowKit.Below w4.heap.size w4 wc))
        case first =>
          cases r0 with
          | nil =>
            have j0 : decide (((([] : List Hi).length : Nat) : Int) > 0) = false := rfl
            go_wp2
            repeat (go_quiet (fail); try go_wp2)
            go_meet
            case rel => exact ⟨_, rfl, ⟨rfl⟩, ⟨by repeat (first | (with_reducible first | exact HD.out | apply below_alloc | apply pw_below_drewN | apply below_drew1) | exact HD.out)⟩⟩
          | cons g t =>
            have j0 : decide ((((g :: t).length : Nat) : Int) > 0) = true := decide_eq_true (by simp only [List.length_cons]; omega)
            have j1 : decide (0 < (((g :: t).length : Nat) : Int)) = true := j0
            have j2 : decide (0 < (g :: t).length) = true := decide_eq_true (by simp only [List.length_cons]; omega)
            have j3 : (0 < (g :: t).length) = True := eq_true (by simp only [List.length_cons]; omega)
            obtain ⟨ad2, e0, q0, q1, q2, q3⟩ := at_H HDr.out 0 g rfl
            cases e0
            replace q1 := cell_on HD.out q1
            have q1a : wc.cell? ⟨(ad2.add 0).block, (ad2.add 0).off + 1, none⟩ = some (.string g.f1) := by rw [Nat.zero_mul] at q1; exact q1
            have q1b : wc.cell? ⟨ad2.block, ad2.off + 1, none⟩ = some (.string g.f1) := by simpa [Addr.add] using q1a
            have z1 := cell_on HD.out ((blk_cell BK4.out 1).trans rfl)
            obtain ⟨d, hd⟩ : ∃ d, (g.f1.toList == x.f2.f1.toList) = d := ⟨_, rfl⟩
            have hh : hitH (hintF x) (g :: t) = d := by rw [← hd, key_same]; rfl
            have HH := Aside0.mk hh
            clear hh
            generalize (g :: t).length = m at *
            go_wp2
            repeat (go_quiet (fail); try go_wp2)
            go_meet
            case rel => exact ⟨_, rfl, HH, ⟨by repeat (first | (with_reducible first | exact HD.out | apply below_alloc | apply pw_below_drewN | apply below_drew1) | exact HD.out)⟩⟩
        case rest =>
        clear HD
        obtain ⟨d, rfl, Hd, HD⟩ := hcut
        go_upto_if 70 with (fail)
        go_cut [8] (fun v8 wc => ∃ Ar cr, v8 = .slice Ar (restH (hintF x) r0).length cr ∧ Aside0 (Kd.C kHi w4 Ar (restH (hintF x) r0).length (restH (hintF x) r0)) ∧ Aside0 (RowKit.Below w4.heap.size w4 wc))
        case first =>
          have hr := rest_is (hintF x) r0
          rw [Hd.out] at hr
          cases d with
          | false =>
            have hr2 : restH (hintF x) r0 = r0 := hr
            go_wp2
            go_meet
            case rel => exact ⟨_, _, by rw [hr2], by rw [hr2]; exact HDr, ⟨by repeat (first | (with_reducible first | exact HD.out | apply below_alloc | apply pw_below_drewN | apply below_drew1) | exact HD.out)⟩⟩
          | true =>
            have hr2 : restH (hintF x) r0 = r0.drop 1 := hr
            have hr1 : 1 ≤ r0.length := by
              cases r0 with
              | nil => cases Hd.out
              | cons g t => simp only [List.length_cons]; omega
            have hcf := cut_from (P := Try.prog) 22 41 .i64 Try.underlying22 hi0 4 hsz Ad r0.length cd (1 : Int) (by omega) (by omega)
            have hDr1 : Kd.C kHi w4 (if cd = 1 then Ad else Ad.map (·.add (1 * 4))) (r0.length - 1) (r0.drop 1) := by
              have h := Kd.C_drop HDr.out hr1 hcd
              rw [List.length_drop] at h
              exact h
            rw [show (1 : Int).toNat = 1 from rfl] at hcf
            generalize (if cd = 1 then Ad else Ad.map (·.add (1 * 4))) = Ae at hcf hDr1
            have HDr1 := Aside0.mk hDr1
            clear hDr1
            go_wp2
            go_meet
            case rel => exact ⟨_, _, by rw [hr2, List.length_drop], by rw [hr2, List.length_drop]; exact HDr1, ⟨by repeat (first | (with_reducible first | exact HD.out | apply below_alloc | apply pw_below_drewN | apply below_drew1) | exact HD.out)⟩⟩
        case rest =>
        clear HD
        obtain ⟨Ar, cr, rfl, HCr, HD⟩ := hcut
        go_upto_region 14 with (fail)
        have hct := cut_to (P := Try.prog) 22 41 .i64 Try.underlying22 hi0 Ao out.length co (p : Int) (by omega) (by omega) HCo.out.1
        rw [Int.toNat_natCast] at hct
        have HOw := Kd.C_below HCo.out.2 HD.out
        have z0 := cell_on HD.out ((blk_cell BK4.out 0).trans rfl)
        have z1 := cell_on HD.out ((blk_cell BK4.out 1).trans rfl)
        have z2 := cell_on HD.out ((blk_cell BK4.out 2).trans rfl)
        have z3 := cell_on HD.out ((blk_cell BK4.out 3).trans rfl)
        have hrl : (restH (hintF x) r0).length ≤ r0.length := by rw [rest_is]; split <;> simp
        have hb0 : (([] : List Hi).length + p) * 40 ≤ 140737488355328 := by simp only [List.length_nil]; omega
        have hb1 : ((out.take p).length + 1) * 40 ≤ 140737488355328 := by rw [List.length_take]; omega
        have hb2 : ((out.take p ++ [hintF x]).length + (restH (hintF x) r0).length) * 40 ≤ 140737488355328 := by rw [List.length_append, List.length_take]; simp only [List.length_singleton]; omega
        have HTk : ReadsRow (kHi.K wc) kHi.sz wc Ao p (out.take p) := by
          have h := Kd.C_take HOw hpl
          rw [List.length_take, Nat.min_eq_left hpl] at h
          exact h
        -- REGION14
        refine start_ (n := 11) (S := fun w' => RowKit.Below wc.heap.size wc w') (ds := []) #[false, false, false, false, false, false, false, false, false, false, false] (by kernel_rfl) rfl rfl (below_drew1 (RowKit.Below.refl _ _)) (fun hHeld => ?_); refine with_tabW tab14 bits14 (fun HT_ HW_ => ?_)
        generalize wc.drew = w5 at hHeld ⊢
        refine pure_ (i := 1) (N := some 74) (v := ?_) (a' := ?_) #[false, true, false, false, false, false, false, false, false, false, false] rfl rfl (any_of HT_.out (by kernel_rfl)) (fun _ _ _ h => h) (Or.inl ⟨by rfl, ?_⟩) ?_ ?_
        rotate_left
        · intro w'
          go_simp
          with_reducible rfl
        rotate_left
        · simp only [Act.put, List.setIfInBounds_toArray, List.set_cons_zero, List.set_cons_succ, i64_w, i32_w]
          rfl
        refine pure_ (i := 2) (N := some 75) (v := ?_) (a' := ?_) #[false, true, true, false, false, false, false, false, false, false, false] rfl rfl (any_of HT_.out (by kernel_rfl)) (fun _ _ _ h => h) (Or.inl ⟨by rfl, ?_⟩) ?_ ?_
        rotate_left
        · intro w'
          go_simp
          with_reducible rfl
        rotate_left
        · simp only [Act.put, List.setIfInBounds_toArray, List.set_cons_zero, List.set_cons_succ, i64_w, i32_w]
          rfl
        refine pure_ (i := 3) (N := some 76) (v := ?_) (a' := ?_) #[false, true, true, true, false, false, false, false, false, false, false] rfl rfl (any_of HT_.out (by kernel_rfl)) (fun _ _ _ h => h) (Or.inl ⟨by rfl, ?_⟩) ?_ ?_
        rotate_left
        · intro w'
          go_simp
          with_reducible rfl
        rotate_left
        · simp only [Act.put, List.setIfInBounds_toArray, List.set_cons_zero, List.set_cons_succ, i64_w, i32_w]
          rfl
        refine pure_ (i := 8) (N := some 81) (v := ?_) (a' := ?_) #[false, true, true, true, false, false, false, false, true, false, false] rfl rfl (any_of HT_.out (by kernel_rfl)) (fun _ _ _ h => h) (Or.inl ⟨by rfl, ?_⟩) ?_ ?_
        rotate_left
        · intro w'
          go_simp
          with_reducible rfl
        rotate_left
        · simp only [Act.put, List.setIfInBounds_toArray, List.set_cons_zero, List.set_cons_succ, i64_w, i32_w]
          rfl
        refine take_ (i := 5) (N := some 78) (v := ?_) (a' := ?_) #[false, true, true, true, false, true, false, false, true, false, false] rfl rfl (take_ofW HT_.out HW_.out (by kernel_rfl)) (fun _ _ _ h => h) (Or.inl ⟨by rfl, ?_⟩) hHeld ?_ ?_
        rotate_left
        · rintro w' hs
          have s0 := cell_on hs z0
          have s1 := cell_on hs z1
          have s2 := cell_on hs z2
          have s3 := cell_on hs z3
          go_simp
          with_reducible rfl
        rotate_left
        · simp only [Act.put, List.setIfInBounds_toArray, List.set_cons_zero, List.set_cons_succ, i64_w, i32_w]
          rfl
        refine join_ (σ := Value × Value × Value) 3 #[true, true, true, true, true, true, true, false, true, false, false] (fun s_ => [(73, s_.1), (77, s_.2.1), (79, s_.2.2)]) (fun s_ w' => RowKit.Below wc.heap.size wc w' ∧ Kd.R kHi 41 w' wc.heap.size (fun k => some k ≠ s_.2.2.ownBlock) s_.2.1 (out.take p) ∧ Kd.R kHi 41 w' wc.heap.size (fun k => some k ≠ s_.2.1.ownBlock) s_.2.2 [hintF x]) ?_ ?_
        · rintro ⟨v73, v77, v79⟩ w6 ⟨hHeld, R77, R79⟩
          refine norm_ (a' := ?_) (by simp only [Go.Proofs.YteplnpedakdjkaaW.PrintLast.putAll, Act.put, List.setIfInBounds_toArray, List.set_cons_zero, List.set_cons_succ]; rfl) ?_
          obtain ⟨A79, c79, rfl⟩ := Kd.R_slice R79
          have C79 := (Kd.R_reads' R79).2.2
          refine one_ (i := 7) (N := some 80) #[true, true, true, true, true, true, true, true, true, false, false] rfl rfl (one_of HT_.out (by kernel_rfl)) (by decide) (fun K hK => ?_)
          refine Kd.R_append_rows_step kHi (Rr := kHi.K wc) (w0 := wc) wc.heap.size rfl (.tmp 77) (.tmp 79) 22 41 (.agg #[.int .i64 0, .string ⟨#[]⟩, .int .i64 0, .int .i64 0]) 40 rfl Try.underlying22 info41 rfl (by decide) (by omega) v77 (out.take p) [hintF x] A79 1 c79 (fun _ => True) (fun _ => False) rfl rfl (Kd.R_mono R77 (fun _ _ => trivial)) (ReadsRow.imp_ C79 (RowKit.Below.refl _ _) (fun _ _ h => hint_KK h)) (fun _ _ h => hint_KM h) (fun _ h => h.elim) (fun _ _ => trivial) hHeld hHeld.size hb1 ?_
          intro v80 w7 ho hb hg hat
          clear hg hat R77 R79 C79
          have hHeld := hb
          refine hK.out _ _ hHeld (fun hHeld => ?_)
          clear hK K
          refine norm_ (a' := ?_) ?_ ?_
          rotate_left
          · show Act.put _ (some 80) _ = _
            simp only [Act.put, List.setIfInBounds_toArray, List.set_cons_zero, List.set_cons_succ, i64_w, i32_w]
            rfl
          refine one_ (i := 9) (N := some 82) #[true, true, true, true, true, true, true, true, true, true, false] rfl rfl (one_of HT_.out (by kernel_rfl)) (by decide) (fun K hK => ?_)
          refine Kd.R_append_rows_step kHi (Rr := kHi.K wc) (w0 := wc) wc.heap.size rfl (.tmp 80) (.tmp 81) 22 41 (.agg #[.int .i64 0, .string ⟨#[]⟩, .int .i64 0, .int .i64 0]) 40 rfl Try.underlying22 info41 rfl (by decide) (by omega) v80 (out.take p ++ [hintF x]) (restH (hintF x) r0) Ar (restH (hintF x) r0).length cr (fun _ => True) (fun _ => False) rfl rfl ho (ReadsRow.imp_ (Kd.C_below HCr.out HD.out) hHeld (fun _ _ h => hint_KK h)) (fun _ _ h => hint_KM h) (fun _ h => h.elim) (fun _ _ => trivial) hHeld hHeld.size hb2 ?_
          intro v82 w8 ho hb hg hat
          clear hg hat
          rename_i ho7
          have HO8 := Aside0.mk ho
          have hHeld := hb
          refine hK.out _ _ hHeld (fun hHeld => ?_)
          clear hK K
          refine norm_ (a' := ?_) ?_ ?_
          rotate_left
          · show Act.put _ (some 82) _ = _
            simp only [Act.put, List.setIfInBounds_toArray, List.set_cons_zero, List.set_cons_succ, i64_w, i32_w]
            rfl
          refine pure_ (i := 10) (N := some 3) (v := ?_) (a' := ?_) #[true, true, true, true, true, true, true, true, true, true, true] rfl rfl (any_of HT_.out (by kernel_rfl)) (fun _ _ _ h => h) (Or.inl ⟨by rfl, ?_⟩) ?_ ?_
          rotate_left
          · intro w'
            go_simp
            with_reducible rfl
          rotate_left
          · simp only [Act.put, List.setIfInBounds_toArray, List.set_cons_zero, List.set_cons_succ, i64_w, i32_w]
            rfl
          refine done_ (done_of HT_.out (by kernel_rfl)) ?_
          clear hHeld
          have HE := Aside0.mk hb
          go_wp2
          go_roundg gk
          case measure => omega
          case rel => exact ⟨k + 1, out.take p ++ [hintF x] ++ restH (hintF x) r0, by go_num, ⟨by have := HK.out; omega⟩, ⟨by rw [List.append_assoc]; exact HO.out⟩, ⟨by simp only [List.length_append, List.length_take, List.length_singleton]; omega⟩, ⟨Kd.R_lower HO8.out (below_then HB4.out HB4.out.size HD.out).size⟩, ⟨below_then (below_then HB4.out HB4.out.size HD.out) (below_then HB4.out HB4.out.size HD.out).size HE.out⟩⟩
        · intro hCont
          refine two_ (i := 0) (j := 6) (Ni := some 73) (Nj := some 79) #[true, true, true, true, false, true, false, false, true, false, false] #[false, true, true, true, false, true, true, false, true, false, false] rfl rfl rfl rfl (two_of HT_.out (by kernel_rfl)) (by decide) (by decide) (fun K hK => ?_) (fun K hK => ?_)
          · refine Kd.R_lit_step kHi _ 41 ?hg (N := 73) ?hd (xs := ([] : List Hi)) (inner := []) (ok := fun _ => True) (okp := fun _ => True) ?hr ?hp (fun _ hk => hk) trivial (RowKit.Below.refl _ _) (Nat.le_refl _) (by simp) ?_; (case hd => rfl); (case hg => rfl); (case hr => first | (go_simp; done) | (go_simp; rfl)); (case hp => exact Reps.none _ _)
            intro v73 w6 ho hb hg_ hnew_
            clear hg_ hnew_
            have R73 := Kd.R_lower ho hHeld.size
            clear ho
            have hHeld := (below_then hHeld hHeld.size hb)
            refine hK.out _ _ hHeld (fun hHeld => ?_)
            clear hK K
            refine norm_ (a' := ?_) ?_ ?_
            rotate_left
            · show Act.put _ (some 73) _ = _
              simp only [Act.put, List.setIfInBounds_toArray, List.set_cons_zero, List.set_cons_succ, i64_w, i32_w]
              rfl
            refine two_ (i := 4) (j := 6) (Ni := some 77) (Nj := some 79) #[true, true, true, true, true, true, false, false, true, false, false] #[true, true, true, true, false, true, true, false, true, false, false] rfl rfl rfl rfl (two_of HT_.out (by kernel_rfl)) (by decide) (by decide) (fun K hK => ?_) (fun K hK => ?_)
            · refine Kd.R_append_rows_step kHi (Rr := kHi.K wc) (w0 := wc) wc.heap.size rfl (.tmp 73) (.tmp 76) 22 41 (.agg #[.int .i64 0, .string ⟨#[]⟩, .int .i64 0, .int .i64 0]) 40 rfl Try.underlying22 info41 rfl (by decide) (by omega) v73 [] (out.take p) Ao p co (fun _ => True) (fun _ => False) rfl rfl R73 (ReadsRow.imp_ HTk hHeld (fun _ _ h => hint_KK h)) (fun _ _ h => hint_KM h) (fun _ h => h.elim) (fun _ _ => trivial) hHeld hHeld.size hb0 ?_
              intro v77 w9 ho hb hg hat
              clear hg hat R73
              have hHeld := hb
              refine hK.out _ _ hHeld (fun hHeld => ?_)
              clear hK K
              refine norm_ (a' := ?_) ?_ ?_
              rotate_left
              · show Act.put _ (some 77) _ = _
                simp only [Act.put, List.setIfInBounds_toArray, List.set_cons_zero, List.set_cons_succ, i64_w, i32_w]
                rfl
              refine one_ (i := 6) (N := some 79) #[true, true, true, true, true, true, true, false, true, false, false] rfl rfl (one_of HT_.out (by kernel_rfl)) (by decide) (fun K hK => ?_)
              have ho77 := ho
              clear ho
              refine Kd.R_lit_step kHi _ 41 ?hg (N := 79) ?hd (xs := ([hintF x] : List Hi)) (inner := [.int .i64 x.f2.f0, .string x.f2.f1, .int .i64 x.f0, .int .i64 x.f1]) (ok := fun _ => True) (okp := fun _ => True) ?hr ?hp (fun _ hk => hk) trivial (RowKit.Below.refl _ _) (Nat.le_refl _) (by simp) ?_; (case hd => rfl); (case hg => rfl); (case hr => first | (go_simp; done) | (go_simp; rfl)); (case hp => exact (Reps.snoc (Reps.none _ _) (k41_mkM _ _ _ (hintF x)) rfl))
              intro v79 w10 ho hb hg_ hnew_
              clear hg_ hnew_
              have R77 := Kd.R_elder' ho77 (Kd.R_base ho) hb
              have R79 := Kd.R_lower (Kd.R_new' ho (Kd.R_lt ho77)) hHeld.size
              clear ho ho77
              have hHeld := (below_then hHeld hHeld.size hb)
              refine hK.out _ _ hHeld (fun hHeld => ?_)
              clear hK K
              refine norm_ (a' := ?_) ?_ ?_
              rotate_left
              · show Act.put _ (some 79) _ = _
                simp only [Act.put, List.setIfInBounds_toArray, List.set_cons_zero, List.set_cons_succ, i64_w, i32_w]
                rfl
              exact norm_ (by simp only [Go.Proofs.YteplnpedakdjkaaW.PrintLast.putAll, Act.put, List.setIfInBounds_toArray, List.set_cons_zero, List.set_cons_succ]) (hCont (v73, v77, v79) _ ⟨hHeld, (Kd.R_mono R77 (fun _ hk => hk.2)), (Kd.R_mono R79 (fun _ hk => hk.2))⟩)
            · refine Kd.R_lit_step kHi _ 41 ?hg (N := 79) ?hd (xs := ([hintF x] : List Hi)) (inner := [.int .i64 x.f2.f0, .string x.f2.f1, .int .i64 x.f0, .int .i64 x.f1]) (ok := fun _ => True) (okp := fun _ => True) ?hr ?hp (fun _ hk => hk) trivial (RowKit.Below.refl _ _) (Nat.le_refl _) (by simp) ?_; (case hd => rfl); (case hg => rfl); (case hr => first | (go_simp; done) | (go_simp; rfl)); (case hp => exact (Reps.snoc (Reps.none _ _) (k41_mkM _ _ _ (hintF x)) rfl))
              intro v79 w10 ho hb hg_ hnew_
              clear hg_ hnew_
              have S73 := Kd.R_elder' R73 (Kd.R_base ho) hb
              have S79 := Kd.R_lower (Kd.R_new' ho (Kd.R_lt R73)) hHeld.size
              clear ho R73
              have hHeld := (below_then hHeld hHeld.size hb)
              refine hK.out _ _ hHeld (fun hHeld => ?_)
              clear hK K
              refine norm_ (a' := ?_) ?_ ?_
              rotate_left
              · show Act.put _ (some 79) _ = _
                simp only [Act.put, List.setIfInBounds_toArray, List.set_cons_zero, List.set_cons_succ, i64_w, i32_w]
                rfl
              refine one_ (i := 4) (N := some 77) #[true, true, true, true, true, true, true, false, true, false, false] rfl rfl (one_of HT_.out (by kernel_rfl)) (by decide) (fun K hK => ?_)
              refine Kd.R_append_rows_step kHi (Rr := kHi.K wc) (w0 := wc) wc.heap.size rfl (.tmp 73) (.tmp 76) 22 41 (.agg #[.int .i64 0, .string ⟨#[]⟩, .int .i64 0, .int .i64 0]) 40 rfl Try.underlying22 info41 rfl (by decide) (by omega) v73 [] (out.take p) Ao p co (fun k => some k ≠ (v79 : Value).ownBlock) (fun _ => False) rfl rfl (Kd.R_mono S73 (fun _ hk => hk.2)) (ReadsRow.imp_ HTk hHeld (fun _ _ h => hint_KK h)) (fun _ _ h => hint_KM h) (fun _ h => h.elim) (fun k hk e_ => Nat.not_le.2 (Kd.R_lt S79 k e_.symm) hk) hHeld hHeld.size hb0 ?_
              intro v77 w9 ho hb hg hat
              have R79 := Kd.R_after (ok := fun _ => True) (Kd.R_mono S79 (fun _ hk => ⟨trivial, hk.2⟩)) hg hat
              have hHeld := hb
              refine hK.out _ _ hHeld (fun hHeld => ?_)
              clear hK K
              refine norm_ (a' := ?_) ?_ ?_
              rotate_left
              · show Act.put _ (some 77) _ = _
                simp only [Act.put, List.setIfInBounds_toArray, List.set_cons_zero, List.set_cons_succ, i64_w, i32_w]
                rfl
              exact norm_ (by simp only [Go.Proofs.YteplnpedakdjkaaW.PrintLast.putAll, Act.put, List.setIfInBounds_toArray, List.set_cons_zero, List.set_cons_succ]) (hCont (v73, v77, v79) _ ⟨hHeld, ho, (Kd.R_mono R79 (fun _ hk => hk.2))⟩)
          · refine Kd.R_lit_step kHi _ 41 ?hg (N := 79) ?hd (xs := ([hintF x] : List Hi)) (inner := [.int .i64 x.f2.f0, .string x.f2.f1, .int .i64 x.f0, .int .i64 x.f1]) (ok := fun _ => True) (okp := fun _ => True) ?hr ?hp (fun _ hk => hk) trivial (RowKit.Below.refl _ _) (Nat.le_refl _) (by simp) ?_; (case hd => rfl); (case hg => rfl); (case hr => first | (go_simp; done) | (go_simp; rfl)); (case hp => exact (Reps.snoc (Reps.none _ _) (k41_mkM _ _ _ (hintF x)) rfl))
            intro v79 w6 ho hb hg_ hnew_
            clear hg_ hnew_
            have R79 := Kd.R_lower ho hHeld.size
            clear ho
            have hHeld := (below_then hHeld hHeld.size hb)
            refine hK.out _ _ hHeld (fun hHeld => ?_)
            clear hK K
            refine norm_ (a' := ?_) ?_ ?_
            rotate_left
            · show Act.put _ (some 79) _ = _
              simp only [Act.put, List.setIfInBounds_toArray, List.set_cons_zero, List.set_cons_succ, i64_w, i32_w]
              rfl
            refine one_ (i := 0) (N := some 73) #[true, true, true, true, false, true, true, false, true, false, false] rfl rfl (one_of HT_.out (by kernel_rfl)) (by decide) (fun K hK => ?_)
            refine Kd.R_lit_step kHi _ 41 ?hg (N := 73) ?hd (xs := ([] : List Hi)) (inner := []) (ok := fun _ => True) (okp := fun _ => True) ?hr ?hp (fun _ hk => hk) trivial (RowKit.Below.refl _ _) (Nat.le_refl _) (by simp) ?_; (case hd => rfl); (case hg => rfl); (case hr => first | (go_simp; done) | (go_simp; rfl)); (case hp => exact Reps.none _ _)
            intro v73 w10 ho hb hg_ hnew_
            clear hg_ hnew_
            have S79 := Kd.R_elder' R79 (Kd.R_base ho) hb
            have S73 := Kd.R_lower (Kd.R_new' ho (Kd.R_lt R79)) hHeld.size
            clear ho R79
            have hHeld := (below_then hHeld hHeld.size hb)
            refine hK.out _ _ hHeld (fun hHeld => ?_)
            clear hK K
            refine norm_ (a' := ?_) ?_ ?_
            rotate_left
            · show Act.put _ (some 73) _ = _
              simp only [Act.put, List.setIfInBounds_toArray, List.set_cons_zero, List.set_cons_succ, i64_w, i32_w]
              rfl
            refine one_ (i := 4) (N := some 77) #[true, true, true, true, true, true, true, false, true, false, false] rfl rfl (one_of HT_.out (by kernel_rfl)) (by decide) (fun K hK => ?_)
            refine Kd.R_append_rows_step kHi (Rr := kHi.K wc) (w0 := wc) wc.heap.size rfl (.tmp 73) (.tmp 76) 22 41 (.agg #[.int .i64 0, .string ⟨#[]⟩, .int .i64 0, .int .i64 0]) 40 rfl Try.underlying22 info41 rfl (by decide) (by omega) v73 [] (out.take p) Ao p co (fun k => some k ≠ (v79 : Value).ownBlock) (fun _ => False) rfl rfl (Kd.R_mono S73 (fun _ hk => hk.2)) (ReadsRow.imp_ HTk hHeld (fun _ _ h => hint_KK h)) (fun _ _ h => hint_KM h) (fun _ h => h.elim) (fun k hk e_ => Nat.not_le.2 (Kd.R_lt S79 k e_.symm) hk) hHeld hHeld.size hb0 ?_
            intro v77 w9 ho hb hg hat
            have R79 := Kd.R_after (ok := fun _ => True) (Kd.R_mono S79 (fun _ hk => ⟨trivial, hk.2⟩)) hg hat
            have hHeld := hb
            refine hK.out _ _ hHeld (fun hHeld => ?_)
            clear hK K
            refine norm_ (a' := ?_) ?_ ?_
            rotate_left
            · show Act.put _ (some 77) _ = _
              simp only [Act.put, List.setIfInBounds_toArray, List.set_cons_zero, List.set_cons_succ, i64_w, i32_w]
              rfl
            exact norm_ (by simp only [Go.Proofs.YteplnpedakdjkaaW.PrintLast.putAll, Act.put, List.setIfInBounds_toArray, List.set_cons_zero, List.set_cons_succ]) (hCont (v73, v77, v79) _ ⟨hHeld, ho, (Kd.R_mono R79 (fun _ hk => hk.2))⟩)
        -- END14
end Go.Proofs.Yteplnpedakdjkaa.Hx
namespace Go.Proofs.Yteplnpedakdjkaa.Ext
open Go.RowKit Go.Proofs.Yteplnpedakdjkaa.Pt Go.Proofs.YteplnpedakdjkaaW.PrintWords Go.Proofs.Yteplnpedakdjkaa.Fr Go.Proofs.Yteplnpedakdjkaa.Hn
def souterrainref11_Of.f (l : List Fo) : Option (List Hi) := if l.length ≤ 1000000000 then some (ofL l) else none
theorem souterrainref11_Of.calls (A0 : Option Addr) (c0 : Nat) (l0 : List Fo) (r : List Hi) (w : World) (hr0 : Kd.C k39 w A0 l0.length l0) (hc0 : l0.length ≤ c0) (h : souterrainref11_Of.f l0 = some r) :
    Calls Try.prog 20 #[.slice A0 l0.length c0] w fun e w' => ∃ v0_ : Value, e = .returned v0_ ∧ Kd.R k41 41 w' w.heap.size (fun _ => True) v0_ r ∧ Below w.heap.size w w' := by
  unfold souterrainref11_Of.f at h
  split at h
  case isFalse => cases h
  case isTrue hh =>
    obtain rfl := Option.some.inj h
    exact Hx.ref_of_calls A0 c0 l0 w hh hc0 hr0
end Go.Proofs.Yteplnpedakdjkaa.Ext

