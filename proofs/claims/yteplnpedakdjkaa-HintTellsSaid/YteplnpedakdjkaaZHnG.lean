/- hint.Get: its walk. -/
import Derived.Test.YteplnpedakdjkaaZGc
import Derived.Test.YteplnpedakdjkaaZPtx2
namespace Go.Proofs.Yteplnpedakdjkaa.Hn
open Go.RowKit Go.Maps Go.Shelf Go.Lib Go.Proofs.Yteplnpedakdjkaa.Pure Go.Proofs.Yteplnpedakdjkaa.Pt Go.Proofs.YteplnpedakdjkaaW.PrintWords Go.Proofs.YteplnpedakdjkaaW.PrintLast Go.Proofs.YteplnpedakdjkaaW.PrintMore Go.Proofs.Yteplnpedakdjkaa.Fr Go.Proofs.Yteplnpedakdjkaa.Ext Go.Proofs.Yteplnpedakdjkaa.Lw Go.Proofs.Yteplnpedakdjkaa.Sc
set_option linter.unusedVariables false
set_option linter.unusedSimpArgs false

abbrev It := S53
abbrev kIt := k53
abbrev mknG_0 : Array Bool := #[false, false, false, false, false, false, false, false, false, false, false, false, false, false, false, false, false]
abbrev mknG_1 : Array Bool := #[true, false, false, false, false, false, false, false, false, false, false, false, false, false, false, false, false]
abbrev mknG_2 : Array Bool := #[true, true, false, false, false, false, false, false, false, false, false, false, false, false, false, false, false]
abbrev mknG_3 : Array Bool := #[true, true, true, false, false, false, false, false, false, false, false, false, false, false, false, false, false]
abbrev mknG_4 : Array Bool := #[true, true, true, true, false, false, false, false, false, false, false, false, false, false, false, false, false]
abbrev mknG_5 : Array Bool := #[true, true, true, true, true, false, false, false, false, false, false, false, false, false, false, false, false]
abbrev mknG_6 : Array Bool := #[true, true, true, true, true, true, false, false, false, false, false, false, false, false, false, false, false]
abbrev mknG_7 : Array Bool := #[true, true, true, true, true, true, true, false, false, false, false, false, false, false, false, false, false]
abbrev mknG_8 : Array Bool := #[true, true, true, true, true, true, true, true, false, false, false, false, false, false, false, false, false]
abbrev mknG_9 : Array Bool := #[true, true, true, true, true, true, true, true, true, false, false, false, false, false, false, false, false]
abbrev mknG_10 : Array Bool := #[true, true, true, true, true, true, true, true, true, true, false, false, false, false, false, false, false]
abbrev mknG_11 : Array Bool := #[true, true, true, true, true, true, true, true, true, true, true, false, false, false, false, false, false]
abbrev mknG_12 : Array Bool := #[true, true, true, true, true, true, true, true, true, true, true, true, false, false, false, false, false]
abbrev mknG_13 : Array Bool := #[true, true, true, true, true, true, true, true, true, true, true, true, true, false, false, false, false]
abbrev mknG_14 : Array Bool := #[true, true, true, true, true, true, true, true, true, true, true, true, true, true, false, false, false]
abbrev mknG_15 : Array Bool := #[true, true, true, true, true, true, true, true, true, true, true, true, true, true, true, false, false]
abbrev mknG_16 : Array Bool := #[true, true, true, true, true, true, true, true, true, true, true, true, true, true, true, true, false]
abbrev mknG_17 : Array Bool := #[true, true, true, true, true, true, true, true, true, true, true, true, true, true, true, true, true]
abbrev mknG_18 : Array Bool := #[true, true, true, true, true, false, true, false, false, false, false, false, false, false, false, false, false]
abbrev mknG_19 : Array Bool := #[true, true, true, true, true, false, true, true, false, false, false, false, false, false, false, false, false]
abbrev mknG_20 : Array Bool := #[true, true, true, true, true, false, true, true, false, false, true, false, false, false, false, false, false]
abbrev mknG_21 : Array Bool := #[true, true, true, true, true, false, true, true, false, false, true, true, false, false, false, false, false]
abbrev mknG_22 : Array Bool := #[true, true, true, true, true, false, true, true, false, false, true, true, true, false, false, false, false]
abbrev mknG_23 : Array Bool := #[true, true, true, true, true, true, true, true, false, false, true, true, true, false, false, false, false]
abbrev mknG_24 : Array Bool := #[true, true, true, true, true, true, true, true, true, false, true, true, true, false, false, false, false]
section
variable {P : Program} {ops : Array Oper} {Q : Exit → Act → World → Prop} {md : Region.Mode} {S : World → Prop} {ds : List Nat}
theorem pynG_ (i N : Nat) {oi : Oper} (v : Value) {fuel : Nat} {l : Array Bool} {a : Act} {w : World} (l' : Array Bool) {T : Bool × List (List Nat × List Nat)} (HT : Aside0 (rtab md ops = T)) (hi : ops[i]? = some oi) (hN : oi.dst = some N) (hc : anyT T l.toList l'.toList i = true)
  (hQ : ∀ c a w, Q (.panic c) (a.put oi.dst v) w → Q (.panic c) a w) (hy : Yields P ops oi v a) {a' : Act} (ha : a.put (some N) v = a')
  (h : wpAnyLast P md ops Q S ds fuel l' a' w) : wpAnyLast P md ops Q S ds (fuel + 1) l a w :=
 pure_ l' hi hN (any_of HT.out hc) hQ hy ha h
theorem pSnG : (∀ (l : List Value) (i : Nat) (a : Value), l.toArray.setIfInBounds i a = (l.set i a).toArray) ∧ (∀ (x : Value) (l : List Value) (a : Value), (x :: l).set 0 a = a :: l) ∧ (∀ (x : Value) (l : List Value) (i : Nat) (a : Value), (x :: l).set (i + 1) a = x :: l.set i a) ∧ (∀ n : Int, IntKind.i64.wrap n = Go.RowKit.wrap64 n) ∧ (∀ n : Int, IntKind.i32.wrap n = Go.RowKit.wrap32 n) :=
 ⟨fun l i a => List.setIfInBounds_toArray .., fun x l a => List.set_cons_zero .., fun x l i a => List.set_cons_succ .., i64_w, i32_w⟩
end
def rdI (l : List It) (i : Nat) : It := rd_T53 l (i : Int)
theorem at_I {w : World} {A : Option Addr} {n : Nat} {xs : List It} (h : Kd.C kIt w A n xs) (i : Nat) (h1 : i < n) : ∃ ad B cB, A = some ad ∧ w.cell? (ad.add (i * 3)) = some (.int .i64 (rdI xs i).f0) ∧ w.cell? ⟨(ad.add (i * 3)).block, (ad.add (i * 3)).off + 1, none⟩ = some (.int .i64 (rdI xs i).f1) ∧ w.cell? ⟨(ad.add (i * 3)).block, (ad.add (i * 3)).off + 2, none⟩ = some (.slice B (rdI xs i).f2.length cB) ∧ (rdI xs i).f2.length ≤ cB ∧ Kd.C (Kd.int .u8) w B (rdI xs i).f2.length (rdI xs i).f2 := by
 obtain ⟨ad, B, cB, e, h0, h1', h2, h3, h4⟩ := at_T53 h (i : Int) (by omega) (by omega)
 rw [Int.toNat_natCast] at h0 h1' h2
 exact ⟨ad, B, cB, e, h0, h1', h2, h3, h4⟩
/-- The hints of bodies; none: a body is too short. -/
def hintsOf : List It → Option (List Hi)
 | [] => some []
 | x :: l =>
  match hint_hint.f x.f2 with
  | some (a, b, c, d, true) => (hintsOf l).map (⟨a, b, c, d⟩ :: ·)
  | _ => none

theorem hints_append (a b : List It) : hintsOf (a ++ b) = (hintsOf a).bind fun o => (hintsOf b).map (o ++ ·) := by
 induction a with
 | nil => simp [hintsOf]
 | cons x a ih =>
  simp only [List.cons_append, hintsOf]
  split
  ·rw [ih]
   cases hintsOf a with
   | none => rfl
   | some o =>
    simp only [Option.map_some, Option.bind_some, Option.map_map]
    rfl
  ·rfl
theorem hint_some (l : List Int) (hl : l.length ≤ 9223372036854775807) : ∃ a b c d e, hint_hint.f l = some (a, b, c, d, e) := by
 unfold hint_hint.f
 by_cases h : (l.length : Int) ≤ 7
 ·rw [if_pos h]; exact ⟨_, _, _, _, _, rfl⟩
 ·rw [if_neg h, if_pos (by omega), if_pos (by omega), if_pos (by omega), if_pos (by omega), if_pos (by omega), if_pos (by omega), if_pos (by omega), if_pos (by omega)]
  exact ⟨_, _, _, _, _, rfl⟩
theorem rdI_at (l : List It) (i : Nat) (h : i < l.length) : l[i] = rdI l i := by
 unfold rdI rd_T53
 rw [Int.toNat_natCast, List.getD_eq_getElem?_getD, List.getElem?_eq_getElem h]; rfl
/-- What Get tells, out of what a scan has found. -/
def getR (l : List Int) (a : Int) (r : List It × Int × Int × Int) : Option (List Hi × Bool) :=
 if r.2.2.2 ≠ 0 ∨ r.2.1 > 0 ∨ r.1.length = 0 ∨ ¬ (0 ≤ a ∧ a ≤ 1073741824) then some ([], false)
 else match hintsOf (r.1.take (r.1.length - 1)) with
  | none => some ([], false)
  | some out =>
   if 0 ≤ (rdI r.1 (r.1.length - 1)).f0 ∧ (rdI r.1 (r.1.length - 1)).f0 ≤ (l.length : Int) then
    some (if rightL out = true ∧ bytes_Equal.f (rdI r.1 (r.1.length - 1)).f2 (endL (l.take (rdI r.1 (r.1.length - 1)).f0.toNat) (out.length : Int) a) = some true then (out, true) else ([], false))
   else none

def T14 : Bool × List (List Nat × List Nat) := (true, [([], []), ([0], [0]), ([1], [1]), ([2, 1], [2]), ([3], [3]), ([4, 3], [3, 4]), ([3], [3]), ([3], [3]), ([7, 3], [3, 7]), ([6, 8, 3], [3, 6, 8]), ([3], [3]), ([10, 3], [3, 10]), ([3], [3]), ([9, 11, 12, 3, 3], [3, 9, 11, 12]), ([5, 13, 13, 3], [3, 5, 13]), ([14, 3], [3, 14]), ([3, 15], [3, 15])])
def B14 : List Nat := [0, 1, 3, 7, 15, 31, 15, 15, 143, 463, 15, 1039, 15, 8143, 16383, 32767, 65535]
theorem tab14 : rtab .any (opsOf Try.f12 14) = T14 := by kernel_rfl
theorem bits14 : waitsOk T14.2 B14 = true := by kernel_rfl
set_option maxHeartbeats 8000000 in
set_option maxRecDepth 100000 in
theorem get_calls (A : Option Addr) (c : Nat) (l : List Int) (a : Int) (w : World) (L : List It) (q1 q2 q3 : Int) (ro : List Hi) (rb : Bool) (hc : l.length ≤ c) (hr : Kd.C (Kd.int .u8) w A l.length l) (hs : scan_All.f l = some (L, q1, q2, q3)) (hL : L.length ≤ 1000000000) (hg : getR l a (L, q1, q2, q3) = some (ro, rb)) :
  Calls Try.prog 12 #[.slice A l.length c, .int .i64 a] w fun e w' => ∃ v, e = .returned (.tuple #[v, .bool rb]) ∧ RowH w' w.heap.size (fun _ => True) v ro ∧ RowKit.Below w.heap.size w w' := by
 have HR := Aside0.mk hr
 have HC := Aside0.mk hc
 have HS := Aside0.mk hs
 have HG := Aside0.mk hg
 clear hr hs hg hc
 go_enter Try.func12, Try.ntmps12
 go_upto_region 2 with (go_at_call 22; refine (scan_All.calls A c l L q1 q2 q3 _ HR.out HC.out HS.out).mono ?_; rintro e w1 ⟨v1, rfl, hL1, hB1⟩; have HL1 := Aside0.mk hL1; have HB1 := Aside0.mk hB1; clear hL1 hB1; obtain ⟨A1, c1, rfl⟩ := Kd.S_slice HL1.out)
 have HLn := Aside0.mk (Kd.S_reads' HL1.out).2.1
 by_cases h0 : q3 = 0
 case neg =>
  have e0 : (q3 != 0) = true := bne_iff_ne.mpr h0
  have e1 : (q3 == 0) = false := beq_eq_false_iff_ne.mpr h0
  have HE := Aside0.mk h0
  clear h0
  go_wp2_with (fail)
  go_ret2
  have h := HG.out
  rw [getR, if_pos (.inl HE.out)] at h
  simp only [Option.some.injEq, Prod.mk.injEq] at h
  obtain ⟨rfl, rfl⟩ := h
  exact ⟨_, rfl, Kd.R_nil _ _ _ _ _, HB1.out⟩
 subst h0
 by_cases h1 : q1 > 0
 case pos =>
  have e0 : decide (q1 > 0) = true := decide_eq_true h1
  have e1 : decide (0 < q1) = true := decide_eq_true h1
  have e2 : (0 < q1) = True := eq_true h1
  have HE := Aside0.mk h1
  clear h1
  go_wp2_with (fail)
  go_ret2
  have h := HG.out
  rw [getR, if_pos (.inr (.inl HE.out))] at h
  simp only [Option.some.injEq, Prod.mk.injEq] at h
  obtain ⟨rfl, rfl⟩ := h
  exact ⟨_, rfl, Kd.R_nil _ _ _ _ _, HB1.out⟩
 have e0 : decide (0 < q1) = false := decide_eq_false h1
 have e1 : (0 < q1) = False := eq_false h1
 have HE1 := Aside0.mk h1
 clear h1
 by_cases h2 : L.length = 0
 case pos =>
  have e2 : ((L.length : Int) == 0) = true := beq_iff_eq.mpr (by omega)
  have e3 : (L.length == 0) = true := beq_iff_eq.mpr h2
  have HE := Aside0.mk h2
  go_wp2_with (fail)
  go_ret2
  have h := HG.out
  rw [getR, if_pos (.inr (.inr (.inl HE.out)))] at h
  simp only [Option.some.injEq, Prod.mk.injEq] at h
  obtain ⟨rfl, rfl⟩ := h
  exact ⟨_, rfl, Kd.R_nil _ _ _ _ _, HB1.out⟩
 obtain ⟨n, hn⟩ : ∃ n, L.length = n + 1 := ⟨L.length - 1, by omega⟩
 have HN := Aside0.mk hn
 rw [hn] at HL1 HLn hL ⊢
 clear hn h2
 have e2 : (((n + 1 : Nat) : Int) == 0) = false := beq_eq_false_iff_ne.mpr (by omega)
 have e3 : ((n : Int) + 1 == 0) = false := beq_eq_false_iff_ne.mpr (by omega)
 have e4 : ((n : Int) + 1 = 0) = False := eq_false (by omega)
 have hwi : hint_within.f a 0 1073741824 = some (decide (0 ≤ a ∧ a ≤ 1073741824)) := by
  unfold hint_within.f
  by_cases g0 : a ≥ 0
  ·by_cases g1 : a ≤ 1073741824 <;> simp [g0, g1]
  ·simp [g0]
 obtain ⟨bw, hbw⟩ : ∃ b, decide (0 ≤ a ∧ a ≤ 1073741824) = b := ⟨_, rfl⟩
 rw [hbw] at hwi
 have HW := Aside0.mk hwi
 have HBW := Aside0.mk hbw
 clear hwi hbw
 cases bw with
 | false =>
  go_wp2_with (go_at_call 23; refine (hint_within.calls a 0 1073741824 false _ HW.out).mono ?_; rintro e w2 ⟨rfl, ⟨nd, rfl⟩⟩)
  go_ret2
  have h := HG.out
  rw [getR, if_pos (.inr (.inr (.inr (of_decide_eq_false HBW.out))))] at h
  simp only [Option.some.injEq, Prod.mk.injEq] at h
  obtain ⟨rfl, rfl⟩ := h
  exact ⟨_, rfl, Kd.R_nil _ _ _ _ _, pw_below_drewN HB1.out nd⟩
 | true =>
  obtain ⟨i0, hi0, _, hsz, _⟩ := info_parts info53
  have hcut := cut_to (P := Try.prog) 47 53 .i64 Try.underlying47 hi0 A1 (n + 1) c1 (n : Int) (by omega) (by omega) HLn.out
  rw [Int.toNat_natCast] at hcut
  have hG : getR l a (L, q1, q2, 0) = (match hintsOf (L.take n) with | none => some ([], false) | some out => if 0 ≤ (rdI L n).f0 ∧ (rdI L n).f0 ≤ (l.length : Int) then some (if rightL out = true ∧ bytes_Equal.f (rdI L n).f2 (endL (l.take (rdI L n).f0.toNat) (out.length : Int) a) = some true then (out, true) else ([], false)) else none) := by
   rw [getR, if_neg (by rintro (h | h | h | h); exact h rfl; exact HE1.out h; (have h' : L.length = 0 := h; have := HN.out; omega); exact h (of_decide_eq_true HBW.out))]
   simp only [HN.out, Nat.add_sub_cancel]
  have HG2 := Aside0.mk (hG.symm.trans HG.out)
  clear hG HG
  have hb1 : (n : Int) + 1 - 1 = (n : Int) := by omega
  go_wp2_with (go_at_call 23; refine (hint_within.calls a 0 1073741824 true _ HW.out).mono ?_; rintro e w2 ⟨rfl, ⟨nd, rfl⟩⟩)
  have HB2 := Aside0.mk (pw_below_drewN HB1.out nd)
  have HL2 := Aside0.mk (Kd.S_drewN HL1.out nd)
  generalize w1.drewN nd = w2 at HB2 HL2 ⊢
  have HK0 := Aside0.mk HN.out
  clear hcut hi0 hsz hb1 e2 e3 e4
  go_loopg [10, 45] n (fun kq v10 v45 wr => ∃ (k : Nat) (out : List Hi), v45 = .int .i64 k ∧ Aside0 (k + kq = n) ∧ Aside0 (hintsOf (L.take k) = some out) ∧ Aside0 (out.length = k) ∧ Aside0 (RowH wr w2.heap.size (fun _ => True) v10 out) ∧ Aside0 (RowKit.Below w2.heap.size w2 wr))
  case atStart => exact ⟨0, [], rfl, ⟨by omega⟩, ⟨rfl⟩, ⟨rfl⟩, ⟨Kd.R_nil _ _ _ _ _⟩, ⟨RowKit.Below.refl _ _⟩⟩
  case round =>
   obtain ⟨k, out, rfl, HK, HH, HO, HRo, HBr⟩ := hrel
   cases gk with
   | zero =>
    obtain rfl : k = n := by have := HK.out; omega
    have hk : decide ((k : Int) < (k : Int)) = false := decide_eq_false (by omega)
    have HL3 := Aside0.mk (Kd.S_below HL2.out HBr.out)
    obtain ⟨ad, B, cB, e0, x0, x1, x2, hcB, hCB⟩ := at_I (Kd.S_reads' HL3.out).2.2 k (by have := HN.out; omega)
    cases e0
    have HCB := Aside0.mk hCB
    have HcB := Aside0.mk hcB
    have h := HG2.out
    rw [HH.out] at h
    generalize rdI L k = x at h HCB HcB x0 x1 x2
    obtain ⟨hb0, h⟩ : (0 ≤ x.f0 ∧ x.f0 ≤ (l.length : Int)) ∧ (if rightL out = true ∧ bytes_Equal.f x.f2 (endL (l.take x.f0.toNat) (out.length : Int) a) = some true then (out, true) else ([], false)) = (ro, rb) := by
     by_cases hq : 0 ≤ x.f0 ∧ x.f0 ≤ (l.length : Int)
     ·simp only [if_pos hq, Option.some.injEq] at h
      exact ⟨hq, h⟩
     ·simp only [if_neg hq] at h
      cases h
    obtain ⟨m, hm⟩ := Int.eq_ofNat_of_zero_le hb0.1
    rw [hm] at h hb0 x0
    rw [Int.toNat_natCast] at h
    have HG3 := Aside0.mk h
    have hml : m ≤ l.length := by omega
    clear h hb0 hcB hCB HG2
    obtain ⟨Ao, co, rfl⟩ := Kd.R_slice HRo.out
    have HCO := Aside0.mk (Kd.R_reads' HRo.out)
    obtain ⟨i1, hi1, hz0, hz1, hz2⟩ := info_parts info_u8
    have hcut := cut_to (P := Try.prog) 23 5 .i64 Try.underlying23 hi1 A l.length c (m : Int) (by omega) (by omega) HC.out
    rw [Int.toNat_natCast] at hcut
    clear hi1 hz0 hz1 hz2
    have hlm : (l.take m).length = m := by rw [List.length_take]; omega
    have HE : Aside0 (∀ W, Kd.C (Kd.int .u8) W A (l.take m).length (l.take m) → Calls Try.prog 26 #[.slice A m c, .int .i64 (out.length : Int), .int .i64 a] W fun e w' => ∃ v', e = .returned v' ∧ w'.ownsRow W.heap.size 5 1 v' (endL (l.take m) (out.length : Int) a).length (nums .u8 (endL (l.take m) (out.length : Int) a)) ∧ RowKit.Below W.heap.size W w') := ⟨fun W h => by
     have := end_calls A c (l.take m) (out.length : Int) a W h
     rwa [hlm] at this⟩
    go_upto_region 14 with (fail)
    have hb3 := below_alloc (RowKit.Below.refl wr.heap.size wr) (.cells #[.int .i64 (m : Int), .int .i64 x.f1, .slice B x.f2.length cB] 53)
    have BK := Aside0.mk (heap_alloc_new wr (.cells #[.int .i64 (m : Int), .int .i64 x.f1, .slice B x.f2.length cB] 53))
    have HB3 := Aside0.mk (below_then HBr.out HBr.out.size hb3)
    have HC3 := Aside0.mk (Kd.C_below HCB.out hb3)
    have HR3 := Aside0.mk (Kd.R_below HRo.out hb3)
    clear hb3 x0 x1 x2 HCB HRo HBr HL3 HCO
    generalize wr.alloc (.cells #[.int .i64 (m : Int), .int .i64 x.f1, .slice B x.f2.length cB] 53) = w3 at BK HB3 HC3 HR3 ⊢
    generalize wr.heap.size = g3 at BK ⊢
    have HA3 := Aside0.mk (show Kd.C (Kd.int .u8) w3 A (l.take m).length (l.take m) from Kd.C_take (Kd.C_below HR.out (below_then HB2.out HB2.out.size HB3.out)) hml)
    have y0 := (blk_cell BK.out 0).trans rfl
    have y1 := (blk_cell BK.out 1).trans rfl
    have y2 := (blk_cell BK.out 2).trans rfl
    have hlt : g3 < w3.heap.size := blk_lt BK.out
    obtain ⟨bR, hbR⟩ : ∃ b, rightL out = b := ⟨_, rfl⟩
    have hRc := fun W h => right_calls Ao co out W (Kd.R_reads' HR3.out).2.1 h
    rw [hbR] at hRc
    have HRC := Aside0.mk hRc
    have HBR := Aside0.mk hbR
    have HR4 := Aside0.mk (Kd.R_reads' HR3.out).2.2
    clear hRc hbR
    -- REGION14
    cases bR with
    | false =>
     have n0_ := Aside0.mk (blk_drew BK.out)
     have n1_ := Aside0.mk (Kd.C_drew HC3.out)
     have n2_ := Aside0.mk (Kd.C_drew HA3.out)
     have n3_ := Aside0.mk (Kd.R_drew HR3.out)
     have n4_ := Aside0.mk (below_drew1 HB3.out)
     clear BK HC3 HA3 HR3 HB3 HR4 y0 y1 y2 hlt
     have BK := n0_
     have HC3 := n1_
     have HA3 := n2_
     have HR3 := n3_
     have HB3 := n4_
     clear n0_ n1_ n2_ n3_ n4_
     refine start_ (n := 17) (S := (fun w' => w'.cell? ⟨g3, 0, none⟩ = some (.int .i64 (m : Int)) ∧ w'.cell? ⟨g3, 2, none⟩ = some (.slice B x.f2.length cB))) (ds := []) mknG_0 (by kernel_rfl) rfl rfl ⟨(blk_cell BK.out 0).trans rfl, (blk_cell BK.out 2).trans rfl⟩ (fun hHeld => ?_); refine with_tabW tab14 bits14 (fun HT_ HW_ => ?_)
     generalize w3.drew = w4 at BK HC3 HA3 HR3 HB3 hHeld ⊢
     refine pynG_ (a' := ?_) 0 68 ?_ mknG_1 HT_ rfl rfl (by kernel_rfl) (fun _ _ _ h => h) (Or.inl ⟨by rfl, ?_⟩) ?_ ?_; rotate_left; (focus intro w'; go_simp; with_reducible rfl); rotate_left; (focus simp only [Act.put, pSnG]; rfl)
     refine one_ (i := 1) (N := some 69) mknG_2 rfl rfl (one_of HT_.out (by kernel_rfl)) (by decide) (fun K hK => ?_)
     refine goes_ Try.func14 (by kernel_rfl) rfl #[.slice Ao out.length co] (by rfl) rfl rfl (by (try simp only [List.map_toArray, List.map_cons, List.map_nil]); first | done | rfl) ?_
     refine (HRC.out _ (Kd.R_reads' HR3.out).2.2).mono ?_
     rintro e w5 ⟨rfl, hb⟩
     refine ⟨_, rfl, ?_⟩
     have n0_ := Aside0.mk (blk_below (g := g3) (o := .cells #[.int .i64 (m : Int), .int .i64 x.f1, .slice B x.f2.length cB] 53 (0, 0)) BK.out hb)
     have n1_ := Aside0.mk (Kd.C_below HC3.out hb)
     have n2_ := Aside0.mk (Kd.C_below HA3.out hb)
     have n3_ := Aside0.mk (Kd.R_below HR3.out hb)
     have n4_ := Aside0.mk (below_then HB3.out HB3.out.size hb)
     clear BK HC3 HA3 HR3 HB3
     have BK := n0_
     have HC3 := n1_
     have HA3 := n2_
     have HR3 := n3_
     have HB3 := n4_
     clear n0_ n1_ n2_ n3_ n4_
     clear hb
     refine hK.out _ _ ⟨(blk_cell BK.out 0).trans rfl, (blk_cell BK.out 2).trans rfl⟩ (fun hHeld => ?_)
     clear hK K
     refine norm_ (a' := ?_) ?_ ?_
     rotate_left
     ·show Act.put _ (some 69) _ = _
      simp only [Act.put, pSnG]
      rfl
     refine pynG_ (a' := ?_) 2 70 ?_ mknG_3 HT_ rfl rfl (by kernel_rfl) (fun _ _ _ h => h) (Or.inl ⟨by rfl, ?_⟩) ?_ ?_; rotate_left; (focus intro w'; go_simp; with_reducible rfl); rotate_left; (focus simp only [Act.put, pSnG]; rfl)
     refine pynG_ (a' := ?_) 3 71 ?_ mknG_4 HT_ rfl rfl (by kernel_rfl) (fun _ _ _ h => h) (Or.inl ⟨by rfl, ?_⟩) ?_ ?_; rotate_left; (focus intro w'; go_simp; with_reducible rfl); rotate_left; (focus simp only [Act.put, pSnG]; rfl)
     refine pynG_ (a' := ?_) 4 72 undef mknG_5 HT_ rfl rfl (by kernel_rfl) (fun _ _ _ h => h) (Or.inr ⟨by rfl, rfl⟩) ?_ ?_; rotate_left; (focus simp only [Act.put, pSnG]; rfl)
     refine pynG_ (a' := ?_) 5 73 undef mknG_6 HT_ rfl rfl (by kernel_rfl) (fun _ _ _ h => h) (Or.inr ⟨by rfl, rfl⟩) ?_ ?_; rotate_left; (focus simp only [Act.put, pSnG]; rfl)
     refine pynG_ (a' := ?_) 6 74 undef mknG_7 HT_ rfl rfl (by kernel_rfl) (fun _ _ _ h => h) (Or.inr ⟨by rfl, rfl⟩) ?_ ?_; rotate_left; (focus simp only [Act.put, pSnG]; rfl)
     refine pynG_ (a' := ?_) 7 75 undef mknG_8 HT_ rfl rfl (by kernel_rfl) (fun _ _ _ h => h) (Or.inr ⟨by rfl, rfl⟩) ?_ ?_; rotate_left; (focus simp only [Act.put, pSnG]; rfl)
     refine pynG_ (a' := ?_) 8 76 undef mknG_9 HT_ rfl rfl (by kernel_rfl) (fun _ _ _ h => h) (Or.inr ⟨by rfl, rfl⟩) ?_ ?_; rotate_left; (focus simp only [Act.put, pSnG]; rfl)
     refine pynG_ (a' := ?_) 9 77 undef mknG_10 HT_ rfl rfl (by kernel_rfl) (fun _ _ _ h => h) (Or.inr ⟨by rfl, rfl⟩) ?_ ?_; rotate_left; (focus simp only [Act.put, pSnG]; rfl)
     refine pynG_ (a' := ?_) 10 78 undef mknG_11 HT_ rfl rfl (by kernel_rfl) (fun _ _ _ h => h) (Or.inr ⟨by rfl, rfl⟩) ?_ ?_; rotate_left; (focus simp only [Act.put, pSnG]; rfl)
     refine pynG_ (a' := ?_) 11 79 undef mknG_12 HT_ rfl rfl (by kernel_rfl) (fun _ _ _ h => h) (Or.inr ⟨by rfl, rfl⟩) ?_ ?_; rotate_left; (focus simp only [Act.put, pSnG]; rfl)
     refine pynG_ (a' := ?_) 12 80 undef mknG_13 HT_ rfl rfl (by kernel_rfl) (fun _ _ _ h => h) (Or.inr ⟨by rfl, rfl⟩) ?_ ?_; rotate_left; (focus simp only [Act.put, pSnG]; rfl)
     refine pynG_ (a' := ?_) 13 81 undef mknG_14 HT_ rfl rfl (by kernel_rfl) (fun _ _ _ h => h) (Or.inr ⟨by rfl, rfl⟩) ?_ ?_; rotate_left; (focus simp only [Act.put, pSnG]; rfl)
     refine pynG_ (a' := ?_) 14 82 undef mknG_15 HT_ rfl rfl (by kernel_rfl) (fun _ _ _ h => h) (Or.inr ⟨by rfl, rfl⟩) ?_ ?_; rotate_left; (focus simp only [Act.put, pSnG]; rfl)
     refine pynG_ (a' := ?_) 15 83 undef mknG_16 HT_ rfl rfl (by kernel_rfl) (fun _ _ _ h => h) (Or.inr ⟨by rfl, rfl⟩) ?_ ?_; rotate_left; (focus simp only [Act.put, pSnG]; rfl)
     refine pynG_ (a' := ?_) 16 84 ?_ mknG_17 HT_ rfl rfl (by kernel_rfl) (fun _ _ _ h => h) (Or.inl ⟨by rfl, ?_⟩) ?_ ?_; rotate_left; (focus intro w'; go_simp; with_reducible rfl); rotate_left; (focus simp only [Act.put, pSnG]; rfl)
     refine done_ (done_of HT_.out (by kernel_rfl)) ?_
     go_wp2
     go_ret2
     have h := HG3.out
     rw [if_neg (by rintro ⟨h, _⟩; rw [HBR.out] at h; cases h)] at h
     simp only [Prod.mk.injEq] at h
     obtain ⟨rfl, rfl⟩ := h
     exact ⟨_, rfl, Kd.R_nil _ _ _ _ _, below_then HB2.out HB2.out.size HB3.out⟩
    | true =>
     obtain ⟨bE, hbE⟩ : ∃ b, bytes_Equal.f x.f2 (endL (l.take m) (out.length : Int) a) = some b := ⟨_, rfl⟩
     have HBE := Aside0.mk hbE
     clear hbE
     cases bE with
     | true =>
      have n0_ := Aside0.mk (blk_drew BK.out)
      have n1_ := Aside0.mk (Kd.C_drew HC3.out)
      have n2_ := Aside0.mk (Kd.C_drew HA3.out)
      have n3_ := Aside0.mk (Kd.R_drew HR3.out)
      have n4_ := Aside0.mk (below_drew1 HB3.out)
      clear BK HC3 HA3 HR3 HB3 HR4 y0 y1 y2 hlt
      have BK := n0_
      have HC3 := n1_
      have HA3 := n2_
      have HR3 := n3_
      have HB3 := n4_
      clear n0_ n1_ n2_ n3_ n4_
      refine start_ (n := 17) (S := (fun w' => w'.cell? ⟨g3, 0, none⟩ = some (.int .i64 (m : Int)) ∧ w'.cell? ⟨g3, 2, none⟩ = some (.slice B x.f2.length cB))) (ds := []) mknG_0 (by kernel_rfl) rfl rfl ⟨(blk_cell BK.out 0).trans rfl, (blk_cell BK.out 2).trans rfl⟩ (fun hHeld => ?_); refine with_tabW tab14 bits14 (fun HT_ HW_ => ?_)
      generalize w3.drew = w4 at BK HC3 HA3 HR3 HB3 hHeld ⊢
      refine pynG_ (a' := ?_) 0 68 ?_ mknG_1 HT_ rfl rfl (by kernel_rfl) (fun _ _ _ h => h) (Or.inl ⟨by rfl, ?_⟩) ?_ ?_; rotate_left; (focus intro w'; go_simp; with_reducible rfl); rotate_left; (focus simp only [Act.put, pSnG]; rfl)
      refine one_ (i := 1) (N := some 69) mknG_2 rfl rfl (one_of HT_.out (by kernel_rfl)) (by decide) (fun K hK => ?_)
      refine goes_ Try.func14 (by kernel_rfl) rfl #[.slice Ao out.length co] (by rfl) rfl rfl (by (try simp only [List.map_toArray, List.map_cons, List.map_nil]); first | done | rfl) ?_
      refine (HRC.out _ (Kd.R_reads' HR3.out).2.2).mono ?_
      rintro e w5 ⟨rfl, hb⟩
      refine ⟨_, rfl, ?_⟩
      have n0_ := Aside0.mk (blk_below (g := g3) (o := .cells #[.int .i64 (m : Int), .int .i64 x.f1, .slice B x.f2.length cB] 53 (0, 0)) BK.out hb)
      have n1_ := Aside0.mk (Kd.C_below HC3.out hb)
      have n2_ := Aside0.mk (Kd.C_below HA3.out hb)
      have n3_ := Aside0.mk (Kd.R_below HR3.out hb)
      have n4_ := Aside0.mk (below_then HB3.out HB3.out.size hb)
      clear BK HC3 HA3 HR3 HB3
      have BK := n0_
      have HC3 := n1_
      have HA3 := n2_
      have HR3 := n3_
      have HB3 := n4_
      clear n0_ n1_ n2_ n3_ n4_
      clear hb
      refine hK.out _ _ ⟨(blk_cell BK.out 0).trans rfl, (blk_cell BK.out 2).trans rfl⟩ (fun hHeld => ?_)
      clear hK K
      refine norm_ (a' := ?_) ?_ ?_
      rotate_left
      ·show Act.put _ (some 69) _ = _
       simp only [Act.put, pSnG]
       rfl
      refine pynG_ (a' := ?_) 2 70 ?_ mknG_3 HT_ rfl rfl (by kernel_rfl) (fun _ _ _ h => h) (Or.inl ⟨by rfl, ?_⟩) ?_ ?_; rotate_left; (focus intro w'; go_simp; with_reducible rfl); rotate_left; (focus simp only [Act.put, pSnG]; rfl)
      refine pynG_ (a' := ?_) 3 71 ?_ mknG_4 HT_ rfl rfl (by kernel_rfl) (fun _ _ _ h => h) (Or.inl ⟨by rfl, ?_⟩) ?_ ?_; rotate_left; (focus intro w'; go_simp; with_reducible rfl); rotate_left; (focus simp only [Act.put, pSnG]; rfl)
      refine pynG_ (a' := ?_) 4 72 ?_ mknG_5 HT_ rfl rfl (by kernel_rfl) (fun _ _ _ h => h) (Or.inl ⟨by rfl, ?_⟩) ?_ ?_; rotate_left; (focus intro w'; go_simp; with_reducible rfl); rotate_left; (focus simp only [Act.put, pSnG]; rfl)
      refine pynG_ (a' := ?_) 6 74 ?_ mknG_18 HT_ rfl rfl (by kernel_rfl) (fun _ _ _ h => h) (Or.inl ⟨by rfl, ?_⟩) ?_ ?_; rotate_left; (focus intro w'; go_simp; with_reducible rfl); rotate_left; (focus simp only [Act.put, pSnG]; rfl)
      refine pynG_ (a' := ?_) 7 75 ?_ mknG_19 HT_ rfl rfl (by kernel_rfl) (fun _ _ _ h => h) (Or.inl ⟨by rfl, ?_⟩) ?_ ?_; rotate_left; (focus intro w'; go_simp; with_reducible rfl); rotate_left; (focus simp only [Act.put, pSnG]; rfl)
      refine pynG_ (a' := ?_) 10 78 ?_ mknG_20 HT_ rfl rfl (by kernel_rfl) (fun _ _ _ h => h) (Or.inl ⟨by rfl, ?_⟩) ?_ ?_; rotate_left; (focus intro w'; go_simp; with_reducible rfl); rotate_left; (focus simp only [Act.put, pSnG]; rfl)
      refine pynG_ (a' := ?_) 11 79 ?_ mknG_21 HT_ rfl rfl (by kernel_rfl) (fun _ _ _ h => h) (Or.inl ⟨by rfl, ?_⟩) ?_ ?_; rotate_left; (focus intro w'; go_simp; with_reducible rfl); rotate_left; (focus simp only [Act.put, pSnG]; rfl)
      refine pynG_ (a' := ?_) 12 80 ?_ mknG_22 HT_ rfl rfl (by kernel_rfl) (fun _ _ _ h => h) (Or.inl ⟨by rfl, ?_⟩) ?_ ?_; rotate_left; (focus intro w'; go_simp; with_reducible rfl); rotate_left; (focus simp only [Act.put, pSnG]; rfl)
      refine take_ (i := 5) (N := some 73) (v := ?_) (a' := ?_) mknG_23 rfl rfl (take_ofW HT_.out HW_.out (by kernel_rfl)) (fun _ _ _ h => h) (Or.inl ⟨by rfl, ?_⟩) hHeld ?_ ?_; rotate_left; (focus rintro w' ⟨s0, s2⟩; go_simp; with_reducible rfl); rotate_left; (focus simp only [Act.put, pSnG]; rfl)
      refine take_ (i := 8) (N := some 76) (v := ?_) (a' := ?_) mknG_24 rfl rfl (take_ofW HT_.out HW_.out (by kernel_rfl)) (fun _ _ _ h => h) (Or.inl ⟨by rfl, ?_⟩) hHeld ?_ ?_; rotate_left; (focus rintro w' ⟨s0, s2⟩; go_simp; with_reducible rfl); rotate_left; (focus simp only [Act.put, pSnG]; rfl)
      refine pynG_ (a' := ?_) 9 77 ?_ mknG_13 HT_ rfl rfl (by kernel_rfl) (fun _ _ _ h => h) (Or.inl ⟨by rfl, ?_⟩) ?_ ?_; rotate_left; (focus intro w'; go_simp; with_reducible rfl); rotate_left; (focus simp only [Act.put, pSnG]; rfl)
      refine one_ (i := 13) (N := some 81) mknG_14 rfl rfl (one_of HT_.out (by kernel_rfl)) (by decide) (fun K hK => ?_)
      refine goes_ Try.func26 (by kernel_rfl) rfl #[.slice A m c, .int .i64 (out.length : Int), .int .i64 a] (by rfl) rfl rfl (by (try simp only [List.map_toArray, List.map_cons, List.map_nil]); first | done | rfl) ?_
      refine (HE.out _ HA3.out).mono ?_
      rintro e w6 ⟨v6, rfl, ho, hb⟩
      obtain ⟨A6, c6, rfl, hle6, hC6⟩ := Kd.R_reads (R_ints ho)
      refine ⟨_, rfl, ?_⟩
      have n0_ := Aside0.mk (blk_below (g := g3) (o := .cells #[.int .i64 (m : Int), .int .i64 x.f1, .slice B x.f2.length cB] 53 (0, 0)) BK.out hb)
      have n1_ := Aside0.mk (Kd.C_below HC3.out hb)
      have n2_ := Aside0.mk (Kd.C_below HA3.out hb)
      have n3_ := Aside0.mk (Kd.R_below HR3.out hb)
      have n4_ := Aside0.mk (below_then HB3.out HB3.out.size hb)
      clear BK HC3 HA3 HR3 HB3
      have BK := n0_
      have HC3 := n1_
      have HA3 := n2_
      have HR3 := n3_
      have HB3 := n4_
      clear n0_ n1_ n2_ n3_ n4_
      have HC6 := Aside0.mk hC6
      have HLE6 := Aside0.mk hle6
      clear hb ho hC6 hle6
      refine hK.out _ _ ⟨(blk_cell BK.out 0).trans rfl, (blk_cell BK.out 2).trans rfl⟩ (fun hHeld => ?_)
      clear hK K
      refine norm_ (a' := ?_) ?_ ?_
      rotate_left
      ·show Act.put _ (some 81) _ = _
       simp only [Act.put, pSnG]
       rfl
      refine one_ (i := 14) (N := some 82) mknG_15 rfl rfl (one_of HT_.out (by kernel_rfl)) (by decide) (fun K hK => ?_)
      refine goes_ Try.func25 (by kernel_rfl) rfl #[.slice B x.f2.length cB, .slice A6 (endL (l.take m) (out.length : Int) a).length c6] (by rfl) rfl rfl (by (try simp only [List.map_toArray, List.map_cons, List.map_nil]); first | done | rfl) ?_
      refine (bytes_Equal.calls B cB x.f2 A6 c6 (endL (l.take m) (out.length : Int) a) true _ HC3.out HcB.out HC6.out HLE6.out HBE.out).mono ?_
      rintro e w' ⟨rfl, ⟨nd2, rfl⟩⟩
      refine ⟨_, rfl, ?_⟩
      have hb := pw_below_drewN (RowKit.Below.refl w6.heap.size w6) nd2
      have n0_ := Aside0.mk (blk_below (g := g3) (o := .cells #[.int .i64 (m : Int), .int .i64 x.f1, .slice B x.f2.length cB] 53 (0, 0)) BK.out hb)
      have n1_ := Aside0.mk (Kd.C_below HC3.out hb)
      have n2_ := Aside0.mk (Kd.C_below HA3.out hb)
      have n3_ := Aside0.mk (Kd.R_below HR3.out hb)
      have n4_ := Aside0.mk (below_then HB3.out HB3.out.size hb)
      clear BK HC3 HA3 HR3 HB3
      have BK := n0_
      have HC3 := n1_
      have HA3 := n2_
      have HR3 := n3_
      have HB3 := n4_
      clear n0_ n1_ n2_ n3_ n4_
      clear hb
      refine hK.out _ _ ⟨(blk_cell BK.out 0).trans rfl, (blk_cell BK.out 2).trans rfl⟩ (fun hHeld => ?_)
      clear hK K
      refine norm_ (a' := ?_) ?_ ?_
      rotate_left
      ·show Act.put _ (some 82) _ = _
       simp only [Act.put, pSnG]
       rfl
      refine pynG_ (a' := ?_) 15 83 ?_ mknG_16 HT_ rfl rfl (by kernel_rfl) (fun _ _ _ h => h) (Or.inl ⟨by rfl, ?_⟩) ?_ ?_; rotate_left; (focus intro w'; go_simp; with_reducible rfl); rotate_left; (focus simp only [Act.put, pSnG]; rfl)
      refine pynG_ (a' := ?_) 16 84 ?_ mknG_17 HT_ rfl rfl (by kernel_rfl) (fun _ _ _ h => h) (Or.inl ⟨by rfl, ?_⟩) ?_ ?_; rotate_left; (focus intro w'; go_simp; with_reducible rfl); rotate_left; (focus simp only [Act.put, pSnG]; rfl)
      refine done_ (done_of HT_.out (by kernel_rfl)) ?_
      go_wp2
      go_ret2
      have h := HG3.out
      rw [if_pos ⟨HBR.out, HBE.out⟩] at h
      simp only [Prod.mk.injEq] at h
      obtain ⟨rfl, rfl⟩ := h
      exact ⟨_, rfl, Kd.R_lower HR3.out HB2.out.size, below_then HB2.out HB2.out.size HB3.out⟩
     | false =>
      have n0_ := Aside0.mk (blk_drew BK.out)
      have n1_ := Aside0.mk (Kd.C_drew HC3.out)
      have n2_ := Aside0.mk (Kd.C_drew HA3.out)
      have n3_ := Aside0.mk (Kd.R_drew HR3.out)
      have n4_ := Aside0.mk (below_drew1 HB3.out)
      clear BK HC3 HA3 HR3 HB3 HR4 y0 y1 y2 hlt
      have BK := n0_
      have HC3 := n1_
      have HA3 := n2_
      have HR3 := n3_
      have HB3 := n4_
      clear n0_ n1_ n2_ n3_ n4_
      refine start_ (n := 17) (S := (fun w' => w'.cell? ⟨g3, 0, none⟩ = some (.int .i64 (m : Int)) ∧ w'.cell? ⟨g3, 2, none⟩ = some (.slice B x.f2.length cB))) (ds := []) mknG_0 (by kernel_rfl) rfl rfl ⟨(blk_cell BK.out 0).trans rfl, (blk_cell BK.out 2).trans rfl⟩ (fun hHeld => ?_); refine with_tabW tab14 bits14 (fun HT_ HW_ => ?_)
      generalize w3.drew = w4 at BK HC3 HA3 HR3 HB3 hHeld ⊢
      refine pynG_ (a' := ?_) 0 68 ?_ mknG_1 HT_ rfl rfl (by kernel_rfl) (fun _ _ _ h => h) (Or.inl ⟨by rfl, ?_⟩) ?_ ?_; rotate_left; (focus intro w'; go_simp; with_reducible rfl); rotate_left; (focus simp only [Act.put, pSnG]; rfl)
      refine one_ (i := 1) (N := some 69) mknG_2 rfl rfl (one_of HT_.out (by kernel_rfl)) (by decide) (fun K hK => ?_)
      refine goes_ Try.func14 (by kernel_rfl) rfl #[.slice Ao out.length co] (by rfl) rfl rfl (by (try simp only [List.map_toArray, List.map_cons, List.map_nil]); first | done | rfl) ?_
      refine (HRC.out _ (Kd.R_reads' HR3.out).2.2).mono ?_
      rintro e w5 ⟨rfl, hb⟩
      refine ⟨_, rfl, ?_⟩
      have n0_ := Aside0.mk (blk_below (g := g3) (o := .cells #[.int .i64 (m : Int), .int .i64 x.f1, .slice B x.f2.length cB] 53 (0, 0)) BK.out hb)
      have n1_ := Aside0.mk (Kd.C_below HC3.out hb)
      have n2_ := Aside0.mk (Kd.C_below HA3.out hb)
      have n3_ := Aside0.mk (Kd.R_below HR3.out hb)
      have n4_ := Aside0.mk (below_then HB3.out HB3.out.size hb)
      clear BK HC3 HA3 HR3 HB3
      have BK := n0_
      have HC3 := n1_
      have HA3 := n2_
      have HR3 := n3_
      have HB3 := n4_
      clear n0_ n1_ n2_ n3_ n4_
      clear hb
      refine hK.out _ _ ⟨(blk_cell BK.out 0).trans rfl, (blk_cell BK.out 2).trans rfl⟩ (fun hHeld => ?_)
      clear hK K
      refine norm_ (a' := ?_) ?_ ?_
      rotate_left
      ·show Act.put _ (some 69) _ = _
       simp only [Act.put, pSnG]
       rfl
      refine pynG_ (a' := ?_) 2 70 ?_ mknG_3 HT_ rfl rfl (by kernel_rfl) (fun _ _ _ h => h) (Or.inl ⟨by rfl, ?_⟩) ?_ ?_; rotate_left; (focus intro w'; go_simp; with_reducible rfl); rotate_left; (focus simp only [Act.put, pSnG]; rfl)
      refine pynG_ (a' := ?_) 3 71 ?_ mknG_4 HT_ rfl rfl (by kernel_rfl) (fun _ _ _ h => h) (Or.inl ⟨by rfl, ?_⟩) ?_ ?_; rotate_left; (focus intro w'; go_simp; with_reducible rfl); rotate_left; (focus simp only [Act.put, pSnG]; rfl)
      refine pynG_ (a' := ?_) 4 72 ?_ mknG_5 HT_ rfl rfl (by kernel_rfl) (fun _ _ _ h => h) (Or.inl ⟨by rfl, ?_⟩) ?_ ?_; rotate_left; (focus intro w'; go_simp; with_reducible rfl); rotate_left; (focus simp only [Act.put, pSnG]; rfl)
      refine pynG_ (a' := ?_) 6 74 ?_ mknG_18 HT_ rfl rfl (by kernel_rfl) (fun _ _ _ h => h) (Or.inl ⟨by rfl, ?_⟩) ?_ ?_; rotate_left; (focus intro w'; go_simp; with_reducible rfl); rotate_left; (focus simp only [Act.put, pSnG]; rfl)
      refine pynG_ (a' := ?_) 7 75 ?_ mknG_19 HT_ rfl rfl (by kernel_rfl) (fun _ _ _ h => h) (Or.inl ⟨by rfl, ?_⟩) ?_ ?_; rotate_left; (focus intro w'; go_simp; with_reducible rfl); rotate_left; (focus simp only [Act.put, pSnG]; rfl)
      refine pynG_ (a' := ?_) 10 78 ?_ mknG_20 HT_ rfl rfl (by kernel_rfl) (fun _ _ _ h => h) (Or.inl ⟨by rfl, ?_⟩) ?_ ?_; rotate_left; (focus intro w'; go_simp; with_reducible rfl); rotate_left; (focus simp only [Act.put, pSnG]; rfl)
      refine pynG_ (a' := ?_) 11 79 ?_ mknG_21 HT_ rfl rfl (by kernel_rfl) (fun _ _ _ h => h) (Or.inl ⟨by rfl, ?_⟩) ?_ ?_; rotate_left; (focus intro w'; go_simp; with_reducible rfl); rotate_left; (focus simp only [Act.put, pSnG]; rfl)
      refine pynG_ (a' := ?_) 12 80 ?_ mknG_22 HT_ rfl rfl (by kernel_rfl) (fun _ _ _ h => h) (Or.inl ⟨by rfl, ?_⟩) ?_ ?_; rotate_left; (focus intro w'; go_simp; with_reducible rfl); rotate_left; (focus simp only [Act.put, pSnG]; rfl)
      refine take_ (i := 5) (N := some 73) (v := ?_) (a' := ?_) mknG_23 rfl rfl (take_ofW HT_.out HW_.out (by kernel_rfl)) (fun _ _ _ h => h) (Or.inl ⟨by rfl, ?_⟩) hHeld ?_ ?_; rotate_left; (focus rintro w' ⟨s0, s2⟩; go_simp; with_reducible rfl); rotate_left; (focus simp only [Act.put, pSnG]; rfl)
      refine take_ (i := 8) (N := some 76) (v := ?_) (a' := ?_) mknG_24 rfl rfl (take_ofW HT_.out HW_.out (by kernel_rfl)) (fun _ _ _ h => h) (Or.inl ⟨by rfl, ?_⟩) hHeld ?_ ?_; rotate_left; (focus rintro w' ⟨s0, s2⟩; go_simp; with_reducible rfl); rotate_left; (focus simp only [Act.put, pSnG]; rfl)
      refine pynG_ (a' := ?_) 9 77 ?_ mknG_13 HT_ rfl rfl (by kernel_rfl) (fun _ _ _ h => h) (Or.inl ⟨by rfl, ?_⟩) ?_ ?_; rotate_left; (focus intro w'; go_simp; with_reducible rfl); rotate_left; (focus simp only [Act.put, pSnG]; rfl)
      refine one_ (i := 13) (N := some 81) mknG_14 rfl rfl (one_of HT_.out (by kernel_rfl)) (by decide) (fun K hK => ?_)
      refine goes_ Try.func26 (by kernel_rfl) rfl #[.slice A m c, .int .i64 (out.length : Int), .int .i64 a] (by rfl) rfl rfl (by (try simp only [List.map_toArray, List.map_cons, List.map_nil]); first | done | rfl) ?_
      refine (HE.out _ HA3.out).mono ?_
      rintro e w6 ⟨v6, rfl, ho, hb⟩
      obtain ⟨A6, c6, rfl, hle6, hC6⟩ := Kd.R_reads (R_ints ho)
      refine ⟨_, rfl, ?_⟩
      have n0_ := Aside0.mk (blk_below (g := g3) (o := .cells #[.int .i64 (m : Int), .int .i64 x.f1, .slice B x.f2.length cB] 53 (0, 0)) BK.out hb)
      have n1_ := Aside0.mk (Kd.C_below HC3.out hb)
      have n2_ := Aside0.mk (Kd.C_below HA3.out hb)
      have n3_ := Aside0.mk (Kd.R_below HR3.out hb)
      have n4_ := Aside0.mk (below_then HB3.out HB3.out.size hb)
      clear BK HC3 HA3 HR3 HB3
      have BK := n0_
      have HC3 := n1_
      have HA3 := n2_
      have HR3 := n3_
      have HB3 := n4_
      clear n0_ n1_ n2_ n3_ n4_
      have HC6 := Aside0.mk hC6
      have HLE6 := Aside0.mk hle6
      clear hb ho hC6 hle6
      refine hK.out _ _ ⟨(blk_cell BK.out 0).trans rfl, (blk_cell BK.out 2).trans rfl⟩ (fun hHeld => ?_)
      clear hK K
      refine norm_ (a' := ?_) ?_ ?_
      rotate_left
      ·show Act.put _ (some 81) _ = _
       simp only [Act.put, pSnG]
       rfl
      refine one_ (i := 14) (N := some 82) mknG_15 rfl rfl (one_of HT_.out (by kernel_rfl)) (by decide) (fun K hK => ?_)
      refine goes_ Try.func25 (by kernel_rfl) rfl #[.slice B x.f2.length cB, .slice A6 (endL (l.take m) (out.length : Int) a).length c6] (by rfl) rfl rfl (by (try simp only [List.map_toArray, List.map_cons, List.map_nil]); first | done | rfl) ?_
      refine (bytes_Equal.calls B cB x.f2 A6 c6 (endL (l.take m) (out.length : Int) a) false _ HC3.out HcB.out HC6.out HLE6.out HBE.out).mono ?_
      rintro e w' ⟨rfl, ⟨nd2, rfl⟩⟩
      refine ⟨_, rfl, ?_⟩
      have hb := pw_below_drewN (RowKit.Below.refl w6.heap.size w6) nd2
      have n0_ := Aside0.mk (blk_below (g := g3) (o := .cells #[.int .i64 (m : Int), .int .i64 x.f1, .slice B x.f2.length cB] 53 (0, 0)) BK.out hb)
      have n1_ := Aside0.mk (Kd.C_below HC3.out hb)
      have n2_ := Aside0.mk (Kd.C_below HA3.out hb)
      have n3_ := Aside0.mk (Kd.R_below HR3.out hb)
      have n4_ := Aside0.mk (below_then HB3.out HB3.out.size hb)
      clear BK HC3 HA3 HR3 HB3
      have BK := n0_
      have HC3 := n1_
      have HA3 := n2_
      have HR3 := n3_
      have HB3 := n4_
      clear n0_ n1_ n2_ n3_ n4_
      clear hb
      refine hK.out _ _ ⟨(blk_cell BK.out 0).trans rfl, (blk_cell BK.out 2).trans rfl⟩ (fun hHeld => ?_)
      clear hK K
      refine norm_ (a' := ?_) ?_ ?_
      rotate_left
      ·show Act.put _ (some 82) _ = _
       simp only [Act.put, pSnG]
       rfl
      refine pynG_ (a' := ?_) 15 83 ?_ mknG_16 HT_ rfl rfl (by kernel_rfl) (fun _ _ _ h => h) (Or.inl ⟨by rfl, ?_⟩) ?_ ?_; rotate_left; (focus intro w'; go_simp; with_reducible rfl); rotate_left; (focus simp only [Act.put, pSnG]; rfl)
      refine pynG_ (a' := ?_) 16 84 ?_ mknG_17 HT_ rfl rfl (by kernel_rfl) (fun _ _ _ h => h) (Or.inl ⟨by rfl, ?_⟩) ?_ ?_; rotate_left; (focus intro w'; go_simp; with_reducible rfl); rotate_left; (focus simp only [Act.put, pSnG]; rfl)
      refine done_ (done_of HT_.out (by kernel_rfl)) ?_
      go_wp2
      go_ret2
      have h := HG3.out
      rw [if_neg (by rintro ⟨_, h⟩; rw [HBE.out] at h; cases h)] at h
      simp only [Prod.mk.injEq] at h
      obtain ⟨rfl, rfl⟩ := h
      exact ⟨_, rfl, Kd.R_nil _ _ _ _ _, below_then HB2.out HB2.out.size HB3.out⟩
    -- END14
   | succ gk =>
    have hk0 : k < n := by have := HK.out; omega
    have hk : decide ((k : Int) < (n : Int)) = true := decide_eq_true (by omega)
    have hk' : decide (k < n) = true := decide_eq_true hk0
    have hk1 : (k < n) = True := eq_true hk0
    have HL3 := Aside0.mk (Kd.S_below HL2.out HBr.out)
    obtain ⟨ad, B, cB, e0, x0, x1, x2, hcB, hCB⟩ := at_I (Kd.S_reads' HL3.out).2.2 k (by have := HN.out; omega)
    cases e0
    have HCB := Aside0.mk hCB
    have HcB := Aside0.mk hcB
    have HTK := Aside0.mk (show L.take (k + 1) = L.take k ++ [rdI L k] by rw [List.take_add_one, List.getElem?_eq_getElem (by have := HN.out; omega), rdI_at L k (by have := HN.out; omega)]; rfl)
    have HTN := Aside0.mk (show L.take n = L.take k ++ rdI L k :: (L.take n).drop (k + 1) by
     have h1 : k < (L.take n).length := by rw [List.length_take]; have := HN.out; omega
     have h2 := List.drop_eq_getElem_cons h1
     have h3 : (L.take n)[k] = rdI L k := by rw [List.getElem_take]; exact rdI_at L k (by have := HN.out; omega)
     have h4 : (L.take n).take k = L.take k := by rw [List.take_take, Nat.min_eq_left (by omega)]
     rw [h3] at h2
     rw [← h2, ← h4, List.take_append_drop])
    generalize rdI L k = x at HTK HTN HCB HcB x0 x1 x2
    obtain ⟨a1, a2, a3, a4, a5, hh⟩ := hint_some x.f2 (Kd.C_max HCB.out)
    have HF := Aside0.mk hh
    clear hh hcB hCB
    go_upto_region 8 with (fail)
    have hb3 := below_alloc (RowKit.Below.refl wr.heap.size wr) (.cells #[.int .i64 x.f0, .int .i64 x.f1, .slice B x.f2.length cB] 53)
    have BK := Aside0.mk (heap_alloc_new wr (.cells #[.int .i64 x.f0, .int .i64 x.f1, .slice B x.f2.length cB] 53))
    have HB3 := Aside0.mk (below_then HBr.out HBr.out.size hb3)
    have HC3 := Aside0.mk (Kd.C_below HCB.out hb3)
    have HR3 := Aside0.mk (Kd.R_below HRo.out hb3)
    clear hb3 x0 x1 x2 HCB HRo HBr HL3
    generalize wr.alloc (.cells #[.int .i64 x.f0, .int .i64 x.f1, .slice B x.f2.length cB] 53) = w3 at BK HB3 HC3 HR3 ⊢
    generalize wr.heap.size = g3 at BK ⊢
    have y0 := (blk_cell BK.out 0).trans rfl
    have y1 := (blk_cell BK.out 1).trans rfl
    have y2 := (blk_cell BK.out 2).trans rfl
    cases a5 with
    | false =>
     go_wp2_with (go_at_call 24; refine (hint_hint.calls B cB x.f2 a1 a2 a3 a4 false _ HC3.out HcB.out HF.out).mono ?_; rintro e w4 ⟨rfl, hb4⟩; have HB4 := Aside0.mk (below_then HB3.out HB3.out.size hb4); clear hb4)
     go_ret2
     have h := HG2.out
     have hno : hintsOf (L.take n) = none := by
      rw [HTN.out, hints_append, HH.out]
      simp only [hintsOf, HF.out, Option.bind_some, Option.map_none]
     rw [hno] at h
     simp only [Option.some.injEq, Prod.mk.injEq] at h
     obtain ⟨rfl, rfl⟩ := h
     exact ⟨_, rfl, Kd.R_nil _ _ _ _ _, below_then HB2.out HB2.out.size (below_alloc HB4.out _)⟩
    | true =>
     go_upto_region 11 with (go_at_call 24; refine (hint_hint.calls B cB x.f2 a1 a2 a3 a4 true _ HC3.out HcB.out HF.out).mono ?_; rintro e w4 ⟨rfl, hb4⟩; have HB4 := Aside0.mk (below_then HB3.out HB3.out.size hb4); have HR4 := Aside0.mk (Kd.R_below HR3.out hb4); clear hb4)
     have hb5 := below_alloc (RowKit.Below.refl w4.heap.size w4) (.cells #[.int .i64 a1, .string a2, .int .i64 a3, .int .i64 a4] 41)
     have BK5 := Aside0.mk (heap_alloc_new w4 (.cells #[.int .i64 a1, .string a2, .int .i64 a3, .int .i64 a4] 41))
     have HB5 := Aside0.mk (below_then HB4.out HB4.out.size hb5)
     have HR5 := Aside0.mk (Kd.R_below HR4.out hb5)
     clear hb5 HB3 HC3 HR3 HB4 HR4 BK y0 y1 y2
     generalize w4.alloc (.cells #[.int .i64 a1, .string a2, .int .i64 a3, .int .i64 a4] 41) = w5 at BK5 HB5 HR5 ⊢
     generalize w4.heap.size = g5 at BK5 ⊢
     have z0 := (blk_cell BK5.out 0).trans rfl
     have z1 := (blk_cell BK5.out 1).trans rfl
     have z2 := (blk_cell BK5.out 2).trans rfl
     have z3 := (blk_cell BK5.out 3).trans rfl
     have hbyte : (out.length + 1) * 40 ≤ 140737488355328 := by have := HO.out; omega
     have HBY := Aside0.mk hbyte
     clear hbyte
     go_wp2_with (at_builtin; refine Kd.R_append k41 (w0 := w2) w2.heap.size rfl (.tmp 57) (.tmp 59) 22 41 (.agg #[.int .i64 0, .string ⟨#[]⟩, .int .i64 0, .int .i64 0]) 40 rfl Try.underlying22 info41 rfl (by decide) (by omega) u10 out ⟨a1, a2, a3, a4⟩ [.int .i64 a1, .string a2, .int .i64 a3, .int .i64 a4] (fun _ => True) (fun _ => False) rfl rfl (k41_mkM _ _ _ ⟨a1, a2, a3, a4⟩) (fun _ h => h.elim) (fun _ _ => trivial) HR5.out HB5.out HB5.out.size HBY.out ?_; intro v6 w6 hR6 hB6 hg6 _; have HR6 := Aside0.mk hR6; have HB6 := Aside0.mk hB6; clear hR6 hB6 hg6)
     go_roundg gk
     case measure => omega
     case rel =>
      refine ⟨k + 1, out ++ [⟨a1, a2, a3, a4⟩], by go_num, ⟨by have := HK.out; omega⟩, ⟨?_⟩, ⟨by rw [List.length_append, HO.out]; rfl⟩, HR6, HB6⟩
      rw [HTK.out, hints_append, HH.out]
      simp only [hintsOf, HF.out, Option.bind_some, Option.map_some]
end Go.Proofs.Yteplnpedakdjkaa.Hn
namespace Go.Proofs.Yteplnpedakdjkaa.Ext
open Go.RowKit Go.Proofs.Yteplnpedakdjkaa.Pt Go.Proofs.YteplnpedakdjkaaW.PrintWords Go.Proofs.Yteplnpedakdjkaa.Fr Go.Proofs.Yteplnpedakdjkaa.Hn
def hint_Get.f (l : List Int) (a : Int) : Option (List Hi × Bool) := (scan_All.f l).bind fun r => if r.1.length ≤ 1000000000 then getR l a r else none
theorem hint_Get.calls (A0 : Option Addr) (c0 : Nat) (l0 : List Int) (a1 : Int) (r1 : List Hi) (r2 : Bool) (w : World) (hr0 : Kd.C (Kd.int .u8) w A0 l0.length l0) (hc0 : l0.length ≤ c0) (h : hint_Get.f l0 a1 = some (r1, r2)) :
  Calls Try.prog 12 #[.slice A0 l0.length c0, .int .i64 a1] w fun e w' => ∃ v0_ : Value, e = .returned (.tuple #[v0_, .bool r2]) ∧ Kd.R k41 41 w' w.heap.size (fun _ => True) v0_ r1 ∧ Below w.heap.size w w' := by
 unfold hint_Get.f at h
 cases hs : scan_All.f l0 with
 | none => rw [hs] at h; cases h
 | some r =>
  obtain ⟨L, q1, q2, q3⟩ := r
  rw [hs, Option.bind_some] at h
  by_cases hL : L.length ≤ 1000000000
  ·rw [if_pos hL] at h
   exact get_calls A0 c0 l0 a1 w L q1 q2 q3 r1 r2 hc0 hr0 hs hL h
  ·rw [if_neg hL] at h
   cases h
end Go.Proofs.Yteplnpedakdjkaa.Ext

