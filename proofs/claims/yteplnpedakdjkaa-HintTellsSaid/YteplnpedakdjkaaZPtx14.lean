-- Written by a program of this session over the translation (a turned copy of the kit's printer). Lean checks it.
import Derived.Test.YteplnpedakdjkaaZPtx0
import Derived.Test.YteplnpedakdjkaaZPtx10
import Derived.Test.YteplnpedakdjkaaZPtx12
import Derived.Test.YteplnpedakdjkaaZPtx13
import Derived.Test.YteplnpedakdjkaaZGa
namespace Go.Proofs.Yteplnpedakdjkaa.Pt
open Go.RowKit Go.Proofs.YteplnpedakdjkaaW.PrintWords Go.Proofs.YteplnpedakdjkaaW.PrintLast Go.Proofs.YteplnpedakdjkaaW.PrintMore
attribute [local go_sem] max2_int min2_int max_two min_two max_three min_three max_four min_four   -- for this text's walks alone
set_option linter.unusedVariables false
set_option linter.unusedSimpArgs false

open Go.Proofs.Yteplnpedakdjkaa.Ext
/-! ### souterrainref11_Get: function 13 -/
abbrev mk14_0 : Array Bool := #[false, false, false, false, false, false, false, false, false, false, false, false, false, false, false, false, false, false, false, false, false, false, false, false, false]
abbrev mk14_1 : Array Bool := #[true, false, false, false, false, false, false, false, false, false, false, false, false, false, false, false, false, false, false, false, false, false, false, false, false]
abbrev mk14_2 : Array Bool := #[true, true, false, false, false, false, false, false, false, false, false, false, false, false, false, false, false, false, false, false, false, false, false, false, false]
abbrev mk14_3 : Array Bool := #[true, true, true, false, false, false, false, false, false, false, false, false, false, false, false, false, false, false, false, false, false, false, false, false, false]
abbrev mk14_4 : Array Bool := #[true, true, true, false, false, true, false, false, false, false, false, false, false, false, false, false, false, false, false, false, false, false, false, false, false]
abbrev mk14_5 : Array Bool := #[true, true, true, false, false, true, true, false, false, false, false, false, false, false, false, false, false, false, false, false, false, false, false, false, false]
abbrev mk14_6 : Array Bool := #[true, true, true, false, false, true, true, false, true, false, false, false, false, false, false, false, false, false, false, false, false, false, false, false, false]
abbrev mk14_7 : Array Bool := #[true, true, true, false, false, true, true, false, true, true, false, false, false, false, false, false, false, false, false, false, false, false, false, false, false]
abbrev mk14_8 : Array Bool := #[true, true, true, false, false, true, true, false, true, true, false, true, false, false, false, false, false, false, false, false, false, false, false, false, false]
abbrev mk14_9 : Array Bool := #[true, true, true, false, false, true, true, false, true, true, false, true, true, false, false, false, false, false, false, false, false, false, false, false, false]
abbrev mk14_10 : Array Bool := #[true, true, true, false, false, true, true, false, true, true, false, true, true, false, false, false, true, false, false, false, false, false, false, false, false]
abbrev mk14_11 : Array Bool := #[true, true, true, false, false, true, true, false, true, true, false, true, true, false, false, false, true, true, false, false, false, false, false, false, false]
abbrev mk14_12 : Array Bool := #[true, true, true, true, false, true, true, false, true, true, false, true, true, false, false, false, true, true, false, false, false, false, false, false, false]
abbrev mk14_13 : Array Bool := #[true, true, true, true, true, true, true, false, true, true, false, true, true, false, false, false, true, true, false, false, false, false, false, false, false]
abbrev mk14_14 : Array Bool := #[true, true, true, true, true, true, true, true, true, true, false, true, true, false, false, false, true, true, false, false, false, false, false, false, false]
abbrev mk14_15 : Array Bool := #[true, true, true, true, true, true, true, true, true, true, false, true, true, true, false, false, true, true, false, false, false, false, false, false, false]
abbrev mk14_16 : Array Bool := #[true, true, true, true, true, true, true, true, true, true, false, true, true, true, true, false, true, true, false, false, false, false, false, false, false]
abbrev mk14_17 : Array Bool := #[true, true, true, true, true, true, true, true, true, true, false, true, true, true, true, true, true, true, false, false, false, false, false, false, false]
abbrev mk14_18 : Array Bool := #[true, true, true, true, true, true, true, true, true, true, false, true, true, true, true, true, true, true, true, false, false, false, false, false, false]
abbrev mk14_19 : Array Bool := #[true, true, true, true, true, true, true, true, true, true, false, true, true, true, true, true, true, true, true, true, false, false, false, false, false]
abbrev mk14_20 : Array Bool := #[true, true, true, true, true, true, true, true, true, true, false, true, true, true, true, true, true, true, true, true, true, false, false, false, false]
abbrev mk14_21 : Array Bool := #[true, true, true, true, true, true, true, true, true, true, true, true, true, true, true, true, true, true, true, true, true, false, false, false, false]
abbrev mk14_22 : Array Bool := #[true, true, true, true, true, true, true, true, true, true, true, true, true, true, true, true, true, true, true, true, true, true, false, false, false]
abbrev mk14_23 : Array Bool := #[true, true, true, true, true, true, true, true, true, true, true, true, true, true, true, true, true, true, true, true, true, true, true, false, false]
abbrev mk14_24 : Array Bool := #[true, true, true, true, true, true, true, true, true, true, true, true, true, true, true, true, true, true, true, true, true, true, true, true, false]
abbrev mk14_25 : Array Bool := #[true, true, true, true, true, true, true, true, true, true, true, true, true, true, true, true, true, true, true, true, true, true, true, true, true]
abbrev mk14_26 : Array Bool := #[false, false, false, false, false, false, false, false, false, false, false, false]
abbrev mk14_27 : Array Bool := #[true, false, false, false, false, false, false, false, false, false, false, false]
abbrev mk14_28 : Array Bool := #[true, true, false, false, false, false, false, false, false, false, false, false]
abbrev mk14_29 : Array Bool := #[true, true, true, false, false, false, false, false, false, false, false, false]
abbrev mk14_30 : Array Bool := #[true, true, true, true, false, false, false, false, false, false, false, false]
abbrev mk14_31 : Array Bool := #[true, true, true, true, true, false, false, false, false, false, false, false]
abbrev mk14_32 : Array Bool := #[true, true, true, true, true, true, false, false, false, false, false, false]
abbrev mk14_33 : Array Bool := #[true, true, true, true, true, true, true, false, false, false, false, false]
abbrev mk14_34 : Array Bool := #[true, true, true, true, true, true, true, true, false, false, false, false]
abbrev mk14_35 : Array Bool := #[true, true, true, true, true, true, true, true, true, false, false, false]
abbrev mk14_36 : Array Bool := #[true, true, true, true, true, true, true, true, true, true, false, false]
abbrev mk14_37 : Array Bool := #[true, true, true, true, true, true, true, true, true, true, true, false]
abbrev mk14_38 : Array Bool := #[true, true, true, true, true, true, true, true, true, true, true, true]
abbrev mk14_39 : Array Bool := #[true, true, true, true, true, true, false, false, true, false, false, false]
abbrev mk14_40 : Array Bool := #[true, true, true, true, true, true, false, false, true, true, false, false]
abbrev mk14_41 : Array Bool := #[true, true, true, true, true, true, true, false, true, true, false, false]
section
variable {P : Program} {ops : Array Oper} {Q : Exit → Act → World → Prop} {md : Region.Mode} {S : World → Prop} {ds : List Nat}
theorem py14_ (i N : Nat) {oi : Oper} (v : Value) {fuel : Nat} {l : Array Bool} {a : Act} {w : World} (l' : Array Bool) {T : Bool × List (List Nat × List Nat)} (HT : Aside0 (rtab md ops = T)) (hi : ops[i]? = some oi) (hN : oi.dst = some N) (hc : anyT T l.toList l'.toList i = true)
  (hQ : ∀ c a w, Q (.panic c) (a.put oi.dst v) w → Q (.panic c) a w) (hy : Yields P ops oi v a) {a' : Act} (ha : a.put (some N) v = a')
  (h : wpAnyLast P md ops Q S ds fuel l' a' w) : wpAnyLast P md ops Q S ds (fuel + 1) l a w :=
 pure_ l' hi hN (any_of HT.out hc) hQ hy ha h
theorem pS14 : (∀ (l : List Value) (i : Nat) (a : Value), l.toArray.setIfInBounds i a = (l.set i a).toArray) ∧ (∀ (x : Value) (l : List Value) (a : Value), (x :: l).set 0 a = a :: l) ∧ (∀ (x : Value) (l : List Value) (i : Nat) (a : Value), (x :: l).set (i + 1) a = x :: l.set i a) ∧ (∀ n : Int, IntKind.i64.wrap n = Go.RowKit.wrap64 n) ∧ (∀ n : Int, IntKind.i32.wrap n = Go.RowKit.wrap32 n) :=
 ⟨fun l i a => List.setIfInBounds_toArray .., fun x l a => List.set_cons_zero .., fun x l i a => List.set_cons_succ .., i64_w, i32_w⟩
end
def souterrainref11_Get.l0 : Nat → List Int → Int → List (S41) → List (S53) → Int → Option ((List (S41)) × Bool)
 | 0, _, _, _, _, _ => none
 | k + 1, x0, x1, x6, x7, x11 => if (wrap64 (x11 + 1)) < (x7.length : Int) then (if 0 ≤ x11 then (if x11 < (x7.length : Int) then (if (((rd_T53 x7 x11).f2).length : Int) < 8 then (some (([] : List (S41)), false)) else (if 0 < (((rd_T53 x7 x11).f2).length : Int) then (if 7 ≤ (((rd_T53 x7 x11).f2).length : Int) then (if 1 ≤ 5 then (if 5 ≤ (((rd_T53 x7 x11).f2).length : Int) then ((souterrainref11_unfour.f ((((rd_T53 x7 x11).f2).take 5).drop 1)).bind fun t341 => (if 5 < (((rd_T53 x7 x11).f2).length : Int) then (if 6 < (((rd_T53 x7 x11).f2).length : Int) then (if x6.length < 3518437208883 then (souterrainref11_Get.l0 k x0 x1 (x6 ++ [(⟨wrap64 (rd ((rd_T53 x7 x11).f2) 0), strOfNums (((rd_T53 x7 x11).f2).drop 7), t341, wrap64 ((wrap64 (256 * (wrap64 (rd ((rd_T53 x7 x11).f2) 5)))) + (wrap64 (rd ((rd_T53 x7 x11).f2) 6)))⟩ : S41)]) x7 (wrap64 (x11 + 1))) else (none)) else (none)) else (none))) else (none)) else (none)) else (none)) else (none))) else (none)) else (none)) else (if (x0.length : Int) = 0 then (some (([] : List (S41)), false)) else ((souterrainref11_Put.f k x6 x1).bind fun t347 => (if (strOfNums t347).toList = (strOfNums x0).toList then (some (x6, true)) else (some (([] : List (S41)), false)))))
def souterrainref11_Get.f (k : Nat) (l0 : List Int) (a1 : Int) : Option ((List (S41)) × Bool) := (souterrainref03_All.f k l0).bind fun bt325 => (souterrainref11_Get.l0 k l0 a1 ([] : List (S41)) bt325.1 0)
def souterrainref11_Get.T9 : Bool × List (List Nat × List Nat) := (true, [([], []), ([], []), ([1], [1]), ([2], [2]), ([3], [3]), ([], []), ([5], [5]), ([6], [6]), ([], []), ([8], [8]), ([9], [9]), ([], []), ([11], [11]), ([12], [12]), ([13], [13]), ([14], [14]), ([], []), ([16], [16]), ([17], [17]), ([18], [18]), ([15, 19], [15, 19]), ([4, 7, 10, 20], [4, 7, 10, 20]), ([21], [21]), ([0, 22, 10], [0, 22]), ([23, 23, 0, 1, 2, 3, 4, 5, 6, 7, 8, 9, 10, 11, 12, 13, 14, 15, 16, 17, 18, 19, 20, 21, 22, 23], [0, 23])])
def souterrainref11_Get.B9 : List Nat := [0, 0, 2, 6, 14, 0, 32, 96, 0, 256, 768, 0, 2048, 6144, 14336, 30720, 0, 65536, 196608, 458752, 1046528, 2097150, 4194302, 8388607, 16777215]
theorem souterrainref11_Get.tab9 : rtab .any (opsOf Try.f13 9) = souterrainref11_Get.T9 := by kernel_rfl
theorem souterrainref11_Get.bits9 : waitsOk souterrainref11_Get.T9.2 souterrainref11_Get.B9 = true := by kernel_rfl
def souterrainref11_Get.T10 : Bool × List (List Nat × List Nat) := (true, [([], []), ([0], [0]), ([1], [1]), ([2], [2]), ([3], [3]), ([3], [3]), ([4, 5, 3, 3], [3, 4, 5]), ([6, 3], [3, 6]), ([3], [3]), ([8, 3], [3, 8]), ([7, 9, 3], [3, 7, 9]), ([3, 10], [3, 10])])
def souterrainref11_Get.B10 : List Nat := [0, 1, 3, 7, 15, 15, 63, 127, 15, 271, 1023, 2047]
theorem souterrainref11_Get.tab10 : rtab .any (opsOf Try.f13 10) = souterrainref11_Get.T10 := by kernel_rfl
theorem souterrainref11_Get.bits10 : waitsOk souterrainref11_Get.T10.2 souterrainref11_Get.B10 = true := by kernel_rfl
set_option maxHeartbeats 8000000 in
set_option maxRecDepth 100000 in
theorem souterrainref11_Get.calls (k : Nat) (A0 : Option Addr) (c0 : Nat) (l0 : List Int) (a1 : Int) (r1 : List (S41)) (r2 : Bool) (w : World) (hr0 : Kd.C (Kd.int .u8) w A0 l0.length l0) (hc0 : l0.length ≤ c0) (h : souterrainref11_Get.f k l0 a1 = some (r1, r2)) :
  Calls Try.prog 13 #[.slice A0 l0.length c0, .int .i64 a1] w fun e w' => ∃ v0_ : Value, e = .returned (.tuple #[v0_, .bool r2]) ∧ Kd.R k41 41 w' w.heap.size (fun _ => True) v0_ r1 ∧ Below w.heap.size w w' := by
 have hu41 := Try.underlying41
 have HR0 := Aside0.mk hr0
 have HC0 := Aside0.mk hc0
 clear hr0 hc0
 have HB := Aside0.mk (Below.refl w.heap.size w)
 have H : ((souterrainref03_All.f k l0).bind fun bt325 => (souterrainref11_Get.l0 k l0 a1 ([] : List (S41)) bt325.1 0)) = some (r1, r2) := h
 clear h
 replace H := Option.bind_eq_some_iff.mp H
 obtain ⟨⟨t325, t326, t327, t328⟩, A30, H⟩ := H
 replace H : (souterrainref11_Get.l0 k l0 a1 ([] : List (S41)) t325 0) = some (r1, r2) := H
 have A3 := Aside0.mk A30
 clear A30
 have H' := Aside0.mk H
 clear H
 go_enter Try.func13, Try.ntmps13
 go_wp2_with (first | ((with_reducible refine gate_callee (f := 27) rfl ?_); refine goesL_ (some 15) rfl rfl Try.func27 (by kernel_rfl) rfl #[.slice A0 l0.length c0] rfl (by (try simp only [List.map_toArray, List.map_cons, List.map_nil]); first | done | rfl | (simp only [List.length_drop, List.length_take]; rfl)) ?_; (with_reducible refine (souterrainref03_All.calls k _ _ l0 t325 t326 t327 t328 _ ?side1 ?side2 A3.out).mono ?_); (case side1 => repeat (first | exact HR0.out | (with_reducible refine Kd.C_alloc ?_ _) | (with_reducible refine Kd.C_drewN ?_ _) | (with_reducible refine Kd.C_drew ?_))); (case side2 => exact HC0.out); rintro e w4 ⟨v329, rfl, ho0, hb⟩; refine ⟨_, rfl, ?_⟩; have n0_ := Aside0.mk (Kd.S_lower ho0 (below_size (by repeat (first | (with_reducible first | exact HB.out | apply below_alloc | apply pw_below_drewN | apply below_drew1) | exact HB.out)))); have n1_ := Aside0.mk (below_step (by repeat (first | (with_reducible first | exact HB.out | apply below_alloc | apply pw_below_drewN | apply below_drew1) | exact HB.out)) hb); clear HB; have HO330 := n0_; have HB := n1_; clear n0_ n1_; (try clear hb); (try clear hb2); (try clear hk); (try clear hi); (try clear ho0)))
 go_loopg [6, 11] k (fun kq v6 v11 w' => ∃ (x6_1 : List (S41)) (x11_1 : Int), v11 = .int .i64 x11_1 ∧ Aside0 (souterrainref11_Get.l0 kq l0 a1 x6_1 t325 x11_1 = some (r1, r2)) ∧ Aside0 (kq ≤ k) ∧ Aside0 (Kd.R k41 41 w' w.heap.size (fun _ => True) v6 x6_1) ∧ Aside0 (Kd.S k53 53 w' w.heap.size (fun _ => True) v329 t325) ∧ Aside0 (Below w.heap.size w w'))
 case atStart => exact ⟨(([] : List (S41))), (0), (by first | rfl | (simp; done) | (simp [*]; done)), H', ⟨Nat.le_refl _⟩, ⟨by first | exact Kd.R_nil _ _ _ _ _ | exact Kd.N_nil _ _ _ _ _ | exact Kd.V_nil _ _ _ _ _ | exact Kd.Q_nil _ _ _ _ _ | exact Kd.S_nil _ _ _ _ _⟩, ⟨by (with_reducible repeat (first | apply Kd.S_alloc | apply Kd.S_drewN | apply Kd.S_drew)); exact HO330.out⟩, ⟨by repeat (first | (with_reducible first | exact HB.out | apply below_alloc | apply pw_below_drewN | apply below_drew1) | exact HB.out)⟩⟩
 case round =>
  clear H'
  try clear c1
  try clear c2
  try clear p2
  obtain ⟨x6_1, x11_1, rfl, HA, HK1, HO_6, HO_7, HB⟩ := hrel
  cases gk with
  | zero => exact absurd HA.out (by simp [souterrainref11_Get.l0])
  | succ k1 =>
   have H := HA.out
   clear HA
   simp only [souterrainref11_Get.l0] at H
   by_cases c5 : (wrap64 (x11_1 + 1)) < (t325.length : Int)
   ·rw [if_pos c5] at H
    have c5b0 : decide ((wrap64 (x11_1 + 1)) < (t325.length : Int)) = true := decide_eq_true c5
    clear c5
    by_cases c6 : 0 ≤ x11_1
    ·rw [if_pos c6] at H
     have c6b0 : decide (0 ≤ x11_1) = true := decide_eq_true c6
     clear c6
     by_cases c7 : x11_1 < (t325.length : Int)
     ·rw [if_pos c7] at H
      have c7b0 : decide (x11_1 < (t325.length : Int)) = true := decide_eq_true c7
      clear c7
      by_cases c8 : (((rd_T53 t325 x11_1).f2).length : Int) < 8
      ·rw [if_pos c8] at H
       have c8b0 : decide ((((rd_T53 t325 x11_1).f2).length : Int) < 8) = true := decide_eq_true c8
       have c8b1 : decide (((rd_T53 t325 x11_1).f2).length < 8) = true := decide_eq_true (by omega)
       clear c8
       simp only [Option.some.injEq, Prod.mk.injEq] at H
       obtain ⟨rfl, rfl⟩ := H
       obtain ⟨Ao9, co9, eo9⟩ := Kd.S_slice HO_7.out
       subst eo9
       have p331 : 0 ≤ (x11_1 : Int) := of_decide_eq_true (by first | (with_reducible assumption) | assumption)
       have q331 : x11_1 < (t325.length : Int) := of_decide_eq_true (by first | (with_reducible assumption) | assumption)
       obtain ⟨ad331, A331_2, c331_2, e331, hx331_0, hx331_1, hx331_2, hl331_2, hi331_2⟩ := at_T53 (Kd.S_reads' HO_7.out).2.2 x11_1 p331 q331
       cases e331
       obtain ⟨ce331, hce331, hMe331, hcc331⟩ := Kd.S_get HO_7.out z53 x11_1 p331 (by first | exact q331 | exact of_decide_eq_true (by first | (with_reducible assumption) | assumption) | (have e_ := (Kd.S_reads' HO_7.out).1; omega))
       obtain ⟨ve331_2, rfl, ge331_2⟩ := k53_openM hMe331
       have hv331_2 := hcc331 2 _ rfl
       rw [add_field _ _ 2 (by omega)] at hv331_2
       replace hv331_2 := Option.some.inj (hv331_2.symm.trans hx331_2)
       rw [hv331_2] at ge331_2
       have HL331_2 := Aside0.mk (show Kd.R (Kd.int .u8) 5 _ _ _ _ ((rd_T53 t325 x11_1).f2) from ge331_2)
       clear hv331_2 ge331_2
       clear hcc331 hce331
       have HR331_2 := Aside0.mk hi331_2
       have HC331_2 := Aside0.mk hl331_2
       clear hi331_2 hl331_2
       replace p331 := eq_true p331
       replace q331 := eq_true q331
       go_wp2
       go_ret2
       exact ⟨_, by first | rfl | (simp [errW_none, errW_some] <;> rfl) | (simp [*, errW_none, errW_some] <;> rfl), by first | exact Kd.R_nil _ _ _ _ _ | exact Kd.N_nil _ _ _ _ _ | exact Kd.V_nil _ _ _ _ _ | exact Kd.Q_nil _ _ _ _ _ | exact Kd.S_nil _ _ _ _ _, by repeat (first | (with_reducible first | exact HB.out | apply below_alloc | apply pw_below_drewN | apply below_drew1) | exact HB.out)⟩
      ·rw [if_neg c8] at H
       have c8b0 : decide ((((rd_T53 t325 x11_1).f2).length : Int) < 8) = false := decide_eq_false c8
       have c8b1 : decide (((rd_T53 t325 x11_1).f2).length < 8) = false := decide_eq_false (by omega)
       clear c8
       by_cases c10 : 0 < (((rd_T53 t325 x11_1).f2).length : Int)
       ·rw [if_pos c10] at H
        have c10b0 : decide (0 < (((rd_T53 t325 x11_1).f2).length : Int)) = true := decide_eq_true c10
        have c10b1 : decide (0 < ((rd_T53 t325 x11_1).f2).length) = true := decide_eq_true (by omega)
        clear c10
        by_cases c11 : 7 ≤ (((rd_T53 t325 x11_1).f2).length : Int)
        ·rw [if_pos c11] at H
         have c11b0 := eq_true c11
         have c11b1 : decide (7 ≤ (((rd_T53 t325 x11_1).f2).length : Int)) = true := decide_eq_true c11
         clear c11
         obtain ⟨y333, hy333⟩ : ∃ y_ : List Int, y_ = (((rd_T53 t325 x11_1).f2).drop 7) := ⟨_, rfl⟩
         replace H : (if 1 ≤ 5 then (if 5 ≤ (((rd_T53 t325 x11_1).f2).length : Int) then ((souterrainref11_unfour.f ((((rd_T53 t325 x11_1).f2).take 5).drop 1)).bind fun t341 => (if 5 < (((rd_T53 t325 x11_1).f2).length : Int) then (if 6 < (((rd_T53 t325 x11_1).f2).length : Int) then (if x6_1.length < 3518437208883 then (souterrainref11_Get.l0 k1 l0 a1 (x6_1 ++ [(⟨wrap64 (rd ((rd_T53 t325 x11_1).f2) 0), strOfNums y333, t341, wrap64 ((wrap64 (256 * (wrap64 (rd ((rd_T53 t325 x11_1).f2) 5)))) + (wrap64 (rd ((rd_T53 t325 x11_1).f2) 6)))⟩ : S41)]) t325 (wrap64 (x11_1 + 1))) else (none)) else (none)) else (none))) else (none)) else (none)) = some (r1, r2) := by first | (rw [hy333]; with_reducible exact H) | (have H2_ := (Option.bind_some _ _).symm.trans H; rw [hy333]; with_reducible exact H2_) | (have H2_ := (Option.bind_some _ _).symm.trans H; with_reducible exact H2_) | with_reducible exact H | (rw [hy333]; exact H) | exact H
         have Ny333 := Aside0.mk hy333
         clear hy333
         by_cases c12 : 1 ≤ 5
         ·rw [if_pos c12] at H
          have c12b0 := eq_true c12
          have c12b1 : decide (1 ≤ 5) = true := decide_eq_true c12
          clear c12
          by_cases c13 : 5 ≤ (((rd_T53 t325 x11_1).f2).length : Int)
          ·rw [if_pos c13] at H
           have c13b0 := eq_true c13
           have c13b1 : decide (5 ≤ (((rd_T53 t325 x11_1).f2).length : Int)) = true := decide_eq_true c13
           clear c13
           obtain ⟨y337, hy337⟩ : ∃ y_ : List Int, y_ = ((((rd_T53 t325 x11_1).f2).take 5).drop 1) := ⟨_, rfl⟩
           replace H : ((souterrainref11_unfour.f y337).bind fun t341 => (if 5 < (((rd_T53 t325 x11_1).f2).length : Int) then (if 6 < (((rd_T53 t325 x11_1).f2).length : Int) then (if x6_1.length < 3518437208883 then (souterrainref11_Get.l0 k1 l0 a1 (x6_1 ++ [(⟨wrap64 (rd ((rd_T53 t325 x11_1).f2) 0), strOfNums y333, t341, wrap64 ((wrap64 (256 * (wrap64 (rd ((rd_T53 t325 x11_1).f2) 5)))) + (wrap64 (rd ((rd_T53 t325 x11_1).f2) 6)))⟩ : S41)]) t325 (wrap64 (x11_1 + 1))) else (none)) else (none)) else (none))) = some (r1, r2) := by first | (rw [hy337]; with_reducible exact H) | (have H2_ := (Option.bind_some _ _).symm.trans H; rw [hy337]; with_reducible exact H2_) | (have H2_ := (Option.bind_some _ _).symm.trans H; with_reducible exact H2_) | with_reducible exact H | (rw [hy337]; exact H) | exact H
           have Ny337 := Aside0.mk hy337
           clear hy337
           replace H := Option.bind_eq_some_iff.mp H
           obtain ⟨t341, A140, H⟩ := H
           replace H : (if 5 < (((rd_T53 t325 x11_1).f2).length : Int) then (if 6 < (((rd_T53 t325 x11_1).f2).length : Int) then (if x6_1.length < 3518437208883 then (souterrainref11_Get.l0 k1 l0 a1 (x6_1 ++ [(⟨wrap64 (rd ((rd_T53 t325 x11_1).f2) 0), strOfNums y333, t341, wrap64 ((wrap64 (256 * (wrap64 (rd ((rd_T53 t325 x11_1).f2) 5)))) + (wrap64 (rd ((rd_T53 t325 x11_1).f2) 6)))⟩ : S41)]) t325 (wrap64 (x11_1 + 1))) else (none)) else (none)) else (none)) = some (r1, r2) := H
           have A14 := Aside0.mk A140
           clear A140
           by_cases c15 : 5 < (((rd_T53 t325 x11_1).f2).length : Int)
           ·rw [if_pos c15] at H
            have c15b0 : decide (5 < (((rd_T53 t325 x11_1).f2).length : Int)) = true := decide_eq_true c15
            have c15b1 : decide (5 < ((rd_T53 t325 x11_1).f2).length) = true := decide_eq_true (by omega)
            clear c15
            by_cases c16 : 6 < (((rd_T53 t325 x11_1).f2).length : Int)
            ·rw [if_pos c16] at H
             have c16b0 : decide (6 < (((rd_T53 t325 x11_1).f2).length : Int)) = true := decide_eq_true c16
             have c16b1 : decide (6 < ((rd_T53 t325 x11_1).f2).length) = true := decide_eq_true (by omega)
             clear c16
             by_cases c17 : x6_1.length < 3518437208883
             ·rw [if_pos c17] at H
              have LMc17 := Aside0.mk c17
              clear c17
              obtain ⟨y344, hy344⟩ : ∃ y_ : List (S41), y_ = (x6_1 ++ [(⟨wrap64 (rd ((rd_T53 t325 x11_1).f2) 0), strOfNums y333, t341, wrap64 ((wrap64 (256 * (wrap64 (rd ((rd_T53 t325 x11_1).f2) 5)))) + (wrap64 (rd ((rd_T53 t325 x11_1).f2) 6)))⟩ : S41)]) := ⟨_, rfl⟩
              replace H : (souterrainref11_Get.l0 k1 l0 a1 y344 t325 (wrap64 (x11_1 + 1))) = some (r1, r2) := by first | (rw [hy344]; with_reducible exact H) | (have H2_ := (Option.bind_some _ _).symm.trans H; rw [hy344]; with_reducible exact H2_) | (have H2_ := (Option.bind_some _ _).symm.trans H; with_reducible exact H2_) | with_reducible exact H | (rw [hy344]; exact H) | exact H
              have Ny344 := Aside0.mk hy344
              clear hy344
              have H' := Aside0.mk H
              clear H
              obtain ⟨Ao18, co18, eo18⟩ := Kd.S_slice HO_7.out
              subst eo18
              have p331 : 0 ≤ (x11_1 : Int) := of_decide_eq_true (by first | (with_reducible assumption) | assumption)
              have q331 : x11_1 < (t325.length : Int) := of_decide_eq_true (by first | (with_reducible assumption) | assumption)
              obtain ⟨ad331, A331_2, c331_2, e331, hx331_0, hx331_1, hx331_2, hl331_2, hi331_2⟩ := at_T53 (Kd.S_reads' HO_7.out).2.2 x11_1 p331 q331
              cases e331
              obtain ⟨ce331, hce331, hMe331, hcc331⟩ := Kd.S_get HO_7.out z53 x11_1 p331 (by first | exact q331 | exact of_decide_eq_true (by first | (with_reducible assumption) | assumption) | (have e_ := (Kd.S_reads' HO_7.out).1; omega))
              obtain ⟨ve331_2, rfl, ge331_2⟩ := k53_openM hMe331
              have hv331_2 := hcc331 2 _ rfl
              rw [add_field _ _ 2 (by omega)] at hv331_2
              replace hv331_2 := Option.some.inj (hv331_2.symm.trans hx331_2)
              rw [hv331_2] at ge331_2
              have HL331_2 := Aside0.mk (show Kd.R (Kd.int .u8) 5 _ _ _ _ ((rd_T53 t325 x11_1).f2) from ge331_2)
              clear hv331_2 ge331_2
              clear hcc331 hce331
              have HR331_2 := Aside0.mk hi331_2
              have HC331_2 := Aside0.mk hl331_2
              clear hi331_2 hl331_2
              replace p331 := eq_true p331
              replace q331 := eq_true q331
              try go_wp2
              have n0_ := Aside0.mk (Kd.R_drew HO_6.out)
              have n1_ := Aside0.mk (Kd.S_drew HO_7.out)
              have n2_ := Aside0.mk (Kd.R_drew HL331_2.out)
              have n3_ := Aside0.mk (Kd.C_drew HR331_2.out)
              have n4_ := Aside0.mk (below_drew1 HB.out)
              clear HO_6
              clear HO_7
              clear HL331_2
              clear HR331_2
              clear HB
              have HO_6 := n0_
              have HO_7 := n1_
              have HL331_2 := n2_
              have HR331_2 := n3_
              have HB := n4_
              clear n0_ n1_ n2_ n3_ n4_
              have p332 : 0 ≤ (0 : Int) := (by omega)
              have q332 : 0 < (((rd_T53 t325 x11_1).f2).length : Int) := of_decide_eq_true (by first | (with_reducible assumption) | assumption)
              obtain ⟨ad332, e332, hx332_0⟩ := Kd.at_int (by repeat (first | (with_reducible exact HR331_2.out) | (with_reducible refine Kd.C_alloc ?_ _) | (with_reducible refine Kd.C_drewN ?_ _) | (with_reducible refine Kd.C_drew ?_) | exact HR331_2.out)) 0 p332 q332
              cases e332
              have qi332 : (0 < ((rd_T53 t325 x11_1).f2).length) = True := eq_true (by omega)
              (try rw [show ((0 : Int)).toNat = 0 from rfl] at hx332_0)
              (try rw [Addr.add_zero'] at hx332_0)
              replace p332 := eq_true p332
              replace q332 := eq_true q332
              have q20 : (7 : Int) ≤ ((((rd_T53 t325 x11_1).f2).length : Int) : Int) := of_decide_eq_true (by first | (with_reducible assumption) | assumption)
              obtain ⟨i020, hi020, _, hsz20, _⟩ := info_parts info5
              have hroom20 : ((rd_T53 t325 x11_1).f2).length ≤ c331_2 := HC331_2.out
              have hC20 : Kd.C (Kd.int .u8) _ (some ad332) ((rd_T53 t325 x11_1).f2).length ((rd_T53 t325 x11_1).f2) := (by repeat (first | (with_reducible exact HR331_2.out) | (with_reducible refine Kd.C_alloc ?_ _) | (with_reducible refine Kd.C_drewN ?_ _) | (with_reducible refine Kd.C_drew ?_) | exact HR331_2.out))
              have hcut20 := cut_from (P := Try.prog) 23 5 .i64 Try.underlying23 hi020 1 hsz20 (some ad332) ((rd_T53 t325 x11_1).f2).length c331_2 7 (by omega) q20
              have hr20 := Kd.C_drop (m := (7 : Int).toNat) (c := c331_2) hC20 (by omega) hroom20
              obtain ⟨A20, hA20⟩ : ∃ A1, A1 = (if c331_2 = (7 : Int).toNat then (some ad332) else ((some ad332) : Option Addr).map (·.add ((7 : Int).toNat * 1))) := ⟨_, rfl⟩
              obtain ⟨c20, hc20⟩ : ∃ c1, c1 = c331_2 - (7 : Int).toNat := ⟨_, rfl⟩
              have hy20 : y333.length = ((rd_T53 t325 x11_1).f2).length - (7 : Int).toNat := (by rw [Ny333.out, List.length_drop] <;> omega)
              rw [show ((rd_T53 t325 x11_1).f2).drop (7 : Int).toNat = y333 from Ny333.out.symm] at hr20
              replace hr20 : Kd.C (Kd.int .u8) _ A20 y333.length y333 := (by rw [hA20]; exact hr20)
              rw [← hy20, ← hA20, ← hc20] at hcut20
              have HR336 := Aside0.mk hr20
              have HC336 := Aside0.mk (show y333.length ≤ c20 from by rw [hy20, hc20]; exact Nat.sub_le_sub_right hroom20 _)
              clear hr20 hC20 hroom20 hi020 hsz20 hc20
              have KY20 := Aside0.mk hy20
              have KA20 := Aside0.mk hA20
              clear hy20 hA20
              replace q20 := eq_true q20
              have q21 : (5 : Int) ≤ ((((rd_T53 t325 x11_1).f2).length : Int) : Int) := of_decide_eq_true (by first | (with_reducible assumption) | assumption)
              obtain ⟨i021, hi021, _, hsz21, _⟩ := info_parts info5
              have hroom21 : ((rd_T53 t325 x11_1).f2).length ≤ c331_2 := HC331_2.out
              have hC21 : Kd.C (Kd.int .u8) _ (some ad332) ((rd_T53 t325 x11_1).f2).length ((rd_T53 t325 x11_1).f2) := (by repeat (first | (with_reducible exact HR331_2.out) | (with_reducible refine Kd.C_alloc ?_ _) | (with_reducible refine Kd.C_drewN ?_ _) | (with_reducible refine Kd.C_drew ?_) | exact HR331_2.out))
              have ql21 : (1 : Int) ≤ (5 : Int) := (by omega)
              have hcut21 := cut_mid (P := Try.prog) 23 5 .i64 .i64 Try.underlying23 hi021 1 hsz21 (some ad332) ((rd_T53 t325 x11_1).f2).length c331_2 1 5 (by omega) ql21 q21 hroom21
              have hr21 := Kd.C_mid (lo := (1 : Int).toNat) (hi := (5 : Int).toNat) (c := c331_2) hC21 (by omega) (by omega) hroom21
              obtain ⟨A21, hA21⟩ : ∃ A1, A1 = (if c331_2 = (1 : Int).toNat then (some ad332) else ((some ad332) : Option Addr).map (·.add ((1 : Int).toNat * 1))) := ⟨_, rfl⟩
              obtain ⟨c21, hc21⟩ : ∃ c1, c1 = c331_2 - (1 : Int).toNat := ⟨_, rfl⟩
              have hy21 : y337.length = (5 : Int).toNat - (1 : Int).toNat := (by rw [Ny337.out, List.length_drop, List.length_take] <;> omega)
              rw [show (((rd_T53 t325 x11_1).f2).take (5 : Int).toNat).drop (1 : Int).toNat = y337 from Ny337.out.symm] at hr21
              replace hr21 : Kd.C (Kd.int .u8) _ A21 y337.length y337 := (by rw [hA21]; exact hr21)
              rw [← hy21, ← hA21, ← hc21] at hcut21
              have HR340 := Aside0.mk hr21
              have HC340 := Aside0.mk (show y337.length ≤ c21 from by rw [hy21, hc21]; exact Nat.sub_le_sub_right (Nat.le_trans (by omega) hroom21) _)
              clear hr21 hC21 hroom21 hi021 hsz21 hc21
              have KY21 := Aside0.mk hy21
              have KA21 := Aside0.mk hA21
              clear hy21 hA21
              replace q21 := eq_true q21
              have p342 : 0 ≤ (5 : Int) := (by omega)
              have q342 : 5 < (((rd_T53 t325 x11_1).f2).length : Int) := of_decide_eq_true (by first | (with_reducible assumption) | assumption)
              obtain ⟨ad342, e342, hx342_0⟩ := Kd.at_int (by repeat (first | (with_reducible exact HR331_2.out) | (with_reducible refine Kd.C_alloc ?_ _) | (with_reducible refine Kd.C_drewN ?_ _) | (with_reducible refine Kd.C_drew ?_) | exact HR331_2.out)) 5 p342 q342
              obtain rfl : ad332 = ad342 := (by injection e342)
              (try simp only [show (5 : Int).toNat = 5 from rfl, Nat.reduceMul, Nat.reduceEqDiff, Go.Addr.add, ↓reduceIte] at hx342_0)
              have qi342 : (5 < ((rd_T53 t325 x11_1).f2).length) = True := eq_true (by omega)
              (try rw [show ((5 : Int)).toNat = 5 from rfl] at hx342_0)
              replace p342 := eq_true p342
              replace q342 := eq_true q342
              have p343 : 0 ≤ (6 : Int) := (by omega)
              have q343 : 6 < (((rd_T53 t325 x11_1).f2).length : Int) := of_decide_eq_true (by first | (with_reducible assumption) | assumption)
              obtain ⟨ad343, e343, hx343_0⟩ := Kd.at_int (by repeat (first | (with_reducible exact HR331_2.out) | (with_reducible refine Kd.C_alloc ?_ _) | (with_reducible refine Kd.C_drewN ?_ _) | (with_reducible refine Kd.C_drew ?_) | exact HR331_2.out)) 6 p343 q343
              obtain rfl : ad332 = ad343 := (by injection e343)
              (try simp only [show (6 : Int).toNat = 6 from rfl, Nat.reduceMul, Nat.reduceEqDiff, Go.Addr.add, ↓reduceIte] at hx343_0)
              have qi343 : (6 < ((rd_T53 t325 x11_1).f2).length) = True := eq_true (by omega)
              (try rw [show ((6 : Int)).toNat = 6 from rfl] at hx343_0)
              replace p343 := eq_true p343
              replace q343 := eq_true q343
              refine start_ (n := 25) (S := fun w' => w'.cell? ad332 = some (.int .u8 (rd ((rd_T53 t325 x11_1).f2) 0)) ∧ (convert 23 9 (.slice A20 y333.length c20)).run Try.prog w' = .ok (.string (strOfNums y333)) w' ∧ w'.cell? ⟨ad332.block, ad332.off + 5, none⟩ = some (.int .u8 (rd ((rd_T53 t325 x11_1).f2) 5)) ∧ w'.cell? ⟨ad332.block, ad332.off + 6, none⟩ = some (.int .u8 (rd ((rd_T53 t325 x11_1).f2) 6))) (ds := [22, 23]) mk14_0 (by kernel_rfl) rfl rfl ⟨hx332_0, (Kd.C_string (P := Try.prog) (A := A20) (c := c20) Try.underlying23 Try.underlying5 Try.underlying9 (by repeat (first | (with_reducible exact HR336.out) | (with_reducible refine Kd.C_alloc ?_ _) | (with_reducible refine Kd.C_drewN ?_ _) | (with_reducible refine Kd.C_drew ?_) | exact HR336.out))), hx342_0, hx343_0⟩ (fun hHeld => ?_); refine with_tabW souterrainref11_Get.tab9 souterrainref11_Get.bits9 (fun HT_ HW_ => ?_)
              generalize wr.drew = w19 at HO_6 HO_7 HL331_2 HR331_2 HB HR336 HR340 hx332_0 hx342_0 hx343_0 hHeld ⊢
              refine py14_ (a' := ?_) 0 35 ?_ mk14_1 HT_ rfl rfl (by kernel_rfl) (fun _ _ _ h => h) (Or.inl ⟨by rfl, ?_⟩) ?_ ?_; rotate_left; (focus intro w'; go_simp; with_reducible rfl); rotate_left; (focus simp only [Act.put, pS14]; rfl)
              refine py14_ (a' := ?_) 1 36 ?_ mk14_2 HT_ rfl rfl (by kernel_rfl) (fun _ _ _ h => h) (Or.inl ⟨by rfl, ?_⟩) ?_ ?_; rotate_left; (focus intro w'; go_simp; with_reducible rfl); rotate_left; (focus simp only [Act.put, pS14]; rfl)
              refine py14_ (a' := ?_) 2 37 ?_ mk14_3 HT_ rfl rfl (by kernel_rfl) (fun _ _ _ h => h) (Or.inl ⟨by rfl, ?_⟩) ?_ ?_; rotate_left; (focus intro w'; go_simp; with_reducible rfl); rotate_left; (focus simp only [Act.put, pS14]; rfl)
              refine py14_ (a' := ?_) 5 40 ?_ mk14_4 HT_ rfl rfl (by kernel_rfl) (fun _ _ _ h => h) (Or.inl ⟨by rfl, ?_⟩) ?_ ?_; rotate_left; (focus intro w'; go_simp; with_reducible rfl); rotate_left; (focus simp only [Act.put, pS14]; rfl)
              refine py14_ (a' := ?_) 6 41 ?_ mk14_5 HT_ rfl rfl (by kernel_rfl) (fun _ _ _ h => h) (Or.inl ⟨by rfl, ?_⟩) ?_ ?_; rotate_left; (focus intro w'; go_simp; with_reducible rfl); rotate_left; (focus simp only [Act.put, pS14]; rfl)
              refine py14_ (a' := ?_) 8 43 ?_ mk14_6 HT_ rfl rfl (by kernel_rfl) (fun _ _ _ h => h) (Or.inl ⟨by rfl, ?_⟩) ?_ ?_; rotate_left; (focus intro w'; go_simp; with_reducible rfl); rotate_left; (focus simp only [Act.put, pS14]; rfl)
              refine py14_ (a' := ?_) 9 44 ?_ mk14_7 HT_ rfl rfl (by kernel_rfl) (fun _ _ _ h => h) (Or.inl ⟨by rfl, ?_⟩) ?_ ?_; rotate_left; (focus intro w'; go_simp; with_reducible rfl); rotate_left; (focus simp only [Act.put, pS14]; rfl)
              refine py14_ (a' := ?_) 11 46 ?_ mk14_8 HT_ rfl rfl (by kernel_rfl) (fun _ _ _ h => h) (Or.inl ⟨by rfl, ?_⟩) ?_ ?_; rotate_left; (focus intro w'; go_simp; with_reducible rfl); rotate_left; (focus simp only [Act.put, pS14]; rfl)
              refine py14_ (a' := ?_) 12 47 ?_ mk14_9 HT_ rfl rfl (by kernel_rfl) (fun _ _ _ h => h) (Or.inl ⟨by rfl, ?_⟩) ?_ ?_; rotate_left; (focus intro w'; go_simp; with_reducible rfl); rotate_left; (focus simp only [Act.put, pS14]; rfl)
              refine py14_ (a' := ?_) 16 51 ?_ mk14_10 HT_ rfl rfl (by kernel_rfl) (fun _ _ _ h => h) (Or.inl ⟨by rfl, ?_⟩) ?_ ?_; rotate_left; (focus intro w'; go_simp; with_reducible rfl); rotate_left; (focus simp only [Act.put, pS14]; rfl)
              refine py14_ (a' := ?_) 17 52 ?_ mk14_11 HT_ rfl rfl (by kernel_rfl) (fun _ _ _ h => h) (Or.inl ⟨by rfl, ?_⟩) ?_ ?_; rotate_left; (focus intro w'; go_simp; with_reducible rfl); rotate_left; (focus simp only [Act.put, pS14]; rfl)
              refine take_ (i := 3) (N := some 38) (v := ?_) (a' := ?_) mk14_12 rfl rfl (take_ofW HT_.out HW_.out (by kernel_rfl)) (fun _ _ _ h => h) (Or.inl ⟨by rfl, ?_⟩) hHeld ?_ ?_; rotate_left; (focus rintro w' ⟨s0, s1, s2, s3⟩; go_simp; with_reducible rfl); rotate_left; (focus simp only [Act.put, pS14]; rfl)
              refine py14_ (a' := ?_) 4 39 ?_ mk14_13 HT_ rfl rfl (by kernel_rfl) (fun _ _ _ h => h) (Or.inl ⟨by rfl, ?_⟩) ?_ ?_; rotate_left; (focus intro w'; go_simp; with_reducible rfl); rotate_left; (focus simp only [Act.put, pS14]; rfl)
              refine take_ (i := 7) (N := some 42) (v := ?_) (a' := ?_) mk14_14 rfl rfl (take_ofW HT_.out HW_.out (by kernel_rfl)) (fun _ _ _ h => h) (Or.inl ⟨by rfl, ?_⟩) hHeld ?_ ?_
              rotate_left
              ·rintro w' ⟨s0, s1, s2, s3⟩
               go_simp
               all_goals first | with_reducible rfl | (rw [conv_len s0 ?_]; all_goals first | with_reducible rfl | rfl | (simp only [List.length_drop, List.length_take]; omega) | (simp only [List.length_drop, List.length_take]; simp only [decide_eq_true_eq, decide_eq_false_iff_not, eq_iff_iff, iff_true] at *; omega) | (simp [*]; done) | (simp [*]; omega)) | (rw [conv_len s1 ?_]; all_goals first | with_reducible rfl | rfl | (simp only [List.length_drop, List.length_take]; omega) | (simp only [List.length_drop, List.length_take]; simp only [decide_eq_true_eq, decide_eq_false_iff_not, eq_iff_iff, iff_true] at *; omega) | (simp [*]; done) | (simp [*]; omega)) | (rw [conv_len s2 ?_]; all_goals first | with_reducible rfl | rfl | (simp only [List.length_drop, List.length_take]; omega) | (simp only [List.length_drop, List.length_take]; simp only [decide_eq_true_eq, decide_eq_false_iff_not, eq_iff_iff, iff_true] at *; omega) | (simp [*]; done) | (simp [*]; omega)) | (rw [conv_len s3 ?_]; all_goals first | with_reducible rfl | rfl | (simp only [List.length_drop, List.length_take]; omega) | (simp only [List.length_drop, List.length_take]; simp only [decide_eq_true_eq, decide_eq_false_iff_not, eq_iff_iff, iff_true] at *; omega) | (simp [*]; done) | (simp [*]; omega))
              rotate_left; (focus simp only [Act.put, pS14]; rfl)
              refine take_ (i := 13) (N := some 48) (v := ?_) (a' := ?_) mk14_15 rfl rfl (take_ofW HT_.out HW_.out (by kernel_rfl)) (fun _ _ _ h => h) (Or.inl ⟨by rfl, ?_⟩) hHeld ?_ ?_; rotate_left; (focus rintro w' ⟨s0, s1, s2, s3⟩; go_simp; with_reducible rfl); rotate_left; (focus simp only [Act.put, pS14]; rfl)
              refine py14_ (a' := ?_) 14 49 ?_ mk14_16 HT_ rfl rfl (by kernel_rfl) (fun _ _ _ h => h) (Or.inl ⟨by rfl, ?_⟩) ?_ ?_; rotate_left; (focus intro w'; go_simp; with_reducible rfl); rotate_left; (focus simp only [Act.put, pS14]; rfl)
              refine py14_ (a' := ?_) 15 50 ?_ mk14_17 HT_ rfl rfl (by kernel_rfl) (fun _ _ _ h => h) (Or.inl ⟨by rfl, ?_⟩) ?_ ?_; rotate_left; (focus intro w'; go_simp; with_reducible rfl); rotate_left; (focus simp only [Act.put, pS14]; rfl)
              refine take_ (i := 18) (N := some 53) (v := ?_) (a' := ?_) mk14_18 rfl rfl (take_ofW HT_.out HW_.out (by kernel_rfl)) (fun _ _ _ h => h) (Or.inl ⟨by rfl, ?_⟩) hHeld ?_ ?_; rotate_left; (focus rintro w' ⟨s0, s1, s2, s3⟩; go_simp; with_reducible rfl); rotate_left; (focus simp only [Act.put, pS14]; rfl)
              refine py14_ (a' := ?_) 19 54 ?_ mk14_19 HT_ rfl rfl (by kernel_rfl) (fun _ _ _ h => h) (Or.inl ⟨by rfl, ?_⟩) ?_ ?_; rotate_left; (focus intro w'; go_simp; with_reducible rfl); rotate_left; (focus simp only [Act.put, pS14]; rfl)
              refine py14_ (a' := ?_) 20 55 ?_ mk14_20 HT_ rfl rfl (by kernel_rfl) (fun _ _ _ h => h) (Or.inl ⟨by rfl, ?_⟩) ?_ ?_; rotate_left; (focus intro w'; go_simp; with_reducible rfl); rotate_left; (focus simp only [Act.put, pS14]; rfl)
              refine one_ (i := 10) (N := some 45) mk14_21 rfl rfl (one_of HT_.out (by kernel_rfl)) (by decide) (fun K hK => ?_)
              refine goes_ Try.func28 (by kernel_rfl) rfl #[.slice A21 y337.length c21] (by rfl) rfl rfl (by (try simp only [List.map_toArray, List.map_cons, List.map_nil]); first | done | rfl | (simp only [List.length_drop, List.length_take]; rfl)) ?_
              with_reducible refine (souterrainref11_unfour.calls _ _ y337 t341 _ ?side1 ?side2 A14.out).mono ?_
              (case side1 => repeat (first | exact (by repeat (first | (with_reducible exact HR340.out) | (with_reducible refine Kd.C_alloc ?_ _) | (with_reducible refine Kd.C_drewN ?_ _) | (with_reducible refine Kd.C_drew ?_) | exact HR340.out)) | (with_reducible refine Kd.C_alloc ?_ _) | (with_reducible refine Kd.C_drewN ?_ _) | (with_reducible refine Kd.C_drew ?_)))
              (case side2 => exact HC340.out)
              rintro e w' ⟨rfl, ⟨nd, rfl⟩⟩
              refine ⟨_, rfl, ?_⟩
              refine hK.out _ _ ⟨hHeld.1, (Kd.C_string (P := Try.prog) (A := A20) (c := c20) Try.underlying23 Try.underlying5 Try.underlying9 (by repeat (first | (with_reducible exact HR336.out) | (with_reducible refine Kd.C_alloc ?_ _) | (with_reducible refine Kd.C_drewN ?_ _) | (with_reducible refine Kd.C_drew ?_) | exact HR336.out))), hHeld.2.2.1, hHeld.2.2.2⟩ (fun hHeld => ?_)
              clear hK K
              refine norm_ (a' := ?_) ?_ ?_
              rotate_left
              ·show Act.put _ (some 45) _ = _
               simp only [Act.put, pS14]
               rfl
              refine py14_ (a' := ?_) 21 56 ?_ mk14_22 HT_ rfl rfl (by kernel_rfl) (fun _ _ _ h => h) (Or.inl ⟨by rfl, ?_⟩) ?_ ?_; rotate_left; (focus intro w'; go_simp; with_reducible rfl); rotate_left; (focus simp only [Act.put, pS14]; rfl)
              refine last_ (i := 22) (N := some 57) mk14_23 rfl rfl (one_of HT_.out (by kernel_rfl)) (by decide) (fun K hK => ?_)
              refine value_ (w1 := ?_) (v := ?_) (by rfl) rfl ?_ ?_
              rotate_left 2
              ·go_simp
               constructor
               ·rfl
               ·rfl
              refine hK.out _ _ ?_
              clear hK K
              refine norm_ (a' := ?_) ?_ ?_
              rotate_left
              ·show Act.put _ (some 57) _ = _
               simp only [Act.put, pS14]
               rfl
              refine last_ (i := 23) (N := some 58) mk14_24 rfl rfl (one_of HT_.out (by kernel_rfl)) (by decide) (fun K hK => ?_)
              refine Kd.R_append_step k41 (w0 := w) w.heap.size (by rfl) (.tmp 35) (.tmp 57) 22 41 (.agg #[(.int .i64 0), (.string ⟨#[]⟩), (.int .i64 0), (.int .i64 0)]) 40 rfl Try.underlying22 info41 rfl (by decide) (by omega) u6 x6_1 (⟨wrap64 (rd ((rd_T53 t325 x11_1).f2) 0), strOfNums y333, t341, wrap64 ((wrap64 (256 * (wrap64 (rd ((rd_T53 t325 x11_1).f2) 5)))) + (wrap64 (rd ((rd_T53 t325 x11_1).f2) 6)))⟩ : S41) [.int .i64 (wrap64 (rd ((rd_T53 t325 x11_1).f2) 0)), .string (strOfNums y333), .int .i64 t341, .int .i64 (wrap64 ((wrap64 (256 * (wrap64 (rd ((rd_T53 t325 x11_1).f2) 5)))) + (wrap64 (rd ((rd_T53 t325 x11_1).f2) 6))))] (fun _ => True) (fun _ => False) rfl rfl ?aP (fun _ hk => hk.elim) ?aF ?aO ?aB ?aS ?aL ?_
              (case aP => exact k41_mkM _ _ _ (⟨wrap64 (rd ((rd_T53 t325 x11_1).f2) 0), strOfNums y333, t341, wrap64 ((wrap64 (256 * (wrap64 (rd ((rd_T53 t325 x11_1).f2) 5)))) + (wrap64 (rd ((rd_T53 t325 x11_1).f2) 6)))⟩ : S41))
              (case aB => exact (by repeat (first | (with_reducible first | exact HB.out | apply below_alloc | apply pw_below_drewN | apply below_drew1) | exact HB.out)))
              (case aF => exact (fun _ _ => trivial))
              (case aO => exact (by (with_reducible repeat (first | apply Kd.R_alloc | apply Kd.R_drewN | apply Kd.R_drew)); exact HO_6.out))
              (case aS => exact (below_size (by repeat (first | (with_reducible first | exact HB.out | apply below_alloc | apply pw_below_drewN | apply below_drew1) | exact HB.out))))
              (case aL => have := LMc17.out; omega)
              intro v345 w22 ho hb hg hat
              rw [← Ny344.out] at ho
              have n0_ := Aside0.mk (Kd.S_over' (by (with_reducible repeat (first | apply Kd.S_alloc | apply Kd.S_drewN | apply Kd.S_drew)); exact HO_7.out) (Kd.R_typed (by (with_reducible repeat (first | apply Kd.R_alloc | apply Kd.R_drewN | apply Kd.R_drew)); exact HO_6.out)) (by decide) hg)
              have n1_ := Aside0.mk (Kd.R_over' (by (with_reducible repeat (first | apply Kd.R_alloc | apply Kd.R_drewN | apply Kd.R_drew)); exact HL331_2.out) (Kd.R_typed (by (with_reducible repeat (first | apply Kd.R_alloc | apply Kd.R_drewN | apply Kd.R_drew)); exact HO_6.out)) (by decide) hg)
              have n2_ := Aside0.mk (hb)
              have n3_ := Aside0.mk (ho)
              clear HO_7
              clear HL331_2
              clear HB
              clear HO_6
              have HO_7 := n0_
              have HL331_2 := n1_
              have HB := n2_
              have HO346 := n3_
              clear n0_ n1_ n2_ n3_
              clear ho hb hg hat
              refine hK.out _ _ ?_
              clear hK K
              refine norm_ (a' := ?_) ?_ ?_
              rotate_left
              ·show Act.put _ (some 58) _ = _
               simp only [Act.put, pS14]
               rfl
              refine py14_ (a' := ?_) 24 6 ?_ mk14_25 HT_ rfl rfl (by kernel_rfl) (fun _ _ _ h => h) (Or.inl ⟨by rfl, ?_⟩) ?_ ?_; rotate_left; (focus intro w'; go_simp; with_reducible rfl); rotate_left; (focus simp only [Act.put, pS14]; rfl)
              refine done_ (done_of HT_.out (by kernel_rfl)) ?_
              try go_wp2
              go_roundg k1
              case measure => have := HK1.out; omega
              case rel => exact ⟨(y344), (wrap64 (x11_1 + 1)), (by first | rfl | (simp; done) | (simp [*]; done)), H', ⟨by have := HK1.out; omega⟩, ⟨by (with_reducible repeat (first | apply Kd.R_alloc | apply Kd.R_drewN | apply Kd.R_drew)); exact HO346.out⟩, ⟨by (with_reducible repeat (first | apply Kd.S_alloc | apply Kd.S_drewN | apply Kd.S_drew)); exact HO_7.out⟩, ⟨by repeat (first | (with_reducible first | exact HB.out | apply below_alloc | apply pw_below_drewN | apply below_drew1) | exact HB.out)⟩⟩
             ·rw [if_neg c17] at H
              exact absurd H (by simp)
            ·rw [if_neg c16] at H
             exact absurd H (by simp)
           ·rw [if_neg c15] at H
            exact absurd H (by simp)
          ·rw [if_neg c13] at H
           exact absurd H (by simp)
         ·rw [if_neg c12] at H
          exact absurd H (by simp)
        ·rw [if_neg c11] at H
         exact absurd H (by simp)
       ·rw [if_neg c10] at H
        exact absurd H (by simp)
     ·rw [if_neg c7] at H
      exact absurd H (by simp)
    ·rw [if_neg c6] at H
     exact absurd H (by simp)
   ·rw [if_neg c5] at H
    have c5b0 : decide ((wrap64 (x11_1 + 1)) < (t325.length : Int)) = false := decide_eq_false c5
    clear c5
    by_cases c23 : (l0.length : Int) = 0
    ·rw [if_pos c23] at H
     have c23b0 : ((l0.length : Int) == 0) = true := beq_iff_eq.mpr c23
     have c23b1 : ((l0.length : Int) != 0) = false := bne_eq_false_iff_eq.mpr c23
     clear c23
     simp only [Option.some.injEq, Prod.mk.injEq] at H
     obtain ⟨rfl, rfl⟩ := H
     obtain ⟨Ao24, co24, eo24⟩ := Kd.S_slice HO_7.out
     subst eo24
     try go_wp2
     have n0_ := Aside0.mk (Kd.R_drew HO_6.out)
     have n1_ := Aside0.mk (Kd.S_drew HO_7.out)
     have n2_ := Aside0.mk (below_drew1 HB.out)
     clear HO_6
     clear HO_7
     clear HB
     have HO_6 := n0_
     have HO_7 := n1_
     have HB := n2_
     clear n0_ n1_ n2_
     refine start_ (n := 12) (S := fun w' => True) (ds := []) mk14_26 (by kernel_rfl) rfl rfl trivial (fun hHeld => ?_); refine with_tabW souterrainref11_Get.tab10 souterrainref11_Get.bits10 (fun HT_ HW_ => ?_)
     generalize wr.drew = w25 at HO_6 HO_7 HB hHeld ⊢
     refine py14_ (a' := ?_) 0 59 ?_ mk14_27 HT_ rfl rfl (by kernel_rfl) (fun _ _ _ h => h) (Or.inl ⟨by rfl, ?_⟩) ?_ ?_; rotate_left; (focus intro w'; go_simp; with_reducible rfl); rotate_left; (focus simp only [Act.put, pS14]; rfl)
     refine py14_ (a' := ?_) 1 60 ?_ mk14_28 HT_ rfl rfl (by kernel_rfl) (fun _ _ _ h => h) (Or.inl ⟨by rfl, ?_⟩) ?_ ?_; rotate_left; (focus intro w'; go_simp; with_reducible rfl); rotate_left; (focus simp only [Act.put, pS14]; rfl)
     refine py14_ (a' := ?_) 2 61 ?_ mk14_29 HT_ rfl rfl (by kernel_rfl) (fun _ _ _ h => h) (Or.inl ⟨by rfl, ?_⟩) ?_ ?_; rotate_left; (focus intro w'; go_simp; with_reducible rfl); rotate_left; (focus simp only [Act.put, pS14]; rfl)
     refine py14_ (a' := ?_) 3 62 ?_ mk14_30 HT_ rfl rfl (by kernel_rfl) (fun _ _ _ h => h) (Or.inl ⟨by rfl, ?_⟩) ?_ ?_; rotate_left; (focus intro w'; go_simp; with_reducible rfl); rotate_left; (focus simp only [Act.put, pS14]; rfl)
     refine py14_ (a' := ?_) 4 63 undef mk14_31 HT_ rfl rfl (by kernel_rfl) (fun _ _ _ h => h) (Or.inr ⟨by rfl, rfl⟩) ?_ ?_; rotate_left; (focus simp only [Act.put, pS14]; rfl)
     refine py14_ (a' := ?_) 5 64 undef mk14_32 HT_ rfl rfl (by kernel_rfl) (fun _ _ _ h => h) (Or.inr ⟨by rfl, rfl⟩) ?_ ?_; rotate_left; (focus simp only [Act.put, pS14]; rfl)
     refine py14_ (a' := ?_) 6 65 undef mk14_33 HT_ rfl rfl (by kernel_rfl) (fun _ _ _ h => h) (Or.inr ⟨by rfl, rfl⟩) ?_ ?_; rotate_left; (focus simp only [Act.put, pS14]; rfl)
     refine py14_ (a' := ?_) 7 66 undef mk14_34 HT_ rfl rfl (by kernel_rfl) (fun _ _ _ h => h) (Or.inr ⟨by rfl, rfl⟩) ?_ ?_; rotate_left; (focus simp only [Act.put, pS14]; rfl)
     refine py14_ (a' := ?_) 8 67 undef mk14_35 HT_ rfl rfl (by kernel_rfl) (fun _ _ _ h => h) (Or.inr ⟨by rfl, rfl⟩) ?_ ?_; rotate_left; (focus simp only [Act.put, pS14]; rfl)
     refine py14_ (a' := ?_) 9 68 undef mk14_36 HT_ rfl rfl (by kernel_rfl) (fun _ _ _ h => h) (Or.inr ⟨by rfl, rfl⟩) ?_ ?_; rotate_left; (focus simp only [Act.put, pS14]; rfl)
     refine py14_ (a' := ?_) 10 69 undef mk14_37 HT_ rfl rfl (by kernel_rfl) (fun _ _ _ h => h) (Or.inr ⟨by rfl, rfl⟩) ?_ ?_; rotate_left; (focus simp only [Act.put, pS14]; rfl)
     refine py14_ (a' := ?_) 11 70 ?_ mk14_38 HT_ rfl rfl (by kernel_rfl) (fun _ _ _ h => h) (Or.inl ⟨by rfl, ?_⟩) ?_ ?_; rotate_left; (focus intro w'; go_simp; with_reducible rfl); rotate_left; (focus simp only [Act.put, pS14]; rfl)
     refine done_ (done_of HT_.out (by kernel_rfl)) ?_
     try go_wp2
     go_ret2
     exact ⟨_, by first | rfl | (simp [errW_none, errW_some] <;> rfl) | (simp [*, errW_none, errW_some] <;> rfl), by first | exact Kd.R_nil _ _ _ _ _ | exact Kd.N_nil _ _ _ _ _ | exact Kd.V_nil _ _ _ _ _ | exact Kd.Q_nil _ _ _ _ _ | exact Kd.S_nil _ _ _ _ _, by repeat (first | (with_reducible first | exact HB.out | apply below_alloc | apply pw_below_drewN | apply below_drew1) | exact HB.out)⟩
    ·rw [if_neg c23] at H
     have c23b0 : ((l0.length : Int) == 0) = false := beq_eq_false_iff_ne.mpr c23
     have c23b1 : ((l0.length : Int) != 0) = true := bne_iff_ne.mpr c23
     have c23b2 : ¬ (l0 = []) := fun h_ => c23 (by rw [h_]; rfl)
     replace H := Option.bind_eq_some_iff.mp H
     obtain ⟨t347, A260, H⟩ := H
     replace H : (if (strOfNums t347).toList = (strOfNums l0).toList then (some (x6_1, true)) else (some (([] : List (S41)), false))) = some (r1, r2) := H
     have A26 := Aside0.mk A260
     clear A260
     by_cases c27 : (strOfNums t347).toList = (strOfNums l0).toList
     ·rw [if_pos c27] at H
      have c27b0 : ((strOfNums t347).toList == (strOfNums l0).toList) = true := beq_iff_eq.mpr c27
      have c27b1 : ((strOfNums t347).toList != (strOfNums l0).toList) = false := bne_eq_false_iff_eq.mpr c27
      clear c27
      simp only [Option.some.injEq, Prod.mk.injEq] at H
      obtain ⟨rfl, rfl⟩ := H
      obtain ⟨Ao28, co28, eo28⟩ := Kd.S_slice HO_7.out
      subst eo28
      try go_wp2
      have n0_ := Aside0.mk (Kd.R_drew HO_6.out)
      have n1_ := Aside0.mk (Kd.S_drew HO_7.out)
      have n2_ := Aside0.mk (below_drew1 HB.out)
      clear HO_6
      clear HO_7
      clear HB
      have HO_6 := n0_
      have HO_7 := n1_
      have HB := n2_
      clear n0_ n1_ n2_
      obtain ⟨Ao30, co30, eo30⟩ := Kd.R_slice HO_6.out
      (first | subst eo30 | (injection eo30 with f1_ f2_ f3_; have f4_ := f1_.symm; have f5_ := f3_.symm; clear f1_ f2_ f3_; subst f4_; subst f5_))
      refine start_ (n := 12) (S := fun w' => (convert 23 9 (.slice A0 l0.length c0)).run Try.prog w' = .ok (.string (strOfNums l0)) w') (ds := []) mk14_26 (by kernel_rfl) rfl rfl ((Kd.C_string (P := Try.prog) (A := A0) (c := c0) Try.underlying23 Try.underlying5 Try.underlying9 (Kd.C_below HR0.out HB.out))) (fun hHeld => ?_); refine with_tabW souterrainref11_Get.tab10 souterrainref11_Get.bits10 (fun HT_ HW_ => ?_)
      generalize wr.drew = w29 at HO_6 HO_7 HB hHeld ⊢
      refine py14_ (a' := ?_) 0 59 ?_ mk14_27 HT_ rfl rfl (by kernel_rfl) (fun _ _ _ h => h) (Or.inl ⟨by rfl, ?_⟩) ?_ ?_; rotate_left; (focus intro w'; go_simp; with_reducible rfl); rotate_left; (focus simp only [Act.put, pS14]; rfl)
      refine py14_ (a' := ?_) 1 60 ?_ mk14_28 HT_ rfl rfl (by kernel_rfl) (fun _ _ _ h => h) (Or.inl ⟨by rfl, ?_⟩) ?_ ?_; rotate_left; (focus intro w'; go_simp; with_reducible rfl); rotate_left; (focus simp only [Act.put, pS14]; rfl)
      refine py14_ (a' := ?_) 2 61 ?_ mk14_29 HT_ rfl rfl (by kernel_rfl) (fun _ _ _ h => h) (Or.inl ⟨by rfl, ?_⟩) ?_ ?_; rotate_left; (focus intro w'; go_simp; with_reducible rfl); rotate_left; (focus simp only [Act.put, pS14]; rfl)
      refine py14_ (a' := ?_) 3 62 ?_ mk14_30 HT_ rfl rfl (by kernel_rfl) (fun _ _ _ h => h) (Or.inl ⟨by rfl, ?_⟩) ?_ ?_; rotate_left; (focus intro w'; go_simp; with_reducible rfl); rotate_left; (focus simp only [Act.put, pS14]; rfl)
      refine py14_ (a' := ?_) 4 63 ?_ mk14_31 HT_ rfl rfl (by kernel_rfl) (fun _ _ _ h => h) (Or.inl ⟨by rfl, ?_⟩) ?_ ?_; rotate_left; (focus intro w'; go_simp; with_reducible rfl); rotate_left; (focus simp only [Act.put, pS14]; rfl)
      refine py14_ (a' := ?_) 5 64 ?_ mk14_32 HT_ rfl rfl (by kernel_rfl) (fun _ _ _ h => h) (Or.inl ⟨by rfl, ?_⟩) ?_ ?_; rotate_left; (focus intro w'; go_simp; with_reducible rfl); rotate_left; (focus simp only [Act.put, pS14]; rfl)
      refine py14_ (a' := ?_) 8 67 ?_ mk14_39 HT_ rfl rfl (by kernel_rfl) (fun _ _ _ h => h) (Or.inl ⟨by rfl, ?_⟩) ?_ ?_; rotate_left; (focus intro w'; go_simp; with_reducible rfl); rotate_left; (focus simp only [Act.put, pS14]; rfl)
      refine take_ (i := 9) (N := some 68) (v := ?_) (a' := ?_) mk14_40 rfl rfl (take_ofW HT_.out HW_.out (by kernel_rfl)) (fun _ _ _ h => h) (Or.inl ⟨by rfl, ?_⟩) hHeld ?_ ?_
      rotate_left
      ·intro w' s0
       go_simp
       all_goals first | with_reducible rfl | (rw [conv_len s0 ?_]; all_goals first | with_reducible rfl | rfl | (simp only [List.length_drop, List.length_take]; omega) | (simp only [List.length_drop, List.length_take]; simp only [decide_eq_true_eq, decide_eq_false_iff_not, eq_iff_iff, iff_true] at *; omega) | (simp [*]; done) | (simp [*]; omega))
      rotate_left; (focus simp only [Act.put, pS14]; rfl)
      refine one_ (i := 6) (N := some 65) mk14_41 rfl rfl (one_of HT_.out (by kernel_rfl)) (by decide) (fun K hK => ?_)
      refine goes_ Try.func17 (by kernel_rfl) rfl #[.slice Ao30 x6_1.length co30, .int .i64 a1] (by rfl) rfl rfl (by (try simp only [List.map_toArray, List.map_cons, List.map_nil]); first | done | rfl | (simp only [List.length_drop, List.length_take]; rfl)) ?_
      with_reducible refine (souterrainref11_Put.calls k1 _ _ x6_1 a1 t347 _ ?side1 ?side2 A26.out).mono ?_
      (case side1 => repeat (first | exact (Kd.R_reads' HO_6.out).2.2 | (with_reducible refine Kd.C_alloc ?_ _) | (with_reducible refine Kd.C_drewN ?_ _) | (with_reducible refine Kd.C_drew ?_)))
      (case side2 => exact (Kd.R_reads' HO_6.out).2.1)
      rintro e w31 ⟨v348, rfl, ho0, hb⟩
      refine ⟨_, rfl, ?_⟩
      have n0_ := Aside0.mk (Kd.R_below (by (with_reducible repeat (first | apply Kd.R_alloc | apply Kd.R_drewN | apply Kd.R_drew)); exact HO_6.out) hb)
      have n1_ := Aside0.mk (Kd.S_elder' (by (with_reducible repeat (first | apply Kd.S_alloc | apply Kd.S_drewN | apply Kd.S_drew)); exact HO_7.out) (Kd.R_base ho0) hb)
      have n2_ := Aside0.mk (Kd.R_lower ho0 (below_size (by repeat (first | (with_reducible first | exact HB.out | apply below_alloc | apply pw_below_drewN | apply below_drew1) | exact HB.out))))
      have n3_ := Aside0.mk (below_step (by repeat (first | (with_reducible first | exact HB.out | apply below_alloc | apply pw_below_drewN | apply below_drew1) | exact HB.out)) hb)
      clear HO_6
      clear HO_7
      clear HB
      have HO_6 := n0_
      have HO_7 := n1_
      have HO349 := n2_
      have HB := n3_
      clear n0_ n1_ n2_ n3_
      (try clear hb)
      (try clear hb2)
      (try clear hk)
      (try clear hi)
      (try clear ho0)
      refine hK.out _ _ ((Kd.C_string (P := Try.prog) (A := A0) (c := c0) Try.underlying23 Try.underlying5 Try.underlying9 (Kd.C_below HR0.out HB.out))) (fun hHeld => ?_)
      clear hK K
      refine norm_ (a' := ?_) ?_ ?_
      rotate_left
      ·show Act.put _ (some 65) _ = _
       simp only [Act.put, pS14]
       rfl
      refine one_ (i := 7) (N := some 66) mk14_36 rfl rfl (one_of HT_.out (by kernel_rfl)) (by decide) (fun K hK => ?_)
      have hcv32 := own_string (P := Try.prog) Try.underlying23 Try.underlying5 Try.underlying9 (Kd.own_of_R HO349.out)
      refine value_ (w1 := ?_) (v := ?_) (by rfl) rfl ?_ ?_
      rotate_left 2
      ·go_simp
       constructor
       ·rfl
       ·rfl
      clear hcv32
      refine hK.out _ _ ((Kd.C_string (P := Try.prog) (A := A0) (c := c0) Try.underlying23 Try.underlying5 Try.underlying9 (Kd.C_below HR0.out HB.out))) (fun hHeld => ?_)
      clear hK K
      refine norm_ (a' := ?_) ?_ ?_
      rotate_left
      ·show Act.put _ (some 66) _ = _
       simp only [Act.put, pS14]
       rfl
      refine py14_ (a' := ?_) 10 69 ?_ mk14_37 HT_ rfl rfl (by kernel_rfl) (fun _ _ _ h => h) (Or.inl ⟨by rfl, ?_⟩) ?_ ?_; rotate_left; (focus intro w'; go_simp; with_reducible rfl); rotate_left; (focus simp only [Act.put, pS14]; rfl)
      refine py14_ (a' := ?_) 11 70 ?_ mk14_38 HT_ rfl rfl (by kernel_rfl) (fun _ _ _ h => h) (Or.inl ⟨by rfl, ?_⟩) ?_ ?_; rotate_left; (focus intro w'; go_simp; with_reducible rfl); rotate_left; (focus simp only [Act.put, pS14]; rfl)
      refine done_ (done_of HT_.out (by kernel_rfl)) ?_
      try go_wp2
      go_ret2
      exact ⟨_, by first | rfl | (simp [errW_none, errW_some] <;> rfl) | (simp [*, errW_none, errW_some] <;> rfl), by (with_reducible repeat (first | apply Kd.R_alloc | apply Kd.R_drewN | apply Kd.R_drew)); exact HO_6.out, by repeat (first | (with_reducible first | exact HB.out | apply below_alloc | apply pw_below_drewN | apply below_drew1) | exact HB.out)⟩
     ·rw [if_neg c27] at H
      have c27b0 : ((strOfNums t347).toList == (strOfNums l0).toList) = false := beq_eq_false_iff_ne.mpr c27
      have c27b1 : ((strOfNums t347).toList != (strOfNums l0).toList) = true := bne_iff_ne.mpr c27
      simp only [Option.some.injEq, Prod.mk.injEq] at H
      obtain ⟨rfl, rfl⟩ := H
      obtain ⟨Ao33, co33, eo33⟩ := Kd.S_slice HO_7.out
      subst eo33
      try go_wp2
      have n0_ := Aside0.mk (Kd.R_drew HO_6.out)
      have n1_ := Aside0.mk (Kd.S_drew HO_7.out)
      have n2_ := Aside0.mk (below_drew1 HB.out)
      clear HO_6
      clear HO_7
      clear HB
      have HO_6 := n0_
      have HO_7 := n1_
      have HB := n2_
      clear n0_ n1_ n2_
      obtain ⟨Ao35, co35, eo35⟩ := Kd.R_slice HO_6.out
      (first | subst eo35 | (injection eo35 with f1_ f2_ f3_; have f4_ := f1_.symm; have f5_ := f3_.symm; clear f1_ f2_ f3_; subst f4_; subst f5_))
      refine start_ (n := 12) (S := fun w' => (convert 23 9 (.slice A0 l0.length c0)).run Try.prog w' = .ok (.string (strOfNums l0)) w') (ds := []) mk14_26 (by kernel_rfl) rfl rfl ((Kd.C_string (P := Try.prog) (A := A0) (c := c0) Try.underlying23 Try.underlying5 Try.underlying9 (Kd.C_below HR0.out HB.out))) (fun hHeld => ?_); refine with_tabW souterrainref11_Get.tab10 souterrainref11_Get.bits10 (fun HT_ HW_ => ?_)
      generalize wr.drew = w34 at HO_6 HO_7 HB hHeld ⊢
      refine py14_ (a' := ?_) 0 59 ?_ mk14_27 HT_ rfl rfl (by kernel_rfl) (fun _ _ _ h => h) (Or.inl ⟨by rfl, ?_⟩) ?_ ?_; rotate_left; (focus intro w'; go_simp; with_reducible rfl); rotate_left; (focus simp only [Act.put, pS14]; rfl)
      refine py14_ (a' := ?_) 1 60 ?_ mk14_28 HT_ rfl rfl (by kernel_rfl) (fun _ _ _ h => h) (Or.inl ⟨by rfl, ?_⟩) ?_ ?_; rotate_left; (focus intro w'; go_simp; with_reducible rfl); rotate_left; (focus simp only [Act.put, pS14]; rfl)
      refine py14_ (a' := ?_) 2 61 ?_ mk14_29 HT_ rfl rfl (by kernel_rfl) (fun _ _ _ h => h) (Or.inl ⟨by rfl, ?_⟩) ?_ ?_; rotate_left; (focus intro w'; go_simp; with_reducible rfl); rotate_left; (focus simp only [Act.put, pS14]; rfl)
      refine py14_ (a' := ?_) 3 62 ?_ mk14_30 HT_ rfl rfl (by kernel_rfl) (fun _ _ _ h => h) (Or.inl ⟨by rfl, ?_⟩) ?_ ?_; rotate_left; (focus intro w'; go_simp; with_reducible rfl); rotate_left; (focus simp only [Act.put, pS14]; rfl)
      refine py14_ (a' := ?_) 4 63 ?_ mk14_31 HT_ rfl rfl (by kernel_rfl) (fun _ _ _ h => h) (Or.inl ⟨by rfl, ?_⟩) ?_ ?_; rotate_left; (focus intro w'; go_simp; with_reducible rfl); rotate_left; (focus simp only [Act.put, pS14]; rfl)
      refine py14_ (a' := ?_) 5 64 ?_ mk14_32 HT_ rfl rfl (by kernel_rfl) (fun _ _ _ h => h) (Or.inl ⟨by rfl, ?_⟩) ?_ ?_; rotate_left; (focus intro w'; go_simp; with_reducible rfl); rotate_left; (focus simp only [Act.put, pS14]; rfl)
      refine py14_ (a' := ?_) 8 67 ?_ mk14_39 HT_ rfl rfl (by kernel_rfl) (fun _ _ _ h => h) (Or.inl ⟨by rfl, ?_⟩) ?_ ?_; rotate_left; (focus intro w'; go_simp; with_reducible rfl); rotate_left; (focus simp only [Act.put, pS14]; rfl)
      refine take_ (i := 9) (N := some 68) (v := ?_) (a' := ?_) mk14_40 rfl rfl (take_ofW HT_.out HW_.out (by kernel_rfl)) (fun _ _ _ h => h) (Or.inl ⟨by rfl, ?_⟩) hHeld ?_ ?_
      rotate_left
      ·intro w' s0
       go_simp
       all_goals first | with_reducible rfl | (rw [conv_len s0 ?_]; all_goals first | with_reducible rfl | rfl | (simp only [List.length_drop, List.length_take]; omega) | (simp only [List.length_drop, List.length_take]; simp only [decide_eq_true_eq, decide_eq_false_iff_not, eq_iff_iff, iff_true] at *; omega) | (simp [*]; done) | (simp [*]; omega))
      rotate_left; (focus simp only [Act.put, pS14]; rfl)
      refine one_ (i := 6) (N := some 65) mk14_41 rfl rfl (one_of HT_.out (by kernel_rfl)) (by decide) (fun K hK => ?_)
      refine goes_ Try.func17 (by kernel_rfl) rfl #[.slice Ao35 x6_1.length co35, .int .i64 a1] (by rfl) rfl rfl (by (try simp only [List.map_toArray, List.map_cons, List.map_nil]); first | done | rfl | (simp only [List.length_drop, List.length_take]; rfl)) ?_
      with_reducible refine (souterrainref11_Put.calls k1 _ _ x6_1 a1 t347 _ ?side1 ?side2 A26.out).mono ?_
      (case side1 => repeat (first | exact (Kd.R_reads' HO_6.out).2.2 | (with_reducible refine Kd.C_alloc ?_ _) | (with_reducible refine Kd.C_drewN ?_ _) | (with_reducible refine Kd.C_drew ?_)))
      (case side2 => exact (Kd.R_reads' HO_6.out).2.1)
      rintro e w36 ⟨v348, rfl, ho0, hb⟩
      refine ⟨_, rfl, ?_⟩
      have n0_ := Aside0.mk (Kd.R_below (by (with_reducible repeat (first | apply Kd.R_alloc | apply Kd.R_drewN | apply Kd.R_drew)); exact HO_6.out) hb)
      have n1_ := Aside0.mk (Kd.S_elder' (by (with_reducible repeat (first | apply Kd.S_alloc | apply Kd.S_drewN | apply Kd.S_drew)); exact HO_7.out) (Kd.R_base ho0) hb)
      have n2_ := Aside0.mk (Kd.R_lower ho0 (below_size (by repeat (first | (with_reducible first | exact HB.out | apply below_alloc | apply pw_below_drewN | apply below_drew1) | exact HB.out))))
      have n3_ := Aside0.mk (below_step (by repeat (first | (with_reducible first | exact HB.out | apply below_alloc | apply pw_below_drewN | apply below_drew1) | exact HB.out)) hb)
      clear HO_6
      clear HO_7
      clear HB
      have HO_6 := n0_
      have HO_7 := n1_
      have HO349 := n2_
      have HB := n3_
      clear n0_ n1_ n2_ n3_
      (try clear hb)
      (try clear hb2)
      (try clear hk)
      (try clear hi)
      (try clear ho0)
      refine hK.out _ _ ((Kd.C_string (P := Try.prog) (A := A0) (c := c0) Try.underlying23 Try.underlying5 Try.underlying9 (Kd.C_below HR0.out HB.out))) (fun hHeld => ?_)
      clear hK K
      refine norm_ (a' := ?_) ?_ ?_
      rotate_left
      ·show Act.put _ (some 65) _ = _
       simp only [Act.put, pS14]
       rfl
      refine one_ (i := 7) (N := some 66) mk14_36 rfl rfl (one_of HT_.out (by kernel_rfl)) (by decide) (fun K hK => ?_)
      have hcv37 := own_string (P := Try.prog) Try.underlying23 Try.underlying5 Try.underlying9 (Kd.own_of_R HO349.out)
      refine value_ (w1 := ?_) (v := ?_) (by rfl) rfl ?_ ?_
      rotate_left 2
      ·go_simp
       constructor
       ·rfl
       ·rfl
      clear hcv37
      refine hK.out _ _ ((Kd.C_string (P := Try.prog) (A := A0) (c := c0) Try.underlying23 Try.underlying5 Try.underlying9 (Kd.C_below HR0.out HB.out))) (fun hHeld => ?_)
      clear hK K
      refine norm_ (a' := ?_) ?_ ?_
      rotate_left
      ·show Act.put _ (some 66) _ = _
       simp only [Act.put, pS14]
       rfl
      refine py14_ (a' := ?_) 10 69 ?_ mk14_37 HT_ rfl rfl (by kernel_rfl) (fun _ _ _ h => h) (Or.inl ⟨by rfl, ?_⟩) ?_ ?_; rotate_left; (focus intro w'; go_simp; with_reducible rfl); rotate_left; (focus simp only [Act.put, pS14]; rfl)
      refine py14_ (a' := ?_) 11 70 ?_ mk14_38 HT_ rfl rfl (by kernel_rfl) (fun _ _ _ h => h) (Or.inl ⟨by rfl, ?_⟩) ?_ ?_; rotate_left; (focus intro w'; go_simp; with_reducible rfl); rotate_left; (focus simp only [Act.put, pS14]; rfl)
      refine done_ (done_of HT_.out (by kernel_rfl)) ?_
      try go_wp2
      go_ret2
      exact ⟨_, by first | rfl | (simp [errW_none, errW_some] <;> rfl) | (simp [*, errW_none, errW_some] <;> rfl), by first | exact Kd.R_nil _ _ _ _ _ | exact Kd.N_nil _ _ _ _ _ | exact Kd.V_nil _ _ _ _ _ | exact Kd.Q_nil _ _ _ _ _ | exact Kd.S_nil _ _ _ _ _, by repeat (first | (with_reducible first | exact HB.out | apply below_alloc | apply pw_below_drewN | apply below_drew1) | exact HB.out)⟩

end Go.Proofs.Yteplnpedakdjkaa.Pt

