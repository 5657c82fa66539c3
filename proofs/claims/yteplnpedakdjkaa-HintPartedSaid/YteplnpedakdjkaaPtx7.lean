-- Written by a program of this session over the translation (a turned copy of the kit's printer). Lean checks it.
import Derived.Test.YteplnpedakdjkaaPtx0
import Derived.Test.YteplnpedakdjkaaHnW
import Derived.Test.YteplnpedakdjkaaPtx6
import Derived.Test.YteplnpedakdjkaaGa
import Derived.Test.YteplnpedakdjkaaGc
import Derived.Test.YteplnpedakdjkaaHnH
namespace Go.Proofs.Yteplnpedakdjkaa.Pt
open Go.RowKit Go.Proofs.YteplnpedakdjkaaW.PrintWords Go.Proofs.YteplnpedakdjkaaW.PrintLast Go.Proofs.YteplnpedakdjkaaW.PrintMore
attribute [local go_sem] max2_int min2_int max_two min_two max_three min_three max_four min_four   -- for this text's walks alone
attribute [local go_sem] Go.Proofs.Yteplnpedakdjkaa.Hw.leq_sem
set_option linter.unusedVariables false
set_option linter.unusedSimpArgs false

open Go.Proofs.Yteplnpedakdjkaa.Ext
/-! ### souterrainlaw11_HintLast: function 5 -/
mutual
def souterrainlaw11_HintLast.l0 : Nat → List (S39) → Bool → List (S41) → Int → Option (Bool)
  | 0, _, _, _, _ => none
  | k + 1, x0, x3, x4, x5 => if x5 < (x4.length : Int) then (souterrainlaw11_HintLast.l1 k x0 x3 x4 x5 (-1) 0) else (souterrainlaw11_HintLast.l2 k x0 x3 x4 0)
def souterrainlaw11_HintLast.l1 : Nat → List (S39) → Bool → List (S41) → Int → Int → Int → Option (Bool)
  | 0, _, _, _, _, _, _ => none
  | k + 1, x0, x3, x4, x5, x6, x7 => if x7 < (x0.length : Int) then (if 0 ≤ x7 then (if 0 ≤ x5 then (if x5 < (x4.length : Int) then (if ((rd_T39 x0 x7).f2.f1).toList = ((rd_T41 x4 x5).f1).toList then (if ((rd_T39 x0 x7).f2.f0) ≥ 2 then (if ((rd_T39 x0 x7).f2.f0) ≤ 4 then (souterrainlaw11_HintLast.l1 k x0 x3 x4 x5 x7 (wrap64 (x7 + 1))) else (souterrainlaw11_HintLast.l1 k x0 x3 x4 x5 x6 (wrap64 (x7 + 1)))) else (souterrainlaw11_HintLast.l1 k x0 x3 x4 x5 x6 (wrap64 (x7 + 1)))) else (souterrainlaw11_HintLast.l1 k x0 x3 x4 x5 x6 (wrap64 (x7 + 1)))) else (none)) else (none)) else (none)) else (if x6 < 0 then (some false) else (if 0 ≤ x6 then (if x6 < (x0.length : Int) then (if 0 ≤ x5 then (if x5 < (x4.length : Int) then (if ((rd_T39 x0 x6).f0) = ((rd_T41 x4 x5).f2) then (if ((rd_T39 x0 x6).f1) = ((rd_T41 x4 x5).f3) then (if ((rd_T39 x0 x6).f2.f0) = ((rd_T41 x4 x5).f0) then (if x5 > 0 then (if 0 ≤ (wrap64 (x5 - 1)) then (if (wrap64 (x5 - 1)) < (x4.length : Int) then (if ((Op.bytesLess (((rd_T41 x4 (wrap64 (x5 - 1))).f1).toList) (((rd_T41 x4 x5).f1).toList)) = true) then (souterrainlaw11_HintLast.l0 k x0 x3 x4 (wrap64 (x5 + 1))) else (some false)) else (none)) else (none)) else (souterrainlaw11_HintLast.l0 k x0 x3 x4 (wrap64 (x5 + 1)))) else (some false)) else (some false)) else (some false)) else (none)) else (none)) else (none)) else (none)))
def souterrainlaw11_HintLast.l2 : Nat → List (S39) → Bool → List (S41) → Int → Option (Bool)
  | 0, _, _, _, _ => none
  | k + 1, x0, x3, x4, x8 => if x8 < (x0.length : Int) then (if 0 ≤ x8 then (if ((rd_T39 x0 x8).f2.f0) < 2 then (souterrainlaw11_HintLast.j3 k x0 x3 x4 x8 true) else (souterrainlaw11_HintLast.j3 k x0 x3 x4 x8 (decide (((rd_T39 x0 x8).f2.f0) > 4)))) else (none)) else (some x3)
def souterrainlaw11_HintLast.j3 : Nat → List (S39) → Bool → List (S41) → Int → Bool → Option (Bool)
  | 0, _, _, _, _, _ => none
  | k + 1, x0, x3, x4, x8, x9 => souterrainlaw11_HintLast.l3 k x0 x3 x4 x8 x9 0
def souterrainlaw11_HintLast.l3 : Nat → List (S39) → Bool → List (S41) → Int → Bool → Int → Option (Bool)
  | 0, _, _, _, _, _, _ => none
  | k + 1, x0, x3, x4, x8, x9, x10 => if x10 < (x4.length : Int) then (if x9 = true then (souterrainlaw11_HintLast.l3 k x0 x3 x4 x8 true (wrap64 (x10 + 1))) else (if 0 ≤ x10 then (if 0 ≤ x8 then (if x8 < (x0.length : Int) then (souterrainlaw11_HintLast.l3 k x0 x3 x4 x8 (((rd_T41 x4 x10).f1).toList == ((rd_T39 x0 x8).f2.f1).toList) (wrap64 (x10 + 1))) else (none)) else (none)) else (none))) else (if x9 = true then (souterrainlaw11_HintLast.l2 k x0 x3 x4 (wrap64 (x8 + 1))) else (some false))
end
def souterrainlaw11_HintLast.f (k : Nat) (l0 : List (S39)) : Option (Bool) := (souterrainlaw11_head.f).bind fun t194 => ((souterrainlaw11_great.f k l0).bind fun t195 => (if t195 = true then (some t194) else ((hint_Of.f l0).bind fun t196 => (souterrainlaw11_HintLast.l0 k l0 t194 t196 0))))
theorem souterrainlaw11_HintLast.mono_l : ∀ k, (∀ y0 y1 y2 y3, LeO (souterrainlaw11_HintLast.l0 k y0 y1 y2 y3) (souterrainlaw11_HintLast.l0 (k + 1) y0 y1 y2 y3)) ∧ (∀ y0 y1 y2 y3 y4 y5, LeO (souterrainlaw11_HintLast.l1 k y0 y1 y2 y3 y4 y5) (souterrainlaw11_HintLast.l1 (k + 1) y0 y1 y2 y3 y4 y5)) ∧ (∀ y0 y1 y2 y3, LeO (souterrainlaw11_HintLast.l2 k y0 y1 y2 y3) (souterrainlaw11_HintLast.l2 (k + 1) y0 y1 y2 y3)) ∧ (∀ y0 y1 y2 y3 y4, LeO (souterrainlaw11_HintLast.j3 k y0 y1 y2 y3 y4) (souterrainlaw11_HintLast.j3 (k + 1) y0 y1 y2 y3 y4)) ∧ (∀ y0 y1 y2 y3 y4 y5, LeO (souterrainlaw11_HintLast.l3 k y0 y1 y2 y3 y4 y5) (souterrainlaw11_HintLast.l3 (k + 1) y0 y1 y2 y3 y4 y5))
  | 0 => ⟨fun _ _ _ _ r h => by simp [souterrainlaw11_HintLast.l0] at h, fun _ _ _ _ _ _ r h => by simp [souterrainlaw11_HintLast.l1] at h, fun _ _ _ _ r h => by simp [souterrainlaw11_HintLast.l2] at h, fun _ _ _ _ _ r h => by simp [souterrainlaw11_HintLast.j3] at h, fun _ _ _ _ _ _ r h => by simp [souterrainlaw11_HintLast.l3] at h⟩
  | k + 1 => by
    obtain ⟨ih0, ih1, ih2, ih3, ih4⟩ := souterrainlaw11_HintLast.mono_l k
    refine ⟨?_, ?_, ?_, ?_, ?_⟩
    · intro y0 y1 y2 y3
      unfold souterrainlaw11_HintLast.l0
      repeat' first
      | (with_reducible exact ih0 _ _ _ _)
      | (with_reducible exact ih1 _ _ _ _ _ _)
      | (with_reducible exact ih2 _ _ _ _)
      | (with_reducible exact ih3 _ _ _ _ _)
      | (with_reducible exact ih4 _ _ _ _ _ _)
      | (with_reducible exact souterrainlaw11_great.mono _ _)
      | (with_reducible exact LeO.refl _)
      | (with_reducible exact LeO.none _)
      | (with_reducible refine LeO.ite ?_ ?_)
      | (with_reducible refine LeO.bind ?_ (fun _ => ?_))
      | exact ih0 _ _ _ _
      | exact ih1 _ _ _ _ _ _
      | exact ih2 _ _ _ _
      | exact ih3 _ _ _ _ _
      | exact ih4 _ _ _ _ _ _
      | exact souterrainlaw11_great.mono _ _
      | exact LeO.none _
      | refine LeO.ite ?_ ?_
      | refine LeO.bind ?_ (fun _ => ?_)
    · intro y0 y1 y2 y3 y4 y5
      unfold souterrainlaw11_HintLast.l1
      repeat' first
      | (with_reducible exact ih0 _ _ _ _)
      | (with_reducible exact ih1 _ _ _ _ _ _)
      | (with_reducible exact ih2 _ _ _ _)
      | (with_reducible exact ih3 _ _ _ _ _)
      | (with_reducible exact ih4 _ _ _ _ _ _)
      | (with_reducible exact souterrainlaw11_great.mono _ _)
      | (with_reducible exact LeO.refl _)
      | (with_reducible exact LeO.none _)
      | (with_reducible refine LeO.ite ?_ ?_)
      | (with_reducible refine LeO.bind ?_ (fun _ => ?_))
      | exact ih0 _ _ _ _
      | exact ih1 _ _ _ _ _ _
      | exact ih2 _ _ _ _
      | exact ih3 _ _ _ _ _
      | exact ih4 _ _ _ _ _ _
      | exact souterrainlaw11_great.mono _ _
      | exact LeO.none _
      | refine LeO.ite ?_ ?_
      | refine LeO.bind ?_ (fun _ => ?_)
    · intro y0 y1 y2 y3
      unfold souterrainlaw11_HintLast.l2
      repeat' first
      | (with_reducible exact ih0 _ _ _ _)
      | (with_reducible exact ih1 _ _ _ _ _ _)
      | (with_reducible exact ih2 _ _ _ _)
      | (with_reducible exact ih3 _ _ _ _ _)
      | (with_reducible exact ih4 _ _ _ _ _ _)
      | (with_reducible exact souterrainlaw11_great.mono _ _)
      | (with_reducible exact LeO.refl _)
      | (with_reducible exact LeO.none _)
      | (with_reducible refine LeO.ite ?_ ?_)
      | (with_reducible refine LeO.bind ?_ (fun _ => ?_))
      | exact ih0 _ _ _ _
      | exact ih1 _ _ _ _ _ _
      | exact ih2 _ _ _ _
      | exact ih3 _ _ _ _ _
      | exact ih4 _ _ _ _ _ _
      | exact souterrainlaw11_great.mono _ _
      | exact LeO.none _
      | refine LeO.ite ?_ ?_
      | refine LeO.bind ?_ (fun _ => ?_)
    · intro y0 y1 y2 y3 y4
      unfold souterrainlaw11_HintLast.j3
      repeat' first
      | (with_reducible exact ih0 _ _ _ _)
      | (with_reducible exact ih1 _ _ _ _ _ _)
      | (with_reducible exact ih2 _ _ _ _)
      | (with_reducible exact ih3 _ _ _ _ _)
      | (with_reducible exact ih4 _ _ _ _ _ _)
      | (with_reducible exact souterrainlaw11_great.mono _ _)
      | (with_reducible exact LeO.refl _)
      | (with_reducible exact LeO.none _)
      | (with_reducible refine LeO.ite ?_ ?_)
      | (with_reducible refine LeO.bind ?_ (fun _ => ?_))
      | exact ih0 _ _ _ _
      | exact ih1 _ _ _ _ _ _
      | exact ih2 _ _ _ _
      | exact ih3 _ _ _ _ _
      | exact ih4 _ _ _ _ _ _
      | exact souterrainlaw11_great.mono _ _
      | exact LeO.none _
      | refine LeO.ite ?_ ?_
      | refine LeO.bind ?_ (fun _ => ?_)
    · intro y0 y1 y2 y3 y4 y5
      unfold souterrainlaw11_HintLast.l3
      repeat' first
      | (with_reducible exact ih0 _ _ _ _)
      | (with_reducible exact ih1 _ _ _ _ _ _)
      | (with_reducible exact ih2 _ _ _ _)
      | (with_reducible exact ih3 _ _ _ _ _)
      | (with_reducible exact ih4 _ _ _ _ _ _)
      | (with_reducible exact souterrainlaw11_great.mono _ _)
      | (with_reducible exact LeO.refl _)
      | (with_reducible exact LeO.none _)
      | (with_reducible refine LeO.ite ?_ ?_)
      | (with_reducible refine LeO.bind ?_ (fun _ => ?_))
      | exact ih0 _ _ _ _
      | exact ih1 _ _ _ _ _ _
      | exact ih2 _ _ _ _
      | exact ih3 _ _ _ _ _
      | exact ih4 _ _ _ _ _ _
      | exact souterrainlaw11_great.mono _ _
      | exact LeO.none _
      | refine LeO.ite ?_ ?_
      | refine LeO.bind ?_ (fun _ => ?_)
theorem souterrainlaw11_HintLast.mono : ∀ a0 k, LeO (souterrainlaw11_HintLast.f k a0) (souterrainlaw11_HintLast.f (k + 1) a0) := by
  intro a0 k
  obtain ⟨ih0, ih1, ih2, ih3, ih4⟩ := souterrainlaw11_HintLast.mono_l k
  unfold souterrainlaw11_HintLast.f
  repeat' first
      | (with_reducible exact ih0 _ _ _ _)
      | (with_reducible exact ih1 _ _ _ _ _ _)
      | (with_reducible exact ih2 _ _ _ _)
      | (with_reducible exact ih3 _ _ _ _ _)
      | (with_reducible exact ih4 _ _ _ _ _ _)
      | (with_reducible exact souterrainlaw11_great.mono _ _)
      | (with_reducible exact LeO.refl _)
      | (with_reducible exact LeO.none _)
      | (with_reducible refine LeO.ite ?_ ?_)
      | (with_reducible refine LeO.bind ?_ (fun _ => ?_))
      | exact ih0 _ _ _ _
      | exact ih1 _ _ _ _ _ _
      | exact ih2 _ _ _ _
      | exact ih3 _ _ _ _ _
      | exact ih4 _ _ _ _ _ _
      | exact souterrainlaw11_great.mono _ _
      | exact LeO.none _
      | refine LeO.ite ?_ ?_
      | refine LeO.bind ?_ (fun _ => ?_)
set_option maxHeartbeats 8000000 in
set_option maxRecDepth 100000 in
theorem souterrainlaw11_HintLast.calls (k : Nat) (A0 : Option Addr) (c0 : Nat) (l0 : List (S39)) (r : Bool) (w : World) (hr0 : Kd.C k39 w A0 l0.length l0) (hc0 : l0.length ≤ c0) (h : souterrainlaw11_HintLast.f k l0 = some r) :
    Calls Try.prog 5 #[.slice A0 l0.length c0] w fun e w' => e = .returned (.bool r) ∧ Below w.heap.size w w' := by
  have HR0 := Aside0.mk hr0
  have HC0 := Aside0.mk hc0
  clear hr0 hc0
  have HB := Aside0.mk (Below.refl w.heap.size w)
  have H : ((souterrainlaw11_head.f).bind fun t194 => ((souterrainlaw11_great.f k l0).bind fun t195 => (if t195 = true then (some t194) else ((hint_Of.f l0).bind fun t196 => (souterrainlaw11_HintLast.l0 k l0 t194 t196 0))))) = some r := h
  clear h
  replace H := Option.bind_eq_some_iff.mp H
  obtain ⟨t194, A20, H⟩ := H
  replace H : ((souterrainlaw11_great.f k l0).bind fun t195 => (if t195 = true then (some t194) else ((hint_Of.f l0).bind fun t196 => (souterrainlaw11_HintLast.l0 k l0 t194 t196 0)))) = some r := H
  have A2 := Aside0.mk A20
  clear A20
  replace H := Option.bind_eq_some_iff.mp H
  obtain ⟨t195, A30, H⟩ := H
  replace H : (if t195 = true then (some t194) else ((hint_Of.f l0).bind fun t196 => (souterrainlaw11_HintLast.l0 k l0 t194 t196 0))) = some r := H
  have A3 := Aside0.mk A30
  clear A30
  by_cases c4 : t195 = true
  · subst c4
    have H1 : (some t194) = some r := by rw [if_pos rfl] at H; exact H
    clear H
    have H := H1
    clear H1
    obtain rfl := Option.some.inj H
    go_enter Try.func5, Try.ntmps5
    go_wp2_with (first | (go_at_call 9; (with_reducible refine (souterrainlaw11_head.calls  t194 _ A2.out).mono ?_); rintro e w5 ⟨rfl, hb⟩; have n0_ := Aside0.mk (below_step (by repeat (first | (with_reducible first | exact HB.out | apply below_alloc | apply pw_below_drewN | apply below_drew1) | exact HB.out)) hb); clear HB; have HB := n0_; clear n0_; (try clear hb); (try clear hb2); (try clear hk); (try clear hi)) | (go_at_call 11; (with_reducible refine (souterrainlaw11_great.calls k _ _ l0 true _ ?side1 ?side2 A3.out).mono ?_); (case side1 => repeat (first | exact (Kd.C_below HR0.out HB.out) | (with_reducible refine Kd.C_alloc ?_ _) | (with_reducible refine Kd.C_drewN ?_ _) | (with_reducible refine Kd.C_drew ?_))); (case side2 => exact HC0.out); rintro e w6 ⟨rfl, hb⟩; have n0_ := Aside0.mk (below_step (by repeat (first | (with_reducible first | exact HB.out | apply below_alloc | apply pw_below_drewN | apply below_drew1) | exact HB.out)) hb); clear HB; have HB := n0_; clear n0_; (try clear hb); (try clear hb2); (try clear hk); (try clear hi)))
    repeat (go_quiet (first | (go_at_call 9; (with_reducible refine (souterrainlaw11_head.calls  t194 _ A2.out).mono ?_); rintro e w5 ⟨rfl, hb⟩; have n0_ := Aside0.mk (below_step (by repeat (first | (with_reducible first | exact HB.out | apply below_alloc | apply pw_below_drewN | apply below_drew1) | exact HB.out)) hb); clear HB; have HB := n0_; clear n0_; (try clear hb); (try clear hb2); (try clear hk); (try clear hi)) | (go_at_call 11; (with_reducible refine (souterrainlaw11_great.calls k _ _ l0 true _ ?side1 ?side2 A3.out).mono ?_); (case side1 => repeat (first | exact (Kd.C_below HR0.out HB.out) | (with_reducible refine Kd.C_alloc ?_ _) | (with_reducible refine Kd.C_drewN ?_ _) | (with_reducible refine Kd.C_drew ?_))); (case side2 => exact HC0.out); rintro e w6 ⟨rfl, hb⟩; have n0_ := Aside0.mk (below_step (by repeat (first | (with_reducible first | exact HB.out | apply below_alloc | apply pw_below_drewN | apply below_drew1) | exact HB.out)) hb); clear HB; have HB := n0_; clear n0_; (try clear hb); (try clear hb2); (try clear hk); (try clear hi))); try go_wp2_with (first | (go_at_call 9; (with_reducible refine (souterrainlaw11_head.calls  t194 _ A2.out).mono ?_); rintro e w5 ⟨rfl, hb⟩; have n0_ := Aside0.mk (below_step (by repeat (first | (with_reducible first | exact HB.out | apply below_alloc | apply pw_below_drewN | apply below_drew1) | exact HB.out)) hb); clear HB; have HB := n0_; clear n0_; (try clear hb); (try clear hb2); (try clear hk); (try clear hi)) | (go_at_call 11; (with_reducible refine (souterrainlaw11_great.calls k _ _ l0 true _ ?side1 ?side2 A3.out).mono ?_); (case side1 => repeat (first | exact (Kd.C_below HR0.out HB.out) | (with_reducible refine Kd.C_alloc ?_ _) | (with_reducible refine Kd.C_drewN ?_ _) | (with_reducible refine Kd.C_drew ?_))); (case side2 => exact HC0.out); rintro e w6 ⟨rfl, hb⟩; have n0_ := Aside0.mk (below_step (by repeat (first | (with_reducible first | exact HB.out | apply below_alloc | apply pw_below_drewN | apply below_drew1) | exact HB.out)) hb); clear HB; have HB := n0_; clear n0_; (try clear hb); (try clear hb2); (try clear hk); (try clear hi))))
    go_ret
    exact ⟨by first | rfl | (simp [errW_none, errW_some] <;> rfl) | (simp [*, errW_none, errW_some] <;> rfl), by repeat (first | (with_reducible first | exact HB.out | apply below_alloc | apply pw_below_drewN | apply below_drew1) | exact HB.out)⟩
  · replace c4 := Bool.eq_false_iff.mpr c4
    subst c4
    have H1 : ((hint_Of.f l0).bind fun t196 => (souterrainlaw11_HintLast.l0 k l0 t194 t196 0)) = some r := by rw [if_neg (show ¬ (false = true) by decide)] at H; exact H
    clear H
    have H := H1
    clear H1
    replace H := Option.bind_eq_some_iff.mp H
    obtain ⟨t196, A70, H⟩ := H
    replace H : (souterrainlaw11_HintLast.l0 k l0 t194 t196 0) = some r := H
    have A7 := Aside0.mk A70
    clear A70
    have H' := Aside0.mk H
    clear H
    go_enter Try.func5, Try.ntmps5
    go_wp2_with (first | (go_at_call 9; (with_reducible refine (souterrainlaw11_head.calls  t194 _ A2.out).mono ?_); rintro e w8 ⟨rfl, hb⟩; have n0_ := Aside0.mk (below_step (by repeat (first | (with_reducible first | exact HB.out | apply below_alloc | apply pw_below_drewN | apply below_drew1) | exact HB.out)) hb); clear HB; have HB := n0_; clear n0_; (try clear hb); (try clear hb2); (try clear hk); (try clear hi)) | (go_at_call 11; (with_reducible refine (souterrainlaw11_great.calls k _ _ l0 false _ ?side1 ?side2 A3.out).mono ?_); (case side1 => repeat (first | exact (Kd.C_below HR0.out HB.out) | (with_reducible refine Kd.C_alloc ?_ _) | (with_reducible refine Kd.C_drewN ?_ _) | (with_reducible refine Kd.C_drew ?_))); (case side2 => exact HC0.out); rintro e w9 ⟨rfl, hb⟩; have n0_ := Aside0.mk (below_step (by repeat (first | (with_reducible first | exact HB.out | apply below_alloc | apply pw_below_drewN | apply below_drew1) | exact HB.out)) hb); clear HB; have HB := n0_; clear n0_; (try clear hb); (try clear hb2); (try clear hk); (try clear hi)) | (go_at_call 19; (with_reducible refine (hint_Of.calls _ _ l0 t196 _ ?side1 ?side2 A7.out).mono ?_); (case side1 => repeat (first | exact (Kd.C_below HR0.out HB.out) | (with_reducible refine Kd.C_alloc ?_ _) | (with_reducible refine Kd.C_drewN ?_ _) | (with_reducible refine Kd.C_drew ?_))); (case side2 => exact HC0.out); rintro e w10 ⟨v197, rfl, ho0, hb⟩; have n0_ := Aside0.mk (Kd.R_lower ho0 (below_size (by repeat (first | (with_reducible first | exact HB.out | apply below_alloc | apply pw_below_drewN | apply below_drew1) | exact HB.out)))); have n1_ := Aside0.mk (below_step (by repeat (first | (with_reducible first | exact HB.out | apply below_alloc | apply pw_below_drewN | apply below_drew1) | exact HB.out)) hb); clear HB; have HO198 := n0_; have HB := n1_; clear n0_ n1_; (try clear hb); (try clear hb2); (try clear hk); (try clear hi); (try clear ho0)))
    repeat (go_quiet (first | (go_at_call 9; (with_reducible refine (souterrainlaw11_head.calls  t194 _ A2.out).mono ?_); rintro e w8 ⟨rfl, hb⟩; have n0_ := Aside0.mk (below_step (by repeat (first | (with_reducible first | exact HB.out | apply below_alloc | apply pw_below_drewN | apply below_drew1) | exact HB.out)) hb); clear HB; have HB := n0_; clear n0_; (try clear hb); (try clear hb2); (try clear hk); (try clear hi)) | (go_at_call 11; (with_reducible refine (souterrainlaw11_great.calls k _ _ l0 false _ ?side1 ?side2 A3.out).mono ?_); (case side1 => repeat (first | exact (Kd.C_below HR0.out HB.out) | (with_reducible refine Kd.C_alloc ?_ _) | (with_reducible refine Kd.C_drewN ?_ _) | (with_reducible refine Kd.C_drew ?_))); (case side2 => exact HC0.out); rintro e w9 ⟨rfl, hb⟩; have n0_ := Aside0.mk (below_step (by repeat (first | (with_reducible first | exact HB.out | apply below_alloc | apply pw_below_drewN | apply below_drew1) | exact HB.out)) hb); clear HB; have HB := n0_; clear n0_; (try clear hb); (try clear hb2); (try clear hk); (try clear hi)) | (go_at_call 19; (with_reducible refine (hint_Of.calls _ _ l0 t196 _ ?side1 ?side2 A7.out).mono ?_); (case side1 => repeat (first | exact (Kd.C_below HR0.out HB.out) | (with_reducible refine Kd.C_alloc ?_ _) | (with_reducible refine Kd.C_drewN ?_ _) | (with_reducible refine Kd.C_drew ?_))); (case side2 => exact HC0.out); rintro e w10 ⟨v197, rfl, ho0, hb⟩; have n0_ := Aside0.mk (Kd.R_lower ho0 (below_size (by repeat (first | (with_reducible first | exact HB.out | apply below_alloc | apply pw_below_drewN | apply below_drew1) | exact HB.out)))); have n1_ := Aside0.mk (below_step (by repeat (first | (with_reducible first | exact HB.out | apply below_alloc | apply pw_below_drewN | apply below_drew1) | exact HB.out)) hb); clear HB; have HO198 := n0_; have HB := n1_; clear n0_ n1_; (try clear hb); (try clear hb2); (try clear hk); (try clear hi); (try clear ho0))); try go_wp2_with (first | (go_at_call 9; (with_reducible refine (souterrainlaw11_head.calls  t194 _ A2.out).mono ?_); rintro e w8 ⟨rfl, hb⟩; have n0_ := Aside0.mk (below_step (by repeat (first | (with_reducible first | exact HB.out | apply below_alloc | apply pw_below_drewN | apply below_drew1) | exact HB.out)) hb); clear HB; have HB := n0_; clear n0_; (try clear hb); (try clear hb2); (try clear hk); (try clear hi)) | (go_at_call 11; (with_reducible refine (souterrainlaw11_great.calls k _ _ l0 false _ ?side1 ?side2 A3.out).mono ?_); (case side1 => repeat (first | exact (Kd.C_below HR0.out HB.out) | (with_reducible refine Kd.C_alloc ?_ _) | (with_reducible refine Kd.C_drewN ?_ _) | (with_reducible refine Kd.C_drew ?_))); (case side2 => exact HC0.out); rintro e w9 ⟨rfl, hb⟩; have n0_ := Aside0.mk (below_step (by repeat (first | (with_reducible first | exact HB.out | apply below_alloc | apply pw_below_drewN | apply below_drew1) | exact HB.out)) hb); clear HB; have HB := n0_; clear n0_; (try clear hb); (try clear hb2); (try clear hk); (try clear hi)) | (go_at_call 19; (with_reducible refine (hint_Of.calls _ _ l0 t196 _ ?side1 ?side2 A7.out).mono ?_); (case side1 => repeat (first | exact (Kd.C_below HR0.out HB.out) | (with_reducible refine Kd.C_alloc ?_ _) | (with_reducible refine Kd.C_drewN ?_ _) | (with_reducible refine Kd.C_drew ?_))); (case side2 => exact HC0.out); rintro e w10 ⟨v197, rfl, ho0, hb⟩; have n0_ := Aside0.mk (Kd.R_lower ho0 (below_size (by repeat (first | (with_reducible first | exact HB.out | apply below_alloc | apply pw_below_drewN | apply below_drew1) | exact HB.out)))); have n1_ := Aside0.mk (below_step (by repeat (first | (with_reducible first | exact HB.out | apply below_alloc | apply pw_below_drewN | apply below_drew1) | exact HB.out)) hb); clear HB; have HO198 := n0_; have HB := n1_; clear n0_ n1_; (try clear hb); (try clear hb2); (try clear hk); (try clear hi); (try clear ho0))))
    go_loopg [5] k (fun kq v5 w' => ∃ (x5_1 : Int), v5 = .int .i64 x5_1 ∧ Aside0 (souterrainlaw11_HintLast.l0 kq l0 t194 t196 x5_1 = some r) ∧ Aside0 (kq ≤ k) ∧ Aside0 (Kd.R k41 41 w' w.heap.size (fun _ => True) v197 t196) ∧ Aside0 (Below w.heap.size w w'))
    case atStart => exact ⟨(0), (by first | rfl | (simp; done) | (simp [*]; done)), H', ⟨Nat.le_refl _⟩, ⟨by (with_reducible repeat (first | apply Kd.R_alloc | apply Kd.R_drewN | apply Kd.R_drew)); exact HO198.out⟩, ⟨by repeat (first | (with_reducible first | exact HB.out | apply below_alloc | apply pw_below_drewN | apply below_drew1) | exact HB.out)⟩⟩
    case round =>
      clear H'
      try clear p2
      try clear c4
      try clear c5
      obtain ⟨x5_1, rfl, HA, HK1, HO_4, HB⟩ := hrel
      cases gk with
      | zero => exact absurd HA.out (by simp [souterrainlaw11_HintLast.l0])
      | succ k1 =>
        have H := HA.out
        clear HA
        simp only [souterrainlaw11_HintLast.l0] at H
        by_cases c11 : x5_1 < (t196.length : Int)
        · rw [if_pos c11] at H
          have c11b0 : decide (x5_1 < (t196.length : Int)) = true := decide_eq_true c11
          clear c11
          have H' := Aside0.mk H
          clear H
          obtain ⟨Ao12, co12, eo12⟩ := Kd.R_slice HO_4.out
          subst eo12
          go_wp2
          repeat (go_quiet (fail); try go_wp2)
          go_loopg [6, 7] k1 (fun kq v6 v7 w' => ∃ (x6_2 : Int) (x7_2 : Int), v6 = .int .i64 x6_2 ∧ v7 = .int .i64 x7_2 ∧ Aside0 (souterrainlaw11_HintLast.l1 kq l0 t194 t196 x5_1 x6_2 x7_2 = some r) ∧ Aside0 (kq ≤ k1) ∧ Aside0 (Kd.R k41 41 w' w.heap.size (fun _ => True) (.slice Ao12 t196.length co12) t196) ∧ Aside0 (Below w.heap.size w w'))
          case atStart => exact ⟨((-1)), (0), (by first | rfl | (simp; done) | (simp [*]; done)), (by first | rfl | (simp; done) | (simp [*]; done)), H', ⟨Nat.le_refl _⟩, ⟨by (with_reducible repeat (first | apply Kd.R_alloc | apply Kd.R_drewN | apply Kd.R_drew)); exact HO_4.out⟩, ⟨by repeat (first | (with_reducible first | exact HB.out | apply below_alloc | apply pw_below_drewN | apply below_drew1) | exact HB.out)⟩⟩
          case round =>
            clear H'
            try clear c1
            try clear p2
            try clear c4
            try clear c5
            try clear c11
            try clear c11b0
            try clear p2
            obtain ⟨x6_2, x7_2, rfl, rfl, HA, HK2, HO_4, HB⟩ := hrel
            cases gk with
            | zero => exact absurd HA.out (by simp [souterrainlaw11_HintLast.l1])
            | succ k2 =>
              have H := HA.out
              clear HA
              simp only [souterrainlaw11_HintLast.l1] at H
              by_cases c13 : x7_2 < (l0.length : Int)
              · rw [if_pos c13] at H
                have c13b0 : decide (x7_2 < (l0.length : Int)) = true := decide_eq_true c13
                clear c13
                by_cases c14 : 0 ≤ x7_2
                · rw [if_pos c14] at H
                  have c14b0 : decide (0 ≤ x7_2) = true := decide_eq_true c14
                  clear c14
                  by_cases c15 : 0 ≤ x5_1
                  · rw [if_pos c15] at H
                    have c15b0 : decide (0 ≤ x5_1) = true := decide_eq_true c15
                    clear c15
                    by_cases c16 : x5_1 < (t196.length : Int)
                    · rw [if_pos c16] at H
                      have c16b0 : decide (x5_1 < (t196.length : Int)) = true := decide_eq_true c16
                      clear c16
                      by_cases c17 : ((rd_T39 l0 x7_2).f2.f1).toList = ((rd_T41 t196 x5_1).f1).toList
                      · rw [if_pos c17] at H
                        have c17b0 : (((rd_T39 l0 x7_2).f2.f1).toList == ((rd_T41 t196 x5_1).f1).toList) = true := beq_iff_eq.mpr c17
                        have c17b1 : (((rd_T39 l0 x7_2).f2.f1).toList != ((rd_T41 t196 x5_1).f1).toList) = false := bne_eq_false_iff_eq.mpr c17
                        clear c17
                        by_cases c18 : ((rd_T39 l0 x7_2).f2.f0) ≥ 2
                        · rw [if_pos c18] at H
                          have c18b0 : decide (2 ≤ ((rd_T39 l0 x7_2).f2.f0)) = true := decide_eq_true c18
                          clear c18
                          by_cases c19 : ((rd_T39 l0 x7_2).f2.f0) ≤ 4
                          · rw [if_pos c19] at H
                            have c19b0 : decide (((rd_T39 l0 x7_2).f2.f0) ≤ 4) = true := decide_eq_true c19
                            clear c19
                            have H' := Aside0.mk H
                            clear H
                            have p199 : 0 ≤ (x7_2 : Int) := of_decide_eq_true (by first | (with_reducible assumption) | assumption)
                            have q199 : x7_2 < (l0.length : Int) := of_decide_eq_true (by first | (with_reducible assumption) | assumption)
                            obtain ⟨ad199, A199_7, c199_7, A199_8, c199_8, e199, hx199_0, hx199_1, hx199_2, hx199_3, hx199_4, hx199_5, hx199_6, hx199_7, hx199_8, hl199_7, hi199_7, hl199_8, hi199_8⟩ := at_T39 HR0.out x7_2 p199 q199
                            cases e199
                            replace hx199_0 := (HB.out.cell (World.block_lt_of_cell? w _ hx199_0)).trans hx199_0
                            replace hx199_1 := (HB.out.cell (World.block_lt_of_cell? w _ hx199_1)).trans hx199_1
                            replace hx199_2 := (HB.out.cell (World.block_lt_of_cell? w _ hx199_2)).trans hx199_2
                            replace hx199_3 := (HB.out.cell (World.block_lt_of_cell? w _ hx199_3)).trans hx199_3
                            replace hx199_4 := (HB.out.cell (World.block_lt_of_cell? w _ hx199_4)).trans hx199_4
                            replace hx199_5 := (HB.out.cell (World.block_lt_of_cell? w _ hx199_5)).trans hx199_5
                            replace hx199_6 := (HB.out.cell (World.block_lt_of_cell? w _ hx199_6)).trans hx199_6
                            replace hx199_7 := (HB.out.cell (World.block_lt_of_cell? w _ hx199_7)).trans hx199_7
                            replace hx199_8 := (HB.out.cell (World.block_lt_of_cell? w _ hx199_8)).trans hx199_8
                            have HR199_7 := Aside0.mk hi199_7
                            have HC199_7 := Aside0.mk hl199_7
                            clear hi199_7 hl199_7
                            have HR199_8 := Aside0.mk hi199_8
                            have HC199_8 := Aside0.mk hl199_8
                            clear hi199_8 hl199_8
                            replace p199 := eq_true p199
                            replace q199 := eq_true q199
                            have p200 : 0 ≤ (x5_1 : Int) := of_decide_eq_true (by first | (with_reducible assumption) | assumption)
                            have q200 : x5_1 < (t196.length : Int) := of_decide_eq_true (by first | (with_reducible assumption) | assumption)
                            obtain ⟨ad200, e200, hx200_0, hx200_1, hx200_2, hx200_3⟩ := at_T41 (Kd.R_reads' HO_4.out).2.2 x5_1 p200 q200
                            cases e200
                            replace p200 := eq_true p200
                            replace q200 := eq_true q200
                            have p201 : 0 ≤ (x7_2 : Int) := of_decide_eq_true (by first | (with_reducible assumption) | assumption)
                            have q201 : x7_2 < (l0.length : Int) := of_decide_eq_true (by first | (with_reducible assumption) | assumption)
                            obtain ⟨ad201, A201_7, c201_7, A201_8, c201_8, e201, hx201_0, hx201_1, hx201_2, hx201_3, hx201_4, hx201_5, hx201_6, hx201_7, hx201_8, hl201_7, hi201_7, hl201_8, hi201_8⟩ := at_T39 HR0.out x7_2 p201 q201
                            obtain rfl : ad199 = ad201 := (by injection e201)
                            replace hx201_0 := (HB.out.cell (World.block_lt_of_cell? w _ hx201_0)).trans hx201_0
                            replace hx201_1 := (HB.out.cell (World.block_lt_of_cell? w _ hx201_1)).trans hx201_1
                            replace hx201_2 := (HB.out.cell (World.block_lt_of_cell? w _ hx201_2)).trans hx201_2
                            replace hx201_3 := (HB.out.cell (World.block_lt_of_cell? w _ hx201_3)).trans hx201_3
                            replace hx201_4 := (HB.out.cell (World.block_lt_of_cell? w _ hx201_4)).trans hx201_4
                            replace hx201_5 := (HB.out.cell (World.block_lt_of_cell? w _ hx201_5)).trans hx201_5
                            replace hx201_6 := (HB.out.cell (World.block_lt_of_cell? w _ hx201_6)).trans hx201_6
                            replace hx201_7 := (HB.out.cell (World.block_lt_of_cell? w _ hx201_7)).trans hx201_7
                            replace hx201_8 := (HB.out.cell (World.block_lt_of_cell? w _ hx201_8)).trans hx201_8
                            have HR201_7 := Aside0.mk hi201_7
                            have HC201_7 := Aside0.mk hl201_7
                            clear hi201_7 hl201_7
                            have HR201_8 := Aside0.mk hi201_8
                            have HC201_8 := Aside0.mk hl201_8
                            clear hi201_8 hl201_8
                            replace p201 := eq_true p201
                            replace q201 := eq_true q201
                            have ea_ := Option.some.inj (hx199_7.symm.trans hx201_7)
                            injection ea_ with ea_ en_ ec_
                            subst ea_
                            subst ec_
                            clear en_
                            have ea_ := Option.some.inj (hx199_8.symm.trans hx201_8)
                            injection ea_ with ea_ en_ ec_
                            subst ea_
                            subst ec_
                            clear en_
                            have p202 : 0 ≤ (x7_2 : Int) := of_decide_eq_true (by first | (with_reducible assumption) | assumption)
                            have q202 : x7_2 < (l0.length : Int) := of_decide_eq_true (by first | (with_reducible assumption) | assumption)
                            obtain ⟨ad202, A202_7, c202_7, A202_8, c202_8, e202, hx202_0, hx202_1, hx202_2, hx202_3, hx202_4, hx202_5, hx202_6, hx202_7, hx202_8, hl202_7, hi202_7, hl202_8, hi202_8⟩ := at_T39 HR0.out x7_2 p202 q202
                            obtain rfl : ad199 = ad202 := (by injection e202)
                            replace hx202_0 := (HB.out.cell (World.block_lt_of_cell? w _ hx202_0)).trans hx202_0
                            replace hx202_1 := (HB.out.cell (World.block_lt_of_cell? w _ hx202_1)).trans hx202_1
                            replace hx202_2 := (HB.out.cell (World.block_lt_of_cell? w _ hx202_2)).trans hx202_2
                            replace hx202_3 := (HB.out.cell (World.block_lt_of_cell? w _ hx202_3)).trans hx202_3
                            replace hx202_4 := (HB.out.cell (World.block_lt_of_cell? w _ hx202_4)).trans hx202_4
                            replace hx202_5 := (HB.out.cell (World.block_lt_of_cell? w _ hx202_5)).trans hx202_5
                            replace hx202_6 := (HB.out.cell (World.block_lt_of_cell? w _ hx202_6)).trans hx202_6
                            replace hx202_7 := (HB.out.cell (World.block_lt_of_cell? w _ hx202_7)).trans hx202_7
                            replace hx202_8 := (HB.out.cell (World.block_lt_of_cell? w _ hx202_8)).trans hx202_8
                            have HR202_7 := Aside0.mk hi202_7
                            have HC202_7 := Aside0.mk hl202_7
                            clear hi202_7 hl202_7
                            have HR202_8 := Aside0.mk hi202_8
                            have HC202_8 := Aside0.mk hl202_8
                            clear hi202_8 hl202_8
                            replace p202 := eq_true p202
                            replace q202 := eq_true q202
                            have ea_ := Option.some.inj (hx199_7.symm.trans hx202_7)
                            injection ea_ with ea_ en_ ec_
                            subst ea_
                            subst ec_
                            clear en_
                            have ea_ := Option.some.inj (hx199_8.symm.trans hx202_8)
                            injection ea_ with ea_ en_ ec_
                            subst ea_
                            subst ec_
                            clear en_
                            go_wp2
                            repeat (go_quiet (fail); try go_wp2)
                            go_roundg k2
                            case measure => have := HK1.out; have := HK2.out; omega
                            case rel => exact ⟨(x7_2), (wrap64 (x7_2 + 1)), (by first | rfl | (simp; done) | (simp [*]; done)), (by first | rfl | (simp; done) | (simp [*]; done)), H', ⟨by have := HK1.out; have := HK2.out; omega⟩, ⟨by (with_reducible repeat (first | apply Kd.R_alloc | apply Kd.R_drewN | apply Kd.R_drew)); exact HO_4.out⟩, ⟨by repeat (first | (with_reducible first | exact HB.out | apply below_alloc | apply pw_below_drewN | apply below_drew1) | exact HB.out)⟩⟩
                          · rw [if_neg c19] at H
                            have c19b0 : decide (((rd_T39 l0 x7_2).f2.f0) ≤ 4) = false := decide_eq_false c19
                            clear c19
                            have H' := Aside0.mk H
                            clear H
                            have p199 : 0 ≤ (x7_2 : Int) := of_decide_eq_true (by first | (with_reducible assumption) | assumption)
                            have q199 : x7_2 < (l0.length : Int) := of_decide_eq_true (by first | (with_reducible assumption) | assumption)
                            obtain ⟨ad199, A199_7, c199_7, A199_8, c199_8, e199, hx199_0, hx199_1, hx199_2, hx199_3, hx199_4, hx199_5, hx199_6, hx199_7, hx199_8, hl199_7, hi199_7, hl199_8, hi199_8⟩ := at_T39 HR0.out x7_2 p199 q199
                            cases e199
                            replace hx199_0 := (HB.out.cell (World.block_lt_of_cell? w _ hx199_0)).trans hx199_0
                            replace hx199_1 := (HB.out.cell (World.block_lt_of_cell? w _ hx199_1)).trans hx199_1
                            replace hx199_2 := (HB.out.cell (World.block_lt_of_cell? w _ hx199_2)).trans hx199_2
                            replace hx199_3 := (HB.out.cell (World.block_lt_of_cell? w _ hx199_3)).trans hx199_3
                            replace hx199_4 := (HB.out.cell (World.block_lt_of_cell? w _ hx199_4)).trans hx199_4
                            replace hx199_5 := (HB.out.cell (World.block_lt_of_cell? w _ hx199_5)).trans hx199_5
                            replace hx199_6 := (HB.out.cell (World.block_lt_of_cell? w _ hx199_6)).trans hx199_6
                            replace hx199_7 := (HB.out.cell (World.block_lt_of_cell? w _ hx199_7)).trans hx199_7
                            replace hx199_8 := (HB.out.cell (World.block_lt_of_cell? w _ hx199_8)).trans hx199_8
                            have HR199_7 := Aside0.mk hi199_7
                            have HC199_7 := Aside0.mk hl199_7
                            clear hi199_7 hl199_7
                            have HR199_8 := Aside0.mk hi199_8
                            have HC199_8 := Aside0.mk hl199_8
                            clear hi199_8 hl199_8
                            replace p199 := eq_true p199
                            replace q199 := eq_true q199
                            have p200 : 0 ≤ (x5_1 : Int) := of_decide_eq_true (by first | (with_reducible assumption) | assumption)
                            have q200 : x5_1 < (t196.length : Int) := of_decide_eq_true (by first | (with_reducible assumption) | assumption)
                            obtain ⟨ad200, e200, hx200_0, hx200_1, hx200_2, hx200_3⟩ := at_T41 (Kd.R_reads' HO_4.out).2.2 x5_1 p200 q200
                            cases e200
                            replace p200 := eq_true p200
                            replace q200 := eq_true q200
                            have p201 : 0 ≤ (x7_2 : Int) := of_decide_eq_true (by first | (with_reducible assumption) | assumption)
                            have q201 : x7_2 < (l0.length : Int) := of_decide_eq_true (by first | (with_reducible assumption) | assumption)
                            obtain ⟨ad201, A201_7, c201_7, A201_8, c201_8, e201, hx201_0, hx201_1, hx201_2, hx201_3, hx201_4, hx201_5, hx201_6, hx201_7, hx201_8, hl201_7, hi201_7, hl201_8, hi201_8⟩ := at_T39 HR0.out x7_2 p201 q201
                            obtain rfl : ad199 = ad201 := (by injection e201)
                            replace hx201_0 := (HB.out.cell (World.block_lt_of_cell? w _ hx201_0)).trans hx201_0
                            replace hx201_1 := (HB.out.cell (World.block_lt_of_cell? w _ hx201_1)).trans hx201_1
                            replace hx201_2 := (HB.out.cell (World.block_lt_of_cell? w _ hx201_2)).trans hx201_2
                            replace hx201_3 := (HB.out.cell (World.block_lt_of_cell? w _ hx201_3)).trans hx201_3
                            replace hx201_4 := (HB.out.cell (World.block_lt_of_cell? w _ hx201_4)).trans hx201_4
                            replace hx201_5 := (HB.out.cell (World.block_lt_of_cell? w _ hx201_5)).trans hx201_5
                            replace hx201_6 := (HB.out.cell (World.block_lt_of_cell? w _ hx201_6)).trans hx201_6
                            replace hx201_7 := (HB.out.cell (World.block_lt_of_cell? w _ hx201_7)).trans hx201_7
                            replace hx201_8 := (HB.out.cell (World.block_lt_of_cell? w _ hx201_8)).trans hx201_8
                            have HR201_7 := Aside0.mk hi201_7
                            have HC201_7 := Aside0.mk hl201_7
                            clear hi201_7 hl201_7
                            have HR201_8 := Aside0.mk hi201_8
                            have HC201_8 := Aside0.mk hl201_8
                            clear hi201_8 hl201_8
                            replace p201 := eq_true p201
                            replace q201 := eq_true q201
                            have ea_ := Option.some.inj (hx199_7.symm.trans hx201_7)
                            injection ea_ with ea_ en_ ec_
                            subst ea_
                            subst ec_
                            clear en_
                            have ea_ := Option.some.inj (hx199_8.symm.trans hx201_8)
                            injection ea_ with ea_ en_ ec_
                            subst ea_
                            subst ec_
                            clear en_
                            have p202 : 0 ≤ (x7_2 : Int) := of_decide_eq_true (by first | (with_reducible assumption) | assumption)
                            have q202 : x7_2 < (l0.length : Int) := of_decide_eq_true (by first | (with_reducible assumption) | assumption)
                            obtain ⟨ad202, A202_7, c202_7, A202_8, c202_8, e202, hx202_0, hx202_1, hx202_2, hx202_3, hx202_4, hx202_5, hx202_6, hx202_7, hx202_8, hl202_7, hi202_7, hl202_8, hi202_8⟩ := at_T39 HR0.out x7_2 p202 q202
                            obtain rfl : ad199 = ad202 := (by injection e202)
                            replace hx202_0 := (HB.out.cell (World.block_lt_of_cell? w _ hx202_0)).trans hx202_0
                            replace hx202_1 := (HB.out.cell (World.block_lt_of_cell? w _ hx202_1)).trans hx202_1
                            replace hx202_2 := (HB.out.cell (World.block_lt_of_cell? w _ hx202_2)).trans hx202_2
                            replace hx202_3 := (HB.out.cell (World.block_lt_of_cell? w _ hx202_3)).trans hx202_3
                            replace hx202_4 := (HB.out.cell (World.block_lt_of_cell? w _ hx202_4)).trans hx202_4
                            replace hx202_5 := (HB.out.cell (World.block_lt_of_cell? w _ hx202_5)).trans hx202_5
                            replace hx202_6 := (HB.out.cell (World.block_lt_of_cell? w _ hx202_6)).trans hx202_6
                            replace hx202_7 := (HB.out.cell (World.block_lt_of_cell? w _ hx202_7)).trans hx202_7
                            replace hx202_8 := (HB.out.cell (World.block_lt_of_cell? w _ hx202_8)).trans hx202_8
                            have HR202_7 := Aside0.mk hi202_7
                            have HC202_7 := Aside0.mk hl202_7
                            clear hi202_7 hl202_7
                            have HR202_8 := Aside0.mk hi202_8
                            have HC202_8 := Aside0.mk hl202_8
                            clear hi202_8 hl202_8
                            replace p202 := eq_true p202
                            replace q202 := eq_true q202
                            have ea_ := Option.some.inj (hx199_7.symm.trans hx202_7)
                            injection ea_ with ea_ en_ ec_
                            subst ea_
                            subst ec_
                            clear en_
                            have ea_ := Option.some.inj (hx199_8.symm.trans hx202_8)
                            injection ea_ with ea_ en_ ec_
                            subst ea_
                            subst ec_
                            clear en_
                            go_wp2
                            repeat (go_quiet (fail); try go_wp2)
                            go_roundg k2
                            case measure => have := HK1.out; have := HK2.out; omega
                            case rel => exact ⟨(x6_2), (wrap64 (x7_2 + 1)), (by first | rfl | (simp; done) | (simp [*]; done)), (by first | rfl | (simp; done) | (simp [*]; done)), H', ⟨by have := HK1.out; have := HK2.out; omega⟩, ⟨by (with_reducible repeat (first | apply Kd.R_alloc | apply Kd.R_drewN | apply Kd.R_drew)); exact HO_4.out⟩, ⟨by repeat (first | (with_reducible first | exact HB.out | apply below_alloc | apply pw_below_drewN | apply below_drew1) | exact HB.out)⟩⟩
                        · rw [if_neg c18] at H
                          have c18b0 : decide (2 ≤ ((rd_T39 l0 x7_2).f2.f0)) = false := decide_eq_false c18
                          clear c18
                          have H' := Aside0.mk H
                          clear H
                          have p199 : 0 ≤ (x7_2 : Int) := of_decide_eq_true (by first | (with_reducible assumption) | assumption)
                          have q199 : x7_2 < (l0.length : Int) := of_decide_eq_true (by first | (with_reducible assumption) | assumption)
                          obtain ⟨ad199, A199_7, c199_7, A199_8, c199_8, e199, hx199_0, hx199_1, hx199_2, hx199_3, hx199_4, hx199_5, hx199_6, hx199_7, hx199_8, hl199_7, hi199_7, hl199_8, hi199_8⟩ := at_T39 HR0.out x7_2 p199 q199
                          cases e199
                          replace hx199_0 := (HB.out.cell (World.block_lt_of_cell? w _ hx199_0)).trans hx199_0
                          replace hx199_1 := (HB.out.cell (World.block_lt_of_cell? w _ hx199_1)).trans hx199_1
                          replace hx199_2 := (HB.out.cell (World.block_lt_of_cell? w _ hx199_2)).trans hx199_2
                          replace hx199_3 := (HB.out.cell (World.block_lt_of_cell? w _ hx199_3)).trans hx199_3
                          replace hx199_4 := (HB.out.cell (World.block_lt_of_cell? w _ hx199_4)).trans hx199_4
                          replace hx199_5 := (HB.out.cell (World.block_lt_of_cell? w _ hx199_5)).trans hx199_5
                          replace hx199_6 := (HB.out.cell (World.block_lt_of_cell? w _ hx199_6)).trans hx199_6
                          replace hx199_7 := (HB.out.cell (World.block_lt_of_cell? w _ hx199_7)).trans hx199_7
                          replace hx199_8 := (HB.out.cell (World.block_lt_of_cell? w _ hx199_8)).trans hx199_8
                          have HR199_7 := Aside0.mk hi199_7
                          have HC199_7 := Aside0.mk hl199_7
                          clear hi199_7 hl199_7
                          have HR199_8 := Aside0.mk hi199_8
                          have HC199_8 := Aside0.mk hl199_8
                          clear hi199_8 hl199_8
                          replace p199 := eq_true p199
                          replace q199 := eq_true q199
                          have p200 : 0 ≤ (x5_1 : Int) := of_decide_eq_true (by first | (with_reducible assumption) | assumption)
                          have q200 : x5_1 < (t196.length : Int) := of_decide_eq_true (by first | (with_reducible assumption) | assumption)
                          obtain ⟨ad200, e200, hx200_0, hx200_1, hx200_2, hx200_3⟩ := at_T41 (Kd.R_reads' HO_4.out).2.2 x5_1 p200 q200
                          cases e200
                          replace p200 := eq_true p200
                          replace q200 := eq_true q200
                          have p201 : 0 ≤ (x7_2 : Int) := of_decide_eq_true (by first | (with_reducible assumption) | assumption)
                          have q201 : x7_2 < (l0.length : Int) := of_decide_eq_true (by first | (with_reducible assumption) | assumption)
                          obtain ⟨ad201, A201_7, c201_7, A201_8, c201_8, e201, hx201_0, hx201_1, hx201_2, hx201_3, hx201_4, hx201_5, hx201_6, hx201_7, hx201_8, hl201_7, hi201_7, hl201_8, hi201_8⟩ := at_T39 HR0.out x7_2 p201 q201
                          obtain rfl : ad199 = ad201 := (by injection e201)
                          replace hx201_0 := (HB.out.cell (World.block_lt_of_cell? w _ hx201_0)).trans hx201_0
                          replace hx201_1 := (HB.out.cell (World.block_lt_of_cell? w _ hx201_1)).trans hx201_1
                          replace hx201_2 := (HB.out.cell (World.block_lt_of_cell? w _ hx201_2)).trans hx201_2
                          replace hx201_3 := (HB.out.cell (World.block_lt_of_cell? w _ hx201_3)).trans hx201_3
                          replace hx201_4 := (HB.out.cell (World.block_lt_of_cell? w _ hx201_4)).trans hx201_4
                          replace hx201_5 := (HB.out.cell (World.block_lt_of_cell? w _ hx201_5)).trans hx201_5
                          replace hx201_6 := (HB.out.cell (World.block_lt_of_cell? w _ hx201_6)).trans hx201_6
                          replace hx201_7 := (HB.out.cell (World.block_lt_of_cell? w _ hx201_7)).trans hx201_7
                          replace hx201_8 := (HB.out.cell (World.block_lt_of_cell? w _ hx201_8)).trans hx201_8
                          have HR201_7 := Aside0.mk hi201_7
                          have HC201_7 := Aside0.mk hl201_7
                          clear hi201_7 hl201_7
                          have HR201_8 := Aside0.mk hi201_8
                          have HC201_8 := Aside0.mk hl201_8
                          clear hi201_8 hl201_8
                          replace p201 := eq_true p201
                          replace q201 := eq_true q201
                          have ea_ := Option.some.inj (hx199_7.symm.trans hx201_7)
                          injection ea_ with ea_ en_ ec_
                          subst ea_
                          subst ec_
                          clear en_
                          have ea_ := Option.some.inj (hx199_8.symm.trans hx201_8)
                          injection ea_ with ea_ en_ ec_
                          subst ea_
                          subst ec_
                          clear en_
                          go_wp2
                          repeat (go_quiet (fail); try go_wp2)
                          go_roundg k2
                          case measure => have := HK1.out; have := HK2.out; omega
                          case rel => exact ⟨(x6_2), (wrap64 (x7_2 + 1)), (by first | rfl | (simp; done) | (simp [*]; done)), (by first | rfl | (simp; done) | (simp [*]; done)), H', ⟨by have := HK1.out; have := HK2.out; omega⟩, ⟨by (with_reducible repeat (first | apply Kd.R_alloc | apply Kd.R_drewN | apply Kd.R_drew)); exact HO_4.out⟩, ⟨by repeat (first | (with_reducible first | exact HB.out | apply below_alloc | apply pw_below_drewN | apply below_drew1) | exact HB.out)⟩⟩
                      · rw [if_neg c17] at H
                        have c17b0 : (((rd_T39 l0 x7_2).f2.f1).toList == ((rd_T41 t196 x5_1).f1).toList) = false := beq_eq_false_iff_ne.mpr c17
                        have c17b1 : (((rd_T39 l0 x7_2).f2.f1).toList != ((rd_T41 t196 x5_1).f1).toList) = true := bne_iff_ne.mpr c17
                        have H' := Aside0.mk H
                        clear H
                        have p199 : 0 ≤ (x7_2 : Int) := of_decide_eq_true (by first | (with_reducible assumption) | assumption)
                        have q199 : x7_2 < (l0.length : Int) := of_decide_eq_true (by first | (with_reducible assumption) | assumption)
                        obtain ⟨ad199, A199_7, c199_7, A199_8, c199_8, e199, hx199_0, hx199_1, hx199_2, hx199_3, hx199_4, hx199_5, hx199_6, hx199_7, hx199_8, hl199_7, hi199_7, hl199_8, hi199_8⟩ := at_T39 HR0.out x7_2 p199 q199
                        cases e199
                        replace hx199_0 := (HB.out.cell (World.block_lt_of_cell? w _ hx199_0)).trans hx199_0
                        replace hx199_1 := (HB.out.cell (World.block_lt_of_cell? w _ hx199_1)).trans hx199_1
                        replace hx199_2 := (HB.out.cell (World.block_lt_of_cell? w _ hx199_2)).trans hx199_2
                        replace hx199_3 := (HB.out.cell (World.block_lt_of_cell? w _ hx199_3)).trans hx199_3
                        replace hx199_4 := (HB.out.cell (World.block_lt_of_cell? w _ hx199_4)).trans hx199_4
                        replace hx199_5 := (HB.out.cell (World.block_lt_of_cell? w _ hx199_5)).trans hx199_5
                        replace hx199_6 := (HB.out.cell (World.block_lt_of_cell? w _ hx199_6)).trans hx199_6
                        replace hx199_7 := (HB.out.cell (World.block_lt_of_cell? w _ hx199_7)).trans hx199_7
                        replace hx199_8 := (HB.out.cell (World.block_lt_of_cell? w _ hx199_8)).trans hx199_8
                        have HR199_7 := Aside0.mk hi199_7
                        have HC199_7 := Aside0.mk hl199_7
                        clear hi199_7 hl199_7
                        have HR199_8 := Aside0.mk hi199_8
                        have HC199_8 := Aside0.mk hl199_8
                        clear hi199_8 hl199_8
                        replace p199 := eq_true p199
                        replace q199 := eq_true q199
                        have p200 : 0 ≤ (x5_1 : Int) := of_decide_eq_true (by first | (with_reducible assumption) | assumption)
                        have q200 : x5_1 < (t196.length : Int) := of_decide_eq_true (by first | (with_reducible assumption) | assumption)
                        obtain ⟨ad200, e200, hx200_0, hx200_1, hx200_2, hx200_3⟩ := at_T41 (Kd.R_reads' HO_4.out).2.2 x5_1 p200 q200
                        cases e200
                        replace p200 := eq_true p200
                        replace q200 := eq_true q200
                        go_wp2
                        repeat (go_quiet (fail); try go_wp2)
                        go_roundg k2
                        case measure => have := HK1.out; have := HK2.out; omega
                        case rel => exact ⟨(x6_2), (wrap64 (x7_2 + 1)), (by first | rfl | (simp; done) | (simp [*]; done)), (by first | rfl | (simp; done) | (simp [*]; done)), H', ⟨by have := HK1.out; have := HK2.out; omega⟩, ⟨by (with_reducible repeat (first | apply Kd.R_alloc | apply Kd.R_drewN | apply Kd.R_drew)); exact HO_4.out⟩, ⟨by repeat (first | (with_reducible first | exact HB.out | apply below_alloc | apply pw_below_drewN | apply below_drew1) | exact HB.out)⟩⟩
                    · rw [if_neg c16] at H
                      exact absurd H (by simp)
                  · rw [if_neg c15] at H
                    exact absurd H (by simp)
                · rw [if_neg c14] at H
                  exact absurd H (by simp)
              · rw [if_neg c13] at H
                have c13b0 : decide (x7_2 < (l0.length : Int)) = false := decide_eq_false c13
                clear c13
                by_cases c20 : x6_2 < 0
                · rw [if_pos c20] at H
                  have c20b0 : decide (x6_2 < 0) = true := decide_eq_true c20
                  clear c20
                  obtain rfl := Option.some.inj H
                  go_wp2
                  repeat (go_quiet (fail); try go_wp2)
                  go_ret
                  exact ⟨by first | rfl | (simp [errW_none, errW_some] <;> rfl) | (simp [*, errW_none, errW_some] <;> rfl), by repeat (first | (with_reducible first | exact HB.out | apply below_alloc | apply pw_below_drewN | apply below_drew1) | exact HB.out)⟩
                · rw [if_neg c20] at H
                  have c20b0 : decide (x6_2 < 0) = false := decide_eq_false c20
                  clear c20
                  by_cases c21 : 0 ≤ x6_2
                  · rw [if_pos c21] at H
                    have c21b0 : decide (0 ≤ x6_2) = true := decide_eq_true c21
                    clear c21
                    by_cases c22 : x6_2 < (l0.length : Int)
                    · rw [if_pos c22] at H
                      have c22b0 : decide (x6_2 < (l0.length : Int)) = true := decide_eq_true c22
                      clear c22
                      by_cases c23 : 0 ≤ x5_1
                      · rw [if_pos c23] at H
                        have c23b0 : decide (0 ≤ x5_1) = true := decide_eq_true c23
                        clear c23
                        by_cases c24 : x5_1 < (t196.length : Int)
                        · rw [if_pos c24] at H
                          have c24b0 : decide (x5_1 < (t196.length : Int)) = true := decide_eq_true c24
                          clear c24
                          by_cases c25 : ((rd_T39 l0 x6_2).f0) = ((rd_T41 t196 x5_1).f2)
                          · rw [if_pos c25] at H
                            have c25b0 : (((rd_T39 l0 x6_2).f0) == ((rd_T41 t196 x5_1).f2)) = true := beq_iff_eq.mpr c25
                            have c25b1 : (((rd_T39 l0 x6_2).f0) != ((rd_T41 t196 x5_1).f2)) = false := bne_eq_false_iff_eq.mpr c25
                            clear c25
                            by_cases c26 : ((rd_T39 l0 x6_2).f1) = ((rd_T41 t196 x5_1).f3)
                            · rw [if_pos c26] at H
                              have c26b0 : (((rd_T39 l0 x6_2).f1) == ((rd_T41 t196 x5_1).f3)) = true := beq_iff_eq.mpr c26
                              have c26b1 : (((rd_T39 l0 x6_2).f1) != ((rd_T41 t196 x5_1).f3)) = false := bne_eq_false_iff_eq.mpr c26
                              clear c26
                              by_cases c27 : ((rd_T39 l0 x6_2).f2.f0) = ((rd_T41 t196 x5_1).f0)
                              · rw [if_pos c27] at H
                                have c27b0 : (((rd_T39 l0 x6_2).f2.f0) == ((rd_T41 t196 x5_1).f0)) = true := beq_iff_eq.mpr c27
                                have c27b1 : (((rd_T39 l0 x6_2).f2.f0) != ((rd_T41 t196 x5_1).f0)) = false := bne_eq_false_iff_eq.mpr c27
                                clear c27
                                by_cases c28 : x5_1 > 0
                                · rw [if_pos c28] at H
                                  have c28b0 : decide (0 < x5_1) = true := decide_eq_true c28
                                  clear c28
                                  obtain ⟨ji29, hji29⟩ : ∃ j_ : Int, (wrap64 (x5_1 - 1)) = j_ := ⟨_, rfl⟩
                                  replace H : (if 0 ≤ (ji29) then (if (ji29) < (t196.length : Int) then (if ((Op.bytesLess (((rd_T41 t196 (ji29)).f1).toList) (((rd_T41 t196 x5_1).f1).toList)) = true) then (souterrainlaw11_HintLast.l0 k2 l0 t194 t196 (wrap64 (x5_1 + 1))) else (some false)) else (none)) else (none)) = some r := by first | (rw [hji29] at H; exact H) | (simp only [hji29] at H ⊢; exact H)
                                  have hji29w : (IntKind.i64.wrap (x5_1 - 1)) = ji29 := (i64_w _).trans hji29
                                  by_cases c30 : 0 ≤ (ji29)
                                  · rw [if_pos c30] at H
                                    have c30b0 : decide (0 ≤ (ji29)) = true := decide_eq_true c30
                                    clear c30
                                    by_cases c31 : (ji29) < (t196.length : Int)
                                    · rw [if_pos c31] at H
                                      have c31b0 : decide ((ji29) < (t196.length : Int)) = true := decide_eq_true c31
                                      clear c31
                                      by_cases c32 : ((Op.bytesLess (((rd_T41 t196 (ji29)).f1).toList) (((rd_T41 t196 x5_1).f1).toList)) = true)
                                      · rw [if_pos c32] at H
                                        have c32b0 : (Op.bytesLess (((rd_T41 t196 (ji29)).f1).toList) (((rd_T41 t196 x5_1).f1).toList)) = true := c32
                                        clear c32
                                        have H' := Aside0.mk H
                                        clear H
                                        have p203 : 0 ≤ (x6_2 : Int) := of_decide_eq_true (by first | (with_reducible assumption) | assumption)
                                        have q203 : x6_2 < (l0.length : Int) := of_decide_eq_true (by first | (with_reducible assumption) | assumption)
                                        obtain ⟨ad203, A203_7, c203_7, A203_8, c203_8, e203, hx203_0, hx203_1, hx203_2, hx203_3, hx203_4, hx203_5, hx203_6, hx203_7, hx203_8, hl203_7, hi203_7, hl203_8, hi203_8⟩ := at_T39 HR0.out x6_2 p203 q203
                                        cases e203
                                        replace hx203_0 := (HB.out.cell (World.block_lt_of_cell? w _ hx203_0)).trans hx203_0
                                        replace hx203_1 := (HB.out.cell (World.block_lt_of_cell? w _ hx203_1)).trans hx203_1
                                        replace hx203_2 := (HB.out.cell (World.block_lt_of_cell? w _ hx203_2)).trans hx203_2
                                        replace hx203_3 := (HB.out.cell (World.block_lt_of_cell? w _ hx203_3)).trans hx203_3
                                        replace hx203_4 := (HB.out.cell (World.block_lt_of_cell? w _ hx203_4)).trans hx203_4
                                        replace hx203_5 := (HB.out.cell (World.block_lt_of_cell? w _ hx203_5)).trans hx203_5
                                        replace hx203_6 := (HB.out.cell (World.block_lt_of_cell? w _ hx203_6)).trans hx203_6
                                        replace hx203_7 := (HB.out.cell (World.block_lt_of_cell? w _ hx203_7)).trans hx203_7
                                        replace hx203_8 := (HB.out.cell (World.block_lt_of_cell? w _ hx203_8)).trans hx203_8
                                        have HR203_7 := Aside0.mk hi203_7
                                        have HC203_7 := Aside0.mk hl203_7
                                        clear hi203_7 hl203_7
                                        have HR203_8 := Aside0.mk hi203_8
                                        have HC203_8 := Aside0.mk hl203_8
                                        clear hi203_8 hl203_8
                                        replace p203 := eq_true p203
                                        replace q203 := eq_true q203
                                        have p204 : 0 ≤ (x5_1 : Int) := of_decide_eq_true (by first | (with_reducible assumption) | assumption)
                                        have q204 : x5_1 < (t196.length : Int) := of_decide_eq_true (by first | (with_reducible assumption) | assumption)
                                        obtain ⟨ad204, e204, hx204_0, hx204_1, hx204_2, hx204_3⟩ := at_T41 (Kd.R_reads' HO_4.out).2.2 x5_1 p204 q204
                                        cases e204
                                        replace p204 := eq_true p204
                                        replace q204 := eq_true q204
                                        have p205 : 0 ≤ (x6_2 : Int) := of_decide_eq_true (by first | (with_reducible assumption) | assumption)
                                        have q205 : x6_2 < (l0.length : Int) := of_decide_eq_true (by first | (with_reducible assumption) | assumption)
                                        obtain ⟨ad205, A205_7, c205_7, A205_8, c205_8, e205, hx205_0, hx205_1, hx205_2, hx205_3, hx205_4, hx205_5, hx205_6, hx205_7, hx205_8, hl205_7, hi205_7, hl205_8, hi205_8⟩ := at_T39 HR0.out x6_2 p205 q205
                                        obtain rfl : ad203 = ad205 := (by injection e205)
                                        replace hx205_0 := (HB.out.cell (World.block_lt_of_cell? w _ hx205_0)).trans hx205_0
                                        replace hx205_1 := (HB.out.cell (World.block_lt_of_cell? w _ hx205_1)).trans hx205_1
                                        replace hx205_2 := (HB.out.cell (World.block_lt_of_cell? w _ hx205_2)).trans hx205_2
                                        replace hx205_3 := (HB.out.cell (World.block_lt_of_cell? w _ hx205_3)).trans hx205_3
                                        replace hx205_4 := (HB.out.cell (World.block_lt_of_cell? w _ hx205_4)).trans hx205_4
                                        replace hx205_5 := (HB.out.cell (World.block_lt_of_cell? w _ hx205_5)).trans hx205_5
                                        replace hx205_6 := (HB.out.cell (World.block_lt_of_cell? w _ hx205_6)).trans hx205_6
                                        replace hx205_7 := (HB.out.cell (World.block_lt_of_cell? w _ hx205_7)).trans hx205_7
                                        replace hx205_8 := (HB.out.cell (World.block_lt_of_cell? w _ hx205_8)).trans hx205_8
                                        have HR205_7 := Aside0.mk hi205_7
                                        have HC205_7 := Aside0.mk hl205_7
                                        clear hi205_7 hl205_7
                                        have HR205_8 := Aside0.mk hi205_8
                                        have HC205_8 := Aside0.mk hl205_8
                                        clear hi205_8 hl205_8
                                        replace p205 := eq_true p205
                                        replace q205 := eq_true q205
                                        have ea_ := Option.some.inj (hx203_7.symm.trans hx205_7)
                                        injection ea_ with ea_ en_ ec_
                                        subst ea_
                                        subst ec_
                                        clear en_
                                        have ea_ := Option.some.inj (hx203_8.symm.trans hx205_8)
                                        injection ea_ with ea_ en_ ec_
                                        subst ea_
                                        subst ec_
                                        clear en_
                                        have p206 : 0 ≤ (x5_1 : Int) := of_decide_eq_true (by first | (with_reducible assumption) | assumption)
                                        have q206 : x5_1 < (t196.length : Int) := of_decide_eq_true (by first | (with_reducible assumption) | assumption)
                                        obtain ⟨ad206, e206, hx206_0, hx206_1, hx206_2, hx206_3⟩ := at_T41 (Kd.R_reads' HO_4.out).2.2 x5_1 p206 q206
                                        obtain rfl : ad204 = ad206 := (by injection e206)
                                        replace p206 := eq_true p206
                                        replace q206 := eq_true q206
                                        have p207 : 0 ≤ (x6_2 : Int) := of_decide_eq_true (by first | (with_reducible assumption) | assumption)
                                        have q207 : x6_2 < (l0.length : Int) := of_decide_eq_true (by first | (with_reducible assumption) | assumption)
                                        obtain ⟨ad207, A207_7, c207_7, A207_8, c207_8, e207, hx207_0, hx207_1, hx207_2, hx207_3, hx207_4, hx207_5, hx207_6, hx207_7, hx207_8, hl207_7, hi207_7, hl207_8, hi207_8⟩ := at_T39 HR0.out x6_2 p207 q207
                                        obtain rfl : ad203 = ad207 := (by injection e207)
                                        replace hx207_0 := (HB.out.cell (World.block_lt_of_cell? w _ hx207_0)).trans hx207_0
                                        replace hx207_1 := (HB.out.cell (World.block_lt_of_cell? w _ hx207_1)).trans hx207_1
                                        replace hx207_2 := (HB.out.cell (World.block_lt_of_cell? w _ hx207_2)).trans hx207_2
                                        replace hx207_3 := (HB.out.cell (World.block_lt_of_cell? w _ hx207_3)).trans hx207_3
                                        replace hx207_4 := (HB.out.cell (World.block_lt_of_cell? w _ hx207_4)).trans hx207_4
                                        replace hx207_5 := (HB.out.cell (World.block_lt_of_cell? w _ hx207_5)).trans hx207_5
                                        replace hx207_6 := (HB.out.cell (World.block_lt_of_cell? w _ hx207_6)).trans hx207_6
                                        replace hx207_7 := (HB.out.cell (World.block_lt_of_cell? w _ hx207_7)).trans hx207_7
                                        replace hx207_8 := (HB.out.cell (World.block_lt_of_cell? w _ hx207_8)).trans hx207_8
                                        have HR207_7 := Aside0.mk hi207_7
                                        have HC207_7 := Aside0.mk hl207_7
                                        clear hi207_7 hl207_7
                                        have HR207_8 := Aside0.mk hi207_8
                                        have HC207_8 := Aside0.mk hl207_8
                                        clear hi207_8 hl207_8
                                        replace p207 := eq_true p207
                                        replace q207 := eq_true q207
                                        have ea_ := Option.some.inj (hx203_7.symm.trans hx207_7)
                                        injection ea_ with ea_ en_ ec_
                                        subst ea_
                                        subst ec_
                                        clear en_
                                        have ea_ := Option.some.inj (hx203_8.symm.trans hx207_8)
                                        injection ea_ with ea_ en_ ec_
                                        subst ea_
                                        subst ec_
                                        clear en_
                                        have p208 : 0 ≤ (x5_1 : Int) := of_decide_eq_true (by first | (with_reducible assumption) | assumption)
                                        have q208 : x5_1 < (t196.length : Int) := of_decide_eq_true (by first | (with_reducible assumption) | assumption)
                                        obtain ⟨ad208, e208, hx208_0, hx208_1, hx208_2, hx208_3⟩ := at_T41 (Kd.R_reads' HO_4.out).2.2 x5_1 p208 q208
                                        obtain rfl : ad204 = ad208 := (by injection e208)
                                        replace p208 := eq_true p208
                                        replace q208 := eq_true q208
                                        have p209 : 0 ≤ (x5_1 : Int) := of_decide_eq_true (by first | (with_reducible assumption) | assumption)
                                        have q209 : x5_1 < (t196.length : Int) := of_decide_eq_true (by first | (with_reducible assumption) | assumption)
                                        obtain ⟨ad209, e209, hx209_0, hx209_1, hx209_2, hx209_3⟩ := at_T41 (Kd.R_reads' HO_4.out).2.2 x5_1 p209 q209
                                        obtain rfl : ad204 = ad209 := (by injection e209)
                                        replace p209 := eq_true p209
                                        replace q209 := eq_true q209
                                        have p210 : 0 ≤ ((ji29) : Int) := of_decide_eq_true (by first | (with_reducible assumption) | assumption)
                                        have q210 : (ji29) < (t196.length : Int) := of_decide_eq_true (by first | (with_reducible assumption) | assumption)
                                        obtain ⟨ad210, e210, hx210_0, hx210_1, hx210_2, hx210_3⟩ := at_T41 (Kd.R_reads' HO_4.out).2.2 (ji29) p210 q210
                                        obtain rfl : ad204 = ad210 := (by injection e210)
                                        replace p210 := eq_true p210
                                        replace q210 := eq_true q210
                                        go_wp2
                                        repeat (go_quiet (fail); try go_wp2)
                                        go_roundg k2
                                        case measure => have := HK1.out; have := HK2.out; omega
                                        case rel => exact ⟨(wrap64 (x5_1 + 1)), (by first | rfl | (simp; done) | (simp [*]; done)), H', ⟨by have := HK1.out; have := HK2.out; omega⟩, ⟨by (with_reducible repeat (first | apply Kd.R_alloc | apply Kd.R_drewN | apply Kd.R_drew)); exact HO_4.out⟩, ⟨by repeat (first | (with_reducible first | exact HB.out | apply below_alloc | apply pw_below_drewN | apply below_drew1) | exact HB.out)⟩⟩
                                      · rw [if_neg c32] at H
                                        have c32b0 : (Op.bytesLess (((rd_T41 t196 (ji29)).f1).toList) (((rd_T41 t196 x5_1).f1).toList)) = false := by simpa using c32
                                        clear c32
                                        obtain rfl := Option.some.inj H
                                        have p203 : 0 ≤ (x6_2 : Int) := of_decide_eq_true (by first | (with_reducible assumption) | assumption)
                                        have q203 : x6_2 < (l0.length : Int) := of_decide_eq_true (by first | (with_reducible assumption) | assumption)
                                        obtain ⟨ad203, A203_7, c203_7, A203_8, c203_8, e203, hx203_0, hx203_1, hx203_2, hx203_3, hx203_4, hx203_5, hx203_6, hx203_7, hx203_8, hl203_7, hi203_7, hl203_8, hi203_8⟩ := at_T39 HR0.out x6_2 p203 q203
                                        cases e203
                                        replace hx203_0 := (HB.out.cell (World.block_lt_of_cell? w _ hx203_0)).trans hx203_0
                                        replace hx203_1 := (HB.out.cell (World.block_lt_of_cell? w _ hx203_1)).trans hx203_1
                                        replace hx203_2 := (HB.out.cell (World.block_lt_of_cell? w _ hx203_2)).trans hx203_2
                                        replace hx203_3 := (HB.out.cell (World.block_lt_of_cell? w _ hx203_3)).trans hx203_3
                                        replace hx203_4 := (HB.out.cell (World.block_lt_of_cell? w _ hx203_4)).trans hx203_4
                                        replace hx203_5 := (HB.out.cell (World.block_lt_of_cell? w _ hx203_5)).trans hx203_5
                                        replace hx203_6 := (HB.out.cell (World.block_lt_of_cell? w _ hx203_6)).trans hx203_6
                                        replace hx203_7 := (HB.out.cell (World.block_lt_of_cell? w _ hx203_7)).trans hx203_7
                                        replace hx203_8 := (HB.out.cell (World.block_lt_of_cell? w _ hx203_8)).trans hx203_8
                                        have HR203_7 := Aside0.mk hi203_7
                                        have HC203_7 := Aside0.mk hl203_7
                                        clear hi203_7 hl203_7
                                        have HR203_8 := Aside0.mk hi203_8
                                        have HC203_8 := Aside0.mk hl203_8
                                        clear hi203_8 hl203_8
                                        replace p203 := eq_true p203
                                        replace q203 := eq_true q203
                                        have p204 : 0 ≤ (x5_1 : Int) := of_decide_eq_true (by first | (with_reducible assumption) | assumption)
                                        have q204 : x5_1 < (t196.length : Int) := of_decide_eq_true (by first | (with_reducible assumption) | assumption)
                                        obtain ⟨ad204, e204, hx204_0, hx204_1, hx204_2, hx204_3⟩ := at_T41 (Kd.R_reads' HO_4.out).2.2 x5_1 p204 q204
                                        cases e204
                                        replace p204 := eq_true p204
                                        replace q204 := eq_true q204
                                        have p205 : 0 ≤ (x6_2 : Int) := of_decide_eq_true (by first | (with_reducible assumption) | assumption)
                                        have q205 : x6_2 < (l0.length : Int) := of_decide_eq_true (by first | (with_reducible assumption) | assumption)
                                        obtain ⟨ad205, A205_7, c205_7, A205_8, c205_8, e205, hx205_0, hx205_1, hx205_2, hx205_3, hx205_4, hx205_5, hx205_6, hx205_7, hx205_8, hl205_7, hi205_7, hl205_8, hi205_8⟩ := at_T39 HR0.out x6_2 p205 q205
                                        obtain rfl : ad203 = ad205 := (by injection e205)
                                        replace hx205_0 := (HB.out.cell (World.block_lt_of_cell? w _ hx205_0)).trans hx205_0
                                        replace hx205_1 := (HB.out.cell (World.block_lt_of_cell? w _ hx205_1)).trans hx205_1
                                        replace hx205_2 := (HB.out.cell (World.block_lt_of_cell? w _ hx205_2)).trans hx205_2
                                        replace hx205_3 := (HB.out.cell (World.block_lt_of_cell? w _ hx205_3)).trans hx205_3
                                        replace hx205_4 := (HB.out.cell (World.block_lt_of_cell? w _ hx205_4)).trans hx205_4
                                        replace hx205_5 := (HB.out.cell (World.block_lt_of_cell? w _ hx205_5)).trans hx205_5
                                        replace hx205_6 := (HB.out.cell (World.block_lt_of_cell? w _ hx205_6)).trans hx205_6
                                        replace hx205_7 := (HB.out.cell (World.block_lt_of_cell? w _ hx205_7)).trans hx205_7
                                        replace hx205_8 := (HB.out.cell (World.block_lt_of_cell? w _ hx205_8)).trans hx205_8
                                        have HR205_7 := Aside0.mk hi205_7
                                        have HC205_7 := Aside0.mk hl205_7
                                        clear hi205_7 hl205_7
                                        have HR205_8 := Aside0.mk hi205_8
                                        have HC205_8 := Aside0.mk hl205_8
                                        clear hi205_8 hl205_8
                                        replace p205 := eq_true p205
                                        replace q205 := eq_true q205
                                        have ea_ := Option.some.inj (hx203_7.symm.trans hx205_7)
                                        injection ea_ with ea_ en_ ec_
                                        subst ea_
                                        subst ec_
                                        clear en_
                                        have ea_ := Option.some.inj (hx203_8.symm.trans hx205_8)
                                        injection ea_ with ea_ en_ ec_
                                        subst ea_
                                        subst ec_
                                        clear en_
                                        have p206 : 0 ≤ (x5_1 : Int) := of_decide_eq_true (by first | (with_reducible assumption) | assumption)
                                        have q206 : x5_1 < (t196.length : Int) := of_decide_eq_true (by first | (with_reducible assumption) | assumption)
                                        obtain ⟨ad206, e206, hx206_0, hx206_1, hx206_2, hx206_3⟩ := at_T41 (Kd.R_reads' HO_4.out).2.2 x5_1 p206 q206
                                        obtain rfl : ad204 = ad206 := (by injection e206)
                                        replace p206 := eq_true p206
                                        replace q206 := eq_true q206
                                        have p207 : 0 ≤ (x6_2 : Int) := of_decide_eq_true (by first | (with_reducible assumption) | assumption)
                                        have q207 : x6_2 < (l0.length : Int) := of_decide_eq_true (by first | (with_reducible assumption) | assumption)
                                        obtain ⟨ad207, A207_7, c207_7, A207_8, c207_8, e207, hx207_0, hx207_1, hx207_2, hx207_3, hx207_4, hx207_5, hx207_6, hx207_7, hx207_8, hl207_7, hi207_7, hl207_8, hi207_8⟩ := at_T39 HR0.out x6_2 p207 q207
                                        obtain rfl : ad203 = ad207 := (by injection e207)
                                        replace hx207_0 := (HB.out.cell (World.block_lt_of_cell? w _ hx207_0)).trans hx207_0
                                        replace hx207_1 := (HB.out.cell (World.block_lt_of_cell? w _ hx207_1)).trans hx207_1
                                        replace hx207_2 := (HB.out.cell (World.block_lt_of_cell? w _ hx207_2)).trans hx207_2
                                        replace hx207_3 := (HB.out.cell (World.block_lt_of_cell? w _ hx207_3)).trans hx207_3
                                        replace hx207_4 := (HB.out.cell (World.block_lt_of_cell? w _ hx207_4)).trans hx207_4
                                        replace hx207_5 := (HB.out.cell (World.block_lt_of_cell? w _ hx207_5)).trans hx207_5
                                        replace hx207_6 := (HB.out.cell (World.block_lt_of_cell? w _ hx207_6)).trans hx207_6
                                        replace hx207_7 := (HB.out.cell (World.block_lt_of_cell? w _ hx207_7)).trans hx207_7
                                        replace hx207_8 := (HB.out.cell (World.block_lt_of_cell? w _ hx207_8)).trans hx207_8
                                        have HR207_7 := Aside0.mk hi207_7
                                        have HC207_7 := Aside0.mk hl207_7
                                        clear hi207_7 hl207_7
                                        have HR207_8 := Aside0.mk hi207_8
                                        have HC207_8 := Aside0.mk hl207_8
                                        clear hi207_8 hl207_8
                                        replace p207 := eq_true p207
                                        replace q207 := eq_true q207
                                        have ea_ := Option.some.inj (hx203_7.symm.trans hx207_7)
                                        injection ea_ with ea_ en_ ec_
                                        subst ea_
                                        subst ec_
                                        clear en_
                                        have ea_ := Option.some.inj (hx203_8.symm.trans hx207_8)
                                        injection ea_ with ea_ en_ ec_
                                        subst ea_
                                        subst ec_
                                        clear en_
                                        have p208 : 0 ≤ (x5_1 : Int) := of_decide_eq_true (by first | (with_reducible assumption) | assumption)
                                        have q208 : x5_1 < (t196.length : Int) := of_decide_eq_true (by first | (with_reducible assumption) | assumption)
                                        obtain ⟨ad208, e208, hx208_0, hx208_1, hx208_2, hx208_3⟩ := at_T41 (Kd.R_reads' HO_4.out).2.2 x5_1 p208 q208
                                        obtain rfl : ad204 = ad208 := (by injection e208)
                                        replace p208 := eq_true p208
                                        replace q208 := eq_true q208
                                        have p209 : 0 ≤ (x5_1 : Int) := of_decide_eq_true (by first | (with_reducible assumption) | assumption)
                                        have q209 : x5_1 < (t196.length : Int) := of_decide_eq_true (by first | (with_reducible assumption) | assumption)
                                        obtain ⟨ad209, e209, hx209_0, hx209_1, hx209_2, hx209_3⟩ := at_T41 (Kd.R_reads' HO_4.out).2.2 x5_1 p209 q209
                                        obtain rfl : ad204 = ad209 := (by injection e209)
                                        replace p209 := eq_true p209
                                        replace q209 := eq_true q209
                                        have p210 : 0 ≤ ((ji29) : Int) := of_decide_eq_true (by first | (with_reducible assumption) | assumption)
                                        have q210 : (ji29) < (t196.length : Int) := of_decide_eq_true (by first | (with_reducible assumption) | assumption)
                                        obtain ⟨ad210, e210, hx210_0, hx210_1, hx210_2, hx210_3⟩ := at_T41 (Kd.R_reads' HO_4.out).2.2 (ji29) p210 q210
                                        obtain rfl : ad204 = ad210 := (by injection e210)
                                        replace p210 := eq_true p210
                                        replace q210 := eq_true q210
                                        go_wp2
                                        repeat (go_quiet (fail); try go_wp2)
                                        go_ret
                                        exact ⟨by first | rfl | (simp [errW_none, errW_some] <;> rfl) | (simp only [← hji29]; first | rfl | (simp [errW_none, errW_some] <;> rfl)) | (simp [*, errW_none, errW_some] <;> rfl), by repeat (first | (with_reducible first | exact HB.out | apply below_alloc | apply pw_below_drewN | apply below_drew1) | exact HB.out)⟩
                                    · rw [if_neg c31] at H
                                      exact absurd H (by simp)
                                  · rw [if_neg c30] at H
                                    exact absurd H (by simp)
                                · rw [if_neg c28] at H
                                  have c28b0 : decide (0 < x5_1) = false := decide_eq_false c28
                                  clear c28
                                  have H' := Aside0.mk H
                                  clear H
                                  have p203 : 0 ≤ (x6_2 : Int) := of_decide_eq_true (by first | (with_reducible assumption) | assumption)
                                  have q203 : x6_2 < (l0.length : Int) := of_decide_eq_true (by first | (with_reducible assumption) | assumption)
                                  obtain ⟨ad203, A203_7, c203_7, A203_8, c203_8, e203, hx203_0, hx203_1, hx203_2, hx203_3, hx203_4, hx203_5, hx203_6, hx203_7, hx203_8, hl203_7, hi203_7, hl203_8, hi203_8⟩ := at_T39 HR0.out x6_2 p203 q203
                                  cases e203
                                  replace hx203_0 := (HB.out.cell (World.block_lt_of_cell? w _ hx203_0)).trans hx203_0
                                  replace hx203_1 := (HB.out.cell (World.block_lt_of_cell? w _ hx203_1)).trans hx203_1
                                  replace hx203_2 := (HB.out.cell (World.block_lt_of_cell? w _ hx203_2)).trans hx203_2
                                  replace hx203_3 := (HB.out.cell (World.block_lt_of_cell? w _ hx203_3)).trans hx203_3
                                  replace hx203_4 := (HB.out.cell (World.block_lt_of_cell? w _ hx203_4)).trans hx203_4
                                  replace hx203_5 := (HB.out.cell (World.block_lt_of_cell? w _ hx203_5)).trans hx203_5
                                  replace hx203_6 := (HB.out.cell (World.block_lt_of_cell? w _ hx203_6)).trans hx203_6
                                  replace hx203_7 := (HB.out.cell (World.block_lt_of_cell? w _ hx203_7)).trans hx203_7
                                  replace hx203_8 := (HB.out.cell (World.block_lt_of_cell? w _ hx203_8)).trans hx203_8
                                  have HR203_7 := Aside0.mk hi203_7
                                  have HC203_7 := Aside0.mk hl203_7
                                  clear hi203_7 hl203_7
                                  have HR203_8 := Aside0.mk hi203_8
                                  have HC203_8 := Aside0.mk hl203_8
                                  clear hi203_8 hl203_8
                                  replace p203 := eq_true p203
                                  replace q203 := eq_true q203
                                  have p204 : 0 ≤ (x5_1 : Int) := of_decide_eq_true (by first | (with_reducible assumption) | assumption)
                                  have q204 : x5_1 < (t196.length : Int) := of_decide_eq_true (by first | (with_reducible assumption) | assumption)
                                  obtain ⟨ad204, e204, hx204_0, hx204_1, hx204_2, hx204_3⟩ := at_T41 (Kd.R_reads' HO_4.out).2.2 x5_1 p204 q204
                                  cases e204
                                  replace p204 := eq_true p204
                                  replace q204 := eq_true q204
                                  have p205 : 0 ≤ (x6_2 : Int) := of_decide_eq_true (by first | (with_reducible assumption) | assumption)
                                  have q205 : x6_2 < (l0.length : Int) := of_decide_eq_true (by first | (with_reducible assumption) | assumption)
                                  obtain ⟨ad205, A205_7, c205_7, A205_8, c205_8, e205, hx205_0, hx205_1, hx205_2, hx205_3, hx205_4, hx205_5, hx205_6, hx205_7, hx205_8, hl205_7, hi205_7, hl205_8, hi205_8⟩ := at_T39 HR0.out x6_2 p205 q205
                                  obtain rfl : ad203 = ad205 := (by injection e205)
                                  replace hx205_0 := (HB.out.cell (World.block_lt_of_cell? w _ hx205_0)).trans hx205_0
                                  replace hx205_1 := (HB.out.cell (World.block_lt_of_cell? w _ hx205_1)).trans hx205_1
                                  replace hx205_2 := (HB.out.cell (World.block_lt_of_cell? w _ hx205_2)).trans hx205_2
                                  replace hx205_3 := (HB.out.cell (World.block_lt_of_cell? w _ hx205_3)).trans hx205_3
                                  replace hx205_4 := (HB.out.cell (World.block_lt_of_cell? w _ hx205_4)).trans hx205_4
                                  replace hx205_5 := (HB.out.cell (World.block_lt_of_cell? w _ hx205_5)).trans hx205_5
                                  replace hx205_6 := (HB.out.cell (World.block_lt_of_cell? w _ hx205_6)).trans hx205_6
                                  replace hx205_7 := (HB.out.cell (World.block_lt_of_cell? w _ hx205_7)).trans hx205_7
                                  replace hx205_8 := (HB.out.cell (World.block_lt_of_cell? w _ hx205_8)).trans hx205_8
                                  have HR205_7 := Aside0.mk hi205_7
                                  have HC205_7 := Aside0.mk hl205_7
                                  clear hi205_7 hl205_7
                                  have HR205_8 := Aside0.mk hi205_8
                                  have HC205_8 := Aside0.mk hl205_8
                                  clear hi205_8 hl205_8
                                  replace p205 := eq_true p205
                                  replace q205 := eq_true q205
                                  have ea_ := Option.some.inj (hx203_7.symm.trans hx205_7)
                                  injection ea_ with ea_ en_ ec_
                                  subst ea_
                                  subst ec_
                                  clear en_
                                  have ea_ := Option.some.inj (hx203_8.symm.trans hx205_8)
                                  injection ea_ with ea_ en_ ec_
                                  subst ea_
                                  subst ec_
                                  clear en_
                                  have p206 : 0 ≤ (x5_1 : Int) := of_decide_eq_true (by first | (with_reducible assumption) | assumption)
                                  have q206 : x5_1 < (t196.length : Int) := of_decide_eq_true (by first | (with_reducible assumption) | assumption)
                                  obtain ⟨ad206, e206, hx206_0, hx206_1, hx206_2, hx206_3⟩ := at_T41 (Kd.R_reads' HO_4.out).2.2 x5_1 p206 q206
                                  obtain rfl : ad204 = ad206 := (by injection e206)
                                  replace p206 := eq_true p206
                                  replace q206 := eq_true q206
                                  have p207 : 0 ≤ (x6_2 : Int) := of_decide_eq_true (by first | (with_reducible assumption) | assumption)
                                  have q207 : x6_2 < (l0.length : Int) := of_decide_eq_true (by first | (with_reducible assumption) | assumption)
                                  obtain ⟨ad207, A207_7, c207_7, A207_8, c207_8, e207, hx207_0, hx207_1, hx207_2, hx207_3, hx207_4, hx207_5, hx207_6, hx207_7, hx207_8, hl207_7, hi207_7, hl207_8, hi207_8⟩ := at_T39 HR0.out x6_2 p207 q207
                                  obtain rfl : ad203 = ad207 := (by injection e207)
                                  replace hx207_0 := (HB.out.cell (World.block_lt_of_cell? w _ hx207_0)).trans hx207_0
                                  replace hx207_1 := (HB.out.cell (World.block_lt_of_cell? w _ hx207_1)).trans hx207_1
                                  replace hx207_2 := (HB.out.cell (World.block_lt_of_cell? w _ hx207_2)).trans hx207_2
                                  replace hx207_3 := (HB.out.cell (World.block_lt_of_cell? w _ hx207_3)).trans hx207_3
                                  replace hx207_4 := (HB.out.cell (World.block_lt_of_cell? w _ hx207_4)).trans hx207_4
                                  replace hx207_5 := (HB.out.cell (World.block_lt_of_cell? w _ hx207_5)).trans hx207_5
                                  replace hx207_6 := (HB.out.cell (World.block_lt_of_cell? w _ hx207_6)).trans hx207_6
                                  replace hx207_7 := (HB.out.cell (World.block_lt_of_cell? w _ hx207_7)).trans hx207_7
                                  replace hx207_8 := (HB.out.cell (World.block_lt_of_cell? w _ hx207_8)).trans hx207_8
                                  have HR207_7 := Aside0.mk hi207_7
                                  have HC207_7 := Aside0.mk hl207_7
                                  clear hi207_7 hl207_7
                                  have HR207_8 := Aside0.mk hi207_8
                                  have HC207_8 := Aside0.mk hl207_8
                                  clear hi207_8 hl207_8
                                  replace p207 := eq_true p207
                                  replace q207 := eq_true q207
                                  have ea_ := Option.some.inj (hx203_7.symm.trans hx207_7)
                                  injection ea_ with ea_ en_ ec_
                                  subst ea_
                                  subst ec_
                                  clear en_
                                  have ea_ := Option.some.inj (hx203_8.symm.trans hx207_8)
                                  injection ea_ with ea_ en_ ec_
                                  subst ea_
                                  subst ec_
                                  clear en_
                                  have p208 : 0 ≤ (x5_1 : Int) := of_decide_eq_true (by first | (with_reducible assumption) | assumption)
                                  have q208 : x5_1 < (t196.length : Int) := of_decide_eq_true (by first | (with_reducible assumption) | assumption)
                                  obtain ⟨ad208, e208, hx208_0, hx208_1, hx208_2, hx208_3⟩ := at_T41 (Kd.R_reads' HO_4.out).2.2 x5_1 p208 q208
                                  obtain rfl : ad204 = ad208 := (by injection e208)
                                  replace p208 := eq_true p208
                                  replace q208 := eq_true q208
                                  go_wp2
                                  repeat (go_quiet (fail); try go_wp2)
                                  go_roundg k2
                                  case measure => have := HK1.out; have := HK2.out; omega
                                  case rel => exact ⟨(wrap64 (x5_1 + 1)), (by first | rfl | (simp; done) | (simp [*]; done)), H', ⟨by have := HK1.out; have := HK2.out; omega⟩, ⟨by (with_reducible repeat (first | apply Kd.R_alloc | apply Kd.R_drewN | apply Kd.R_drew)); exact HO_4.out⟩, ⟨by repeat (first | (with_reducible first | exact HB.out | apply below_alloc | apply pw_below_drewN | apply below_drew1) | exact HB.out)⟩⟩
                              · rw [if_neg c27] at H
                                have c27b0 : (((rd_T39 l0 x6_2).f2.f0) == ((rd_T41 t196 x5_1).f0)) = false := beq_eq_false_iff_ne.mpr c27
                                have c27b1 : (((rd_T39 l0 x6_2).f2.f0) != ((rd_T41 t196 x5_1).f0)) = true := bne_iff_ne.mpr c27
                                obtain rfl := Option.some.inj H
                                have p203 : 0 ≤ (x6_2 : Int) := of_decide_eq_true (by first | (with_reducible assumption) | assumption)
                                have q203 : x6_2 < (l0.length : Int) := of_decide_eq_true (by first | (with_reducible assumption) | assumption)
                                obtain ⟨ad203, A203_7, c203_7, A203_8, c203_8, e203, hx203_0, hx203_1, hx203_2, hx203_3, hx203_4, hx203_5, hx203_6, hx203_7, hx203_8, hl203_7, hi203_7, hl203_8, hi203_8⟩ := at_T39 HR0.out x6_2 p203 q203
                                cases e203
                                replace hx203_0 := (HB.out.cell (World.block_lt_of_cell? w _ hx203_0)).trans hx203_0
                                replace hx203_1 := (HB.out.cell (World.block_lt_of_cell? w _ hx203_1)).trans hx203_1
                                replace hx203_2 := (HB.out.cell (World.block_lt_of_cell? w _ hx203_2)).trans hx203_2
                                replace hx203_3 := (HB.out.cell (World.block_lt_of_cell? w _ hx203_3)).trans hx203_3
                                replace hx203_4 := (HB.out.cell (World.block_lt_of_cell? w _ hx203_4)).trans hx203_4
                                replace hx203_5 := (HB.out.cell (World.block_lt_of_cell? w _ hx203_5)).trans hx203_5
                                replace hx203_6 := (HB.out.cell (World.block_lt_of_cell? w _ hx203_6)).trans hx203_6
                                replace hx203_7 := (HB.out.cell (World.block_lt_of_cell? w _ hx203_7)).trans hx203_7
                                replace hx203_8 := (HB.out.cell (World.block_lt_of_cell? w _ hx203_8)).trans hx203_8
                                have HR203_7 := Aside0.mk hi203_7
                                have HC203_7 := Aside0.mk hl203_7
                                clear hi203_7 hl203_7
                                have HR203_8 := Aside0.mk hi203_8
                                have HC203_8 := Aside0.mk hl203_8
                                clear hi203_8 hl203_8
                                replace p203 := eq_true p203
                                replace q203 := eq_true q203
                                have p204 : 0 ≤ (x5_1 : Int) := of_decide_eq_true (by first | (with_reducible assumption) | assumption)
                                have q204 : x5_1 < (t196.length : Int) := of_decide_eq_true (by first | (with_reducible assumption) | assumption)
                                obtain ⟨ad204, e204, hx204_0, hx204_1, hx204_2, hx204_3⟩ := at_T41 (Kd.R_reads' HO_4.out).2.2 x5_1 p204 q204
                                cases e204
                                replace p204 := eq_true p204
                                replace q204 := eq_true q204
                                have p205 : 0 ≤ (x6_2 : Int) := of_decide_eq_true (by first | (with_reducible assumption) | assumption)
                                have q205 : x6_2 < (l0.length : Int) := of_decide_eq_true (by first | (with_reducible assumption) | assumption)
                                obtain ⟨ad205, A205_7, c205_7, A205_8, c205_8, e205, hx205_0, hx205_1, hx205_2, hx205_3, hx205_4, hx205_5, hx205_6, hx205_7, hx205_8, hl205_7, hi205_7, hl205_8, hi205_8⟩ := at_T39 HR0.out x6_2 p205 q205
                                obtain rfl : ad203 = ad205 := (by injection e205)
                                replace hx205_0 := (HB.out.cell (World.block_lt_of_cell? w _ hx205_0)).trans hx205_0
                                replace hx205_1 := (HB.out.cell (World.block_lt_of_cell? w _ hx205_1)).trans hx205_1
                                replace hx205_2 := (HB.out.cell (World.block_lt_of_cell? w _ hx205_2)).trans hx205_2
                                replace hx205_3 := (HB.out.cell (World.block_lt_of_cell? w _ hx205_3)).trans hx205_3
                                replace hx205_4 := (HB.out.cell (World.block_lt_of_cell? w _ hx205_4)).trans hx205_4
                                replace hx205_5 := (HB.out.cell (World.block_lt_of_cell? w _ hx205_5)).trans hx205_5
                                replace hx205_6 := (HB.out.cell (World.block_lt_of_cell? w _ hx205_6)).trans hx205_6
                                replace hx205_7 := (HB.out.cell (World.block_lt_of_cell? w _ hx205_7)).trans hx205_7
                                replace hx205_8 := (HB.out.cell (World.block_lt_of_cell? w _ hx205_8)).trans hx205_8
                                have HR205_7 := Aside0.mk hi205_7
                                have HC205_7 := Aside0.mk hl205_7
                                clear hi205_7 hl205_7
                                have HR205_8 := Aside0.mk hi205_8
                                have HC205_8 := Aside0.mk hl205_8
                                clear hi205_8 hl205_8
                                replace p205 := eq_true p205
                                replace q205 := eq_true q205
                                have ea_ := Option.some.inj (hx203_7.symm.trans hx205_7)
                                injection ea_ with ea_ en_ ec_
                                subst ea_
                                subst ec_
                                clear en_
                                have ea_ := Option.some.inj (hx203_8.symm.trans hx205_8)
                                injection ea_ with ea_ en_ ec_
                                subst ea_
                                subst ec_
                                clear en_
                                have p206 : 0 ≤ (x5_1 : Int) := of_decide_eq_true (by first | (with_reducible assumption) | assumption)
                                have q206 : x5_1 < (t196.length : Int) := of_decide_eq_true (by first | (with_reducible assumption) | assumption)
                                obtain ⟨ad206, e206, hx206_0, hx206_1, hx206_2, hx206_3⟩ := at_T41 (Kd.R_reads' HO_4.out).2.2 x5_1 p206 q206
                                obtain rfl : ad204 = ad206 := (by injection e206)
                                replace p206 := eq_true p206
                                replace q206 := eq_true q206
                                have p207 : 0 ≤ (x6_2 : Int) := of_decide_eq_true (by first | (with_reducible assumption) | assumption)
                                have q207 : x6_2 < (l0.length : Int) := of_decide_eq_true (by first | (with_reducible assumption) | assumption)
                                obtain ⟨ad207, A207_7, c207_7, A207_8, c207_8, e207, hx207_0, hx207_1, hx207_2, hx207_3, hx207_4, hx207_5, hx207_6, hx207_7, hx207_8, hl207_7, hi207_7, hl207_8, hi207_8⟩ := at_T39 HR0.out x6_2 p207 q207
                                obtain rfl : ad203 = ad207 := (by injection e207)
                                replace hx207_0 := (HB.out.cell (World.block_lt_of_cell? w _ hx207_0)).trans hx207_0
                                replace hx207_1 := (HB.out.cell (World.block_lt_of_cell? w _ hx207_1)).trans hx207_1
                                replace hx207_2 := (HB.out.cell (World.block_lt_of_cell? w _ hx207_2)).trans hx207_2
                                replace hx207_3 := (HB.out.cell (World.block_lt_of_cell? w _ hx207_3)).trans hx207_3
                                replace hx207_4 := (HB.out.cell (World.block_lt_of_cell? w _ hx207_4)).trans hx207_4
                                replace hx207_5 := (HB.out.cell (World.block_lt_of_cell? w _ hx207_5)).trans hx207_5
                                replace hx207_6 := (HB.out.cell (World.block_lt_of_cell? w _ hx207_6)).trans hx207_6
                                replace hx207_7 := (HB.out.cell (World.block_lt_of_cell? w _ hx207_7)).trans hx207_7
                                replace hx207_8 := (HB.out.cell (World.block_lt_of_cell? w _ hx207_8)).trans hx207_8
                                have HR207_7 := Aside0.mk hi207_7
                                have HC207_7 := Aside0.mk hl207_7
                                clear hi207_7 hl207_7
                                have HR207_8 := Aside0.mk hi207_8
                                have HC207_8 := Aside0.mk hl207_8
                                clear hi207_8 hl207_8
                                replace p207 := eq_true p207
                                replace q207 := eq_true q207
                                have ea_ := Option.some.inj (hx203_7.symm.trans hx207_7)
                                injection ea_ with ea_ en_ ec_
                                subst ea_
                                subst ec_
                                clear en_
                                have ea_ := Option.some.inj (hx203_8.symm.trans hx207_8)
                                injection ea_ with ea_ en_ ec_
                                subst ea_
                                subst ec_
                                clear en_
                                have p208 : 0 ≤ (x5_1 : Int) := of_decide_eq_true (by first | (with_reducible assumption) | assumption)
                                have q208 : x5_1 < (t196.length : Int) := of_decide_eq_true (by first | (with_reducible assumption) | assumption)
                                obtain ⟨ad208, e208, hx208_0, hx208_1, hx208_2, hx208_3⟩ := at_T41 (Kd.R_reads' HO_4.out).2.2 x5_1 p208 q208
                                obtain rfl : ad204 = ad208 := (by injection e208)
                                replace p208 := eq_true p208
                                replace q208 := eq_true q208
                                go_wp2
                                repeat (go_quiet (fail); try go_wp2)
                                go_ret
                                exact ⟨by first | rfl | (simp [errW_none, errW_some] <;> rfl) | (simp [*, errW_none, errW_some] <;> rfl), by repeat (first | (with_reducible first | exact HB.out | apply below_alloc | apply pw_below_drewN | apply below_drew1) | exact HB.out)⟩
                            · rw [if_neg c26] at H
                              have c26b0 : (((rd_T39 l0 x6_2).f1) == ((rd_T41 t196 x5_1).f3)) = false := beq_eq_false_iff_ne.mpr c26
                              have c26b1 : (((rd_T39 l0 x6_2).f1) != ((rd_T41 t196 x5_1).f3)) = true := bne_iff_ne.mpr c26
                              obtain rfl := Option.some.inj H
                              have p203 : 0 ≤ (x6_2 : Int) := of_decide_eq_true (by first | (with_reducible assumption) | assumption)
                              have q203 : x6_2 < (l0.length : Int) := of_decide_eq_true (by first | (with_reducible assumption) | assumption)
                              obtain ⟨ad203, A203_7, c203_7, A203_8, c203_8, e203, hx203_0, hx203_1, hx203_2, hx203_3, hx203_4, hx203_5, hx203_6, hx203_7, hx203_8, hl203_7, hi203_7, hl203_8, hi203_8⟩ := at_T39 HR0.out x6_2 p203 q203
                              cases e203
                              replace hx203_0 := (HB.out.cell (World.block_lt_of_cell? w _ hx203_0)).trans hx203_0
                              replace hx203_1 := (HB.out.cell (World.block_lt_of_cell? w _ hx203_1)).trans hx203_1
                              replace hx203_2 := (HB.out.cell (World.block_lt_of_cell? w _ hx203_2)).trans hx203_2
                              replace hx203_3 := (HB.out.cell (World.block_lt_of_cell? w _ hx203_3)).trans hx203_3
                              replace hx203_4 := (HB.out.cell (World.block_lt_of_cell? w _ hx203_4)).trans hx203_4
                              replace hx203_5 := (HB.out.cell (World.block_lt_of_cell? w _ hx203_5)).trans hx203_5
                              replace hx203_6 := (HB.out.cell (World.block_lt_of_cell? w _ hx203_6)).trans hx203_6
                              replace hx203_7 := (HB.out.cell (World.block_lt_of_cell? w _ hx203_7)).trans hx203_7
                              replace hx203_8 := (HB.out.cell (World.block_lt_of_cell? w _ hx203_8)).trans hx203_8
                              have HR203_7 := Aside0.mk hi203_7
                              have HC203_7 := Aside0.mk hl203_7
                              clear hi203_7 hl203_7
                              have HR203_8 := Aside0.mk hi203_8
                              have HC203_8 := Aside0.mk hl203_8
                              clear hi203_8 hl203_8
                              replace p203 := eq_true p203
                              replace q203 := eq_true q203
                              have p204 : 0 ≤ (x5_1 : Int) := of_decide_eq_true (by first | (with_reducible assumption) | assumption)
                              have q204 : x5_1 < (t196.length : Int) := of_decide_eq_true (by first | (with_reducible assumption) | assumption)
                              obtain ⟨ad204, e204, hx204_0, hx204_1, hx204_2, hx204_3⟩ := at_T41 (Kd.R_reads' HO_4.out).2.2 x5_1 p204 q204
                              cases e204
                              replace p204 := eq_true p204
                              replace q204 := eq_true q204
                              have p205 : 0 ≤ (x6_2 : Int) := of_decide_eq_true (by first | (with_reducible assumption) | assumption)
                              have q205 : x6_2 < (l0.length : Int) := of_decide_eq_true (by first | (with_reducible assumption) | assumption)
                              obtain ⟨ad205, A205_7, c205_7, A205_8, c205_8, e205, hx205_0, hx205_1, hx205_2, hx205_3, hx205_4, hx205_5, hx205_6, hx205_7, hx205_8, hl205_7, hi205_7, hl205_8, hi205_8⟩ := at_T39 HR0.out x6_2 p205 q205
                              obtain rfl : ad203 = ad205 := (by injection e205)
                              replace hx205_0 := (HB.out.cell (World.block_lt_of_cell? w _ hx205_0)).trans hx205_0
                              replace hx205_1 := (HB.out.cell (World.block_lt_of_cell? w _ hx205_1)).trans hx205_1
                              replace hx205_2 := (HB.out.cell (World.block_lt_of_cell? w _ hx205_2)).trans hx205_2
                              replace hx205_3 := (HB.out.cell (World.block_lt_of_cell? w _ hx205_3)).trans hx205_3
                              replace hx205_4 := (HB.out.cell (World.block_lt_of_cell? w _ hx205_4)).trans hx205_4
                              replace hx205_5 := (HB.out.cell (World.block_lt_of_cell? w _ hx205_5)).trans hx205_5
                              replace hx205_6 := (HB.out.cell (World.block_lt_of_cell? w _ hx205_6)).trans hx205_6
                              replace hx205_7 := (HB.out.cell (World.block_lt_of_cell? w _ hx205_7)).trans hx205_7
                              replace hx205_8 := (HB.out.cell (World.block_lt_of_cell? w _ hx205_8)).trans hx205_8
                              have HR205_7 := Aside0.mk hi205_7
                              have HC205_7 := Aside0.mk hl205_7
                              clear hi205_7 hl205_7
                              have HR205_8 := Aside0.mk hi205_8
                              have HC205_8 := Aside0.mk hl205_8
                              clear hi205_8 hl205_8
                              replace p205 := eq_true p205
                              replace q205 := eq_true q205
                              have ea_ := Option.some.inj (hx203_7.symm.trans hx205_7)
                              injection ea_ with ea_ en_ ec_
                              subst ea_
                              subst ec_
                              clear en_
                              have ea_ := Option.some.inj (hx203_8.symm.trans hx205_8)
                              injection ea_ with ea_ en_ ec_
                              subst ea_
                              subst ec_
                              clear en_
                              have p206 : 0 ≤ (x5_1 : Int) := of_decide_eq_true (by first | (with_reducible assumption) | assumption)
                              have q206 : x5_1 < (t196.length : Int) := of_decide_eq_true (by first | (with_reducible assumption) | assumption)
                              obtain ⟨ad206, e206, hx206_0, hx206_1, hx206_2, hx206_3⟩ := at_T41 (Kd.R_reads' HO_4.out).2.2 x5_1 p206 q206
                              obtain rfl : ad204 = ad206 := (by injection e206)
                              replace p206 := eq_true p206
                              replace q206 := eq_true q206
                              go_wp2
                              repeat (go_quiet (fail); try go_wp2)
                              go_ret
                              exact ⟨by first | rfl | (simp [errW_none, errW_some] <;> rfl) | (simp [*, errW_none, errW_some] <;> rfl), by repeat (first | (with_reducible first | exact HB.out | apply below_alloc | apply pw_below_drewN | apply below_drew1) | exact HB.out)⟩
                          · rw [if_neg c25] at H
                            have c25b0 : (((rd_T39 l0 x6_2).f0) == ((rd_T41 t196 x5_1).f2)) = false := beq_eq_false_iff_ne.mpr c25
                            have c25b1 : (((rd_T39 l0 x6_2).f0) != ((rd_T41 t196 x5_1).f2)) = true := bne_iff_ne.mpr c25
                            obtain rfl := Option.some.inj H
                            have p203 : 0 ≤ (x6_2 : Int) := of_decide_eq_true (by first | (with_reducible assumption) | assumption)
                            have q203 : x6_2 < (l0.length : Int) := of_decide_eq_true (by first | (with_reducible assumption) | assumption)
                            obtain ⟨ad203, A203_7, c203_7, A203_8, c203_8, e203, hx203_0, hx203_1, hx203_2, hx203_3, hx203_4, hx203_5, hx203_6, hx203_7, hx203_8, hl203_7, hi203_7, hl203_8, hi203_8⟩ := at_T39 HR0.out x6_2 p203 q203
                            cases e203
                            replace hx203_0 := (HB.out.cell (World.block_lt_of_cell? w _ hx203_0)).trans hx203_0
                            replace hx203_1 := (HB.out.cell (World.block_lt_of_cell? w _ hx203_1)).trans hx203_1
                            replace hx203_2 := (HB.out.cell (World.block_lt_of_cell? w _ hx203_2)).trans hx203_2
                            replace hx203_3 := (HB.out.cell (World.block_lt_of_cell? w _ hx203_3)).trans hx203_3
                            replace hx203_4 := (HB.out.cell (World.block_lt_of_cell? w _ hx203_4)).trans hx203_4
                            replace hx203_5 := (HB.out.cell (World.block_lt_of_cell? w _ hx203_5)).trans hx203_5
                            replace hx203_6 := (HB.out.cell (World.block_lt_of_cell? w _ hx203_6)).trans hx203_6
                            replace hx203_7 := (HB.out.cell (World.block_lt_of_cell? w _ hx203_7)).trans hx203_7
                            replace hx203_8 := (HB.out.cell (World.block_lt_of_cell? w _ hx203_8)).trans hx203_8
                            have HR203_7 := Aside0.mk hi203_7
                            have HC203_7 := Aside0.mk hl203_7
                            clear hi203_7 hl203_7
                            have HR203_8 := Aside0.mk hi203_8
                            have HC203_8 := Aside0.mk hl203_8
                            clear hi203_8 hl203_8
                            replace p203 := eq_true p203
                            replace q203 := eq_true q203
                            have p204 : 0 ≤ (x5_1 : Int) := of_decide_eq_true (by first | (with_reducible assumption) | assumption)
                            have q204 : x5_1 < (t196.length : Int) := of_decide_eq_true (by first | (with_reducible assumption) | assumption)
                            obtain ⟨ad204, e204, hx204_0, hx204_1, hx204_2, hx204_3⟩ := at_T41 (Kd.R_reads' HO_4.out).2.2 x5_1 p204 q204
                            cases e204
                            replace p204 := eq_true p204
                            replace q204 := eq_true q204
                            go_wp2
                            repeat (go_quiet (fail); try go_wp2)
                            go_ret
                            exact ⟨by first | rfl | (simp [errW_none, errW_some] <;> rfl) | (simp [*, errW_none, errW_some] <;> rfl), by repeat (first | (with_reducible first | exact HB.out | apply below_alloc | apply pw_below_drewN | apply below_drew1) | exact HB.out)⟩
                        · rw [if_neg c24] at H
                          exact absurd H (by simp)
                      · rw [if_neg c23] at H
                        exact absurd H (by simp)
                    · rw [if_neg c22] at H
                      exact absurd H (by simp)
                  · rw [if_neg c21] at H
                    exact absurd H (by simp)
        · rw [if_neg c11] at H
          have c11b0 : decide (x5_1 < (t196.length : Int)) = false := decide_eq_false c11
          clear c11
          have H' := Aside0.mk H
          clear H
          obtain ⟨Ao33, co33, eo33⟩ := Kd.R_slice HO_4.out
          subst eo33
          go_wp2
          repeat (go_quiet (fail); try go_wp2)
          go_loopg [8] k1 (fun kq v8 w' => ∃ (x8_2 : Int), v8 = .int .i64 x8_2 ∧ Aside0 (souterrainlaw11_HintLast.l2 kq l0 t194 t196 x8_2 = some r) ∧ Aside0 (kq ≤ k1) ∧ Aside0 (Kd.R k41 41 w' w.heap.size (fun _ => True) (.slice Ao33 t196.length co33) t196) ∧ Aside0 (Below w.heap.size w w'))
          case atStart => exact ⟨(0), (by first | rfl | (simp; done) | (simp [*]; done)), H', ⟨Nat.le_refl _⟩, ⟨by (with_reducible repeat (first | apply Kd.R_alloc | apply Kd.R_drewN | apply Kd.R_drew)); exact HO_4.out⟩, ⟨by repeat (first | (with_reducible first | exact HB.out | apply below_alloc | apply pw_below_drewN | apply below_drew1) | exact HB.out)⟩⟩
          case round =>
            clear H'
            try clear c1
            try clear c2
            try clear p2
            try clear q2
            try clear hx2
            try clear c3
            try clear p6
            try clear c11
            try clear c11b0
            try clear c20
            try clear p20
            try clear q20
            try clear hx20
            try clear c21
            try clear p21
            try clear q21
            try clear hx21
            try clear c22
            try clear c23
            try clear c24
            try clear c25
            try clear c25b0
            try clear c25b1
            try clear c26
            try clear c26b0
            try clear c26b1
            try clear c27
            try clear c27b0
            try clear c27b1
            try clear c28
            try clear c28b0
            try clear c30
            try clear c31
            try clear c31b0
            try clear c32
            try clear c32b0
            try clear hx203_0
            try clear hx203_1
            try clear hx203_2
            try clear hx203_3
            try clear hx203_4
            try clear hx203_5
            try clear hx203_6
            try clear hx203_7
            try clear hx203_8
            try clear hx204_0
            try clear hx204_1
            try clear hx204_2
            try clear hx204_3
            try clear hx205_0
            try clear hx205_1
            try clear hx205_2
            try clear hx205_3
            try clear hx205_4
            try clear hx205_5
            try clear hx205_6
            try clear hx205_7
            try clear hx205_8
            try clear hx206_0
            try clear hx206_1
            try clear hx206_2
            try clear hx206_3
            try clear hx207_0
            try clear hx207_1
            try clear hx207_2
            try clear hx207_3
            try clear hx207_4
            try clear hx207_5
            try clear hx207_6
            try clear hx207_7
            try clear hx207_8
            try clear hx208_0
            try clear hx208_1
            try clear hx208_2
            try clear hx208_3
            try clear hx209_0
            try clear hx209_1
            try clear hx209_2
            try clear hx209_3
            try clear hx210_0
            try clear hx210_1
            try clear hx210_2
            try clear hx210_3
            try clear p203
            try clear p204
            try clear p205
            try clear p206
            try clear p207
            try clear p208
            try clear p209
            try clear p210
            try clear q203
            try clear q204
            try clear q205
            try clear q206
            try clear q207
            try clear q208
            try clear q209
            try clear q210
            obtain ⟨x8_2, rfl, HA, HK2, HO_4, HB⟩ := hrel
            cases gk with
            | zero => exact absurd HA.out (by simp [souterrainlaw11_HintLast.l2])
            | succ k2 =>
              have H := HA.out
              clear HA
              simp only [souterrainlaw11_HintLast.l2] at H
              by_cases c34 : x8_2 < (l0.length : Int)
              · rw [if_pos c34] at H
                have c34b0 : decide (x8_2 < (l0.length : Int)) = true := decide_eq_true c34
                clear c34
                have HC35 := Aside0.mk H
                clear H
                go_upto_region 19 with (fail)
                repeat (go_quiet (fail); go_upto_region 19 with (fail))
                go_cut [9] (fun v9 wc => ∃ (kq : Nat) (x9_34 : Bool), v9 = .bool x9_34 ∧ Aside0 (souterrainlaw11_HintLast.j3 kq l0 t194 t196 x8_2 x9_34 = some r) ∧ Aside0 (kq ≤ k2) ∧ Aside0 (Kd.R k41 41 wc w.heap.size (fun _ => True) (.slice Ao33 t196.length co33) t196) ∧ Aside0 (Below w.heap.size w wc))
                case first =>
                  have H := HC35.out
                  clear HC35
                  by_cases c36 : 0 ≤ x8_2
                  · rw [if_pos c36] at H
                    have c36b0 : decide (0 ≤ x8_2) = true := decide_eq_true c36
                    clear c36
                    (first | rw [c36b0] | (simp only [i64_w, i32_w]; rw [c36b0]) | skip)
                    by_cases c37 : ((rd_T39 l0 x8_2).f2.f0) < 2
                    · rw [if_pos c37] at H
                      have c37b0 : decide (((rd_T39 l0 x8_2).f2.f0) < 2) = true := decide_eq_true c37
                      clear c37
                      have H' := Aside0.mk H
                      clear H
                      have p211 : 0 ≤ (x8_2 : Int) := of_decide_eq_true (by first | (with_reducible assumption) | assumption)
                      have q211 : x8_2 < (l0.length : Int) := of_decide_eq_true (by first | (with_reducible assumption) | assumption)
                      obtain ⟨ad211, A211_7, c211_7, A211_8, c211_8, e211, hx211_0, hx211_1, hx211_2, hx211_3, hx211_4, hx211_5, hx211_6, hx211_7, hx211_8, hl211_7, hi211_7, hl211_8, hi211_8⟩ := at_T39 HR0.out x8_2 p211 q211
                      cases e211
                      replace hx211_0 := (HB.out.cell (World.block_lt_of_cell? w _ hx211_0)).trans hx211_0
                      replace hx211_1 := (HB.out.cell (World.block_lt_of_cell? w _ hx211_1)).trans hx211_1
                      replace hx211_2 := (HB.out.cell (World.block_lt_of_cell? w _ hx211_2)).trans hx211_2
                      replace hx211_3 := (HB.out.cell (World.block_lt_of_cell? w _ hx211_3)).trans hx211_3
                      replace hx211_4 := (HB.out.cell (World.block_lt_of_cell? w _ hx211_4)).trans hx211_4
                      replace hx211_5 := (HB.out.cell (World.block_lt_of_cell? w _ hx211_5)).trans hx211_5
                      replace hx211_6 := (HB.out.cell (World.block_lt_of_cell? w _ hx211_6)).trans hx211_6
                      replace hx211_7 := (HB.out.cell (World.block_lt_of_cell? w _ hx211_7)).trans hx211_7
                      replace hx211_8 := (HB.out.cell (World.block_lt_of_cell? w _ hx211_8)).trans hx211_8
                      have HR211_7 := Aside0.mk hi211_7
                      have HC211_7 := Aside0.mk hl211_7
                      clear hi211_7 hl211_7
                      have HR211_8 := Aside0.mk hi211_8
                      have HC211_8 := Aside0.mk hl211_8
                      clear hi211_8 hl211_8
                      replace p211 := eq_true p211
                      replace q211 := eq_true q211
                      go_wp2
                      repeat (go_quiet (fail); try go_wp2)
                      go_meet
                      case rel => exact ⟨_, (true), (by first | rfl | (simp; done) | (simp [*]; done)), H', ⟨by have := HK1.out; have := HK2.out; first | omega | exact Nat.le_refl _⟩, ⟨by (with_reducible repeat (first | apply Kd.R_alloc | apply Kd.R_drewN | apply Kd.R_drew)); exact HO_4.out⟩, ⟨by repeat (first | (with_reducible first | exact HB.out | apply below_alloc | apply pw_below_drewN | apply below_drew1) | exact HB.out)⟩⟩
                    · rw [if_neg c37] at H
                      have c37b0 : decide (((rd_T39 l0 x8_2).f2.f0) < 2) = false := decide_eq_false c37
                      clear c37
                      have H' := Aside0.mk H
                      clear H
                      have p211 : 0 ≤ (x8_2 : Int) := of_decide_eq_true (by first | (with_reducible assumption) | assumption)
                      have q211 : x8_2 < (l0.length : Int) := of_decide_eq_true (by first | (with_reducible assumption) | assumption)
                      obtain ⟨ad211, A211_7, c211_7, A211_8, c211_8, e211, hx211_0, hx211_1, hx211_2, hx211_3, hx211_4, hx211_5, hx211_6, hx211_7, hx211_8, hl211_7, hi211_7, hl211_8, hi211_8⟩ := at_T39 HR0.out x8_2 p211 q211
                      cases e211
                      replace hx211_0 := (HB.out.cell (World.block_lt_of_cell? w _ hx211_0)).trans hx211_0
                      replace hx211_1 := (HB.out.cell (World.block_lt_of_cell? w _ hx211_1)).trans hx211_1
                      replace hx211_2 := (HB.out.cell (World.block_lt_of_cell? w _ hx211_2)).trans hx211_2
                      replace hx211_3 := (HB.out.cell (World.block_lt_of_cell? w _ hx211_3)).trans hx211_3
                      replace hx211_4 := (HB.out.cell (World.block_lt_of_cell? w _ hx211_4)).trans hx211_4
                      replace hx211_5 := (HB.out.cell (World.block_lt_of_cell? w _ hx211_5)).trans hx211_5
                      replace hx211_6 := (HB.out.cell (World.block_lt_of_cell? w _ hx211_6)).trans hx211_6
                      replace hx211_7 := (HB.out.cell (World.block_lt_of_cell? w _ hx211_7)).trans hx211_7
                      replace hx211_8 := (HB.out.cell (World.block_lt_of_cell? w _ hx211_8)).trans hx211_8
                      have HR211_7 := Aside0.mk hi211_7
                      have HC211_7 := Aside0.mk hl211_7
                      clear hi211_7 hl211_7
                      have HR211_8 := Aside0.mk hi211_8
                      have HC211_8 := Aside0.mk hl211_8
                      clear hi211_8 hl211_8
                      replace p211 := eq_true p211
                      replace q211 := eq_true q211
                      have p212 : 0 ≤ (x8_2 : Int) := of_decide_eq_true (by first | (with_reducible assumption) | assumption)
                      have q212 : x8_2 < (l0.length : Int) := of_decide_eq_true (by first | (with_reducible assumption) | assumption)
                      obtain ⟨ad212, A212_7, c212_7, A212_8, c212_8, e212, hx212_0, hx212_1, hx212_2, hx212_3, hx212_4, hx212_5, hx212_6, hx212_7, hx212_8, hl212_7, hi212_7, hl212_8, hi212_8⟩ := at_T39 HR0.out x8_2 p212 q212
                      obtain rfl : ad211 = ad212 := (by injection e212)
                      replace hx212_0 := (HB.out.cell (World.block_lt_of_cell? w _ hx212_0)).trans hx212_0
                      replace hx212_1 := (HB.out.cell (World.block_lt_of_cell? w _ hx212_1)).trans hx212_1
                      replace hx212_2 := (HB.out.cell (World.block_lt_of_cell? w _ hx212_2)).trans hx212_2
                      replace hx212_3 := (HB.out.cell (World.block_lt_of_cell? w _ hx212_3)).trans hx212_3
                      replace hx212_4 := (HB.out.cell (World.block_lt_of_cell? w _ hx212_4)).trans hx212_4
                      replace hx212_5 := (HB.out.cell (World.block_lt_of_cell? w _ hx212_5)).trans hx212_5
                      replace hx212_6 := (HB.out.cell (World.block_lt_of_cell? w _ hx212_6)).trans hx212_6
                      replace hx212_7 := (HB.out.cell (World.block_lt_of_cell? w _ hx212_7)).trans hx212_7
                      replace hx212_8 := (HB.out.cell (World.block_lt_of_cell? w _ hx212_8)).trans hx212_8
                      have HR212_7 := Aside0.mk hi212_7
                      have HC212_7 := Aside0.mk hl212_7
                      clear hi212_7 hl212_7
                      have HR212_8 := Aside0.mk hi212_8
                      have HC212_8 := Aside0.mk hl212_8
                      clear hi212_8 hl212_8
                      replace p212 := eq_true p212
                      replace q212 := eq_true q212
                      have ea_ := Option.some.inj (hx211_7.symm.trans hx212_7)
                      injection ea_ with ea_ en_ ec_
                      subst ea_
                      subst ec_
                      clear en_
                      have ea_ := Option.some.inj (hx211_8.symm.trans hx212_8)
                      injection ea_ with ea_ en_ ec_
                      subst ea_
                      subst ec_
                      clear en_
                      go_wp2
                      repeat (go_quiet (fail); try go_wp2)
                      go_meet
                      case rel => exact ⟨_, (decide (((rd_T39 l0 x8_2).f2.f0) > 4)), (by first | rfl | (simp; done) | (simp [*]; done)), H', ⟨by have := HK1.out; have := HK2.out; first | omega | exact Nat.le_refl _⟩, ⟨by (with_reducible repeat (first | apply Kd.R_alloc | apply Kd.R_drewN | apply Kd.R_drew)); exact HO_4.out⟩, ⟨by repeat (first | (with_reducible first | exact HB.out | apply below_alloc | apply pw_below_drewN | apply below_drew1) | exact HB.out)⟩⟩
                  · rw [if_neg c36] at H
                    exact absurd H (by simp)
                case rest =>
                  clear HC35
                  try clear c1
                  try clear c2
                  try clear p2
                  try clear q2
                  try clear hx2
                  try clear c3
                  try clear p6
                  try clear c11
                  try clear c11b0
                  try clear c20
                  try clear p20
                  try clear q20
                  try clear hx20
                  try clear c21
                  try clear p21
                  try clear q21
                  try clear hx21
                  try clear c22
                  try clear c23
                  try clear c24
                  try clear c25
                  try clear c25b0
                  try clear c25b1
                  try clear c26
                  try clear c26b0
                  try clear c26b1
                  try clear c27
                  try clear c27b0
                  try clear c27b1
                  try clear c28
                  try clear c28b0
                  try clear c30
                  try clear c31
                  try clear c31b0
                  try clear c32
                  try clear c32b0
                  try clear c34
                  try clear c34b0
                  try clear c36
                  try clear c36b0
                  try clear c37
                  try clear c37b0
                  try clear hx203_0
                  try clear hx203_1
                  try clear hx203_2
                  try clear hx203_3
                  try clear hx203_4
                  try clear hx203_5
                  try clear hx203_6
                  try clear hx203_7
                  try clear hx203_8
                  try clear hx204_0
                  try clear hx204_1
                  try clear hx204_2
                  try clear hx204_3
                  try clear hx205_0
                  try clear hx205_1
                  try clear hx205_2
                  try clear hx205_3
                  try clear hx205_4
                  try clear hx205_5
                  try clear hx205_6
                  try clear hx205_7
                  try clear hx205_8
                  try clear hx206_0
                  try clear hx206_1
                  try clear hx206_2
                  try clear hx206_3
                  try clear hx207_0
                  try clear hx207_1
                  try clear hx207_2
                  try clear hx207_3
                  try clear hx207_4
                  try clear hx207_5
                  try clear hx207_6
                  try clear hx207_7
                  try clear hx207_8
                  try clear hx208_0
                  try clear hx208_1
                  try clear hx208_2
                  try clear hx208_3
                  try clear hx209_0
                  try clear hx209_1
                  try clear hx209_2
                  try clear hx209_3
                  try clear hx210_0
                  try clear hx210_1
                  try clear hx210_2
                  try clear hx210_3
                  try clear hx211_0
                  try clear hx211_1
                  try clear hx211_2
                  try clear hx211_3
                  try clear hx211_4
                  try clear hx211_5
                  try clear hx211_6
                  try clear hx211_7
                  try clear hx211_8
                  try clear hx212_0
                  try clear hx212_1
                  try clear hx212_2
                  try clear hx212_3
                  try clear hx212_4
                  try clear hx212_5
                  try clear hx212_6
                  try clear hx212_7
                  try clear hx212_8
                  try clear p2
                  try clear p20
                  try clear p203
                  try clear p204
                  try clear p205
                  try clear p206
                  try clear p207
                  try clear p208
                  try clear p209
                  try clear p21
                  try clear p210
                  try clear p211
                  try clear p212
                  try clear p6
                  try clear q2
                  try clear q20
                  try clear q203
                  try clear q204
                  try clear q205
                  try clear q206
                  try clear q207
                  try clear q208
                  try clear q209
                  try clear q21
                  try clear q210
                  try clear q211
                  try clear q212
                  obtain ⟨kq, x9_34, rfl, HA, HJ34, HO_4, HB⟩ := hcut
                  cases kq with
                  | zero => exact absurd HA.out (by simp [souterrainlaw11_HintLast.j3])
                  | succ kj34 =>
                    have H := HA.out
                    clear HA
                    simp only [souterrainlaw11_HintLast.j3] at H
                    have H' := Aside0.mk H
                    clear H
                    go_wp2
                    repeat (go_quiet (fail); try go_wp2)
                    go_loopg [9, 10] kj34 (fun kq v9 v10 w' => ∃ (x9_4 : Bool) (x10_4 : Int), v9 = .bool x9_4 ∧ v10 = .int .i64 x10_4 ∧ Aside0 (souterrainlaw11_HintLast.l3 kq l0 t194 t196 x8_2 x9_4 x10_4 = some r) ∧ Aside0 (kq ≤ kj34) ∧ Aside0 (Kd.R k41 41 w' w.heap.size (fun _ => True) (.slice Ao33 t196.length co33) t196) ∧ Aside0 (Below w.heap.size w w'))
                    case atStart => exact ⟨(x9_34), (0), (by first | rfl | (simp; done) | (simp [*]; done)), (by first | rfl | (simp; done) | (simp [*]; done)), H', ⟨Nat.le_refl _⟩, ⟨by (with_reducible repeat (first | apply Kd.R_alloc | apply Kd.R_drewN | apply Kd.R_drew)); exact HO_4.out⟩, ⟨by repeat (first | (with_reducible first | exact HB.out | apply below_alloc | apply pw_below_drewN | apply below_drew1) | exact HB.out)⟩⟩
                    case round =>
                      clear H'
                      try clear c1
                      try clear c2
                      try clear p2
                      try clear q2
                      try clear hx2
                      try clear c3
                      try clear p6
                      try clear c11
                      try clear c11b0
                      try clear c20
                      try clear p20
                      try clear q20
                      try clear hx20
                      try clear c21
                      try clear p21
                      try clear q21
                      try clear hx21
                      try clear c22
                      try clear c23
                      try clear c24
                      try clear c25
                      try clear c25b0
                      try clear c25b1
                      try clear c26
                      try clear c26b0
                      try clear c26b1
                      try clear c27
                      try clear c27b0
                      try clear c27b1
                      try clear c28
                      try clear c28b0
                      try clear c30
                      try clear c31
                      try clear c31b0
                      try clear c32
                      try clear c32b0
                      try clear c34
                      try clear c34b0
                      try clear c36
                      try clear c36b0
                      try clear c37
                      try clear c37b0
                      try clear hx203_0
                      try clear hx203_1
                      try clear hx203_2
                      try clear hx203_3
                      try clear hx203_4
                      try clear hx203_5
                      try clear hx203_6
                      try clear hx203_7
                      try clear hx203_8
                      try clear hx204_0
                      try clear hx204_1
                      try clear hx204_2
                      try clear hx204_3
                      try clear hx205_0
                      try clear hx205_1
                      try clear hx205_2
                      try clear hx205_3
                      try clear hx205_4
                      try clear hx205_5
                      try clear hx205_6
                      try clear hx205_7
                      try clear hx205_8
                      try clear hx206_0
                      try clear hx206_1
                      try clear hx206_2
                      try clear hx206_3
                      try clear hx207_0
                      try clear hx207_1
                      try clear hx207_2
                      try clear hx207_3
                      try clear hx207_4
                      try clear hx207_5
                      try clear hx207_6
                      try clear hx207_7
                      try clear hx207_8
                      try clear hx208_0
                      try clear hx208_1
                      try clear hx208_2
                      try clear hx208_3
                      try clear hx209_0
                      try clear hx209_1
                      try clear hx209_2
                      try clear hx209_3
                      try clear hx210_0
                      try clear hx210_1
                      try clear hx210_2
                      try clear hx210_3
                      try clear hx211_0
                      try clear hx211_1
                      try clear hx211_2
                      try clear hx211_3
                      try clear hx211_4
                      try clear hx211_5
                      try clear hx211_6
                      try clear hx211_7
                      try clear hx211_8
                      try clear hx212_0
                      try clear hx212_1
                      try clear hx212_2
                      try clear hx212_3
                      try clear hx212_4
                      try clear hx212_5
                      try clear hx212_6
                      try clear hx212_7
                      try clear hx212_8
                      try clear p2
                      try clear p20
                      try clear p203
                      try clear p204
                      try clear p205
                      try clear p206
                      try clear p207
                      try clear p208
                      try clear p209
                      try clear p21
                      try clear p210
                      try clear p211
                      try clear p212
                      try clear p6
                      try clear q2
                      try clear q20
                      try clear q203
                      try clear q204
                      try clear q205
                      try clear q206
                      try clear q207
                      try clear q208
                      try clear q209
                      try clear q21
                      try clear q210
                      try clear q211
                      try clear q212
                      obtain ⟨x9_4, x10_4, rfl, rfl, HA, HK4, HO_4, HB⟩ := hrel
                      cases gk with
                      | zero => exact absurd HA.out (by simp [souterrainlaw11_HintLast.l3])
                      | succ k4 =>
                        have H := HA.out
                        clear HA
                        simp only [souterrainlaw11_HintLast.l3] at H
                        by_cases c38 : x10_4 < (t196.length : Int)
                        · rw [if_pos c38] at H
                          have c38b0 : decide (x10_4 < (t196.length : Int)) = true := decide_eq_true c38
                          clear c38
                          by_cases c39 : x9_4 = true
                          · subst c39
                            have H1 : (souterrainlaw11_HintLast.l3 k4 l0 t194 t196 x8_2 true (wrap64 (x10_4 + 1))) = some r := by rw [if_pos rfl] at H; exact H
                            clear H
                            have H := H1
                            clear H1
                            have H' := Aside0.mk H
                            clear H
                            go_wp2
                            repeat (go_quiet (fail); try go_wp2)
                            go_roundg k4
                            case measure => have := HK1.out; have := HK2.out; have := HJ34.out; have := HK4.out; omega
                            case rel => exact ⟨(true), (wrap64 (x10_4 + 1)), (by first | rfl | (simp; done) | (simp [*]; done)), (by first | rfl | (simp; done) | (simp [*]; done)), H', ⟨by have := HK1.out; have := HK2.out; have := HJ34.out; have := HK4.out; omega⟩, ⟨by (with_reducible repeat (first | apply Kd.R_alloc | apply Kd.R_drewN | apply Kd.R_drew)); exact HO_4.out⟩, ⟨by repeat (first | (with_reducible first | exact HB.out | apply below_alloc | apply pw_below_drewN | apply below_drew1) | exact HB.out)⟩⟩
                          · replace c39 := Bool.eq_false_iff.mpr c39
                            subst c39
                            have H1 : (if 0 ≤ x10_4 then (if 0 ≤ x8_2 then (if x8_2 < (l0.length : Int) then (souterrainlaw11_HintLast.l3 k4 l0 t194 t196 x8_2 (((rd_T41 t196 x10_4).f1).toList == ((rd_T39 l0 x8_2).f2.f1).toList) (wrap64 (x10_4 + 1))) else (none)) else (none)) else (none)) = some r := by rw [if_neg (show ¬ (false = true) by decide)] at H; exact H
                            clear H
                            have H := H1
                            clear H1
                            by_cases c40 : 0 ≤ x10_4
                            · rw [if_pos c40] at H
                              have c40b0 : decide (0 ≤ x10_4) = true := decide_eq_true c40
                              clear c40
                              by_cases c41 : 0 ≤ x8_2
                              · rw [if_pos c41] at H
                                have c41b0 : decide (0 ≤ x8_2) = true := decide_eq_true c41
                                clear c41
                                by_cases c42 : x8_2 < (l0.length : Int)
                                · rw [if_pos c42] at H
                                  have c42b0 : decide (x8_2 < (l0.length : Int)) = true := decide_eq_true c42
                                  clear c42
                                  have H' := Aside0.mk H
                                  clear H
                                  have p213 : 0 ≤ (x10_4 : Int) := of_decide_eq_true (by first | (with_reducible assumption) | assumption)
                                  have q213 : x10_4 < (t196.length : Int) := of_decide_eq_true (by first | (with_reducible assumption) | assumption)
                                  obtain ⟨ad213, e213, hx213_0, hx213_1, hx213_2, hx213_3⟩ := at_T41 (Kd.R_reads' HO_4.out).2.2 x10_4 p213 q213
                                  cases e213
                                  replace p213 := eq_true p213
                                  replace q213 := eq_true q213
                                  have p214 : 0 ≤ (x8_2 : Int) := of_decide_eq_true (by first | (with_reducible assumption) | assumption)
                                  have q214 : x8_2 < (l0.length : Int) := of_decide_eq_true (by first | (with_reducible assumption) | assumption)
                                  obtain ⟨ad214, A214_7, c214_7, A214_8, c214_8, e214, hx214_0, hx214_1, hx214_2, hx214_3, hx214_4, hx214_5, hx214_6, hx214_7, hx214_8, hl214_7, hi214_7, hl214_8, hi214_8⟩ := at_T39 HR0.out x8_2 p214 q214
                                  cases e214
                                  replace hx214_0 := (HB.out.cell (World.block_lt_of_cell? w _ hx214_0)).trans hx214_0
                                  replace hx214_1 := (HB.out.cell (World.block_lt_of_cell? w _ hx214_1)).trans hx214_1
                                  replace hx214_2 := (HB.out.cell (World.block_lt_of_cell? w _ hx214_2)).trans hx214_2
                                  replace hx214_3 := (HB.out.cell (World.block_lt_of_cell? w _ hx214_3)).trans hx214_3
                                  replace hx214_4 := (HB.out.cell (World.block_lt_of_cell? w _ hx214_4)).trans hx214_4
                                  replace hx214_5 := (HB.out.cell (World.block_lt_of_cell? w _ hx214_5)).trans hx214_5
                                  replace hx214_6 := (HB.out.cell (World.block_lt_of_cell? w _ hx214_6)).trans hx214_6
                                  replace hx214_7 := (HB.out.cell (World.block_lt_of_cell? w _ hx214_7)).trans hx214_7
                                  replace hx214_8 := (HB.out.cell (World.block_lt_of_cell? w _ hx214_8)).trans hx214_8
                                  have HR214_7 := Aside0.mk hi214_7
                                  have HC214_7 := Aside0.mk hl214_7
                                  clear hi214_7 hl214_7
                                  have HR214_8 := Aside0.mk hi214_8
                                  have HC214_8 := Aside0.mk hl214_8
                                  clear hi214_8 hl214_8
                                  replace p214 := eq_true p214
                                  replace q214 := eq_true q214
                                  go_wp2
                                  repeat (go_quiet (fail); try go_wp2)
                                  go_roundg k4
                                  case measure => have := HK1.out; have := HK2.out; have := HJ34.out; have := HK4.out; omega
                                  case rel => exact ⟨((((rd_T41 t196 x10_4).f1).toList == ((rd_T39 l0 x8_2).f2.f1).toList)), (wrap64 (x10_4 + 1)), (by first | rfl | (simp; done) | (simp [*]; done)), (by first | rfl | (simp; done) | (simp [*]; done)), H', ⟨by have := HK1.out; have := HK2.out; have := HJ34.out; have := HK4.out; omega⟩, ⟨by (with_reducible repeat (first | apply Kd.R_alloc | apply Kd.R_drewN | apply Kd.R_drew)); exact HO_4.out⟩, ⟨by repeat (first | (with_reducible first | exact HB.out | apply below_alloc | apply pw_below_drewN | apply below_drew1) | exact HB.out)⟩⟩
                                · rw [if_neg c42] at H
                                  exact absurd H (by simp)
                              · rw [if_neg c41] at H
                                exact absurd H (by simp)
                            · rw [if_neg c40] at H
                              exact absurd H (by simp)
                        · rw [if_neg c38] at H
                          have c38b0 : decide (x10_4 < (t196.length : Int)) = false := decide_eq_false c38
                          clear c38
                          by_cases c43 : x9_4 = true
                          · subst c43
                            have H1 : (souterrainlaw11_HintLast.l2 k4 l0 t194 t196 (wrap64 (x8_2 + 1))) = some r := by rw [if_pos rfl] at H; exact H
                            clear H
                            have H := H1
                            clear H1
                            have H' := Aside0.mk H
                            clear H
                            go_wp2
                            repeat (go_quiet (fail); try go_wp2)
                            go_roundg k4
                            case measure => have := HK1.out; have := HK2.out; have := HJ34.out; have := HK4.out; omega
                            case rel => exact ⟨(wrap64 (x8_2 + 1)), (by first | rfl | (simp; done) | (simp [*]; done)), H', ⟨by have := HK1.out; have := HK2.out; have := HJ34.out; have := HK4.out; omega⟩, ⟨by (with_reducible repeat (first | apply Kd.R_alloc | apply Kd.R_drewN | apply Kd.R_drew)); exact HO_4.out⟩, ⟨by repeat (first | (with_reducible first | exact HB.out | apply below_alloc | apply pw_below_drewN | apply below_drew1) | exact HB.out)⟩⟩
                          · replace c43 := Bool.eq_false_iff.mpr c43
                            subst c43
                            have H1 : (some false) = some r := by rw [if_neg (show ¬ (false = true) by decide)] at H; exact H
                            clear H
                            have H := H1
                            clear H1
                            obtain rfl := Option.some.inj H
                            go_wp2
                            repeat (go_quiet (fail); try go_wp2)
                            go_ret
                            exact ⟨by first | rfl | (simp [errW_none, errW_some] <;> rfl) | (simp [*, errW_none, errW_some] <;> rfl), by repeat (first | (with_reducible first | exact HB.out | apply below_alloc | apply pw_below_drewN | apply below_drew1) | exact HB.out)⟩
              · rw [if_neg c34] at H
                have c34b0 : decide (x8_2 < (l0.length : Int)) = false := decide_eq_false c34
                clear c34
                obtain rfl := Option.some.inj H
                go_wp2
                repeat (go_quiet (fail); try go_wp2)
                go_ret
                exact ⟨by first | rfl | (simp [errW_none, errW_some] <;> rfl) | (simp [*, errW_none, errW_some] <;> rfl), by repeat (first | (with_reducible first | exact HB.out | apply below_alloc | apply pw_below_drewN | apply below_drew1) | exact HB.out)⟩

end Go.Proofs.Yteplnpedakdjkaa.Pt
