-- Written by a program of this session over the translation (a turned copy of the kit's printer). Lean checks it.
import Derived.Test.YtjednkbgdbalnaaPtx0
import Derived.Test.YtjednkbgdbalnaaPtx3
import Derived.Test.YtjednkbgdbalnaaFrH
import Derived.Test.YtjednkbgdbalnaaFrY
import Derived.Test.YtjednkbgdbalnaaScX
import Derived.Test.YtjednkbgdbalnaaScH
namespace Go.Proofs.Ytjednkbgdbalnaa.Pt
open Go.RowKit Go.Proofs.YtjednkbgdbalnaaW.PrintWords Go.Proofs.YtjednkbgdbalnaaW.PrintLast Go.Proofs.YtjednkbgdbalnaaW.PrintMore
attribute [local go_sem] max2_int min2_int max_two min_two max_three min_three max_four min_four   -- for this text's walks alone
set_option linter.unusedVariables false
set_option linter.unusedSimpArgs false

open Go.Proofs.Ytjednkbgdbalnaa.Ext
/-! ### souterrainlaw03_ScanSpoilt: function 11 -/
mutual
def souterrainlaw03_ScanSpoilt.j0 : Nat → List (List Int) → Int → Int → Int → Bool → Bool → Option (Bool)
  | 0, _, _, _, _, _, _ => none
  | k + 1, x0, x1, x2, x3, x9, x27 => if x27 = true then (some x9) else ((souterrainlaw03_put.f k x0).bind fun bt250 => (if (bt250.2.length : Int) = 0 then (some x9) else (if 0 ≤ (Int.tmod (wrap64 (x1)) (bt250.2.length : Int)) then (if (Int.tmod (wrap64 (x1)) (bt250.2.length : Int)) < (bt250.2.length : Int) then (if (wrap64 ((wrap64 (8 * (wrap64 (((rd_T41 bt250.2 (Int.tmod (wrap64 (x1)) (bt250.2.length : Int))).f1) - 4)))) - 31)) = 0 then (none) else ((some (([] : List Int) : List Int)).bind fun y258 => (if y258.length + bt250.1.length < 140737488355328 then (souterrainlaw03_ScanSpoilt.l0 k x3 x9 bt250.1 bt250.2 (Int.tmod (wrap64 (x1)) (bt250.2.length : Int)) (wrap64 ((wrap64 (8 * (wrap64 (((rd_T41 bt250.2 (Int.tmod (wrap64 (x1)) (bt250.2.length : Int))).f0) + 4)))) + (Int.tmod (wrap64 (x2)) (wrap64 ((wrap64 (8 * (wrap64 (((rd_T41 bt250.2 (Int.tmod (wrap64 (x1)) (bt250.2.length : Int))).f1) - 4)))) - 31))))) (y258 ++ bt250.1) 0) else (none)))) else (none)) else (none))))
def souterrainlaw03_ScanSpoilt.l0 : Nat → Int → Bool → List Int → List (S41) → Int → Int → List Int → Int → Option (Bool)
  | 0, _, _, _, _, _, _, _, _ => none
  | k + 1, x3, x9, x10, x11, x12, x13, x14, x15 => if x15 < 32 then (if 0 ≤ x15 then (if (Int.tmod (shr .u32 x3 x15) 2) = 1 then (if 0 ≤ (wrap64 (Int.tdiv (wrap64 (x13 + x15)) 8)) then (if (wrap64 (Int.tdiv (wrap64 (x13 + x15)) 8)) < (x14.length : Int) then (if 0 ≤ (Int.tmod (wrap64 (x13 + x15)) 8) then (souterrainlaw03_ScanSpoilt.l0 k x3 x9 x10 x11 x12 x13 (x14.set ((wrap64 (Int.tdiv (wrap64 (x13 + x15)) 8)) : Int).toNat (Go.bits .xor .u8 (rd x14 (wrap64 (Int.tdiv (wrap64 (x13 + x15)) 8))) (shl .u8 1 (Int.tmod (wrap64 (x13 + x15)) 8)))) (wrap64 (x15 + 1))) else (none)) else (none)) else (none)) else (souterrainlaw03_ScanSpoilt.l0 k x3 x9 x10 x11 x12 x13 x14 (wrap64 (x15 + 1)))) else (none)) else ((some (([] : List (S41)) : List (S41))).bind fun y266 => (if 0 ≤ x12 then (if x12 ≤ (x11.length : Int) then ((some (x11.take (x12 : Int).toNat : List (S41))).bind fun y269 => (if y266.length + y269.length < 3518437208883 then ((some (y266 ++ y269 : List (S41))).bind fun y274 => (if 0 ≤ (wrap64 (x12 + 1)) then (if (wrap64 (x12 + 1)) ≤ (x11.length : Int) then ((some (x11.drop ((wrap64 (x12 + 1)) : Int).toNat : List (S41))).bind fun y277 => (if y274.length + y277.length < 3518437208883 then ((scan_All.f x14).bind fun bt285 => (if x9 = true then ((souterrainref03_Same.f k bt285.1 (y274 ++ y277)).bind fun t291 => (if t291 = true then (if bt285.2.1 = 1 then (if bt285.2.2.1 = (x10.length : Int) then (some (bt285.2.2.2 == 0)) else (some false)) else (some false)) else (some false))) else (some false))) else (none))) else (none)) else (none))) else (none))) else (none)) else (none)))
end
def souterrainlaw03_ScanSpoilt.f (k : Nat) (l0 : List (List Int)) (a1 : Int) (a2 : Int) (a3 : Int) : Option (Bool) := (souterrainlaw03_head.f).bind fun t248 => ((souterrainlaw03_great.f k l0).bind fun t249 => (if t249 = true then (souterrainlaw03_ScanSpoilt.j0 k l0 a1 a2 a3 t248 true) else (souterrainlaw03_ScanSpoilt.j0 k l0 a1 a2 a3 t248 (a3 == 0))))
theorem souterrainlaw03_ScanSpoilt.mono_l : ∀ k, (∀ y0 y1 y2 y3 y4 y5, LeO (souterrainlaw03_ScanSpoilt.j0 k y0 y1 y2 y3 y4 y5) (souterrainlaw03_ScanSpoilt.j0 (k + 1) y0 y1 y2 y3 y4 y5)) ∧ (∀ y0 y1 y2 y3 y4 y5 y6 y7, LeO (souterrainlaw03_ScanSpoilt.l0 k y0 y1 y2 y3 y4 y5 y6 y7) (souterrainlaw03_ScanSpoilt.l0 (k + 1) y0 y1 y2 y3 y4 y5 y6 y7))
  | 0 => ⟨fun _ _ _ _ _ _ r h => by simp [souterrainlaw03_ScanSpoilt.j0] at h, fun _ _ _ _ _ _ _ _ r h => by simp [souterrainlaw03_ScanSpoilt.l0] at h⟩
  | k + 1 => by
    obtain ⟨ih0, ih1⟩ := souterrainlaw03_ScanSpoilt.mono_l k
    refine ⟨?_, ?_⟩
    · intro y0 y1 y2 y3 y4 y5
      unfold souterrainlaw03_ScanSpoilt.j0
      repeat' first
      | (with_reducible exact ih0 _ _ _ _ _ _)
      | (with_reducible exact ih1 _ _ _ _ _ _ _ _)
      | (with_reducible exact souterrainlaw03_great.mono _ _)
      | (with_reducible exact souterrainlaw03_put.mono _ _)
      | (with_reducible exact souterrainref03_Same.mono _ _ _)
      | (with_reducible exact LeO.refl _)
      | (with_reducible exact LeO.none _)
      | (with_reducible refine LeO.ite ?_ ?_)
      | (with_reducible refine LeO.bind ?_ (fun _ => ?_))
      | exact ih0 _ _ _ _ _ _
      | exact ih1 _ _ _ _ _ _ _ _
      | exact souterrainlaw03_great.mono _ _
      | exact souterrainlaw03_put.mono _ _
      | exact souterrainref03_Same.mono _ _ _
      | exact LeO.none _
      | refine LeO.ite ?_ ?_
      | refine LeO.bind ?_ (fun _ => ?_)
    · intro y0 y1 y2 y3 y4 y5 y6 y7
      unfold souterrainlaw03_ScanSpoilt.l0
      repeat' first
      | (with_reducible exact ih0 _ _ _ _ _ _)
      | (with_reducible exact ih1 _ _ _ _ _ _ _ _)
      | (with_reducible exact souterrainlaw03_great.mono _ _)
      | (with_reducible exact souterrainlaw03_put.mono _ _)
      | (with_reducible exact souterrainref03_Same.mono _ _ _)
      | (with_reducible exact LeO.refl _)
      | (with_reducible exact LeO.none _)
      | (with_reducible refine LeO.ite ?_ ?_)
      | (with_reducible refine LeO.bind ?_ (fun _ => ?_))
      | exact ih0 _ _ _ _ _ _
      | exact ih1 _ _ _ _ _ _ _ _
      | exact souterrainlaw03_great.mono _ _
      | exact souterrainlaw03_put.mono _ _
      | exact souterrainref03_Same.mono _ _ _
      | exact LeO.none _
      | refine LeO.ite ?_ ?_
      | refine LeO.bind ?_ (fun _ => ?_)
theorem souterrainlaw03_ScanSpoilt.mono : ∀ a0 a1 a2 a3 k, LeO (souterrainlaw03_ScanSpoilt.f k a0 a1 a2 a3) (souterrainlaw03_ScanSpoilt.f (k + 1) a0 a1 a2 a3) := by
  intro a0 a1 a2 a3 k
  obtain ⟨ih0, ih1⟩ := souterrainlaw03_ScanSpoilt.mono_l k
  unfold souterrainlaw03_ScanSpoilt.f
  repeat' first
      | (with_reducible exact ih0 _ _ _ _ _ _)
      | (with_reducible exact ih1 _ _ _ _ _ _ _ _)
      | (with_reducible exact souterrainlaw03_great.mono _ _)
      | (with_reducible exact souterrainlaw03_put.mono _ _)
      | (with_reducible exact souterrainref03_Same.mono _ _ _)
      | (with_reducible exact LeO.refl _)
      | (with_reducible exact LeO.none _)
      | (with_reducible refine LeO.ite ?_ ?_)
      | (with_reducible refine LeO.bind ?_ (fun _ => ?_))
      | exact ih0 _ _ _ _ _ _
      | exact ih1 _ _ _ _ _ _ _ _
      | exact souterrainlaw03_great.mono _ _
      | exact souterrainlaw03_put.mono _ _
      | exact souterrainref03_Same.mono _ _ _
      | exact LeO.none _
      | refine LeO.ite ?_ ?_
      | refine LeO.bind ?_ (fun _ => ?_)
def souterrainlaw03_ScanSpoilt.T8 : Bool × List (List Nat × List Nat) := (true, [([], []), ([], []), ([0, 1], [0, 1]), ([2], [2]), ([3], [3]), ([4], [4]), ([5], [5]), ([], []), ([7], [7]), ([], []), ([], []), ([9, 10], [9, 10]), ([11], [11]), ([12], [12]), ([13], [13]), ([14], [14]), ([15], [15]), ([8, 16], [8, 16]), ([6, 17], [6, 17]), ([18, 0, 1, 2, 3, 4, 5, 6, 7, 8, 9, 10, 11, 12, 13, 14, 15, 16, 17, 18], [18])])
def souterrainlaw03_ScanSpoilt.B8 : List Nat := [0, 0, 3, 7, 15, 31, 63, 0, 128, 0, 0, 1536, 3584, 7680, 15872, 32256, 65024, 130944, 262143, 524287]
theorem souterrainlaw03_ScanSpoilt.tab8 : rtab .any (opsOf Try.f11 8) = souterrainlaw03_ScanSpoilt.T8 := by kernel_rfl
theorem souterrainlaw03_ScanSpoilt.bits8 : waitsOk souterrainlaw03_ScanSpoilt.T8.2 souterrainlaw03_ScanSpoilt.B8 = true := by kernel_rfl
def souterrainlaw03_ScanSpoilt.T14 : Bool × List (List Nat × List Nat) := (true, [([], []), ([], []), ([], []), ([1, 2], [1, 2]), ([3], [3]), ([], []), ([], []), ([], []), ([6, 7], [6, 7]), ([8], [8]), ([5, 9], [5, 9]), ([10], [10]), ([], []), ([], []), ([12, 13], [12, 13]), ([14], [14]), ([15], [15]), ([11, 16], [11, 16]), ([0, 4, 0, 1, 2, 3, 4, 5, 6, 7, 8, 9, 10, 11, 12, 13, 14, 15, 16, 17], [0, 4]), ([18, 17, 0, 1, 2, 3, 4, 5, 6, 7, 8, 9, 10, 11, 12, 13, 14, 15, 16, 17], [17, 18])])
def souterrainlaw03_ScanSpoilt.B14 : List Nat := [0, 0, 0, 6, 14, 0, 0, 0, 192, 448, 992, 2016, 0, 0, 12288, 28672, 61440, 131040, 262143, 524287]
theorem souterrainlaw03_ScanSpoilt.tab14 : rtab .any (opsOf Try.f11 14) = souterrainlaw03_ScanSpoilt.T14 := by kernel_rfl
theorem souterrainlaw03_ScanSpoilt.bits14 : waitsOk souterrainlaw03_ScanSpoilt.T14.2 souterrainlaw03_ScanSpoilt.B14 = true := by kernel_rfl
def souterrainlaw03_ScanSpoilt.T15 : Bool × List (List Nat × List Nat) := (true, [([], []), ([], []), ([], []), ([1, 2], [1, 2]), ([0, 3], [0, 3]), ([], []), ([], []), ([6], [6]), ([5, 7], [5, 7]), ([4, 8, 4], [4, 8]), ([9, 9, 0, 1, 2, 3, 4, 5, 6, 7, 8, 9], [9])])
def souterrainlaw03_ScanSpoilt.B15 : List Nat := [0, 0, 0, 6, 15, 0, 0, 64, 224, 511, 1023]
theorem souterrainlaw03_ScanSpoilt.tab15 : rtab .any (opsOf Try.f11 15) = souterrainlaw03_ScanSpoilt.T15 := by kernel_rfl
theorem souterrainlaw03_ScanSpoilt.bits15 : waitsOk souterrainlaw03_ScanSpoilt.T15.2 souterrainlaw03_ScanSpoilt.B15 = true := by kernel_rfl
set_option maxHeartbeats 8000000 in
set_option maxRecDepth 100000 in
theorem souterrainlaw03_ScanSpoilt.calls (k : Nat) (A0 : Option Addr) (c0 : Nat) (l0 : List (List Int)) (a1 : Int) (a2 : Int) (a3 : Int) (r : Bool) (w : World) (hr0 : Kd.C (Kd.slice 5 (Kd.int .u8)) w A0 l0.length l0) (hc0 : l0.length ≤ c0) (h : souterrainlaw03_ScanSpoilt.f k l0 a1 a2 a3 = some r) :
    Calls Try.prog 11 #[.slice A0 l0.length c0, .int .u8 a1, .int .u16 a2, .int .u32 a3] w fun e w' => e = .returned (.bool r) ∧ Below w.heap.size w w' := by
  have HR0 := Aside0.mk hr0
  have HC0 := Aside0.mk hc0
  clear hr0 hc0
  have HB := Aside0.mk (Below.refl w.heap.size w)
  have H : ((souterrainlaw03_head.f).bind fun t248 => ((souterrainlaw03_great.f k l0).bind fun t249 => (if t249 = true then (souterrainlaw03_ScanSpoilt.j0 k l0 a1 a2 a3 t248 true) else (souterrainlaw03_ScanSpoilt.j0 k l0 a1 a2 a3 t248 (a3 == 0))))) = some r := h
  clear h
  replace H := Option.bind_eq_some_iff.mp H
  obtain ⟨t248, A50, H⟩ := H
  replace H : ((souterrainlaw03_great.f k l0).bind fun t249 => (if t249 = true then (souterrainlaw03_ScanSpoilt.j0 k l0 a1 a2 a3 t248 true) else (souterrainlaw03_ScanSpoilt.j0 k l0 a1 a2 a3 t248 (a3 == 0)))) = some r := H
  have A5 := Aside0.mk A50
  clear A50
  have HC6 := Aside0.mk H
  clear H
  go_enter Try.func11, Try.ntmps11
  go_upto_region 2 with (first | ((with_reducible refine gate_callee (f := 22) rfl ?_); refine goesL_ (some 21) rfl rfl Try.func22 (by kernel_rfl) rfl #[] rfl (by (try simp only [List.map_toArray, List.map_cons, List.map_nil]); first | done | rfl | (simp only [List.length_drop, List.length_take]; rfl)) ?_; (with_reducible refine (souterrainlaw03_head.calls  t248 _ A5.out).mono ?_); rintro e w7 ⟨rfl, hb⟩; refine ⟨_, rfl, ?_⟩; have n0_ := Aside0.mk (below_step (by repeat (first | (with_reducible first | exact HB.out | apply below_alloc | apply pw_below_drewN | apply below_drew1) | exact HB.out)) hb); clear HB; have HB := n0_; clear n0_; (try clear hb); (try clear hb2); (try clear hk); (try clear hi)))
  (try simp only [Act.put, List.setIfInBounds_toArray, List.set_cons_zero, List.set_cons_succ])
  go_cut [27] (fun v27 wc => ∃ (kq : Nat) (x27_5 : Bool), v27 = .bool x27_5 ∧ Aside0 (souterrainlaw03_ScanSpoilt.j0 kq l0 a1 a2 a3 t248 x27_5 = some r) ∧ Aside0 (kq ≤ k) ∧ Aside0 (Below w.heap.size w wc))
  case first =>
    have H := HC6.out
    clear HC6
    replace H := Option.bind_eq_some_iff.mp H
    obtain ⟨t249, A80, H⟩ := H
    replace H : (if t249 = true then (souterrainlaw03_ScanSpoilt.j0 k l0 a1 a2 a3 t248 true) else (souterrainlaw03_ScanSpoilt.j0 k l0 a1 a2 a3 t248 (a3 == 0))) = some r := H
    have A8 := Aside0.mk A80
    clear A80
    by_cases c9 : t249 = true
    · subst c9
      have H1 : (souterrainlaw03_ScanSpoilt.j0 k l0 a1 a2 a3 t248 true) = some r := by rw [if_pos rfl] at H; exact H
      clear H
      have H := H1
      clear H1
      have H' := Aside0.mk H
      clear H
      go_wp2_with (first | ((with_reducible refine gate_callee (f := 28) rfl ?_); refine goesL_ (some 23) rfl rfl Try.func28 (by kernel_rfl) rfl #[.slice A0 l0.length c0] rfl (by (try simp only [List.map_toArray, List.map_cons, List.map_nil]); first | done | rfl | (simp only [List.length_drop, List.length_take]; rfl)) ?_; (with_reducible refine (souterrainlaw03_great.calls k _ _ l0 true _ ?side1 ?side2 A8.out).mono ?_); (case side1 => repeat (first | exact (Kd.C_below HR0.out HB.out) | (with_reducible refine Kd.C_alloc ?_ _) | (with_reducible refine Kd.C_drewN ?_ _) | (with_reducible refine Kd.C_drew ?_))); (case side2 => exact HC0.out); rintro e w10 ⟨rfl, hb⟩; refine ⟨_, rfl, ?_⟩; have n0_ := Aside0.mk (below_step (by repeat (first | (with_reducible first | exact HB.out | apply below_alloc | apply pw_below_drewN | apply below_drew1) | exact HB.out)) hb); clear HB; have HB := n0_; clear n0_; (try clear hb); (try clear hb2); (try clear hk); (try clear hi)))
      go_meet
      case rel => exact ⟨_, (true), (by first | rfl | (simp; done) | (simp [*]; done)), H', ⟨by first | omega | exact Nat.le_refl _⟩, ⟨by repeat (first | (with_reducible first | exact HB.out | apply below_alloc | apply pw_below_drewN | apply below_drew1) | exact HB.out)⟩⟩
    · replace c9 := Bool.eq_false_iff.mpr c9
      subst c9
      have H1 : (souterrainlaw03_ScanSpoilt.j0 k l0 a1 a2 a3 t248 (a3 == 0)) = some r := by rw [if_neg (show ¬ (false = true) by decide)] at H; exact H
      clear H
      have H := H1
      clear H1
      have H' := Aside0.mk H
      clear H
      go_wp2_with (first | ((with_reducible refine gate_callee (f := 28) rfl ?_); refine goesL_ (some 23) rfl rfl Try.func28 (by kernel_rfl) rfl #[.slice A0 l0.length c0] rfl (by (try simp only [List.map_toArray, List.map_cons, List.map_nil]); first | done | rfl | (simp only [List.length_drop, List.length_take]; rfl)) ?_; (with_reducible refine (souterrainlaw03_great.calls k _ _ l0 false _ ?side1 ?side2 A8.out).mono ?_); (case side1 => repeat (first | exact (Kd.C_below HR0.out HB.out) | (with_reducible refine Kd.C_alloc ?_ _) | (with_reducible refine Kd.C_drewN ?_ _) | (with_reducible refine Kd.C_drew ?_))); (case side2 => exact HC0.out); rintro e w11 ⟨rfl, hb⟩; refine ⟨_, rfl, ?_⟩; have n0_ := Aside0.mk (below_step (by repeat (first | (with_reducible first | exact HB.out | apply below_alloc | apply pw_below_drewN | apply below_drew1) | exact HB.out)) hb); clear HB; have HB := n0_; clear n0_; (try clear hb); (try clear hb2); (try clear hk); (try clear hi)))
      go_meet
      case rel => exact ⟨_, ((a3 == 0)), (by first | rfl | (simp; done) | (simp [*]; done)), H', ⟨by first | omega | exact Nat.le_refl _⟩, ⟨by repeat (first | (with_reducible first | exact HB.out | apply below_alloc | apply pw_below_drewN | apply below_drew1) | exact HB.out)⟩⟩
  case rest =>
    clear HC6
    try clear c1
    try clear c2
    try clear p2
    try clear c9
    try clear c11
    obtain ⟨kq, x27_5, rfl, HA, HJ5, HB⟩ := hcut
    cases kq with
    | zero => exact absurd HA.out (by simp [souterrainlaw03_ScanSpoilt.j0])
    | succ kj5 =>
      have H := HA.out
      clear HA
      simp only [souterrainlaw03_ScanSpoilt.j0] at H
      by_cases c12 : x27_5 = true
      · subst c12
        have H1 : (some t248) = some r := by rw [if_pos rfl] at H; exact H
        clear H
        have H := H1
        clear H1
        obtain rfl := Option.some.inj H
        go_wp2
        go_ret
        exact ⟨by first | rfl | (simp [errW_none, errW_some] <;> rfl) | (simp [*, errW_none, errW_some] <;> rfl), by repeat (first | (with_reducible first | exact HB.out | apply below_alloc | apply pw_below_drewN | apply below_drew1) | exact HB.out)⟩
      · replace c12 := Bool.eq_false_iff.mpr c12
        subst c12
        have H1 : ((souterrainlaw03_put.f kj5 l0).bind fun bt250 => (if (bt250.2.length : Int) = 0 then (some t248) else (if 0 ≤ (Int.tmod (wrap64 (a1)) (bt250.2.length : Int)) then (if (Int.tmod (wrap64 (a1)) (bt250.2.length : Int)) < (bt250.2.length : Int) then (if (wrap64 ((wrap64 (8 * (wrap64 (((rd_T41 bt250.2 (Int.tmod (wrap64 (a1)) (bt250.2.length : Int))).f1) - 4)))) - 31)) = 0 then (none) else ((some (([] : List Int) : List Int)).bind fun y258 => (if y258.length + bt250.1.length < 140737488355328 then (souterrainlaw03_ScanSpoilt.l0 kj5 a3 t248 bt250.1 bt250.2 (Int.tmod (wrap64 (a1)) (bt250.2.length : Int)) (wrap64 ((wrap64 (8 * (wrap64 (((rd_T41 bt250.2 (Int.tmod (wrap64 (a1)) (bt250.2.length : Int))).f0) + 4)))) + (Int.tmod (wrap64 (a2)) (wrap64 ((wrap64 (8 * (wrap64 (((rd_T41 bt250.2 (Int.tmod (wrap64 (a1)) (bt250.2.length : Int))).f1) - 4)))) - 31))))) (y258 ++ bt250.1) 0) else (none)))) else (none)) else (none)))) = some r := by rw [if_neg (show ¬ (false = true) by decide)] at H; exact H
        clear H
        have H := H1
        clear H1
        replace H := Option.bind_eq_some_iff.mp H
        obtain ⟨⟨t250, t253⟩, A130, H⟩ := H
        replace H : (if (t253.length : Int) = 0 then (some t248) else (if 0 ≤ (Int.tmod (wrap64 (a1)) (t253.length : Int)) then (if (Int.tmod (wrap64 (a1)) (t253.length : Int)) < (t253.length : Int) then (if (wrap64 ((wrap64 (8 * (wrap64 (((rd_T41 t253 (Int.tmod (wrap64 (a1)) (t253.length : Int))).f1) - 4)))) - 31)) = 0 then (none) else ((some (([] : List Int) : List Int)).bind fun y258 => (if y258.length + t250.length < 140737488355328 then (souterrainlaw03_ScanSpoilt.l0 kj5 a3 t248 t250 t253 (Int.tmod (wrap64 (a1)) (t253.length : Int)) (wrap64 ((wrap64 (8 * (wrap64 (((rd_T41 t253 (Int.tmod (wrap64 (a1)) (t253.length : Int))).f0) + 4)))) + (Int.tmod (wrap64 (a2)) (wrap64 ((wrap64 (8 * (wrap64 (((rd_T41 t253 (Int.tmod (wrap64 (a1)) (t253.length : Int))).f1) - 4)))) - 31))))) (y258 ++ t250) 0) else (none)))) else (none)) else (none))) = some r := H
        have A13 := Aside0.mk A130
        clear A130
        by_cases c14 : (t253.length : Int) = 0
        · rw [if_pos c14] at H
          have c14b0 : ((t253.length : Int) == 0) = true := beq_iff_eq.mpr c14
          have c14b1 : ((t253.length : Int) != 0) = false := bne_eq_false_iff_eq.mpr c14
          clear c14
          obtain rfl := Option.some.inj H
          go_wp2_with (first | ((with_reducible refine gate_callee (f := 29) rfl ?_); refine goesL_ (some 31) rfl rfl Try.func29 (by kernel_rfl) rfl #[.slice A0 l0.length c0] rfl (by (try simp only [List.map_toArray, List.map_cons, List.map_nil]); first | done | rfl | (simp only [List.length_drop, List.length_take]; rfl)) ?_; (with_reducible refine (souterrainlaw03_put.calls kj5 (fun k_ => k_ < w.heap.size) _ _ l0 t250 t253 _ ?side1 A13.out).mono ?_); (case side1 => exact Kd.V_mk HC0.out (Kd.F_below (Kd.C_F (Kd.heap_slice 5 (Kd.heap_int .u8)) HR0.out) (by repeat (first | (with_reducible first | exact HB.out | apply below_alloc | apply pw_below_drewN | apply below_drew1) | exact HB.out)))); rintro e w15 ⟨v251, v254, rfl, ho0, ho1, hb⟩; refine ⟨_, rfl, ?_⟩; have n0_ := Aside0.mk (Kd.R_lower (Kd.R_mono (ok' := fun k_ => True) ho0 (fun _ hk_ => trivial)) (below_size (by repeat (first | (with_reducible first | exact HB.out | apply below_alloc | apply pw_below_drewN | apply below_drew1) | exact HB.out)))); have n1_ := Aside0.mk (Kd.N_lower (Kd.N_mono (ok' := fun k_ => some k_ ≠ (v251 : Value).ownBlock) ho1 (fun k_ hk_ => hk_.2)) (below_size (by repeat (first | (with_reducible first | exact HB.out | apply below_alloc | apply pw_below_drewN | apply below_drew1) | exact HB.out)))); have n2_ := Aside0.mk (below_step (by repeat (first | (with_reducible first | exact HB.out | apply below_alloc | apply pw_below_drewN | apply below_drew1) | exact HB.out)) hb); clear HB; have HO252 := n0_; have HO255 := n1_; have HB := n2_; clear n0_ n1_ n2_; (try clear hb); (try clear hb2); (try clear hk); (try clear hi); (try clear ho0); (try clear ho1); obtain ⟨Ao16, co16, eo16⟩ := Kd.N_slice HO255.out; subst eo16))
          go_ret
          exact ⟨by first | rfl | (simp [errW_none, errW_some] <;> rfl) | (simp [*, errW_none, errW_some] <;> rfl), by repeat (first | (with_reducible first | exact HB.out | apply below_alloc | apply pw_below_drewN | apply below_drew1) | exact HB.out)⟩
        · rw [if_neg c14] at H
          have c14b0 : ((t253.length : Int) == 0) = false := beq_eq_false_iff_ne.mpr c14
          have c14b1 : ((t253.length : Int) != 0) = true := bne_iff_ne.mpr c14
          have c14b2 : ¬ (t253 = []) := fun h_ => c14 (by rw [h_]; rfl)
          obtain ⟨ji17, hji17⟩ : ∃ j_ : Int, (Int.tmod (wrap64 (a1)) (t253.length : Int)) = j_ := ⟨_, rfl⟩
          replace H : (if 0 ≤ (ji17) then (if (ji17) < (t253.length : Int) then (if (wrap64 ((wrap64 (8 * (wrap64 (((rd_T41 t253 (ji17)).f1) - 4)))) - 31)) = 0 then (none) else ((some (([] : List Int) : List Int)).bind fun y258 => (if y258.length + t250.length < 140737488355328 then (souterrainlaw03_ScanSpoilt.l0 kj5 a3 t248 t250 t253 ji17 (wrap64 ((wrap64 (8 * (wrap64 (((rd_T41 t253 (ji17)).f0) + 4)))) + (Int.tmod (wrap64 (a2)) (wrap64 ((wrap64 (8 * (wrap64 (((rd_T41 t253 (ji17)).f1) - 4)))) - 31))))) (y258 ++ t250) 0) else (none)))) else (none)) else (none)) = some r := by first | (rw [hji17] at H; exact H) | (simp only [hji17] at H ⊢; exact H)
          (try rw [hji17] at A13)
          by_cases c18 : 0 ≤ (ji17)
          · rw [if_pos c18] at H
            have c18b0 : decide (0 ≤ (ji17)) = true := decide_eq_true c18
            clear c18
            by_cases c19 : (ji17) < (t253.length : Int)
            · rw [if_pos c19] at H
              have c19b0 : decide ((ji17) < (t253.length : Int)) = true := decide_eq_true c19
              clear c19
              by_cases c20 : (wrap64 ((wrap64 (8 * (wrap64 (((rd_T41 t253 (ji17)).f1) - 4)))) - 31)) = 0
              · rw [if_pos c20] at H
                exact absurd H (by simp)
              · rw [if_neg c20] at H
                have c20b0 : ((wrap64 ((wrap64 (8 * (wrap64 (((rd_T41 t253 (ji17)).f1) - 4)))) - 31)) == 0) = false := beq_eq_false_iff_ne.mpr c20
                have c20b1 : ((wrap64 ((wrap64 (8 * (wrap64 (((rd_T41 t253 (ji17)).f1) - 4)))) - 31)) != 0) = true := bne_iff_ne.mpr c20
                obtain ⟨y258, hy258⟩ : ∃ y_ : List Int, y_ = (([] : List Int)) := ⟨_, rfl⟩
                replace H : (if y258.length + t250.length < 140737488355328 then (souterrainlaw03_ScanSpoilt.l0 kj5 a3 t248 t250 t253 ji17 (wrap64 ((wrap64 (8 * (wrap64 (((rd_T41 t253 (ji17)).f0) + 4)))) + (Int.tmod (wrap64 (a2)) (wrap64 ((wrap64 (8 * (wrap64 (((rd_T41 t253 (ji17)).f1) - 4)))) - 31))))) (y258 ++ t250) 0) else (none)) = some r := by first | (rw [hy258]; with_reducible exact H) | (have H2_ := (Option.bind_some _ _).symm.trans H; rw [hy258]; with_reducible exact H2_) | (have H2_ := (Option.bind_some _ _).symm.trans H; with_reducible exact H2_) | with_reducible exact H | (rw [hy258]; exact H) | exact H
                have Ny258 := Aside0.mk hy258
                clear hy258
                by_cases c21 : y258.length + t250.length < 140737488355328
                · rw [if_pos c21] at H
                  have LMc21 := Aside0.mk c21
                  clear c21
                  obtain ⟨y261, hy261⟩ : ∃ y_ : List Int, y_ = (y258 ++ t250) := ⟨_, rfl⟩
                  replace H : (souterrainlaw03_ScanSpoilt.l0 kj5 a3 t248 t250 t253 ji17 (wrap64 ((wrap64 (8 * (wrap64 (((rd_T41 t253 (ji17)).f0) + 4)))) + (Int.tmod (wrap64 (a2)) (wrap64 ((wrap64 (8 * (wrap64 (((rd_T41 t253 (ji17)).f1) - 4)))) - 31))))) y261 0) = some r := by first | (rw [hy261]; with_reducible exact H) | (have H2_ := (Option.bind_some _ _).symm.trans H; rw [hy261]; with_reducible exact H2_) | (have H2_ := (Option.bind_some _ _).symm.trans H; with_reducible exact H2_) | with_reducible exact H | (rw [hy261]; exact H) | exact H
                  have Ny261 := Aside0.mk hy261
                  clear hy261
                  have H' := Aside0.mk H
                  clear H
                  try go_wp2_with (first | ((with_reducible refine gate_callee (f := 29) rfl ?_); refine goesL_ (some 31) rfl rfl Try.func29 (by kernel_rfl) rfl #[.slice A0 l0.length c0] rfl (by (try simp only [List.map_toArray, List.map_cons, List.map_nil]); first | done | rfl | (simp only [List.length_drop, List.length_take]; rfl)) ?_; (with_reducible refine (souterrainlaw03_put.calls kj5 (fun k_ => k_ < w.heap.size) _ _ l0 t250 t253 _ ?side1 A13.out).mono ?_); (case side1 => exact Kd.V_mk HC0.out (Kd.F_below (Kd.C_F (Kd.heap_slice 5 (Kd.heap_int .u8)) HR0.out) (by repeat (first | (with_reducible first | exact HB.out | apply below_alloc | apply pw_below_drewN | apply below_drew1) | exact HB.out)))); rintro e w22 ⟨v251, v254, rfl, ho0, ho1, hb⟩; refine ⟨_, rfl, ?_⟩; have n0_ := Aside0.mk (Kd.R_lower (Kd.R_mono (ok' := fun k_ => True) ho0 (fun _ hk_ => trivial)) (below_size (by repeat (first | (with_reducible first | exact HB.out | apply below_alloc | apply pw_below_drewN | apply below_drew1) | exact HB.out)))); have n1_ := Aside0.mk (Kd.N_lower (Kd.N_mono (ok' := fun k_ => some k_ ≠ (v251 : Value).ownBlock) ho1 (fun k_ hk_ => hk_.2)) (below_size (by repeat (first | (with_reducible first | exact HB.out | apply below_alloc | apply pw_below_drewN | apply below_drew1) | exact HB.out)))); have n2_ := Aside0.mk (below_step (by repeat (first | (with_reducible first | exact HB.out | apply below_alloc | apply pw_below_drewN | apply below_drew1) | exact HB.out)) hb); clear HB; have HO252 := n0_; have HO255 := n1_; have HB := n2_; clear n0_ n1_ n2_; (try clear hb); (try clear hb2); (try clear hk); (try clear hi); (try clear ho0); (try clear ho1); obtain ⟨Ao23, co23, eo23⟩ := Kd.N_slice HO255.out; subst eo23))
                  have n0_ := Aside0.mk (Kd.R_drew HO252.out)
                  have n1_ := Aside0.mk (Kd.N_drew HO255.out)
                  have n2_ := Aside0.mk (below_drew1 HB.out)
                  clear HO252
                  clear HO255
                  clear HB
                  have HO252 := n0_
                  have HO255 := n1_
                  have HB := n2_
                  clear n0_ n1_ n2_
                  have p256 : 0 ≤ ((ji17) : Int) := of_decide_eq_true (by first | (with_reducible assumption) | assumption)
                  have q256 : (ji17) < (t253.length : Int) := of_decide_eq_true (by first | (with_reducible assumption) | assumption)
                  obtain ⟨ad256, A256_2, c256_2, e256, hx256_0, hx256_1, hx256_2, hl256_2, hi256_2⟩ := at_T41 (Kd.N_reads' HO255.out).2.2 (ji17) p256 q256
                  cases e256
                  obtain ⟨ce256, hce256, hMe256, hcc256⟩ := Kd.N_get HO255.out z41 (ji17) p256 (by first | exact q256 | exact of_decide_eq_true (by first | (with_reducible assumption) | assumption) | (have e_ := (Kd.N_reads' HO255.out).1; omega))
                  obtain ⟨ua256_2, uc256_2, rfl, ul256_2, ge256_2⟩ := k41_openF hMe256
                  have hv256_2 := hcc256 2 _ rfl
                  rw [add_field _ _ 2 (by omega)] at hv256_2
                  replace hv256_2 := Option.some.inj (hv256_2.symm.trans hx256_2)
                  injection hv256_2 with hva_ hvn_ hvc_
                  rw [hva_] at ge256_2
                  rw [hvc_] at ul256_2
                  have HL256_2 := Aside0.mk (show Kd.V (Kd.int .u8) 5 _ w.heap.size _ _ ((rd_T41 t253 (ji17)).f2) from Kd.V_mk ul256_2 ge256_2)
                  clear hva_ hvn_ hvc_ ge256_2 ul256_2
                  clear hcc256 hce256
                  have HR256_2 := Aside0.mk hi256_2
                  have HC256_2 := Aside0.mk hl256_2
                  clear hi256_2 hl256_2
                  replace p256 := eq_true p256
                  replace q256 := eq_true q256
                  have p257 : 0 ≤ ((ji17) : Int) := of_decide_eq_true (by first | (with_reducible assumption) | assumption)
                  have q257 : (ji17) < (t253.length : Int) := of_decide_eq_true (by first | (with_reducible assumption) | assumption)
                  obtain ⟨ad257, A257_2, c257_2, e257, hx257_0, hx257_1, hx257_2, hl257_2, hi257_2⟩ := at_T41 (Kd.N_reads' HO255.out).2.2 (ji17) p257 q257
                  obtain rfl : ad256 = ad257 := (by injection e257)
                  obtain ⟨ce257, hce257, hMe257, hcc257⟩ := Kd.N_get HO255.out z41 (ji17) p257 (by first | exact q257 | exact of_decide_eq_true (by first | (with_reducible assumption) | assumption) | (have e_ := (Kd.N_reads' HO255.out).1; omega))
                  obtain ⟨ua257_2, uc257_2, rfl, ul257_2, ge257_2⟩ := k41_openF hMe257
                  have hv257_2 := hcc257 2 _ rfl
                  rw [add_field _ _ 2 (by omega)] at hv257_2
                  replace hv257_2 := Option.some.inj (hv257_2.symm.trans hx257_2)
                  injection hv257_2 with hva_ hvn_ hvc_
                  rw [hva_] at ge257_2
                  rw [hvc_] at ul257_2
                  have HL257_2 := Aside0.mk (show Kd.V (Kd.int .u8) 5 _ w.heap.size _ _ ((rd_T41 t253 (ji17)).f2) from Kd.V_mk ul257_2 ge257_2)
                  clear hva_ hvn_ hvc_ ge257_2 ul257_2
                  clear hcc257 hce257
                  have HR257_2 := Aside0.mk hi257_2
                  have HC257_2 := Aside0.mk hl257_2
                  clear hi257_2 hl257_2
                  replace p257 := eq_true p257
                  replace q257 := eq_true q257
                  have ea_ := Option.some.inj (hx256_2.symm.trans hx257_2)
                  injection ea_ with ea_ en_ ec_
                  subst ea_
                  subst ec_
                  clear en_
                  refine start_ (n := 20) (S := fun w' => w'.cell? (ad256.add (((ji17)).toNat * 3)) = some (.int .i64 ((rd_T41 t253 (ji17)).f0)) ∧ w'.cell? ⟨(ad256.add (((ji17)).toNat * 3)).block, (ad256.add (((ji17)).toNat * 3)).off + 1, none⟩ = some (.int .i64 ((rd_T41 t253 (ji17)).f1)) ∧ w'.cell? ⟨(ad256.add (((ji17)).toNat * 3)).block, (ad256.add (((ji17)).toNat * 3)).off + 2, none⟩ = some (.slice A256_2 ((rd_T41 t253 (ji17)).f2).length c256_2) ∧ w'.cell? (ad256.add (((ji17)).toNat * 3)) = some (.int .i64 ((rd_T41 t253 (ji17)).f0)) ∧ w'.cell? ⟨(ad256.add (((ji17)).toNat * 3)).block, (ad256.add (((ji17)).toNat * 3)).off + 1, none⟩ = some (.int .i64 ((rd_T41 t253 (ji17)).f1)) ∧ w'.cell? ⟨(ad256.add (((ji17)).toNat * 3)).block, (ad256.add (((ji17)).toNat * 3)).off + 2, none⟩ = some (.slice A256_2 ((rd_T41 t253 (ji17)).f2).length c256_2)) (ds := []) #[false, false, false, false, false, false, false, false, false, false, false, false, false, false, false, false, false, false, false, false] (by kernel_rfl) rfl rfl ⟨hx256_0, hx256_1, hx256_2, hx257_0, hx257_1, hx257_2⟩ (fun hHeld => ?_); refine with_tabW souterrainlaw03_ScanSpoilt.tab8 souterrainlaw03_ScanSpoilt.bits8 (fun HT_ HW_ => ?_)
                  generalize w22.drew = w24 at HO252 HO255 HB HL256_2 HL257_2 HR256_2 HR257_2 hx256_0 hx256_1 hx256_2 hx257_0 hx257_1 hx257_2 hHeld ⊢
                  refine pure_ (i := 0) (N := some 43) (v := ?_) (a' := ?_) #[true, false, false, false, false, false, false, false, false, false, false, false, false, false, false, false, false, false, false, false] rfl rfl (any_of HT_.out (by kernel_rfl)) (fun _ _ _ h => h) (Or.inl ⟨by rfl, ?_⟩) ?_ ?_
                  rotate_left
                  · intro w'
                    go_simp
                    with_reducible rfl
                  rotate_left
                  · simp only [Act.put, List.setIfInBounds_toArray, List.set_cons_zero, List.set_cons_succ, i64_w, i32_w]
                    rfl
                  refine pure_ (i := 1) (N := some 44) (v := ?_) (a' := ?_) #[true, true, false, false, false, false, false, false, false, false, false, false, false, false, false, false, false, false, false, false] rfl rfl (any_of HT_.out (by kernel_rfl)) (fun _ _ _ h => h) (Or.inl ⟨by rfl, ?_⟩) ?_ ?_
                  rotate_left
                  · intro w'
                    go_simp
                    with_reducible rfl
                  rotate_left
                  · simp only [Act.put, List.setIfInBounds_toArray, List.set_cons_zero, List.set_cons_succ, i64_w, i32_w]
                    rfl
                  refine pure_ (i := 2) (N := some 45) (v := ?_) (a' := ?_) #[true, true, true, false, false, false, false, false, false, false, false, false, false, false, false, false, false, false, false, false] rfl rfl (any_of HT_.out (by kernel_rfl)) (fun _ _ _ h => h) (Or.inl ⟨by rfl, ?_⟩) ?_ ?_
                  rotate_left
                  · intro w'
                    go_simp
                    with_reducible rfl
                  rotate_left
                  · simp only [Act.put, List.setIfInBounds_toArray, List.set_cons_zero, List.set_cons_succ, i64_w, i32_w]
                    rfl
                  refine pure_ (i := 3) (N := some 46) (v := ?_) (a' := ?_) #[true, true, true, true, false, false, false, false, false, false, false, false, false, false, false, false, false, false, false, false] rfl rfl (any_of HT_.out (by kernel_rfl)) (fun _ _ _ h => h) (Or.inl ⟨by rfl, ?_⟩) ?_ ?_
                  rotate_left
                  · intro w'
                    go_simp
                    with_reducible rfl
                  rotate_left
                  · simp only [Act.put, List.setIfInBounds_toArray, List.set_cons_zero, List.set_cons_succ, i64_w, i32_w]
                    rfl
                  refine pure_ (i := 7) (N := some 50) (v := ?_) (a' := ?_) #[true, true, true, true, false, false, false, true, false, false, false, false, false, false, false, false, false, false, false, false] rfl rfl (any_of HT_.out (by kernel_rfl)) (fun _ _ _ h => h) (Or.inl ⟨by rfl, ?_⟩) ?_ ?_
                  rotate_left
                  · intro w'
                    go_simp
                    with_reducible rfl
                  rotate_left
                  · simp only [Act.put, List.setIfInBounds_toArray, List.set_cons_zero, List.set_cons_succ, i64_w, i32_w]
                    rfl
                  refine pure_ (i := 8) (N := some 51) (v := ?_) (a' := ?_) #[true, true, true, true, false, false, false, true, true, false, false, false, false, false, false, false, false, false, false, false] rfl rfl (any_of HT_.out (by kernel_rfl)) (fun _ _ _ h => h) (Or.inl ⟨by rfl, ?_⟩) ?_ ?_
                  rotate_left
                  · intro w'
                    go_simp
                    with_reducible rfl
                  rotate_left
                  · simp only [Act.put, List.setIfInBounds_toArray, List.set_cons_zero, List.set_cons_succ, i64_w, i32_w]
                    rfl
                  refine pure_ (i := 9) (N := some 52) (v := ?_) (a' := ?_) #[true, true, true, true, false, false, false, true, true, true, false, false, false, false, false, false, false, false, false, false] rfl rfl (any_of HT_.out (by kernel_rfl)) (fun _ _ _ h => h) (Or.inl ⟨by rfl, ?_⟩) ?_ ?_
                  rotate_left
                  · intro w'
                    go_simp
                    with_reducible rfl
                  rotate_left
                  · simp only [Act.put, List.setIfInBounds_toArray, List.set_cons_zero, List.set_cons_succ, i64_w, i32_w]
                    rfl
                  refine pure_ (i := 10) (N := some 53) (v := ?_) (a' := ?_) #[true, true, true, true, false, false, false, true, true, true, true, false, false, false, false, false, false, false, false, false] rfl rfl (any_of HT_.out (by kernel_rfl)) (fun _ _ _ h => h) (Or.inl ⟨by rfl, ?_⟩) ?_ ?_
                  rotate_left
                  · intro w'
                    go_simp
                    with_reducible rfl
                  rotate_left
                  · simp only [Act.put, List.setIfInBounds_toArray, List.set_cons_zero, List.set_cons_succ, i64_w, i32_w]
                    rfl
                  refine pure_ (i := 11) (N := some 54) (v := ?_) (a' := ?_) #[true, true, true, true, false, false, false, true, true, true, true, true, false, false, false, false, false, false, false, false] rfl rfl (any_of HT_.out (by kernel_rfl)) (fun _ _ _ h => h) (Or.inl ⟨by rfl, ?_⟩) ?_ ?_
                  rotate_left
                  · intro w'
                    go_simp
                    with_reducible rfl
                  rotate_left
                  · simp only [Act.put, List.setIfInBounds_toArray, List.set_cons_zero, List.set_cons_succ, i64_w, i32_w]
                    rfl
                  refine pure_ (i := 12) (N := some 55) (v := ?_) (a' := ?_) #[true, true, true, true, false, false, false, true, true, true, true, true, true, false, false, false, false, false, false, false] rfl rfl (any_of HT_.out (by kernel_rfl)) (fun _ _ _ h => h) (Or.inl ⟨by rfl, ?_⟩) ?_ ?_
                  rotate_left
                  · intro w'
                    go_simp
                    with_reducible rfl
                  rotate_left
                  · simp only [Act.put, List.setIfInBounds_toArray, List.set_cons_zero, List.set_cons_succ, i64_w, i32_w]
                    rfl
                  refine take_ (i := 4) (N := some 47) (v := ?_) (a' := ?_) #[true, true, true, true, true, false, false, true, true, true, true, true, true, false, false, false, false, false, false, false] rfl rfl (take_ofW HT_.out HW_.out (by kernel_rfl)) (fun _ _ _ h => h) (Or.inl ⟨by rfl, ?_⟩) hHeld ?_ ?_
                  rotate_left
                  · rintro w' ⟨s0, s1, s2, s3, s4, s5⟩
                    go_simp
                    with_reducible rfl
                  rotate_left
                  · simp only [Act.put, List.setIfInBounds_toArray, List.set_cons_zero, List.set_cons_succ, i64_w, i32_w]
                    rfl
                  refine pure_ (i := 5) (N := some 48) (v := ?_) (a' := ?_) #[true, true, true, true, true, true, false, true, true, true, true, true, true, false, false, false, false, false, false, false] rfl rfl (any_of HT_.out (by kernel_rfl)) (fun _ _ _ h => h) (Or.inl ⟨by rfl, ?_⟩) ?_ ?_
                  rotate_left
                  · intro w'
                    go_simp
                    with_reducible rfl
                  rotate_left
                  · simp only [Act.put, List.setIfInBounds_toArray, List.set_cons_zero, List.set_cons_succ, i64_w, i32_w]
                    rfl
                  refine pure_ (i := 6) (N := some 49) (v := ?_) (a' := ?_) #[true, true, true, true, true, true, true, true, true, true, true, true, true, false, false, false, false, false, false, false] rfl rfl (any_of HT_.out (by kernel_rfl)) (fun _ _ _ h => h) (Or.inl ⟨by rfl, ?_⟩) ?_ ?_
                  rotate_left
                  · intro w'
                    go_simp
                    with_reducible rfl
                  rotate_left
                  · simp only [Act.put, List.setIfInBounds_toArray, List.set_cons_zero, List.set_cons_succ, i64_w, i32_w]
                    rfl
                  refine take_ (i := 13) (N := some 56) (v := ?_) (a' := ?_) #[true, true, true, true, true, true, true, true, true, true, true, true, true, true, false, false, false, false, false, false] rfl rfl (take_ofW HT_.out HW_.out (by kernel_rfl)) (fun _ _ _ h => h) (Or.inl ⟨by rfl, ?_⟩) hHeld ?_ ?_
                  rotate_left
                  · rintro w' ⟨s0, s1, s2, s3, s4, s5⟩
                    go_simp
                    with_reducible rfl
                  rotate_left
                  · simp only [Act.put, List.setIfInBounds_toArray, List.set_cons_zero, List.set_cons_succ, i64_w, i32_w]
                    rfl
                  refine pure_ (i := 14) (N := some 57) (v := ?_) (a' := ?_) #[true, true, true, true, true, true, true, true, true, true, true, true, true, true, true, false, false, false, false, false] rfl rfl (any_of HT_.out (by kernel_rfl)) (fun _ _ _ h => h) (Or.inl ⟨by rfl, ?_⟩) ?_ ?_
                  rotate_left
                  · intro w'
                    go_simp
                    with_reducible rfl
                  rotate_left
                  · simp only [Act.put, List.setIfInBounds_toArray, List.set_cons_zero, List.set_cons_succ, i64_w, i32_w]
                    rfl
                  refine pure_ (i := 15) (N := some 58) (v := ?_) (a' := ?_) #[true, true, true, true, true, true, true, true, true, true, true, true, true, true, true, true, false, false, false, false] rfl rfl (any_of HT_.out (by kernel_rfl)) (fun _ _ _ h => h) (Or.inl ⟨by rfl, ?_⟩) ?_ ?_
                  rotate_left
                  · intro w'
                    go_simp
                    with_reducible rfl
                  rotate_left
                  · simp only [Act.put, List.setIfInBounds_toArray, List.set_cons_zero, List.set_cons_succ, i64_w, i32_w]
                    rfl
                  refine pure_ (i := 16) (N := some 59) (v := ?_) (a' := ?_) #[true, true, true, true, true, true, true, true, true, true, true, true, true, true, true, true, true, false, false, false] rfl rfl (any_of HT_.out (by kernel_rfl)) (fun _ _ _ h => h) (Or.inl ⟨by rfl, ?_⟩) ?_ ?_
                  rotate_left
                  · intro w'
                    go_simp
                    with_reducible rfl
                  rotate_left
                  · simp only [Act.put, List.setIfInBounds_toArray, List.set_cons_zero, List.set_cons_succ, i64_w, i32_w]
                    rfl
                  refine pure_ (i := 17) (N := some 60) (v := ?_) (a' := ?_) #[true, true, true, true, true, true, true, true, true, true, true, true, true, true, true, true, true, true, false, false] rfl rfl (any_of HT_.out (by kernel_rfl)) (fun _ _ _ h => h) (Or.inl ⟨by rfl, ?_⟩) ?_ ?_
                  rotate_left
                  · intro w'
                    go_simp
                    with_reducible rfl
                  rotate_left
                  · simp only [Act.put, List.setIfInBounds_toArray, List.set_cons_zero, List.set_cons_succ, i64_w, i32_w]
                    rfl
                  refine pure_ (i := 18) (N := some 61) (v := ?_) (a' := ?_) #[true, true, true, true, true, true, true, true, true, true, true, true, true, true, true, true, true, true, true, false] rfl rfl (any_of HT_.out (by kernel_rfl)) (fun _ _ _ h => h) (Or.inl ⟨by rfl, ?_⟩) ?_ ?_
                  rotate_left
                  · intro w'
                    go_simp
                    with_reducible rfl
                  rotate_left
                  · simp only [Act.put, List.setIfInBounds_toArray, List.set_cons_zero, List.set_cons_succ, i64_w, i32_w]
                    rfl
                  refine pure_ (i := 19) (N := some 13) (v := ?_) (a' := ?_) #[true, true, true, true, true, true, true, true, true, true, true, true, true, true, true, true, true, true, true, true] rfl rfl (any_of HT_.out (by kernel_rfl)) (fun _ _ _ h => h) (Or.inl ⟨by rfl, ?_⟩) ?_ ?_
                  rotate_left
                  · intro w'
                    go_simp
                    with_reducible rfl
                  rotate_left
                  · simp only [Act.put, List.setIfInBounds_toArray, List.set_cons_zero, List.set_cons_succ, i64_w, i32_w]
                    rfl
                  refine done_ (done_of HT_.out (by kernel_rfl)) ?_
                  try go_wp2_with (first | ((with_reducible refine gate_dst (N := 62) rfl ?_); (try (refine gate_guard (by rfl) ?_; dsimp only)); refine Kd.R_lit (Kd.int .u8) _ 5 ?hg (N := 62) ?hd (xs := ([] : List Int)) (inner := []) (ok := fun _ => True) (okp := fun _ => True) ?hr ?hp (fun _ hk => hk) trivial (Below.refl _ _) (Nat.le_refl _) (by simp) ?_; (case hd => rfl); (case hg => rfl); (case hr => first | (go_simp; done) | (go_simp; rfl)); (case hp => exact (Reps.none _ _)); intro v259 w25 ho26 hb hg_ hnew_; clear hg_ hnew_; (first | rw [← Ny258.out] at ho26 | (simp only [Int.reduceToNat] at ho26; rw [← Ny258.out] at ho26)); have n0_ := Aside0.mk (Kd.R_elder' (by (with_reducible repeat (first | apply Kd.R_alloc | apply Kd.R_drewN | apply Kd.R_drew)); exact HO252.out) (Kd.R_base ho26) hb); have n1_ := Aside0.mk (Kd.N_elder' (by (with_reducible repeat (first | apply Kd.N_alloc | apply Kd.N_drewN | apply Kd.N_drew)); exact HO255.out) (Kd.R_base ho26) hb); have n2_ := Aside0.mk (Kd.V_elder' (by (with_reducible repeat (first | apply Kd.V_alloc | apply Kd.V_drewN | apply Kd.V_drew)); exact HL256_2.out) (Kd.R_base ho26) hb); have n3_ := Aside0.mk (Kd.V_elder' (by (with_reducible repeat (first | apply Kd.V_alloc | apply Kd.V_drewN | apply Kd.V_drew)); exact HL257_2.out) (Kd.R_base ho26) hb); have n4_ := Aside0.mk (Kd.R_lower (Kd.R_new' ho26 (Kd.R_lt (by (with_reducible repeat (first | apply Kd.R_alloc | apply Kd.R_drewN | apply Kd.R_drew)); exact HO252.out))) (below_size (by repeat (first | (with_reducible first | exact HB.out | apply below_alloc | apply pw_below_drewN | apply below_drew1) | exact HB.out)))); have n5_ := Aside0.mk (Kd.C_below (by repeat (first | (with_reducible exact HR256_2.out) | (with_reducible refine Kd.C_alloc ?_ _) | (with_reducible refine Kd.C_drewN ?_ _) | (with_reducible refine Kd.C_drew ?_) | exact HR256_2.out)) hb); have n6_ := Aside0.mk (Kd.C_below (by repeat (first | (with_reducible exact HR257_2.out) | (with_reducible refine Kd.C_alloc ?_ _) | (with_reducible refine Kd.C_drewN ?_ _) | (with_reducible refine Kd.C_drew ?_) | exact HR257_2.out)) hb); have n7_ := Aside0.mk (below_step (by repeat (first | (with_reducible first | exact HB.out | apply below_alloc | apply pw_below_drewN | apply below_drew1) | exact HB.out)) hb); clear HO252; clear HO255; clear HL256_2; clear HL257_2; clear HR256_2; clear HR257_2; clear HB; have HO252 := n0_; have HO255 := n1_; have HL256_2 := n2_; have HL257_2 := n3_; have HO260 := n4_; have HR256_2 := n5_; have HR257_2 := n6_; have HB := n7_; clear n0_ n1_ n2_ n3_ n4_ n5_ n6_ n7_; clear hb ho26; obtain ⟨Ao28, co28, eo28⟩ := Kd.R_slice HO252.out; subst eo28) | ((with_reducible refine gate_builtin (b := .append) (xs := #[.tmp 62, .tmp 63]) rfl ?_); (try (refine gate_guard (by rfl) ?_; dsimp only)); at_builtin; refine Kd.R_append_rows (Kd.int .u8) (w0 := w) w.heap.size rfl (.tmp 62) (.tmp 63) 22 5 (.int .u8 0) 1 rfl Try.underlying22 info5 rfl (by decide) (by omega) v259 y258 t250 _ _ _ (fun k_ => some k_ ≠ (.slice Ao28 t250.length co28 : Value).ownBlock) (fun _ => False) rfl rfl ?aO ?aR (fun _ _ h => h) (fun _ h => h.elim) ?aF ?aB ?aS ?aL ?_; (case aR => repeat (first | exact (Kd.R_reads' HO252.out).2.2 | (with_reducible refine Kd.C_alloc ?_ _) | (with_reducible refine Kd.C_drewN ?_ _) | (with_reducible refine Kd.C_drew ?_))); (case aB => exact (by repeat (first | (with_reducible first | exact HB.out | apply below_alloc | apply pw_below_drewN | apply below_drew1) | exact HB.out))); (case aF => exact (fun k_ hk => Kd.fresh' (Kd.R_lt (by (with_reducible repeat (first | apply Kd.R_alloc | apply Kd.R_drewN | apply Kd.R_drew)); exact HO252.out)) k_ hk)); (case aO => exact (by (with_reducible repeat (first | apply Kd.R_alloc | apply Kd.R_drewN | apply Kd.R_drew)); exact Kd.R_mono HO260.out (fun _ hk => hk.2))); (case aS => exact (below_size (by repeat (first | (with_reducible first | exact HB.out | apply below_alloc | apply pw_below_drewN | apply below_drew1) | exact HB.out)))); (case aL => have := LMc21.out; omega); intro v262 w27 ho hb hg hat; rw [← Ny261.out] at ho; have n0_ := Aside0.mk (Kd.R_after (ok := (fun _ => True)) (by (with_reducible repeat (first | apply Kd.R_alloc | apply Kd.R_drewN | apply Kd.R_drew)); exact HO252.out) hg hat); have n1_ := Aside0.mk (Kd.N_afterv (ok := (fun k_ => some k_ ≠ (.slice Ao28 t250.length co28 : Value).ownBlock)) (by (with_reducible repeat (first | apply Kd.N_alloc | apply Kd.N_drewN | apply Kd.N_drew)); exact HO255.out) hg hat); have n2_ := Aside0.mk (Kd.V_afterv (ok := (fun k_ => some k_ ≠ (.slice Ao28 t250.length co28 : Value).ownBlock ∧ some k_ ≠ (.slice (some ad256) t253.length co23 : Value).ownBlock)) (by (with_reducible repeat (first | apply Kd.V_alloc | apply Kd.V_drewN | apply Kd.V_drew)); exact HL256_2.out) hg hat); have n3_ := Aside0.mk (Kd.V_afterv (ok := (fun k_ => some k_ ≠ (.slice Ao28 t250.length co28 : Value).ownBlock ∧ some k_ ≠ (.slice (some ad256) t253.length co23 : Value).ownBlock)) (by (with_reducible repeat (first | apply Kd.V_alloc | apply Kd.V_drewN | apply Kd.V_drew)); exact HL257_2.out) hg hat); have n4_ := Aside0.mk (hb); have n5_ := Aside0.mk (ho); clear HO252; clear HO255; clear HL256_2; clear HL257_2; clear HB; clear HO260; have HO252 := n0_; have HO255 := n1_; have HL256_2 := n2_; have HL257_2 := n3_; have HB := n4_; have HO263 := n5_; clear n0_ n1_ n2_ n3_ n4_ n5_; clear ho hb hg hat))
                  go_loopg [15] kj5 (fun kq v15 w' => ∃ (x14_2 : List Int) (x15_2 : Int), v15 = .int .i64 x15_2 ∧ Aside0 (souterrainlaw03_ScanSpoilt.l0 kq a3 t248 t250 t253 ji17 (wrap64 ((wrap64 (8 * (wrap64 (((rd_T41 t253 (ji17)).f0) + 4)))) + (Int.tmod (wrap64 (a2)) (wrap64 ((wrap64 (8 * (wrap64 (((rd_T41 t253 (ji17)).f1) - 4)))) - 31))))) x14_2 x15_2 = some r) ∧ Aside0 (kq ≤ kj5) ∧ Aside0 (Kd.R (Kd.int .u8) 5 w' w.heap.size (fun k_ => some k_ ≠ (v262 : Value).ownBlock) (.slice Ao28 t250.length co28) t250) ∧ Aside0 (Kd.N k41 41 w' w.heap.size (fun k_ => some k_ ≠ ((.slice Ao28 t250.length co28) : Value).ownBlock ∧ some k_ ≠ (v262 : Value).ownBlock) (.slice (some ad256) t253.length co23) t253) ∧ Aside0 (Kd.R (Kd.int .u8) 5 w' w.heap.size (fun k_ => some k_ ≠ ((.slice Ao28 t250.length co28) : Value).ownBlock) v262 x14_2) ∧ Aside0 (Below w.heap.size w w'))
                  case atStart => exact ⟨(y261), (0), (by first | rfl | (simp; done) | (simp [*]; done)), H', ⟨Nat.le_refl _⟩, ⟨by (with_reducible repeat (first | apply Kd.R_alloc | apply Kd.R_drewN | apply Kd.R_drew)); exact Kd.R_mono HO252.out (fun _ hk => hk.2)⟩, ⟨by (with_reducible repeat (first | apply Kd.N_alloc | apply Kd.N_drewN | apply Kd.N_drew)); exact HO255.out⟩, ⟨by (with_reducible repeat (first | apply Kd.R_alloc | apply Kd.R_drewN | apply Kd.R_drew)); exact HO263.out⟩, ⟨by repeat (first | (with_reducible first | exact HB.out | apply below_alloc | apply pw_below_drewN | apply below_drew1) | exact HB.out)⟩⟩
                  case round =>
                    clear H'
                    try clear c1
                    try clear c2
                    try clear p2
                    try clear q2
                    try clear hx2
                    try clear p6
                    try clear c9
                    try clear c11
                    try clear c12
                    try clear c14
                    try clear c14b0
                    try clear c14b1
                    try clear c14b2
                    try clear c18
                    try clear c18b0
                    try clear c19
                    try clear c19b0
                    try clear c20
                    try clear c20b0
                    try clear c20b1
                    try clear c21
                    try clear c22
                    try clear c25
                    try clear p25
                    try clear q25
                    try clear hx25
                    try clear c28
                    try clear hx256_0
                    try clear hx256_1
                    try clear hx256_2
                    try clear hx257_0
                    try clear hx257_1
                    try clear hx257_2
                    try clear p2
                    try clear p256
                    try clear p257
                    try clear q256
                    try clear q257
                    obtain ⟨x14_2, x15_2, rfl, HA, HK2, HO_10, HO_11, HO_14, HB⟩ := hrel
                    cases gk with
                    | zero => exact absurd HA.out (by simp [souterrainlaw03_ScanSpoilt.l0])
                    | succ k2 =>
                      have H := HA.out
                      clear HA
                      simp only [souterrainlaw03_ScanSpoilt.l0] at H
                      by_cases c29 : x15_2 < 32
                      · rw [if_pos c29] at H
                        have c29b0 : decide (x15_2 < 32) = true := decide_eq_true c29
                        clear c29
                        by_cases c30 : 0 ≤ x15_2
                        · rw [if_pos c30] at H
                          have c30b0 := eq_true c30
                          have c30b1 : decide (0 ≤ x15_2) = true := decide_eq_true c30
                          clear c30
                          obtain ⟨ji31, hji31⟩ : ∃ j_ : Int, (shr .u32 a3 x15_2) = j_ := ⟨_, rfl⟩
                          replace H : (if (Int.tmod (ji31) 2) = 1 then (if 0 ≤ (wrap64 (Int.tdiv (wrap64 ((wrap64 ((wrap64 (8 * (wrap64 (((rd_T41 t253 (ji17)).f0) + 4)))) + (Int.tmod (wrap64 (a2)) (wrap64 ((wrap64 (8 * (wrap64 (((rd_T41 t253 (ji17)).f1) - 4)))) - 31))))) + x15_2)) 8)) then (if (wrap64 (Int.tdiv (wrap64 ((wrap64 ((wrap64 (8 * (wrap64 (((rd_T41 t253 (ji17)).f0) + 4)))) + (Int.tmod (wrap64 (a2)) (wrap64 ((wrap64 (8 * (wrap64 (((rd_T41 t253 (ji17)).f1) - 4)))) - 31))))) + x15_2)) 8)) < (x14_2.length : Int) then (if 0 ≤ (Int.tmod (wrap64 ((wrap64 ((wrap64 (8 * (wrap64 (((rd_T41 t253 (ji17)).f0) + 4)))) + (Int.tmod (wrap64 (a2)) (wrap64 ((wrap64 (8 * (wrap64 (((rd_T41 t253 (ji17)).f1) - 4)))) - 31))))) + x15_2)) 8) then (souterrainlaw03_ScanSpoilt.l0 k2 a3 t248 t250 t253 ji17 (wrap64 ((wrap64 (8 * (wrap64 (((rd_T41 t253 (ji17)).f0) + 4)))) + (Int.tmod (wrap64 (a2)) (wrap64 ((wrap64 (8 * (wrap64 (((rd_T41 t253 (ji17)).f1) - 4)))) - 31))))) (x14_2.set ((wrap64 (Int.tdiv (wrap64 ((wrap64 ((wrap64 (8 * (wrap64 (((rd_T41 t253 (ji17)).f0) + 4)))) + (Int.tmod (wrap64 (a2)) (wrap64 ((wrap64 (8 * (wrap64 (((rd_T41 t253 (ji17)).f1) - 4)))) - 31))))) + x15_2)) 8)) : Int).toNat (Go.bits .xor .u8 (rd x14_2 (wrap64 (Int.tdiv (wrap64 ((wrap64 ((wrap64 (8 * (wrap64 (((rd_T41 t253 (ji17)).f0) + 4)))) + (Int.tmod (wrap64 (a2)) (wrap64 ((wrap64 (8 * (wrap64 (((rd_T41 t253 (ji17)).f1) - 4)))) - 31))))) + x15_2)) 8))) (shl .u8 1 (Int.tmod (wrap64 ((wrap64 ((wrap64 (8 * (wrap64 (((rd_T41 t253 (ji17)).f0) + 4)))) + (Int.tmod (wrap64 (a2)) (wrap64 ((wrap64 (8 * (wrap64 (((rd_T41 t253 (ji17)).f1) - 4)))) - 31))))) + x15_2)) 8)))) (wrap64 (x15_2 + 1))) else (none)) else (none)) else (none)) else (souterrainlaw03_ScanSpoilt.l0 k2 a3 t248 t250 t253 ji17 (wrap64 ((wrap64 (8 * (wrap64 (((rd_T41 t253 (ji17)).f0) + 4)))) + (Int.tmod (wrap64 (a2)) (wrap64 ((wrap64 (8 * (wrap64 (((rd_T41 t253 (ji17)).f1) - 4)))) - 31))))) x14_2 (wrap64 (x15_2 + 1)))) = some r := by first | (rw [hji31] at H; exact H) | (simp only [hji31] at H ⊢; exact H)
                          have hji31_ : (a3 / 2 ^ min x15_2.toNat 32) = ji31 := hji31
                          have hji31z : x15_2 ≤ 32 → (a3 / 2 ^ x15_2.toNat) = ji31 := shr_small hji31
                          by_cases c32 : (Int.tmod (ji31) 2) = 1
                          · rw [if_pos c32] at H
                            have c32b0 : ((Int.tmod (ji31) 2) == 1) = true := beq_iff_eq.mpr c32
                            have c32b1 : ((Int.tmod (ji31) 2) != 1) = false := bne_eq_false_iff_eq.mpr c32
                            clear c32
                            obtain ⟨ji33, hji33⟩ : ∃ j_ : Int, (wrap64 (Int.tdiv (wrap64 ((wrap64 ((wrap64 (8 * (wrap64 (((rd_T41 t253 (ji17)).f0) + 4)))) + (Int.tmod (wrap64 (a2)) (wrap64 ((wrap64 (8 * (wrap64 (((rd_T41 t253 (ji17)).f1) - 4)))) - 31))))) + x15_2)) 8)) = j_ := ⟨_, rfl⟩
                            replace H : (if 0 ≤ (ji33) then (if (ji33) < (x14_2.length : Int) then (if 0 ≤ (Int.tmod (wrap64 ((wrap64 ((wrap64 (8 * (wrap64 (((rd_T41 t253 (ji17)).f0) + 4)))) + (Int.tmod (wrap64 (a2)) (wrap64 ((wrap64 (8 * (wrap64 (((rd_T41 t253 (ji17)).f1) - 4)))) - 31))))) + x15_2)) 8) then (souterrainlaw03_ScanSpoilt.l0 k2 a3 t248 t250 t253 ji17 (wrap64 ((wrap64 (8 * (wrap64 (((rd_T41 t253 (ji17)).f0) + 4)))) + (Int.tmod (wrap64 (a2)) (wrap64 ((wrap64 (8 * (wrap64 (((rd_T41 t253 (ji17)).f1) - 4)))) - 31))))) (x14_2.set ((ji33) : Int).toNat (Go.bits .xor .u8 (rd x14_2 (ji33)) (shl .u8 1 (Int.tmod (wrap64 ((wrap64 ((wrap64 (8 * (wrap64 (((rd_T41 t253 (ji17)).f0) + 4)))) + (Int.tmod (wrap64 (a2)) (wrap64 ((wrap64 (8 * (wrap64 (((rd_T41 t253 (ji17)).f1) - 4)))) - 31))))) + x15_2)) 8)))) (wrap64 (x15_2 + 1))) else (none)) else (none)) else (none)) = some r := by first | (rw [hji33] at H; exact H) | (simp only [hji33] at H ⊢; exact H)
                            have hji33w : (IntKind.i64.wrap (Int.tdiv (wrap64 ((wrap64 ((wrap64 (8 * (wrap64 (((rd_T41 t253 (ji17)).f0) + 4)))) + (Int.tmod (wrap64 (a2)) (wrap64 ((wrap64 (8 * (wrap64 (((rd_T41 t253 (ji17)).f1) - 4)))) - 31))))) + x15_2)) 8)) = ji33 := (i64_w _).trans hji33
                            by_cases c34 : 0 ≤ (ji33)
                            · rw [if_pos c34] at H
                              have c34b0 : decide (0 ≤ (ji33)) = true := decide_eq_true c34
                              clear c34
                              by_cases c35 : (ji33) < (x14_2.length : Int)
                              · rw [if_pos c35] at H
                                have c35b0 : decide ((ji33) < (x14_2.length : Int)) = true := decide_eq_true c35
                                clear c35
                                obtain ⟨ji36, hji36⟩ : ∃ j_ : Int, (Int.tmod (wrap64 ((wrap64 ((wrap64 (8 * (wrap64 (((rd_T41 t253 (ji17)).f0) + 4)))) + (Int.tmod (wrap64 (a2)) (wrap64 ((wrap64 (8 * (wrap64 (((rd_T41 t253 (ji17)).f1) - 4)))) - 31))))) + x15_2)) 8) = j_ := ⟨_, rfl⟩
                                replace H : (if 0 ≤ (ji36) then (souterrainlaw03_ScanSpoilt.l0 k2 a3 t248 t250 t253 ji17 (wrap64 ((wrap64 (8 * (wrap64 (((rd_T41 t253 (ji17)).f0) + 4)))) + (Int.tmod (wrap64 (a2)) (wrap64 ((wrap64 (8 * (wrap64 (((rd_T41 t253 (ji17)).f1) - 4)))) - 31))))) (x14_2.set ((ji33) : Int).toNat (Go.bits .xor .u8 (rd x14_2 (ji33)) (shl .u8 1 (ji36)))) (wrap64 (x15_2 + 1))) else (none)) = some r := by first | (rw [hji36] at H; exact H) | (simp only [hji36] at H ⊢; exact H)
                                by_cases c37 : 0 ≤ (ji36)
                                · rw [if_pos c37] at H
                                  have c37b0 := eq_true c37
                                  have c37b1 : decide (0 ≤ (ji36)) = true := decide_eq_true c37
                                  clear c37
                                  obtain ⟨ji38, hji38⟩ : ∃ j_ : Int, (shl .u8 1 (ji36)) = j_ := ⟨_, rfl⟩
                                  replace H : (souterrainlaw03_ScanSpoilt.l0 k2 a3 t248 t250 t253 ji17 (wrap64 ((wrap64 (8 * (wrap64 (((rd_T41 t253 (ji17)).f0) + 4)))) + (Int.tmod (wrap64 (a2)) (wrap64 ((wrap64 (8 * (wrap64 (((rd_T41 t253 (ji17)).f1) - 4)))) - 31))))) (x14_2.set ((ji33) : Int).toNat (Go.bits .xor .u8 (rd x14_2 (ji33)) (ji38))) (wrap64 (x15_2 + 1))) = some r := by first | (rw [hji38] at H; exact H) | (simp only [hji38] at H ⊢; exact H)
                                  have hji38_ : (IntKind.u8.wrap (1 * 2 ^ min (ji36).toNat 8)) = ji38 := hji38
                                  have hji38z : (ji36) ≤ 8 → (IntKind.u8.wrap (1 * 2 ^ (ji36).toNat)) = ji38 := shl_small hji38
                                  have hji38u : (IntKind.u8.wrap (2 ^ min (ji36).toNat 8)) = ji38 := by have h_ := hji38_; rw [Int.one_mul] at h_; exact h_
                                  have hji38v : (ji36) ≤ 8 → (IntKind.u8.wrap (2 ^ (ji36).toNat)) = ji38 := fun hle_ => by have h_ := hji38z hle_; rw [Int.one_mul] at h_; exact h_
                                  obtain ⟨y265, hy265⟩ : ∃ y_ : List Int, y_ = (x14_2.set ((ji33) : Int).toNat (Go.bits .xor .u8 (rd x14_2 (ji33)) (ji38))) := ⟨_, rfl⟩
                                  replace H : (souterrainlaw03_ScanSpoilt.l0 k2 a3 t248 t250 t253 ji17 (wrap64 ((wrap64 (8 * (wrap64 (((rd_T41 t253 (ji17)).f0) + 4)))) + (Int.tmod (wrap64 (a2)) (wrap64 ((wrap64 (8 * (wrap64 (((rd_T41 t253 (ji17)).f1) - 4)))) - 31))))) y265 (wrap64 (x15_2 + 1))) = some r := by first | (rw [hy265]; with_reducible exact H) | (have H2_ := (Option.bind_some _ _).symm.trans H; rw [hy265]; with_reducible exact H2_) | (have H2_ := (Option.bind_some _ _).symm.trans H; with_reducible exact H2_) | with_reducible exact H | (rw [hy265]; exact H) | exact H
                                  have Ny265 := Aside0.mk hy265
                                  clear hy265
                                  have H' := Aside0.mk H
                                  clear H
                                  try go_wp2
                                  have n0_ := Aside0.mk (Kd.R_drew HO_10.out)
                                  have n1_ := Aside0.mk (Kd.N_drew HO_11.out)
                                  have n2_ := Aside0.mk (Kd.R_drew HO_14.out)
                                  have n3_ := Aside0.mk (below_drew1 HB.out)
                                  clear HO_10
                                  clear HO_11
                                  clear HO_14
                                  clear HB
                                  have HO_10 := n0_
                                  have HO_11 := n1_
                                  have HO_14 := n2_
                                  have HB := n3_
                                  clear n0_ n1_ n2_ n3_
                                  obtain ⟨Ao41, co41, eo41⟩ := Kd.R_slice HO_14.out
                                  (first | subst eo41 | (injection eo41 with f1_ f2_ f3_; have f4_ := f1_.symm; have f5_ := f3_.symm; clear f1_ f2_ f3_; subst f4_; subst f5_))
                                  have p264 : 0 ≤ ((ji33) : Int) := of_decide_eq_true (by first | (with_reducible assumption) | assumption)
                                  have q264 : (ji33) < (x14_2.length : Int) := of_decide_eq_true (by first | (with_reducible assumption) | assumption)
                                  obtain ⟨ad264, e264, hx264_0⟩ := Kd.at_int (Kd.R_reads' HO_14.out).2.2 (ji33) p264 q264
                                  cases e264
                                  replace p264 := eq_true p264
                                  replace q264 := eq_true q264
                                  have p39 : 0 ≤ ((ji33) : Int) := of_decide_eq_true (by first | (with_reducible assumption) | assumption)
                                  have q39 : ((ji33) : Int) < ((x14_2.length : Int) : Int) := of_decide_eq_true (by first | (with_reducible assumption) | assumption)
                                  obtain ⟨go39, co39, eo39, gb39, gl39, cl39, HG39⟩ := Kd.R_form HO_14.out (by omega)
                                  (first | cases eo39 | (injection eo39 with ea_ en_ ec_; (first | subst ea_ | (injection ea_ with ea_; subst ea_)); subst ec_; clear en_))
                                  have GB39 := Aside0.mk gb39
                                  have GG39 := Aside0.mk HG39
                                  clear gb39 gl39 HG39
                                  (first | simp only [add_plain] at hx264_0 | skip)
                                  obtain ⟨hx39_0, hf39_0⟩ := Kd.R_celln 0 HO_14.out ((ji33) : Int) p39 q39
                                  replace p39 := eq_true p39
                                  replace q39 := eq_true q39
                                  have HP42 := Kd.R_putn HO_14.out ((ji33) : Int) (Go.bits .xor .u8 (rd x14_2 (ji33)) (ji38))
                                  rw [← Ny265.out] at HP42
                                  have HQ42 := Aside0.mk HP42
                                  clear HP42
                                  refine start_ (n := 20) (S := fun w' => w'.cell? ⟨go39, ((ji33)).toNat, none⟩ = some (.int .u8 (rd x14_2 (ji33)))) (ds := [19]) #[false, false, false, false, false, false, false, false, false, false, false, false, false, false, false, false, false, false, false, false] (by kernel_rfl) rfl rfl (hx264_0) (fun hHeld => ?_); refine with_tabW souterrainlaw03_ScanSpoilt.tab14 souterrainlaw03_ScanSpoilt.bits14 (fun HT_ HW_ => ?_)
                                  generalize wr.drew = w40 at HO_10 HO_11 HO_14 HB GG39 HQ42 hf39_0 hx264_0 hx39_0 hHeld ⊢
                                  refine pure_ (i := 0) (N := some 74) (v := ?_) (a' := ?_) #[true, false, false, false, false, false, false, false, false, false, false, false, false, false, false, false, false, false, false, false] rfl rfl (any_of HT_.out (by kernel_rfl)) (fun _ _ _ h => h) (Or.inl ⟨by rfl, ?_⟩) ?_ ?_
                                  rotate_left
                                  · intro w'
                                    go_simp
                                    with_reducible rfl
                                  rotate_left
                                  · simp only [Act.put, List.setIfInBounds_toArray, List.set_cons_zero, List.set_cons_succ, i64_w, i32_w]
                                    rfl
                                  refine pure_ (i := 1) (N := some 75) (v := ?_) (a' := ?_) #[true, true, false, false, false, false, false, false, false, false, false, false, false, false, false, false, false, false, false, false] rfl rfl (any_of HT_.out (by kernel_rfl)) (fun _ _ _ h => h) (Or.inl ⟨by rfl, ?_⟩) ?_ ?_
                                  rotate_left
                                  · intro w'
                                    go_simp
                                    with_reducible rfl
                                  rotate_left
                                  · simp only [Act.put, List.setIfInBounds_toArray, List.set_cons_zero, List.set_cons_succ, i64_w, i32_w]
                                    rfl
                                  refine pure_ (i := 2) (N := some 76) (v := ?_) (a' := ?_) #[true, true, true, false, false, false, false, false, false, false, false, false, false, false, false, false, false, false, false, false] rfl rfl (any_of HT_.out (by kernel_rfl)) (fun _ _ _ h => h) (Or.inl ⟨by rfl, ?_⟩) ?_ ?_
                                  rotate_left
                                  · intro w'
                                    go_simp
                                    with_reducible rfl
                                  rotate_left
                                  · simp only [Act.put, List.setIfInBounds_toArray, List.set_cons_zero, List.set_cons_succ, i64_w, i32_w]
                                    rfl
                                  refine pure_ (i := 3) (N := some 77) (v := ?_) (a' := ?_) #[true, true, true, true, false, false, false, false, false, false, false, false, false, false, false, false, false, false, false, false] rfl rfl (any_of HT_.out (by kernel_rfl)) (fun _ _ _ h => h) (Or.inl ⟨by rfl, ?_⟩) ?_ ?_
                                  rotate_left
                                  · intro w'
                                    go_simp
                                    with_reducible rfl
                                  rotate_left
                                  · simp only [Act.put, List.setIfInBounds_toArray, List.set_cons_zero, List.set_cons_succ, i64_w, i32_w]
                                    rfl
                                  refine pure_ (i := 4) (N := some 78) (v := ?_) (a' := ?_) #[true, true, true, true, true, false, false, false, false, false, false, false, false, false, false, false, false, false, false, false] rfl rfl (any_of HT_.out (by kernel_rfl)) (fun _ _ _ h => h) (Or.inl ⟨by rfl, ?_⟩) ?_ ?_
                                  rotate_left
                                  · intro w'
                                    go_simp
                                    with_reducible rfl
                                  rotate_left
                                  · simp only [Act.put, List.setIfInBounds_toArray, List.set_cons_zero, List.set_cons_succ, i64_w, i32_w]
                                    rfl
                                  refine pure_ (i := 5) (N := some 79) (v := ?_) (a' := ?_) #[true, true, true, true, true, true, false, false, false, false, false, false, false, false, false, false, false, false, false, false] rfl rfl (any_of HT_.out (by kernel_rfl)) (fun _ _ _ h => h) (Or.inl ⟨by rfl, ?_⟩) ?_ ?_
                                  rotate_left
                                  · intro w'
                                    go_simp
                                    with_reducible rfl
                                  rotate_left
                                  · simp only [Act.put, List.setIfInBounds_toArray, List.set_cons_zero, List.set_cons_succ, i64_w, i32_w]
                                    rfl
                                  refine pure_ (i := 6) (N := some 80) (v := ?_) (a' := ?_) #[true, true, true, true, true, true, true, false, false, false, false, false, false, false, false, false, false, false, false, false] rfl rfl (any_of HT_.out (by kernel_rfl)) (fun _ _ _ h => h) (Or.inl ⟨by rfl, ?_⟩) ?_ ?_
                                  rotate_left
                                  · intro w'
                                    go_simp
                                    with_reducible rfl
                                  rotate_left
                                  · simp only [Act.put, List.setIfInBounds_toArray, List.set_cons_zero, List.set_cons_succ, i64_w, i32_w]
                                    rfl
                                  refine pure_ (i := 7) (N := some 81) (v := ?_) (a' := ?_) #[true, true, true, true, true, true, true, true, false, false, false, false, false, false, false, false, false, false, false, false] rfl rfl (any_of HT_.out (by kernel_rfl)) (fun _ _ _ h => h) (Or.inl ⟨by rfl, ?_⟩) ?_ ?_
                                  rotate_left
                                  · intro w'
                                    go_simp
                                    with_reducible rfl
                                  rotate_left
                                  · simp only [Act.put, List.setIfInBounds_toArray, List.set_cons_zero, List.set_cons_succ, i64_w, i32_w]
                                    rfl
                                  refine pure_ (i := 8) (N := some 82) (v := ?_) (a' := ?_) #[true, true, true, true, true, true, true, true, true, false, false, false, false, false, false, false, false, false, false, false] rfl rfl (any_of HT_.out (by kernel_rfl)) (fun _ _ _ h => h) (Or.inl ⟨by rfl, ?_⟩) ?_ ?_
                                  rotate_left
                                  · intro w'
                                    go_simp
                                    with_reducible rfl
                                  rotate_left
                                  · simp only [Act.put, List.setIfInBounds_toArray, List.set_cons_zero, List.set_cons_succ, i64_w, i32_w]
                                    rfl
                                  refine pure_ (i := 9) (N := some 83) (v := ?_) (a' := ?_) #[true, true, true, true, true, true, true, true, true, true, false, false, false, false, false, false, false, false, false, false] rfl rfl (any_of HT_.out (by kernel_rfl)) (fun _ _ _ h => h) (Or.inl ⟨by rfl, ?_⟩) ?_ ?_
                                  rotate_left
                                  · intro w'
                                    go_simp
                                    with_reducible rfl
                                  rotate_left
                                  · simp only [Act.put, List.setIfInBounds_toArray, List.set_cons_zero, List.set_cons_succ, i64_w, i32_w]
                                    rfl
                                  refine pure_ (i := 10) (N := some 84) (v := ?_) (a' := ?_) #[true, true, true, true, true, true, true, true, true, true, true, false, false, false, false, false, false, false, false, false] rfl rfl (any_of HT_.out (by kernel_rfl)) (fun _ _ _ h => h) (Or.inl ⟨by rfl, ?_⟩) ?_ ?_
                                  rotate_left
                                  · intro w'
                                    go_simp
                                    with_reducible rfl
                                  rotate_left
                                  · simp only [Act.put, List.setIfInBounds_toArray, List.set_cons_zero, List.set_cons_succ, i64_w, i32_w]
                                    rfl
                                  refine pure_ (i := 12) (N := some 86) (v := ?_) (a' := ?_) #[true, true, true, true, true, true, true, true, true, true, true, false, true, false, false, false, false, false, false, false] rfl rfl (any_of HT_.out (by kernel_rfl)) (fun _ _ _ h => h) (Or.inl ⟨by rfl, ?_⟩) ?_ ?_
                                  rotate_left
                                  · intro w'
                                    go_simp
                                    with_reducible rfl
                                  rotate_left
                                  · simp only [Act.put, List.setIfInBounds_toArray, List.set_cons_zero, List.set_cons_succ, i64_w, i32_w]
                                    rfl
                                  refine pure_ (i := 13) (N := some 87) (v := ?_) (a' := ?_) #[true, true, true, true, true, true, true, true, true, true, true, false, true, true, false, false, false, false, false, false] rfl rfl (any_of HT_.out (by kernel_rfl)) (fun _ _ _ h => h) (Or.inl ⟨by rfl, ?_⟩) ?_ ?_
                                  rotate_left
                                  · intro w'
                                    go_simp
                                    with_reducible rfl
                                  rotate_left
                                  · simp only [Act.put, List.setIfInBounds_toArray, List.set_cons_zero, List.set_cons_succ, i64_w, i32_w]
                                    rfl
                                  refine pure_ (i := 14) (N := some 88) (v := ?_) (a' := ?_) #[true, true, true, true, true, true, true, true, true, true, true, false, true, true, true, false, false, false, false, false] rfl rfl (any_of HT_.out (by kernel_rfl)) (fun _ _ _ h => h) (Or.inl ⟨by rfl, ?_⟩) ?_ ?_
                                  rotate_left
                                  · intro w'
                                    go_simp
                                    with_reducible rfl
                                  rotate_left
                                  · simp only [Act.put, List.setIfInBounds_toArray, List.set_cons_zero, List.set_cons_succ, i64_w, i32_w]
                                    rfl
                                  refine pure_ (i := 15) (N := some 89) (v := ?_) (a' := ?_) #[true, true, true, true, true, true, true, true, true, true, true, false, true, true, true, true, false, false, false, false] rfl rfl (any_of HT_.out (by kernel_rfl)) (fun _ _ _ h => h) (Or.inl ⟨by rfl, ?_⟩) ?_ ?_
                                  rotate_left
                                  · intro w'
                                    go_simp
                                    with_reducible rfl
                                  rotate_left
                                  · simp only [Act.put, List.setIfInBounds_toArray, List.set_cons_zero, List.set_cons_succ, i64_w, i32_w]
                                    rfl
                                  refine pure_ (i := 16) (N := some 90) (v := ?_) (a' := ?_) #[true, true, true, true, true, true, true, true, true, true, true, false, true, true, true, true, true, false, false, false] rfl rfl (any_of HT_.out (by kernel_rfl)) (fun _ _ _ h => h) (Or.inl ⟨by rfl, ?_⟩) ?_ ?_
                                  rotate_left
                                  · intro w'
                                    go_simp
                                    with_reducible rfl
                                  rotate_left
                                  · simp only [Act.put, List.setIfInBounds_toArray, List.set_cons_zero, List.set_cons_succ, i64_w, i32_w]
                                    rfl
                                  refine take_ (i := 11) (N := some 85) (v := ?_) (a' := ?_) #[true, true, true, true, true, true, true, true, true, true, true, true, true, true, true, true, true, false, false, false] rfl rfl (take_ofW HT_.out HW_.out (by kernel_rfl)) (fun _ _ _ h => h) (Or.inl ⟨by rfl, ?_⟩) hHeld ?_ ?_
                                  rotate_left
                                  · intro w' s0
                                    go_simp
                                    with_reducible rfl
                                  rotate_left
                                  · simp only [Act.put, List.setIfInBounds_toArray, List.set_cons_zero, List.set_cons_succ, i64_w, i32_w]
                                    rfl
                                  refine pure_ (i := 17) (N := some 91) (v := ?_) (a' := ?_) #[true, true, true, true, true, true, true, true, true, true, true, true, true, true, true, true, true, true, false, false] rfl rfl (any_of HT_.out (by kernel_rfl)) (fun _ _ _ h => h) (Or.inl ⟨by rfl, ?_⟩) ?_ ?_
                                  rotate_left
                                  · intro w'
                                    go_simp
                                    with_reducible rfl
                                  rotate_left
                                  · simp only [Act.put, List.setIfInBounds_toArray, List.set_cons_zero, List.set_cons_succ, i64_w, i32_w]
                                    rfl
                                  refine pure_ (i := 18) (N := some 92) (v := ?_) (a' := ?_) #[true, true, true, true, true, true, true, true, true, true, true, true, true, true, true, true, true, true, true, false] rfl rfl (any_of HT_.out (by kernel_rfl)) (fun _ _ _ h => h) (Or.inl ⟨by rfl, ?_⟩) ?_ ?_
                                  rotate_left
                                  · intro w'
                                    go_simp
                                    with_reducible rfl
                                  rotate_left
                                  · simp only [Act.put, List.setIfInBounds_toArray, List.set_cons_zero, List.set_cons_succ, i64_w, i32_w]
                                    rfl
                                  refine last_ (i := 19) (N := none) #[true, true, true, true, true, true, true, true, true, true, true, true, true, true, true, true, true, true, true, true] rfl rfl (one_of HT_.out (by kernel_rfl)) (by decide) (fun K hK => ?_)
                                  refine skip_ (w1 := ?_) (by rfl) rfl ?_ ?_
                                  rotate_left
                                  · go_simp
                                    rfl
                                  refine hK.out _ _ ?_
                                  clear hK K
                                  refine done_ (done_of HT_.out (by kernel_rfl)) ?_
                                  try go_wp2
                                  go_roundg k2
                                  case measure => have := HJ5.out; have := HK2.out; omega
                                  case rel => exact ⟨(y265), (wrap64 (x15_2 + 1)), (by first | rfl | (simp; done) | (simp [*]; done)), H', ⟨by have := HJ5.out; have := HK2.out; omega⟩, ⟨by (with_reducible repeat (first | apply Kd.R_alloc | apply Kd.R_drewN | apply Kd.R_drew)); exact Kd.R_mono (Kd.R_far (p := ⟨go39, ((ji33) : Int).toNat, none⟩) (Kd.R_mono HO_10.out (fun k_ hk => (⟨hk, fun e_ => hk (by rw [e_]; rfl)⟩ : _ ∧ k_ ≠ go39))) (fun _ hk => hk.2) (.int .u8 (Go.bits .xor .u8 (rd x14_2 (ji33)) (ji38)))) (fun _ hk => hk.1)⟩, ⟨by (with_reducible repeat (first | apply Kd.N_alloc | apply Kd.N_drewN | apply Kd.N_drew)); exact Kd.N_mono (Kd.N_far (p := ⟨go39, ((ji33) : Int).toNat, none⟩) (Kd.N_mono HO_11.out (fun k_ hk => (⟨hk, fun e_ => hk.2 (by rw [e_]; rfl)⟩ : _ ∧ k_ ≠ go39))) (fun _ hk => hk.2) (.int .u8 (Go.bits .xor .u8 (rd x14_2 (ji33)) (ji38)))) (fun _ hk => ⟨hk.1.1, hk.1.2⟩)⟩, ⟨by (with_reducible repeat (first | apply Kd.R_alloc | apply Kd.R_drewN | apply Kd.R_drew)); exact HQ42.out⟩, ⟨by repeat (first | (with_reducible first | exact HB.out | apply below_alloc | apply pw_below_drewN | apply below_drew1 | refine below_set ?_ GB39.out) | exact HB.out)⟩⟩
                                · rw [if_neg c37] at H
                                  exact absurd H (by simp)
                              · rw [if_neg c35] at H
                                exact absurd H (by simp)
                            · rw [if_neg c34] at H
                              exact absurd H (by simp)
                          · rw [if_neg c32] at H
                            have c32b0 : ((Int.tmod (ji31) 2) == 1) = false := beq_eq_false_iff_ne.mpr c32
                            have c32b1 : ((Int.tmod (ji31) 2) != 1) = true := bne_iff_ne.mpr c32
                            have H' := Aside0.mk H
                            clear H
                            go_wp2
                            go_roundg k2
                            case measure => have := HJ5.out; have := HK2.out; omega
                            case rel => exact ⟨(x14_2), (wrap64 (x15_2 + 1)), (by first | rfl | (simp; done) | (simp [*]; done)), H', ⟨by have := HJ5.out; have := HK2.out; omega⟩, ⟨by (with_reducible repeat (first | apply Kd.R_alloc | apply Kd.R_drewN | apply Kd.R_drew)); exact HO_10.out⟩, ⟨by (with_reducible repeat (first | apply Kd.N_alloc | apply Kd.N_drewN | apply Kd.N_drew)); exact HO_11.out⟩, ⟨by (with_reducible repeat (first | apply Kd.R_alloc | apply Kd.R_drewN | apply Kd.R_drew)); exact HO_14.out⟩, ⟨by repeat (first | (with_reducible first | exact HB.out | apply below_alloc | apply pw_below_drewN | apply below_drew1) | exact HB.out)⟩⟩
                        · rw [if_neg c30] at H
                          exact absurd H (by simp)
                      · rw [if_neg c29] at H
                        have c29b0 : decide (x15_2 < 32) = false := decide_eq_false c29
                        clear c29
                        obtain ⟨y266, hy266⟩ : ∃ y_ : List (S41), y_ = (([] : List (S41))) := ⟨_, rfl⟩
                        replace H : (if 0 ≤ ji17 then (if ji17 ≤ (t253.length : Int) then ((some (t253.take (ji17 : Int).toNat : List (S41))).bind fun y269 => (if y266.length + y269.length < 3518437208883 then ((some (y266 ++ y269 : List (S41))).bind fun y274 => (if 0 ≤ (wrap64 (ji17 + 1)) then (if (wrap64 (ji17 + 1)) ≤ (t253.length : Int) then ((some (t253.drop ((wrap64 (ji17 + 1)) : Int).toNat : List (S41))).bind fun y277 => (if y274.length + y277.length < 3518437208883 then ((scan_All.f x14_2).bind fun bt285 => (if t248 = true then ((souterrainref03_Same.f k2 bt285.1 (y274 ++ y277)).bind fun t291 => (if t291 = true then (if bt285.2.1 = 1 then (if bt285.2.2.1 = (t250.length : Int) then (some (bt285.2.2.2 == 0)) else (some false)) else (some false)) else (some false))) else (some false))) else (none))) else (none)) else (none))) else (none))) else (none)) else (none)) = some r := by first | (rw [hy266]; with_reducible exact H) | (have H2_ := (Option.bind_some _ _).symm.trans H; rw [hy266]; with_reducible exact H2_) | (have H2_ := (Option.bind_some _ _).symm.trans H; with_reducible exact H2_) | with_reducible exact H | (rw [hy266]; exact H) | exact H
                        have Ny266 := Aside0.mk hy266
                        clear hy266
                        by_cases c43 : 0 ≤ ji17
                        · rw [if_pos c43] at H
                          have c43b0 := eq_true c43
                          have c43b1 : decide (0 ≤ ji17) = true := decide_eq_true c43
                          clear c43
                          by_cases c44 : ji17 ≤ (t253.length : Int)
                          · rw [if_pos c44] at H
                            have c44b0 := eq_true c44
                            have c44b1 : decide (ji17 ≤ (t253.length : Int)) = true := decide_eq_true c44
                            clear c44
                            obtain ⟨y269, hy269⟩ : ∃ y_ : List (S41), y_ = (t253.take (ji17 : Int).toNat) := ⟨_, rfl⟩
                            replace H : (if y266.length + y269.length < 3518437208883 then ((some (y266 ++ y269 : List (S41))).bind fun y274 => (if 0 ≤ (wrap64 (ji17 + 1)) then (if (wrap64 (ji17 + 1)) ≤ (t253.length : Int) then ((some (t253.drop ((wrap64 (ji17 + 1)) : Int).toNat : List (S41))).bind fun y277 => (if y274.length + y277.length < 3518437208883 then ((scan_All.f x14_2).bind fun bt285 => (if t248 = true then ((souterrainref03_Same.f k2 bt285.1 (y274 ++ y277)).bind fun t291 => (if t291 = true then (if bt285.2.1 = 1 then (if bt285.2.2.1 = (t250.length : Int) then (some (bt285.2.2.2 == 0)) else (some false)) else (some false)) else (some false))) else (some false))) else (none))) else (none)) else (none))) else (none)) = some r := by first | (rw [hy269]; with_reducible exact H) | (have H2_ := (Option.bind_some _ _).symm.trans H; rw [hy269]; with_reducible exact H2_) | (have H2_ := (Option.bind_some _ _).symm.trans H; with_reducible exact H2_) | with_reducible exact H | (rw [hy269]; exact H) | exact H
                            have Ny269 := Aside0.mk hy269
                            clear hy269
                            by_cases c45 : y266.length + y269.length < 3518437208883
                            · rw [if_pos c45] at H
                              have LMc45 := Aside0.mk c45
                              clear c45
                              obtain ⟨y274, hy274⟩ : ∃ y_ : List (S41), y_ = (y266 ++ y269) := ⟨_, rfl⟩
                              replace H : (if 0 ≤ (wrap64 (ji17 + 1)) then (if (wrap64 (ji17 + 1)) ≤ (t253.length : Int) then ((some (t253.drop ((wrap64 (ji17 + 1)) : Int).toNat : List (S41))).bind fun y277 => (if y274.length + y277.length < 3518437208883 then ((scan_All.f x14_2).bind fun bt285 => (if t248 = true then ((souterrainref03_Same.f k2 bt285.1 (y274 ++ y277)).bind fun t291 => (if t291 = true then (if bt285.2.1 = 1 then (if bt285.2.2.1 = (t250.length : Int) then (some (bt285.2.2.2 == 0)) else (some false)) else (some false)) else (some false))) else (some false))) else (none))) else (none)) else (none)) = some r := by first | (rw [hy274]; with_reducible exact H) | (have H2_ := (Option.bind_some _ _).symm.trans H; rw [hy274]; with_reducible exact H2_) | (have H2_ := (Option.bind_some _ _).symm.trans H; with_reducible exact H2_) | with_reducible exact H | (rw [hy274]; exact H) | exact H
                              have Ny274 := Aside0.mk hy274
                              clear hy274
                              obtain ⟨ji46, hji46⟩ : ∃ j_ : Int, (wrap64 (ji17 + 1)) = j_ := ⟨_, rfl⟩
                              replace H : (if 0 ≤ (ji46) then (if (ji46) ≤ (t253.length : Int) then ((some (t253.drop ((ji46) : Int).toNat : List (S41))).bind fun y277 => (if y274.length + y277.length < 3518437208883 then ((scan_All.f x14_2).bind fun bt285 => (if t248 = true then ((souterrainref03_Same.f k2 bt285.1 (y274 ++ y277)).bind fun t291 => (if t291 = true then (if bt285.2.1 = 1 then (if bt285.2.2.1 = (t250.length : Int) then (some (bt285.2.2.2 == 0)) else (some false)) else (some false)) else (some false))) else (some false))) else (none))) else (none)) else (none)) = some r := by first | (rw [hji46] at H; exact H) | (simp only [hji46] at H ⊢; exact H)
                              have hji46w : (IntKind.i64.wrap (ji17 + 1)) = ji46 := (i64_w _).trans hji46
                              by_cases c47 : 0 ≤ (ji46)
                              · rw [if_pos c47] at H
                                have c47b0 := eq_true c47
                                have c47b1 : decide (0 ≤ (ji46)) = true := decide_eq_true c47
                                clear c47
                                by_cases c48 : (ji46) ≤ (t253.length : Int)
                                · rw [if_pos c48] at H
                                  have c48b0 := eq_true c48
                                  have c48b1 : decide ((ji46) ≤ (t253.length : Int)) = true := decide_eq_true c48
                                  clear c48
                                  obtain ⟨y277, hy277⟩ : ∃ y_ : List (S41), y_ = (t253.drop ((ji46) : Int).toNat) := ⟨_, rfl⟩
                                  replace H : (if y274.length + y277.length < 3518437208883 then ((scan_All.f x14_2).bind fun bt285 => (if t248 = true then ((souterrainref03_Same.f k2 bt285.1 (y274 ++ y277)).bind fun t291 => (if t291 = true then (if bt285.2.1 = 1 then (if bt285.2.2.1 = (t250.length : Int) then (some (bt285.2.2.2 == 0)) else (some false)) else (some false)) else (some false))) else (some false))) else (none)) = some r := by first | (rw [hy277]; with_reducible exact H) | (have H2_ := (Option.bind_some _ _).symm.trans H; rw [hy277]; with_reducible exact H2_) | (have H2_ := (Option.bind_some _ _).symm.trans H; with_reducible exact H2_) | with_reducible exact H | (rw [hy277]; exact H) | exact H
                                  have Ny277 := Aside0.mk hy277
                                  clear hy277
                                  by_cases c49 : y274.length + y277.length < 3518437208883
                                  · rw [if_pos c49] at H
                                    have LMc49 := Aside0.mk c49
                                    clear c49
                                    obtain ⟨y282, hy282⟩ : ∃ y_ : List (S41), y_ = (y274 ++ y277) := ⟨_, rfl⟩
                                    replace H : ((scan_All.f x14_2).bind fun bt285 => (if t248 = true then ((souterrainref03_Same.f k2 bt285.1 y282).bind fun t291 => (if t291 = true then (if bt285.2.1 = 1 then (if bt285.2.2.1 = (t250.length : Int) then (some (bt285.2.2.2 == 0)) else (some false)) else (some false)) else (some false))) else (some false))) = some r := by first | (rw [hy282]; with_reducible exact H) | (have H2_ := (Option.bind_some _ _).symm.trans H; rw [hy282]; with_reducible exact H2_) | (have H2_ := (Option.bind_some _ _).symm.trans H; with_reducible exact H2_) | with_reducible exact H | (rw [hy282]; exact H) | exact H
                                    have Ny282 := Aside0.mk hy282
                                    clear hy282
                                    replace H := Option.bind_eq_some_iff.mp H
                                    obtain ⟨⟨t285, t286, t287, t288⟩, A500, H⟩ := H
                                    replace H : (if t248 = true then ((souterrainref03_Same.f k2 t285 y282).bind fun t291 => (if t291 = true then (if t286 = 1 then (if t287 = (t250.length : Int) then (some (t288 == 0)) else (some false)) else (some false)) else (some false))) else (some false)) = some r := H
                                    have A50 := Aside0.mk A500
                                    clear A500
                                    by_cases c51 : t248 = true
                                    · subst c51
                                      have H1 : ((souterrainref03_Same.f k2 t285 y282).bind fun t291 => (if t291 = true then (if t286 = 1 then (if t287 = (t250.length : Int) then (some (t288 == 0)) else (some false)) else (some false)) else (some false))) = some r := by rw [if_pos rfl] at H; exact H
                                      clear H
                                      have H := H1
                                      clear H1
                                      replace H := Option.bind_eq_some_iff.mp H
                                      obtain ⟨t291, A520, H⟩ := H
                                      replace H : (if t291 = true then (if t286 = 1 then (if t287 = (t250.length : Int) then (some (t288 == 0)) else (some false)) else (some false)) else (some false)) = some r := H
                                      have A52 := Aside0.mk A520
                                      clear A520
                                      by_cases c53 : t291 = true
                                      · subst c53
                                        have H1 : (if t286 = 1 then (if t287 = (t250.length : Int) then (some (t288 == 0)) else (some false)) else (some false)) = some r := by rw [if_pos rfl] at H; exact H
                                        clear H
                                        have H := H1
                                        clear H1
                                        by_cases c54 : t286 = 1
                                        · rw [if_pos c54] at H
                                          have c54b0 : (t286 == 1) = true := beq_iff_eq.mpr c54
                                          have c54b1 : (t286 != 1) = false := bne_eq_false_iff_eq.mpr c54
                                          clear c54
                                          by_cases c55 : t287 = (t250.length : Int)
                                          · rw [if_pos c55] at H
                                            have c55b0 : (t287 == (t250.length : Int)) = true := beq_iff_eq.mpr c55
                                            have c55b1 : (t287 != (t250.length : Int)) = false := bne_eq_false_iff_eq.mpr c55
                                            clear c55
                                            obtain rfl := Option.some.inj H
                                            try go_wp2
                                            have n0_ := Aside0.mk (Kd.R_drew HO_10.out)
                                            have n1_ := Aside0.mk (Kd.N_drew HO_11.out)
                                            have n2_ := Aside0.mk (Kd.R_drew HO_14.out)
                                            have n3_ := Aside0.mk (below_drew1 HB.out)
                                            clear HO_10
                                            clear HO_11
                                            clear HO_14
                                            clear HB
                                            have HO_10 := n0_
                                            have HO_11 := n1_
                                            have HO_14 := n2_
                                            have HB := n3_
                                            clear n0_ n1_ n2_ n3_
                                            have q57 : (ji17 : Int) ≤ ((t253.length : Int) : Int) := of_decide_eq_true (by first | (with_reducible assumption) | assumption)
                                            obtain ⟨i057, hi057, _, hsz57, _⟩ := info_parts info41
                                            have hroom57 : t253.length ≤ co23 := (Kd.N_reads' HO_11.out).2.1
                                            have hC57 : Kd.F k41 _ _ (some ad256) t253.length t253 := (Kd.V_at (base := w.heap.size) (Kd.N_V HO_11.out)).2.2
                                            have hcut57 := cut_to (P := Try.prog) 37 41 .i64 Try.underlying37 hi057 (some ad256) t253.length co23 ji17 (of_decide_eq_true (by first | (with_reducible assumption) | assumption)) q57 hroom57
                                            have hr57 := Kd.F_take (m := (ji17 : Int).toNat) hC57 (by omega)
                                            have hy57 : y269.length = (ji17 : Int).toNat := (by rw [Ny269.out, List.length_take]; omega)
                                            rw [← Ny269.out] at hr57
                                            rw [← hy57] at hcut57
                                            have HO273 := Aside0.mk (show Kd.V k41 41 _ w.heap.size _ (.slice (some ad256) y269.length co23) y269 from Kd.V_mk (by omega) hr57)
                                            have HC273 := Aside0.mk (show y269.length ≤ co23 from by omega)
                                            clear hr57 hC57 hroom57 hi057 hsz57
                                            have KY57 := Aside0.mk hy57
                                            clear hy57
                                            replace q57 := eq_true q57
                                            have q58 : ((ji46) : Int) ≤ ((t253.length : Int) : Int) := of_decide_eq_true (by first | (with_reducible assumption) | assumption)
                                            obtain ⟨i058, hi058, _, hsz58, _⟩ := info_parts info41
                                            have hroom58 : t253.length ≤ co23 := (Kd.N_reads' HO_11.out).2.1
                                            have hC58 : Kd.F k41 _ _ (some ad256) t253.length t253 := (Kd.V_at (base := w.heap.size) (Kd.N_V HO_11.out)).2.2
                                            have q058 : (0 : Int) ≤ ((ji46) : Int) := of_decide_eq_true (by first | (with_reducible assumption) | assumption)
                                            have hcut58 := cut_from (P := Try.prog) 37 41 .i64 Try.underlying37 hi058 3 hsz58 (some ad256) t253.length co23 (ji46) q058 q58
                                            have hr58 := Kd.F_cut (m := ((ji46) : Int).toNat) (c := co23) hC58 (by omega) hroom58
                                            obtain ⟨A58, hA58⟩ : ∃ A1, A1 = (if co23 = ((ji46) : Int).toNat then (some ad256) else ((some ad256) : Option Addr).map (·.add (((ji46) : Int).toNat * 3))) := ⟨_, rfl⟩
                                            obtain ⟨c58, hc58⟩ : ∃ c1, c1 = co23 - ((ji46) : Int).toNat := ⟨_, rfl⟩
                                            have hy58 : y277.length = t253.length - ((ji46) : Int).toNat := (by rw [Ny277.out, List.length_drop] <;> omega)
                                            rw [show (t253).drop ((ji46) : Int).toNat = y277 from Ny277.out.symm] at hr58
                                            replace hr58 : Kd.F k41 _ _ A58 y277.length y277 := (by rw [hA58]; exact hr58)
                                            rw [← hy58, ← hA58, ← hc58] at hcut58
                                            have HO281 := Aside0.mk (show Kd.V k41 41 _ w.heap.size _ (.slice A58 y277.length c58) y277 from Kd.V_mk (by rw [hy58, hc58]; exact Nat.sub_le_sub_right hroom58 _) hr58)
                                            have HC281 := Aside0.mk (show y277.length ≤ c58 from by rw [hy58, hc58]; exact Nat.sub_le_sub_right hroom58 _)
                                            clear hr58 hC58 hroom58 hi058 hsz58 hc58
                                            have KY58 := Aside0.mk hy58
                                            have KA58 := Aside0.mk hA58
                                            clear hy58 hA58
                                            replace q58 := eq_true q58
                                            refine start_ (n := 11) (S := fun w' => True) (ds := []) #[false, false, false, false, false, false, false, false, false, false, false] (by kernel_rfl) rfl rfl trivial (fun hHeld => ?_); refine with_tabW souterrainlaw03_ScanSpoilt.tab15 souterrainlaw03_ScanSpoilt.bits15 (fun HT_ HW_ => ?_)
                                            generalize wr.drew = w56 at HO_10 HO_11 HO_14 HB HO273 HO281 hHeld ⊢
                                            refine pure_ (i := 1) (N := some 94) (v := ?_) (a' := ?_) #[false, true, false, false, false, false, false, false, false, false, false] rfl rfl (any_of HT_.out (by kernel_rfl)) (fun _ _ _ h => h) (Or.inl ⟨by rfl, ?_⟩) ?_ ?_
                                            rotate_left
                                            · intro w'
                                              go_simp
                                              with_reducible rfl
                                            rotate_left
                                            · simp only [Act.put, List.setIfInBounds_toArray, List.set_cons_zero, List.set_cons_succ, i64_w, i32_w]
                                              rfl
                                            refine pure_ (i := 2) (N := some 95) (v := ?_) (a' := ?_) #[false, true, true, false, false, false, false, false, false, false, false] rfl rfl (any_of HT_.out (by kernel_rfl)) (fun _ _ _ h => h) (Or.inl ⟨by rfl, ?_⟩) ?_ ?_
                                            rotate_left
                                            · intro w'
                                              go_simp
                                              with_reducible rfl
                                            rotate_left
                                            · simp only [Act.put, List.setIfInBounds_toArray, List.set_cons_zero, List.set_cons_succ, i64_w, i32_w]
                                              rfl
                                            refine pure_ (i := 3) (N := some 96) (v := ?_) (a' := ?_) #[false, true, true, true, false, false, false, false, false, false, false] rfl rfl (any_of HT_.out (by kernel_rfl)) (fun _ _ _ h => h) (Or.inl ⟨by rfl, ?_⟩) ?_ ?_
                                            rotate_left
                                            · intro w'
                                              go_simp
                                              with_reducible rfl
                                            rotate_left
                                            · simp only [Act.put, List.setIfInBounds_toArray, List.set_cons_zero, List.set_cons_succ, i64_w, i32_w]
                                              rfl
                                            refine pure_ (i := 5) (N := some 98) (v := ?_) (a' := ?_) #[false, true, true, true, false, true, false, false, false, false, false] rfl rfl (any_of HT_.out (by kernel_rfl)) (fun _ _ _ h => h) (Or.inl ⟨by rfl, ?_⟩) ?_ ?_
                                            rotate_left
                                            · intro w'
                                              go_simp
                                              with_reducible rfl
                                            rotate_left
                                            · simp only [Act.put, List.setIfInBounds_toArray, List.set_cons_zero, List.set_cons_succ, i64_w, i32_w]
                                              rfl
                                            refine pure_ (i := 6) (N := some 99) (v := ?_) (a' := ?_) #[false, true, true, true, false, true, true, false, false, false, false] rfl rfl (any_of HT_.out (by kernel_rfl)) (fun _ _ _ h => h) (Or.inl ⟨by rfl, ?_⟩) ?_ ?_
                                            rotate_left
                                            · intro w'
                                              go_simp
                                              with_reducible rfl
                                            rotate_left
                                            · simp only [Act.put, List.setIfInBounds_toArray, List.set_cons_zero, List.set_cons_succ, i64_w, i32_w]
                                              rfl
                                            refine pure_ (i := 7) (N := some 100) (v := ?_) (a' := ?_) #[false, true, true, true, false, true, true, true, false, false, false] rfl rfl (any_of HT_.out (by kernel_rfl)) (fun _ _ _ h => h) (Or.inl ⟨by rfl, ?_⟩) ?_ ?_
                                            rotate_left
                                            · intro w'
                                              go_simp
                                              with_reducible rfl
                                            rotate_left
                                            · simp only [Act.put, List.setIfInBounds_toArray, List.set_cons_zero, List.set_cons_succ, i64_w, i32_w]
                                              rfl
                                            refine pure_ (i := 8) (N := some 101) (v := ?_) (a' := ?_) #[false, true, true, true, false, true, true, true, true, false, false] rfl rfl (any_of HT_.out (by kernel_rfl)) (fun _ _ _ h => h) (Or.inl ⟨by rfl, ?_⟩) ?_ ?_
                                            rotate_left
                                            · intro w'
                                              go_simp
                                              with_reducible rfl
                                            rotate_left
                                            · simp only [Act.put, List.setIfInBounds_toArray, List.set_cons_zero, List.set_cons_succ, i64_w, i32_w]
                                              rfl
                                            refine one_ (i := 0) (N := some 93) #[true, true, true, true, false, true, true, true, true, false, false] rfl rfl (one_of HT_.out (by kernel_rfl)) (by decide) (fun K hK => ?_)
                                            refine Kd.N_lit_step k41 _ 41 ?hg (N' := 93) ?hd (xs := ([] : List (S41))) (inner := []) (ok := (fun k_ => some k_ ≠ (.slice Ao28 t250.length co28 : Value).ownBlock ∧ some k_ ≠ (.slice (some ad256) t253.length co23 : Value).ownBlock ∧ some k_ ≠ (v262 : Value).ownBlock)) (okp := (fun k_ => some k_ ≠ (.slice Ao28 t250.length co28 : Value).ownBlock ∧ some k_ ≠ (.slice (some ad256) t253.length co23 : Value).ownBlock ∧ some k_ ≠ (v262 : Value).ownBlock)) ?hr ?hp (fun _ hk => hk) ((show ∀ k_, w56.heap.size ≤ k_ → (fun k_ => some k_ ≠ (.slice Ao28 t250.length co28 : Value).ownBlock ∧ some k_ ≠ (.slice (some ad256) t253.length co23 : Value).ownBlock ∧ some k_ ≠ (v262 : Value).ownBlock) k_ from fun k_ hk => ⟨Kd.fresh' (Kd.R_lt (by (with_reducible repeat (first | apply Kd.R_alloc | apply Kd.R_drewN | apply Kd.R_drew)); exact HO_10.out)) k_ hk, Kd.fresh' (Kd.N_lt (by (with_reducible repeat (first | apply Kd.N_alloc | apply Kd.N_drewN | apply Kd.N_drew)); exact HO_11.out)) k_ hk, Kd.fresh' (Kd.R_lt (by (with_reducible repeat (first | apply Kd.R_alloc | apply Kd.R_drewN | apply Kd.R_drew)); exact HO_14.out)) k_ hk⟩) _ (Nat.le_refl _)) (Below.refl _ _) (Nat.le_refl _) (by simp) ?_; (case hd => rfl); (case hg => rfl); (case hr => first | (go_simp; done) | (go_simp; rfl)); (case hp => exact (Reps.none _ _))
                                            intro v267 w59 ho60 hb hg_ hnew_
                                            clear hg_ hnew_
                                            (first | rw [← Ny266.out] at ho60 | (simp only [Int.reduceToNat] at ho60; rw [← Ny266.out] at ho60))
                                            have n0_ := Aside0.mk (Kd.R_below (by (with_reducible repeat (first | apply Kd.R_alloc | apply Kd.R_drewN | apply Kd.R_drew)); exact HO_10.out) hb)
                                            have n1_ := Aside0.mk (Kd.N_elder' (by (with_reducible repeat (first | apply Kd.N_alloc | apply Kd.N_drewN | apply Kd.N_drew)); exact HO_11.out) (by first | exact Kd.N_base ho60 | exact Kd.S_base ho60) hb)
                                            have n2_ := Aside0.mk (Kd.R_below (by (with_reducible repeat (first | apply Kd.R_alloc | apply Kd.R_drewN | apply Kd.R_drew)); exact HO_14.out) hb)
                                            have n3_ := Aside0.mk (Kd.V_elder' (by (with_reducible repeat (first | apply Kd.V_alloc | apply Kd.V_drewN | apply Kd.V_drew)); exact HO273.out) (by first | exact Kd.N_base ho60 | exact Kd.S_base ho60) hb)
                                            have n4_ := Aside0.mk (Kd.V_elder' (by (with_reducible repeat (first | apply Kd.V_alloc | apply Kd.V_drewN | apply Kd.V_drew)); exact HO281.out) (by first | exact Kd.N_base ho60 | exact Kd.S_base ho60) hb)
                                            have n5_ := Aside0.mk (Kd.N_lower ho60 (below_size (by repeat (first | (with_reducible first | exact HB.out | apply below_alloc | apply pw_below_drewN | apply below_drew1) | exact HB.out))))
                                            have n6_ := Aside0.mk (below_step (by repeat (first | (with_reducible first | exact HB.out | apply below_alloc | apply pw_below_drewN | apply below_drew1) | exact HB.out)) hb)
                                            clear HO_10
                                            clear HO_11
                                            clear HO_14
                                            clear HO273
                                            clear HO281
                                            clear HB
                                            have HO_10 := n0_
                                            have HO_11 := n1_
                                            have HO_14 := n2_
                                            have HO273 := n3_
                                            have HO281 := n4_
                                            have HO268 := n5_
                                            have HB := n6_
                                            clear n0_ n1_ n2_ n3_ n4_ n5_ n6_
                                            clear hb ho60
                                            refine hK.out _ _ trivial (fun hHeld => ?_)
                                            clear hK K
                                            refine norm_ (a' := ?_) ?_ ?_
                                            rotate_left
                                            · show Act.put _ (some 93) _ = _
                                              simp only [Act.put, List.setIfInBounds_toArray, List.set_cons_zero, List.set_cons_succ, i64_w, i32_w]
                                              rfl
                                            refine one_ (i := 4) (N := some 97) #[true, true, true, true, true, true, true, true, true, false, false] rfl rfl (one_of HT_.out (by kernel_rfl)) (by decide) (fun K hK => ?_)
                                            refine Kd.N_append_rows_step k41 (w0 := w) w.heap.size (by rfl) (.tmp 93) (.tmp 96) 37 41 (.agg #[(.int .i64 0), (.int .i64 0), (.slice none 0 0)]) 40 rfl Try.underlying37 info41 rfl (by decide) (by omega) v267 y266 y269 _ _ _ (fun k_ => some k_ ≠ (.slice Ao28 t250.length co28 : Value).ownBlock ∧ some k_ ≠ (v262 : Value).ownBlock) (fun k_ => ((fun k_ => some k_ ≠ (.slice Ao28 t250.length co28 : Value).ownBlock ∧ some k_ ≠ (v262 : Value).ownBlock)) k_ ∧ some k_ ≠ (v267 : Value).ownBlock) rfl rfl ?aO ?aR (fun _ hk => hk) ?aF ?aB ?aS ?aL ?_
                                            (case aR => exact (by skip; exact Kd.V_F (Kd.V_mono (ok' := (fun k_ => ((fun k_ => some k_ ≠ (.slice Ao28 t250.length co28 : Value).ownBlock ∧ some k_ ≠ (v262 : Value).ownBlock)) k_ ∧ some k_ ≠ (v267 : Value).ownBlock)) (HO273.out) (fun k_ hk => ⟨⟨hk.1.1, hk.1.2⟩, hk.2⟩))))
                                            (case aB => exact (by repeat (first | (with_reducible first | exact HB.out | apply below_alloc | apply pw_below_drewN | apply below_drew1) | exact HB.out)))
                                            (case aF => exact (fun k_ hk => ⟨Kd.fresh' (Kd.R_lt (by (with_reducible repeat (first | apply Kd.R_alloc | apply Kd.R_drewN | apply Kd.R_drew)); exact HO_10.out)) k_ hk, Kd.fresh' (Kd.R_lt (by (with_reducible repeat (first | apply Kd.R_alloc | apply Kd.R_drewN | apply Kd.R_drew)); exact HO_14.out)) k_ hk⟩))
                                            (case aO => exact (by (with_reducible repeat (first | apply Kd.N_alloc | apply Kd.N_drewN | apply Kd.N_drew)); exact Kd.N_mono HO268.out (fun _ hk => ⟨hk.1, hk.2.2⟩)))
                                            (case aS => exact (below_size (by repeat (first | (with_reducible first | exact HB.out | apply below_alloc | apply pw_below_drewN | apply below_drew1) | exact HB.out))))
                                            (case aL => have := LMc45.out; omega)
                                            intro v275 w61 ho hb hg hat
                                            rw [← Ny274.out] at ho
                                            have n0_ := Aside0.mk (Kd.R_over' (by (with_reducible repeat (first | apply Kd.R_alloc | apply Kd.R_drewN | apply Kd.R_drew)); exact HO_10.out) (Kd.N_typed (by (with_reducible repeat (first | apply Kd.N_alloc | apply Kd.N_drewN | apply Kd.N_drew)); exact HO268.out)) (by decide) hg)
                                            have n1_ := Aside0.mk (Kd.N_afterv (ok := (fun k_ => some k_ ≠ (.slice Ao28 t250.length co28 : Value).ownBlock ∧ some k_ ≠ (v262 : Value).ownBlock)) (by (with_reducible repeat (first | apply Kd.N_alloc | apply Kd.N_drewN | apply Kd.N_drew)); exact HO_11.out) hg hat)
                                            have n2_ := Aside0.mk (Kd.R_over' (by (with_reducible repeat (first | apply Kd.R_alloc | apply Kd.R_drewN | apply Kd.R_drew)); exact HO_14.out) (Kd.N_typed (by (with_reducible repeat (first | apply Kd.N_alloc | apply Kd.N_drewN | apply Kd.N_drew)); exact HO268.out)) (by decide) hg)
                                            have n3_ := Aside0.mk (Kd.V_afterv (ok := (fun k_ => some k_ ≠ (.slice Ao28 t250.length co28 : Value).ownBlock ∧ some k_ ≠ (v262 : Value).ownBlock)) (by (with_reducible repeat (first | apply Kd.V_alloc | apply Kd.V_drewN | apply Kd.V_drew)); exact HO273.out) hg hat)
                                            have n4_ := Aside0.mk (Kd.V_afterv (ok := (fun k_ => some k_ ≠ (.slice Ao28 t250.length co28 : Value).ownBlock ∧ some k_ ≠ (v262 : Value).ownBlock)) (by (with_reducible repeat (first | apply Kd.V_alloc | apply Kd.V_drewN | apply Kd.V_drew)); exact HO281.out) hg hat)
                                            have n5_ := Aside0.mk (hb)
                                            have n6_ := Aside0.mk (ho)
                                            clear HO_10
                                            clear HO_11
                                            clear HO_14
                                            clear HO273
                                            clear HO281
                                            clear HB
                                            clear HO268
                                            have HO_10 := n0_
                                            have HO_11 := n1_
                                            have HO_14 := n2_
                                            have HO273 := n3_
                                            have HO281 := n4_
                                            have HB := n5_
                                            have HO276 := n6_
                                            clear n0_ n1_ n2_ n3_ n4_ n5_ n6_
                                            clear ho hb hg hat
                                            refine hK.out _ _ trivial (fun hHeld => ?_)
                                            clear hK K
                                            refine norm_ (a' := ?_) ?_ ?_
                                            rotate_left
                                            · show Act.put _ (some 97) _ = _
                                              simp only [Act.put, List.setIfInBounds_toArray, List.set_cons_zero, List.set_cons_succ, i64_w, i32_w]
                                              rfl
                                            refine one_ (i := 9) (N := some 102) #[true, true, true, true, true, true, true, true, true, true, false] rfl rfl (one_of HT_.out (by kernel_rfl)) (by decide) (fun K hK => ?_)
                                            refine Kd.N_append_rows_step k41 (w0 := w) w.heap.size (by rfl) (.tmp 97) (.tmp 101) 37 41 (.agg #[(.int .i64 0), (.int .i64 0), (.slice none 0 0)]) 40 rfl Try.underlying37 info41 rfl (by decide) (by omega) v275 y274 y277 _ _ _ (fun k_ => some k_ ≠ (.slice Ao28 t250.length co28 : Value).ownBlock ∧ some k_ ≠ (v262 : Value).ownBlock) (fun k_ => ((fun k_ => some k_ ≠ (.slice Ao28 t250.length co28 : Value).ownBlock ∧ some k_ ≠ (v262 : Value).ownBlock)) k_ ∧ some k_ ≠ (v275 : Value).ownBlock) rfl rfl ?aO ?aR (fun _ hk => hk) ?aF ?aB ?aS ?aL ?_
                                            (case aR => exact (by skip; exact Kd.V_F (Kd.V_mono (ok' := (fun k_ => ((fun k_ => some k_ ≠ (.slice Ao28 t250.length co28 : Value).ownBlock ∧ some k_ ≠ (v262 : Value).ownBlock)) k_ ∧ some k_ ≠ (v275 : Value).ownBlock)) (HO281.out) (fun k_ hk => ⟨⟨hk.1.1, hk.1.2⟩, hk.2⟩))))
                                            (case aB => exact (by repeat (first | (with_reducible first | exact HB.out | apply below_alloc | apply pw_below_drewN | apply below_drew1) | exact HB.out)))
                                            (case aF => exact (fun k_ hk => ⟨Kd.fresh' (Kd.R_lt (by (with_reducible repeat (first | apply Kd.R_alloc | apply Kd.R_drewN | apply Kd.R_drew)); exact HO_10.out)) k_ hk, Kd.fresh' (Kd.R_lt (by (with_reducible repeat (first | apply Kd.R_alloc | apply Kd.R_drewN | apply Kd.R_drew)); exact HO_14.out)) k_ hk⟩))
                                            (case aO => exact (by (with_reducible repeat (first | apply Kd.N_alloc | apply Kd.N_drewN | apply Kd.N_drew)); exact HO276.out))
                                            (case aS => exact (below_size (by repeat (first | (with_reducible first | exact HB.out | apply below_alloc | apply pw_below_drewN | apply below_drew1) | exact HB.out))))
                                            (case aL => have := LMc49.out; omega)
                                            intro v283 w62 ho hb hg hat
                                            rw [← Ny282.out] at ho
                                            have n0_ := Aside0.mk (Kd.R_over' (by (with_reducible repeat (first | apply Kd.R_alloc | apply Kd.R_drewN | apply Kd.R_drew)); exact HO_10.out) (Kd.N_typed (by (with_reducible repeat (first | apply Kd.N_alloc | apply Kd.N_drewN | apply Kd.N_drew)); exact HO276.out)) (by decide) hg)
                                            have n1_ := Aside0.mk (Kd.N_afterv (ok := (fun k_ => some k_ ≠ (.slice Ao28 t250.length co28 : Value).ownBlock ∧ some k_ ≠ (v262 : Value).ownBlock)) (by (with_reducible repeat (first | apply Kd.N_alloc | apply Kd.N_drewN | apply Kd.N_drew)); exact HO_11.out) hg hat)
                                            have n2_ := Aside0.mk (Kd.R_over' (by (with_reducible repeat (first | apply Kd.R_alloc | apply Kd.R_drewN | apply Kd.R_drew)); exact HO_14.out) (Kd.N_typed (by (with_reducible repeat (first | apply Kd.N_alloc | apply Kd.N_drewN | apply Kd.N_drew)); exact HO276.out)) (by decide) hg)
                                            have n3_ := Aside0.mk (Kd.V_afterv (ok := (fun k_ => some k_ ≠ (.slice Ao28 t250.length co28 : Value).ownBlock ∧ some k_ ≠ (v262 : Value).ownBlock)) (by (with_reducible repeat (first | apply Kd.V_alloc | apply Kd.V_drewN | apply Kd.V_drew)); exact HO273.out) hg hat)
                                            have n4_ := Aside0.mk (Kd.V_afterv (ok := (fun k_ => some k_ ≠ (.slice Ao28 t250.length co28 : Value).ownBlock ∧ some k_ ≠ (v262 : Value).ownBlock)) (by (with_reducible repeat (first | apply Kd.V_alloc | apply Kd.V_drewN | apply Kd.V_drew)); exact HO281.out) hg hat)
                                            have n5_ := Aside0.mk (hb)
                                            have n6_ := Aside0.mk (ho)
                                            clear HO_10
                                            clear HO_11
                                            clear HO_14
                                            clear HO273
                                            clear HO281
                                            clear HB
                                            clear HO276
                                            have HO_10 := n0_
                                            have HO_11 := n1_
                                            have HO_14 := n2_
                                            have HO273 := n3_
                                            have HO281 := n4_
                                            have HB := n5_
                                            have HO284 := n6_
                                            clear n0_ n1_ n2_ n3_ n4_ n5_ n6_
                                            clear ho hb hg hat
                                            refine hK.out _ _ trivial (fun hHeld => ?_)
                                            clear hK K
                                            refine norm_ (a' := ?_) ?_ ?_
                                            rotate_left
                                            · show Act.put _ (some 102) _ = _
                                              simp only [Act.put, List.setIfInBounds_toArray, List.set_cons_zero, List.set_cons_succ, i64_w, i32_w]
                                              rfl
                                            refine pure_ (i := 10) (N := some 16) (v := ?_) (a' := ?_) #[true, true, true, true, true, true, true, true, true, true, true] rfl rfl (any_of HT_.out (by kernel_rfl)) (fun _ _ _ h => h) (Or.inl ⟨by rfl, ?_⟩) ?_ ?_
                                            rotate_left
                                            · intro w'
                                              go_simp
                                              with_reducible rfl
                                            rotate_left
                                            · simp only [Act.put, List.setIfInBounds_toArray, List.set_cons_zero, List.set_cons_succ, i64_w, i32_w]
                                              rfl
                                            refine done_ (done_of HT_.out (by kernel_rfl)) ?_
                                            obtain ⟨Ao63, co63, eo63⟩ := Kd.R_slice HO_14.out
                                            subst eo63
                                            try go_wp2_with (first | ((with_reducible refine gate_callee (f := 23) rfl ?_); refine goesL_ (some 105) rfl rfl Try.func23 (by kernel_rfl) rfl #[.slice Ao63 x14_2.length co63] rfl (by (try simp only [List.map_toArray, List.map_cons, List.map_nil]); first | done | rfl | (simp only [List.length_drop, List.length_take]; rfl)) ?_; (with_reducible refine (scan_All.calls _ _ x14_2 t285 t286 t287 t288 _ ?side1 ?side2 A50.out).mono ?_); (case side1 => repeat (first | exact (Kd.R_reads' HO_14.out).2.2 | (with_reducible refine Kd.C_alloc ?_ _) | (with_reducible refine Kd.C_drewN ?_ _) | (with_reducible refine Kd.C_drew ?_))); (case side2 => exact (Kd.R_reads' HO_14.out).2.1); rintro e w64 ⟨v289, rfl, ho0, hb⟩; refine ⟨_, rfl, ?_⟩; have n0_ := Aside0.mk (Kd.R_below (by (with_reducible repeat (first | apply Kd.R_alloc | apply Kd.R_drewN | apply Kd.R_drew)); exact HO_10.out) hb); have n1_ := Aside0.mk (Kd.N_elder' (by (with_reducible repeat (first | apply Kd.N_alloc | apply Kd.N_drewN | apply Kd.N_drew)); exact HO_11.out) (by first | exact Kd.N_base ho0 | exact Kd.S_base ho0) hb); have n2_ := Aside0.mk (Kd.R_below (by (with_reducible repeat (first | apply Kd.R_alloc | apply Kd.R_drewN | apply Kd.R_drew)); exact HO_14.out) hb); have n3_ := Aside0.mk (Kd.V_elder' (by (with_reducible repeat (first | apply Kd.V_alloc | apply Kd.V_drewN | apply Kd.V_drew)); exact HO273.out) (by first | exact Kd.N_base ho0 | exact Kd.S_base ho0) hb); have n4_ := Aside0.mk (Kd.V_elder' (by (with_reducible repeat (first | apply Kd.V_alloc | apply Kd.V_drewN | apply Kd.V_drew)); exact HO281.out) (by first | exact Kd.N_base ho0 | exact Kd.S_base ho0) hb); have n5_ := Aside0.mk (Kd.N_elder' (by (with_reducible repeat (first | apply Kd.N_alloc | apply Kd.N_drewN | apply Kd.N_drew)); exact HO284.out) (by first | exact Kd.N_base ho0 | exact Kd.S_base ho0) hb); have n6_ := Aside0.mk (Kd.N_lower (Kd.N_mono (ok' := fun k_ => some k_ ≠ (.slice Ao28 t250.length co28 : Value).ownBlock ∧ some k_ ≠ (.slice (some ad256) t253.length co23 : Value).ownBlock ∧ some k_ ≠ (.slice Ao63 x14_2.length co63 : Value).ownBlock ∧ some k_ ≠ (v283 : Value).ownBlock) (Kd.S_N (Kd.S_bound ho0)) (fun k_ hk_ => ⟨(Kd.fresh' (Kd.R_lt (by (with_reducible repeat (first | apply Kd.R_alloc | apply Kd.R_drewN | apply Kd.R_drew)); exact HO_10.out)) k_ hk_.2.1), (Kd.fresh' (Kd.N_lt (by (with_reducible repeat (first | apply Kd.N_alloc | apply Kd.N_drewN | apply Kd.N_drew)); exact HO_11.out)) k_ hk_.2.1), (Kd.fresh' (Kd.R_lt (by (with_reducible repeat (first | apply Kd.R_alloc | apply Kd.R_drewN | apply Kd.R_drew)); exact HO_14.out)) k_ hk_.2.1), (Kd.fresh' (Kd.N_lt (by (with_reducible repeat (first | apply Kd.N_alloc | apply Kd.N_drewN | apply Kd.N_drew)); exact HO284.out)) k_ hk_.2.1)⟩)) (below_size (by repeat (first | (with_reducible first | exact HB.out | apply below_alloc | apply pw_below_drewN | apply below_drew1) | exact HB.out)))); have n7_ := Aside0.mk (below_step (by repeat (first | (with_reducible first | exact HB.out | apply below_alloc | apply pw_below_drewN | apply below_drew1) | exact HB.out)) hb); clear HO_10; clear HO_11; clear HO_14; clear HO273; clear HO281; clear HO284; clear HB; have HO_10 := n0_; have HO_11 := n1_; have HO_14 := n2_; have HO273 := n3_; have HO281 := n4_; have HO284 := n5_; have HO290 := n6_; have HB := n7_; clear n0_ n1_ n2_ n3_ n4_ n5_ n6_ n7_; (try clear hb); (try clear hb2); (try clear hk); (try clear hi); (try clear ho0); obtain ⟨Ao65, co65, eo65⟩ := Kd.N_slice HO290.out; subst eo65; obtain ⟨Ao66, co66, eo66⟩ := Kd.N_slice HO284.out; subst eo66) | (go_at_call 27; (with_reducible refine (souterrainref03_Same.calls k2 _ _ t285 _ _ y282 true _ ?side1 ?side2 ?side3 ?side4 A52.out).mono ?_); (case side1 => repeat (first | exact (Kd.N_reads' HO290.out).2.2 | (with_reducible refine Kd.C_alloc ?_ _) | (with_reducible refine Kd.C_drewN ?_ _) | (with_reducible refine Kd.C_drew ?_))); (case side2 => exact (Kd.N_reads' HO290.out).2.1); (case side3 => repeat (first | exact (Kd.N_reads' HO284.out).2.2 | (with_reducible refine Kd.C_alloc ?_ _) | (with_reducible refine Kd.C_drewN ?_ _) | (with_reducible refine Kd.C_drew ?_))); (case side4 => exact (Kd.N_reads' HO284.out).2.1); rintro e w' ⟨rfl, ⟨nd, rfl⟩⟩))
                                            go_ret
                                            exact ⟨by first | rfl | (simp [errW_none, errW_some] <;> rfl) | (simp only [← hji17, ← hji46]; first | rfl | (simp [errW_none, errW_some] <;> rfl)) | (simp [*, errW_none, errW_some] <;> rfl), by repeat (first | (with_reducible first | exact HB.out | apply below_alloc | apply pw_below_drewN | apply below_drew1) | exact HB.out)⟩
                                          · rw [if_neg c55] at H
                                            have c55b0 : (t287 == (t250.length : Int)) = false := beq_eq_false_iff_ne.mpr c55
                                            have c55b1 : (t287 != (t250.length : Int)) = true := bne_iff_ne.mpr c55
                                            obtain rfl := Option.some.inj H
                                            try go_wp2
                                            have n0_ := Aside0.mk (Kd.R_drew HO_10.out)
                                            have n1_ := Aside0.mk (Kd.N_drew HO_11.out)
                                            have n2_ := Aside0.mk (Kd.R_drew HO_14.out)
                                            have n3_ := Aside0.mk (below_drew1 HB.out)
                                            clear HO_10
                                            clear HO_11
                                            clear HO_14
                                            clear HB
                                            have HO_10 := n0_
                                            have HO_11 := n1_
                                            have HO_14 := n2_
                                            have HB := n3_
                                            clear n0_ n1_ n2_ n3_
                                            have q68 : (ji17 : Int) ≤ ((t253.length : Int) : Int) := of_decide_eq_true (by first | (with_reducible assumption) | assumption)
                                            obtain ⟨i068, hi068, _, hsz68, _⟩ := info_parts info41
                                            have hroom68 : t253.length ≤ co23 := (Kd.N_reads' HO_11.out).2.1
                                            have hC68 : Kd.F k41 _ _ (some ad256) t253.length t253 := (Kd.V_at (base := w.heap.size) (Kd.N_V HO_11.out)).2.2
                                            have hcut68 := cut_to (P := Try.prog) 37 41 .i64 Try.underlying37 hi068 (some ad256) t253.length co23 ji17 (of_decide_eq_true (by first | (with_reducible assumption) | assumption)) q68 hroom68
                                            have hr68 := Kd.F_take (m := (ji17 : Int).toNat) hC68 (by omega)
                                            have hy68 : y269.length = (ji17 : Int).toNat := (by rw [Ny269.out, List.length_take]; omega)
                                            rw [← Ny269.out] at hr68
                                            rw [← hy68] at hcut68
                                            have HO273 := Aside0.mk (show Kd.V k41 41 _ w.heap.size _ (.slice (some ad256) y269.length co23) y269 from Kd.V_mk (by omega) hr68)
                                            have HC273 := Aside0.mk (show y269.length ≤ co23 from by omega)
                                            clear hr68 hC68 hroom68 hi068 hsz68
                                            have KY68 := Aside0.mk hy68
                                            clear hy68
                                            replace q68 := eq_true q68
                                            have q69 : ((ji46) : Int) ≤ ((t253.length : Int) : Int) := of_decide_eq_true (by first | (with_reducible assumption) | assumption)
                                            obtain ⟨i069, hi069, _, hsz69, _⟩ := info_parts info41
                                            have hroom69 : t253.length ≤ co23 := (Kd.N_reads' HO_11.out).2.1
                                            have hC69 : Kd.F k41 _ _ (some ad256) t253.length t253 := (Kd.V_at (base := w.heap.size) (Kd.N_V HO_11.out)).2.2
                                            have q069 : (0 : Int) ≤ ((ji46) : Int) := of_decide_eq_true (by first | (with_reducible assumption) | assumption)
                                            have hcut69 := cut_from (P := Try.prog) 37 41 .i64 Try.underlying37 hi069 3 hsz69 (some ad256) t253.length co23 (ji46) q069 q69
                                            have hr69 := Kd.F_cut (m := ((ji46) : Int).toNat) (c := co23) hC69 (by omega) hroom69
                                            obtain ⟨A69, hA69⟩ : ∃ A1, A1 = (if co23 = ((ji46) : Int).toNat then (some ad256) else ((some ad256) : Option Addr).map (·.add (((ji46) : Int).toNat * 3))) := ⟨_, rfl⟩
                                            obtain ⟨c69, hc69⟩ : ∃ c1, c1 = co23 - ((ji46) : Int).toNat := ⟨_, rfl⟩
                                            have hy69 : y277.length = t253.length - ((ji46) : Int).toNat := (by rw [Ny277.out, List.length_drop] <;> omega)
                                            rw [show (t253).drop ((ji46) : Int).toNat = y277 from Ny277.out.symm] at hr69
                                            replace hr69 : Kd.F k41 _ _ A69 y277.length y277 := (by rw [hA69]; exact hr69)
                                            rw [← hy69, ← hA69, ← hc69] at hcut69
                                            have HO281 := Aside0.mk (show Kd.V k41 41 _ w.heap.size _ (.slice A69 y277.length c69) y277 from Kd.V_mk (by rw [hy69, hc69]; exact Nat.sub_le_sub_right hroom69 _) hr69)
                                            have HC281 := Aside0.mk (show y277.length ≤ c69 from by rw [hy69, hc69]; exact Nat.sub_le_sub_right hroom69 _)
                                            clear hr69 hC69 hroom69 hi069 hsz69 hc69
                                            have KY69 := Aside0.mk hy69
                                            have KA69 := Aside0.mk hA69
                                            clear hy69 hA69
                                            replace q69 := eq_true q69
                                            refine start_ (n := 11) (S := fun w' => True) (ds := []) #[false, false, false, false, false, false, false, false, false, false, false] (by kernel_rfl) rfl rfl trivial (fun hHeld => ?_); refine with_tabW souterrainlaw03_ScanSpoilt.tab15 souterrainlaw03_ScanSpoilt.bits15 (fun HT_ HW_ => ?_)
                                            generalize wr.drew = w67 at HO_10 HO_11 HO_14 HB HO273 HO281 hHeld ⊢
                                            refine pure_ (i := 1) (N := some 94) (v := ?_) (a' := ?_) #[false, true, false, false, false, false, false, false, false, false, false] rfl rfl (any_of HT_.out (by kernel_rfl)) (fun _ _ _ h => h) (Or.inl ⟨by rfl, ?_⟩) ?_ ?_
                                            rotate_left
                                            · intro w'
                                              go_simp
                                              with_reducible rfl
                                            rotate_left
                                            · simp only [Act.put, List.setIfInBounds_toArray, List.set_cons_zero, List.set_cons_succ, i64_w, i32_w]
                                              rfl
                                            refine pure_ (i := 2) (N := some 95) (v := ?_) (a' := ?_) #[false, true, true, false, false, false, false, false, false, false, false] rfl rfl (any_of HT_.out (by kernel_rfl)) (fun _ _ _ h => h) (Or.inl ⟨by rfl, ?_⟩) ?_ ?_
                                            rotate_left
                                            · intro w'
                                              go_simp
                                              with_reducible rfl
                                            rotate_left
                                            · simp only [Act.put, List.setIfInBounds_toArray, List.set_cons_zero, List.set_cons_succ, i64_w, i32_w]
                                              rfl
                                            refine pure_ (i := 3) (N := some 96) (v := ?_) (a' := ?_) #[false, true, true, true, false, false, false, false, false, false, false] rfl rfl (any_of HT_.out (by kernel_rfl)) (fun _ _ _ h => h) (Or.inl ⟨by rfl, ?_⟩) ?_ ?_
                                            rotate_left
                                            · intro w'
                                              go_simp
                                              with_reducible rfl
                                            rotate_left
                                            · simp only [Act.put, List.setIfInBounds_toArray, List.set_cons_zero, List.set_cons_succ, i64_w, i32_w]
                                              rfl
                                            refine pure_ (i := 5) (N := some 98) (v := ?_) (a' := ?_) #[false, true, true, true, false, true, false, false, false, false, false] rfl rfl (any_of HT_.out (by kernel_rfl)) (fun _ _ _ h => h) (Or.inl ⟨by rfl, ?_⟩) ?_ ?_
                                            rotate_left
                                            · intro w'
                                              go_simp
                                              with_reducible rfl
                                            rotate_left
                                            · simp only [Act.put, List.setIfInBounds_toArray, List.set_cons_zero, List.set_cons_succ, i64_w, i32_w]
                                              rfl
                                            refine pure_ (i := 6) (N := some 99) (v := ?_) (a' := ?_) #[false, true, true, true, false, true, true, false, false, false, false] rfl rfl (any_of HT_.out (by kernel_rfl)) (fun _ _ _ h => h) (Or.inl ⟨by rfl, ?_⟩) ?_ ?_
                                            rotate_left
                                            · intro w'
                                              go_simp
                                              with_reducible rfl
                                            rotate_left
                                            · simp only [Act.put, List.setIfInBounds_toArray, List.set_cons_zero, List.set_cons_succ, i64_w, i32_w]
                                              rfl
                                            refine pure_ (i := 7) (N := some 100) (v := ?_) (a' := ?_) #[false, true, true, true, false, true, true, true, false, false, false] rfl rfl (any_of HT_.out (by kernel_rfl)) (fun _ _ _ h => h) (Or.inl ⟨by rfl, ?_⟩) ?_ ?_
                                            rotate_left
                                            · intro w'
                                              go_simp
                                              with_reducible rfl
                                            rotate_left
                                            · simp only [Act.put, List.setIfInBounds_toArray, List.set_cons_zero, List.set_cons_succ, i64_w, i32_w]
                                              rfl
                                            refine pure_ (i := 8) (N := some 101) (v := ?_) (a' := ?_) #[false, true, true, true, false, true, true, true, true, false, false] rfl rfl (any_of HT_.out (by kernel_rfl)) (fun _ _ _ h => h) (Or.inl ⟨by rfl, ?_⟩) ?_ ?_
                                            rotate_left
                                            · intro w'
                                              go_simp
                                              with_reducible rfl
                                            rotate_left
                                            · simp only [Act.put, List.setIfInBounds_toArray, List.set_cons_zero, List.set_cons_succ, i64_w, i32_w]
                                              rfl
                                            refine one_ (i := 0) (N := some 93) #[true, true, true, true, false, true, true, true, true, false, false] rfl rfl (one_of HT_.out (by kernel_rfl)) (by decide) (fun K hK => ?_)
                                            refine Kd.N_lit_step k41 _ 41 ?hg (N' := 93) ?hd (xs := ([] : List (S41))) (inner := []) (ok := (fun k_ => some k_ ≠ (.slice Ao28 t250.length co28 : Value).ownBlock ∧ some k_ ≠ (.slice (some ad256) t253.length co23 : Value).ownBlock ∧ some k_ ≠ (v262 : Value).ownBlock)) (okp := (fun k_ => some k_ ≠ (.slice Ao28 t250.length co28 : Value).ownBlock ∧ some k_ ≠ (.slice (some ad256) t253.length co23 : Value).ownBlock ∧ some k_ ≠ (v262 : Value).ownBlock)) ?hr ?hp (fun _ hk => hk) ((show ∀ k_, w67.heap.size ≤ k_ → (fun k_ => some k_ ≠ (.slice Ao28 t250.length co28 : Value).ownBlock ∧ some k_ ≠ (.slice (some ad256) t253.length co23 : Value).ownBlock ∧ some k_ ≠ (v262 : Value).ownBlock) k_ from fun k_ hk => ⟨Kd.fresh' (Kd.R_lt (by (with_reducible repeat (first | apply Kd.R_alloc | apply Kd.R_drewN | apply Kd.R_drew)); exact HO_10.out)) k_ hk, Kd.fresh' (Kd.N_lt (by (with_reducible repeat (first | apply Kd.N_alloc | apply Kd.N_drewN | apply Kd.N_drew)); exact HO_11.out)) k_ hk, Kd.fresh' (Kd.R_lt (by (with_reducible repeat (first | apply Kd.R_alloc | apply Kd.R_drewN | apply Kd.R_drew)); exact HO_14.out)) k_ hk⟩) _ (Nat.le_refl _)) (Below.refl _ _) (Nat.le_refl _) (by simp) ?_; (case hd => rfl); (case hg => rfl); (case hr => first | (go_simp; done) | (go_simp; rfl)); (case hp => exact (Reps.none _ _))
                                            intro v267 w70 ho71 hb hg_ hnew_
                                            clear hg_ hnew_
                                            (first | rw [← Ny266.out] at ho71 | (simp only [Int.reduceToNat] at ho71; rw [← Ny266.out] at ho71))
                                            have n0_ := Aside0.mk (Kd.R_below (by (with_reducible repeat (first | apply Kd.R_alloc | apply Kd.R_drewN | apply Kd.R_drew)); exact HO_10.out) hb)
                                            have n1_ := Aside0.mk (Kd.N_elder' (by (with_reducible repeat (first | apply Kd.N_alloc | apply Kd.N_drewN | apply Kd.N_drew)); exact HO_11.out) (by first | exact Kd.N_base ho71 | exact Kd.S_base ho71) hb)
                                            have n2_ := Aside0.mk (Kd.R_below (by (with_reducible repeat (first | apply Kd.R_alloc | apply Kd.R_drewN | apply Kd.R_drew)); exact HO_14.out) hb)
                                            have n3_ := Aside0.mk (Kd.V_elder' (by (with_reducible repeat (first | apply Kd.V_alloc | apply Kd.V_drewN | apply Kd.V_drew)); exact HO273.out) (by first | exact Kd.N_base ho71 | exact Kd.S_base ho71) hb)
                                            have n4_ := Aside0.mk (Kd.V_elder' (by (with_reducible repeat (first | apply Kd.V_alloc | apply Kd.V_drewN | apply Kd.V_drew)); exact HO281.out) (by first | exact Kd.N_base ho71 | exact Kd.S_base ho71) hb)
                                            have n5_ := Aside0.mk (Kd.N_lower ho71 (below_size (by repeat (first | (with_reducible first | exact HB.out | apply below_alloc | apply pw_below_drewN | apply below_drew1) | exact HB.out))))
                                            have n6_ := Aside0.mk (below_step (by repeat (first | (with_reducible first | exact HB.out | apply below_alloc | apply pw_below_drewN | apply below_drew1) | exact HB.out)) hb)
                                            clear HO_10
                                            clear HO_11
                                            clear HO_14
                                            clear HO273
                                            clear HO281
                                            clear HB
                                            have HO_10 := n0_
                                            have HO_11 := n1_
                                            have HO_14 := n2_
                                            have HO273 := n3_
                                            have HO281 := n4_
                                            have HO268 := n5_
                                            have HB := n6_
                                            clear n0_ n1_ n2_ n3_ n4_ n5_ n6_
                                            clear hb ho71
                                            refine hK.out _ _ trivial (fun hHeld => ?_)
                                            clear hK K
                                            refine norm_ (a' := ?_) ?_ ?_
                                            rotate_left
                                            · show Act.put _ (some 93) _ = _
                                              simp only [Act.put, List.setIfInBounds_toArray, List.set_cons_zero, List.set_cons_succ, i64_w, i32_w]
                                              rfl
                                            refine one_ (i := 4) (N := some 97) #[true, true, true, true, true, true, true, true, true, false, false] rfl rfl (one_of HT_.out (by kernel_rfl)) (by decide) (fun K hK => ?_)
                                            refine Kd.N_append_rows_step k41 (w0 := w) w.heap.size (by rfl) (.tmp 93) (.tmp 96) 37 41 (.agg #[(.int .i64 0), (.int .i64 0), (.slice none 0 0)]) 40 rfl Try.underlying37 info41 rfl (by decide) (by omega) v267 y266 y269 _ _ _ (fun k_ => some k_ ≠ (.slice Ao28 t250.length co28 : Value).ownBlock ∧ some k_ ≠ (v262 : Value).ownBlock) (fun k_ => ((fun k_ => some k_ ≠ (.slice Ao28 t250.length co28 : Value).ownBlock ∧ some k_ ≠ (v262 : Value).ownBlock)) k_ ∧ some k_ ≠ (v267 : Value).ownBlock) rfl rfl ?aO ?aR (fun _ hk => hk) ?aF ?aB ?aS ?aL ?_
                                            (case aR => exact (by skip; exact Kd.V_F (Kd.V_mono (ok' := (fun k_ => ((fun k_ => some k_ ≠ (.slice Ao28 t250.length co28 : Value).ownBlock ∧ some k_ ≠ (v262 : Value).ownBlock)) k_ ∧ some k_ ≠ (v267 : Value).ownBlock)) (HO273.out) (fun k_ hk => ⟨⟨hk.1.1, hk.1.2⟩, hk.2⟩))))
                                            (case aB => exact (by repeat (first | (with_reducible first | exact HB.out | apply below_alloc | apply pw_below_drewN | apply below_drew1) | exact HB.out)))
                                            (case aF => exact (fun k_ hk => ⟨Kd.fresh' (Kd.R_lt (by (with_reducible repeat (first | apply Kd.R_alloc | apply Kd.R_drewN | apply Kd.R_drew)); exact HO_10.out)) k_ hk, Kd.fresh' (Kd.R_lt (by (with_reducible repeat (first | apply Kd.R_alloc | apply Kd.R_drewN | apply Kd.R_drew)); exact HO_14.out)) k_ hk⟩))
                                            (case aO => exact (by (with_reducible repeat (first | apply Kd.N_alloc | apply Kd.N_drewN | apply Kd.N_drew)); exact Kd.N_mono HO268.out (fun _ hk => ⟨hk.1, hk.2.2⟩)))
                                            (case aS => exact (below_size (by repeat (first | (with_reducible first | exact HB.out | apply below_alloc | apply pw_below_drewN | apply below_drew1) | exact HB.out))))
                                            (case aL => have := LMc45.out; omega)
                                            intro v275 w72 ho hb hg hat
                                            rw [← Ny274.out] at ho
                                            have n0_ := Aside0.mk (Kd.R_over' (by (with_reducible repeat (first | apply Kd.R_alloc | apply Kd.R_drewN | apply Kd.R_drew)); exact HO_10.out) (Kd.N_typed (by (with_reducible repeat (first | apply Kd.N_alloc | apply Kd.N_drewN | apply Kd.N_drew)); exact HO268.out)) (by decide) hg)
                                            have n1_ := Aside0.mk (Kd.N_afterv (ok := (fun k_ => some k_ ≠ (.slice Ao28 t250.length co28 : Value).ownBlock ∧ some k_ ≠ (v262 : Value).ownBlock)) (by (with_reducible repeat (first | apply Kd.N_alloc | apply Kd.N_drewN | apply Kd.N_drew)); exact HO_11.out) hg hat)
                                            have n2_ := Aside0.mk (Kd.R_over' (by (with_reducible repeat (first | apply Kd.R_alloc | apply Kd.R_drewN | apply Kd.R_drew)); exact HO_14.out) (Kd.N_typed (by (with_reducible repeat (first | apply Kd.N_alloc | apply Kd.N_drewN | apply Kd.N_drew)); exact HO268.out)) (by decide) hg)
                                            have n3_ := Aside0.mk (Kd.V_afterv (ok := (fun k_ => some k_ ≠ (.slice Ao28 t250.length co28 : Value).ownBlock ∧ some k_ ≠ (v262 : Value).ownBlock)) (by (with_reducible repeat (first | apply Kd.V_alloc | apply Kd.V_drewN | apply Kd.V_drew)); exact HO273.out) hg hat)
                                            have n4_ := Aside0.mk (Kd.V_afterv (ok := (fun k_ => some k_ ≠ (.slice Ao28 t250.length co28 : Value).ownBlock ∧ some k_ ≠ (v262 : Value).ownBlock)) (by (with_reducible repeat (first | apply Kd.V_alloc | apply Kd.V_drewN | apply Kd.V_drew)); exact HO281.out) hg hat)
                                            have n5_ := Aside0.mk (hb)
                                            have n6_ := Aside0.mk (ho)
                                            clear HO_10
                                            clear HO_11
                                            clear HO_14
                                            clear HO273
                                            clear HO281
                                            clear HB
                                            clear HO268
                                            have HO_10 := n0_
                                            have HO_11 := n1_
                                            have HO_14 := n2_
                                            have HO273 := n3_
                                            have HO281 := n4_
                                            have HB := n5_
                                            have HO276 := n6_
                                            clear n0_ n1_ n2_ n3_ n4_ n5_ n6_
                                            clear ho hb hg hat
                                            refine hK.out _ _ trivial (fun hHeld => ?_)
                                            clear hK K
                                            refine norm_ (a' := ?_) ?_ ?_
                                            rotate_left
                                            · show Act.put _ (some 97) _ = _
                                              simp only [Act.put, List.setIfInBounds_toArray, List.set_cons_zero, List.set_cons_succ, i64_w, i32_w]
                                              rfl
                                            refine one_ (i := 9) (N := some 102) #[true, true, true, true, true, true, true, true, true, true, false] rfl rfl (one_of HT_.out (by kernel_rfl)) (by decide) (fun K hK => ?_)
                                            refine Kd.N_append_rows_step k41 (w0 := w) w.heap.size (by rfl) (.tmp 97) (.tmp 101) 37 41 (.agg #[(.int .i64 0), (.int .i64 0), (.slice none 0 0)]) 40 rfl Try.underlying37 info41 rfl (by decide) (by omega) v275 y274 y277 _ _ _ (fun k_ => some k_ ≠ (.slice Ao28 t250.length co28 : Value).ownBlock ∧ some k_ ≠ (v262 : Value).ownBlock) (fun k_ => ((fun k_ => some k_ ≠ (.slice Ao28 t250.length co28 : Value).ownBlock ∧ some k_ ≠ (v262 : Value).ownBlock)) k_ ∧ some k_ ≠ (v275 : Value).ownBlock) rfl rfl ?aO ?aR (fun _ hk => hk) ?aF ?aB ?aS ?aL ?_
                                            (case aR => exact (by skip; exact Kd.V_F (Kd.V_mono (ok' := (fun k_ => ((fun k_ => some k_ ≠ (.slice Ao28 t250.length co28 : Value).ownBlock ∧ some k_ ≠ (v262 : Value).ownBlock)) k_ ∧ some k_ ≠ (v275 : Value).ownBlock)) (HO281.out) (fun k_ hk => ⟨⟨hk.1.1, hk.1.2⟩, hk.2⟩))))
                                            (case aB => exact (by repeat (first | (with_reducible first | exact HB.out | apply below_alloc | apply pw_below_drewN | apply below_drew1) | exact HB.out)))
                                            (case aF => exact (fun k_ hk => ⟨Kd.fresh' (Kd.R_lt (by (with_reducible repeat (first | apply Kd.R_alloc | apply Kd.R_drewN | apply Kd.R_drew)); exact HO_10.out)) k_ hk, Kd.fresh' (Kd.R_lt (by (with_reducible repeat (first | apply Kd.R_alloc | apply Kd.R_drewN | apply Kd.R_drew)); exact HO_14.out)) k_ hk⟩))
                                            (case aO => exact (by (with_reducible repeat (first | apply Kd.N_alloc | apply Kd.N_drewN | apply Kd.N_drew)); exact HO276.out))
                                            (case aS => exact (below_size (by repeat (first | (with_reducible first | exact HB.out | apply below_alloc | apply pw_below_drewN | apply below_drew1) | exact HB.out))))
                                            (case aL => have := LMc49.out; omega)
                                            intro v283 w73 ho hb hg hat
                                            rw [← Ny282.out] at ho
                                            have n0_ := Aside0.mk (Kd.R_over' (by (with_reducible repeat (first | apply Kd.R_alloc | apply Kd.R_drewN | apply Kd.R_drew)); exact HO_10.out) (Kd.N_typed (by (with_reducible repeat (first | apply Kd.N_alloc | apply Kd.N_drewN | apply Kd.N_drew)); exact HO276.out)) (by decide) hg)
                                            have n1_ := Aside0.mk (Kd.N_afterv (ok := (fun k_ => some k_ ≠ (.slice Ao28 t250.length co28 : Value).ownBlock ∧ some k_ ≠ (v262 : Value).ownBlock)) (by (with_reducible repeat (first | apply Kd.N_alloc | apply Kd.N_drewN | apply Kd.N_drew)); exact HO_11.out) hg hat)
                                            have n2_ := Aside0.mk (Kd.R_over' (by (with_reducible repeat (first | apply Kd.R_alloc | apply Kd.R_drewN | apply Kd.R_drew)); exact HO_14.out) (Kd.N_typed (by (with_reducible repeat (first | apply Kd.N_alloc | apply Kd.N_drewN | apply Kd.N_drew)); exact HO276.out)) (by decide) hg)
                                            have n3_ := Aside0.mk (Kd.V_afterv (ok := (fun k_ => some k_ ≠ (.slice Ao28 t250.length co28 : Value).ownBlock ∧ some k_ ≠ (v262 : Value).ownBlock)) (by (with_reducible repeat (first | apply Kd.V_alloc | apply Kd.V_drewN | apply Kd.V_drew)); exact HO273.out) hg hat)
                                            have n4_ := Aside0.mk (Kd.V_afterv (ok := (fun k_ => some k_ ≠ (.slice Ao28 t250.length co28 : Value).ownBlock ∧ some k_ ≠ (v262 : Value).ownBlock)) (by (with_reducible repeat (first | apply Kd.V_alloc | apply Kd.V_drewN | apply Kd.V_drew)); exact HO281.out) hg hat)
                                            have n5_ := Aside0.mk (hb)
                                            have n6_ := Aside0.mk (ho)
                                            clear HO_10
                                            clear HO_11
                                            clear HO_14
                                            clear HO273
                                            clear HO281
                                            clear HB
                                            clear HO276
                                            have HO_10 := n0_
                                            have HO_11 := n1_
                                            have HO_14 := n2_
                                            have HO273 := n3_
                                            have HO281 := n4_
                                            have HB := n5_
                                            have HO284 := n6_
                                            clear n0_ n1_ n2_ n3_ n4_ n5_ n6_
                                            clear ho hb hg hat
                                            refine hK.out _ _ trivial (fun hHeld => ?_)
                                            clear hK K
                                            refine norm_ (a' := ?_) ?_ ?_
                                            rotate_left
                                            · show Act.put _ (some 102) _ = _
                                              simp only [Act.put, List.setIfInBounds_toArray, List.set_cons_zero, List.set_cons_succ, i64_w, i32_w]
                                              rfl
                                            refine pure_ (i := 10) (N := some 16) (v := ?_) (a' := ?_) #[true, true, true, true, true, true, true, true, true, true, true] rfl rfl (any_of HT_.out (by kernel_rfl)) (fun _ _ _ h => h) (Or.inl ⟨by rfl, ?_⟩) ?_ ?_
                                            rotate_left
                                            · intro w'
                                              go_simp
                                              with_reducible rfl
                                            rotate_left
                                            · simp only [Act.put, List.setIfInBounds_toArray, List.set_cons_zero, List.set_cons_succ, i64_w, i32_w]
                                              rfl
                                            refine done_ (done_of HT_.out (by kernel_rfl)) ?_
                                            obtain ⟨Ao74, co74, eo74⟩ := Kd.R_slice HO_14.out
                                            subst eo74
                                            try go_wp2_with (first | ((with_reducible refine gate_callee (f := 23) rfl ?_); refine goesL_ (some 105) rfl rfl Try.func23 (by kernel_rfl) rfl #[.slice Ao74 x14_2.length co74] rfl (by (try simp only [List.map_toArray, List.map_cons, List.map_nil]); first | done | rfl | (simp only [List.length_drop, List.length_take]; rfl)) ?_; (with_reducible refine (scan_All.calls _ _ x14_2 t285 t286 t287 t288 _ ?side1 ?side2 A50.out).mono ?_); (case side1 => repeat (first | exact (Kd.R_reads' HO_14.out).2.2 | (with_reducible refine Kd.C_alloc ?_ _) | (with_reducible refine Kd.C_drewN ?_ _) | (with_reducible refine Kd.C_drew ?_))); (case side2 => exact (Kd.R_reads' HO_14.out).2.1); rintro e w75 ⟨v289, rfl, ho0, hb⟩; refine ⟨_, rfl, ?_⟩; have n0_ := Aside0.mk (Kd.R_below (by (with_reducible repeat (first | apply Kd.R_alloc | apply Kd.R_drewN | apply Kd.R_drew)); exact HO_10.out) hb); have n1_ := Aside0.mk (Kd.N_elder' (by (with_reducible repeat (first | apply Kd.N_alloc | apply Kd.N_drewN | apply Kd.N_drew)); exact HO_11.out) (by first | exact Kd.N_base ho0 | exact Kd.S_base ho0) hb); have n2_ := Aside0.mk (Kd.R_below (by (with_reducible repeat (first | apply Kd.R_alloc | apply Kd.R_drewN | apply Kd.R_drew)); exact HO_14.out) hb); have n3_ := Aside0.mk (Kd.V_elder' (by (with_reducible repeat (first | apply Kd.V_alloc | apply Kd.V_drewN | apply Kd.V_drew)); exact HO273.out) (by first | exact Kd.N_base ho0 | exact Kd.S_base ho0) hb); have n4_ := Aside0.mk (Kd.V_elder' (by (with_reducible repeat (first | apply Kd.V_alloc | apply Kd.V_drewN | apply Kd.V_drew)); exact HO281.out) (by first | exact Kd.N_base ho0 | exact Kd.S_base ho0) hb); have n5_ := Aside0.mk (Kd.N_elder' (by (with_reducible repeat (first | apply Kd.N_alloc | apply Kd.N_drewN | apply Kd.N_drew)); exact HO284.out) (by first | exact Kd.N_base ho0 | exact Kd.S_base ho0) hb); have n6_ := Aside0.mk (Kd.N_lower (Kd.N_mono (ok' := fun k_ => some k_ ≠ (.slice Ao28 t250.length co28 : Value).ownBlock ∧ some k_ ≠ (.slice (some ad256) t253.length co23 : Value).ownBlock ∧ some k_ ≠ (.slice Ao74 x14_2.length co74 : Value).ownBlock ∧ some k_ ≠ (v283 : Value).ownBlock) (Kd.S_N (Kd.S_bound ho0)) (fun k_ hk_ => ⟨(Kd.fresh' (Kd.R_lt (by (with_reducible repeat (first | apply Kd.R_alloc | apply Kd.R_drewN | apply Kd.R_drew)); exact HO_10.out)) k_ hk_.2.1), (Kd.fresh' (Kd.N_lt (by (with_reducible repeat (first | apply Kd.N_alloc | apply Kd.N_drewN | apply Kd.N_drew)); exact HO_11.out)) k_ hk_.2.1), (Kd.fresh' (Kd.R_lt (by (with_reducible repeat (first | apply Kd.R_alloc | apply Kd.R_drewN | apply Kd.R_drew)); exact HO_14.out)) k_ hk_.2.1), (Kd.fresh' (Kd.N_lt (by (with_reducible repeat (first | apply Kd.N_alloc | apply Kd.N_drewN | apply Kd.N_drew)); exact HO284.out)) k_ hk_.2.1)⟩)) (below_size (by repeat (first | (with_reducible first | exact HB.out | apply below_alloc | apply pw_below_drewN | apply below_drew1) | exact HB.out)))); have n7_ := Aside0.mk (below_step (by repeat (first | (with_reducible first | exact HB.out | apply below_alloc | apply pw_below_drewN | apply below_drew1) | exact HB.out)) hb); clear HO_10; clear HO_11; clear HO_14; clear HO273; clear HO281; clear HO284; clear HB; have HO_10 := n0_; have HO_11 := n1_; have HO_14 := n2_; have HO273 := n3_; have HO281 := n4_; have HO284 := n5_; have HO290 := n6_; have HB := n7_; clear n0_ n1_ n2_ n3_ n4_ n5_ n6_ n7_; (try clear hb); (try clear hb2); (try clear hk); (try clear hi); (try clear ho0); obtain ⟨Ao76, co76, eo76⟩ := Kd.N_slice HO290.out; subst eo76; obtain ⟨Ao77, co77, eo77⟩ := Kd.N_slice HO284.out; subst eo77) | (go_at_call 27; (with_reducible refine (souterrainref03_Same.calls k2 _ _ t285 _ _ y282 true _ ?side1 ?side2 ?side3 ?side4 A52.out).mono ?_); (case side1 => repeat (first | exact (Kd.N_reads' HO290.out).2.2 | (with_reducible refine Kd.C_alloc ?_ _) | (with_reducible refine Kd.C_drewN ?_ _) | (with_reducible refine Kd.C_drew ?_))); (case side2 => exact (Kd.N_reads' HO290.out).2.1); (case side3 => repeat (first | exact (Kd.N_reads' HO284.out).2.2 | (with_reducible refine Kd.C_alloc ?_ _) | (with_reducible refine Kd.C_drewN ?_ _) | (with_reducible refine Kd.C_drew ?_))); (case side4 => exact (Kd.N_reads' HO284.out).2.1); rintro e w' ⟨rfl, ⟨nd, rfl⟩⟩))
                                            go_ret
                                            exact ⟨by first | rfl | (simp [errW_none, errW_some] <;> rfl) | (simp only [← hji17, ← hji46]; first | rfl | (simp [errW_none, errW_some] <;> rfl)) | (simp [*, errW_none, errW_some] <;> rfl), by repeat (first | (with_reducible first | exact HB.out | apply below_alloc | apply pw_below_drewN | apply below_drew1) | exact HB.out)⟩
                                        · rw [if_neg c54] at H
                                          have c54b0 : (t286 == 1) = false := beq_eq_false_iff_ne.mpr c54
                                          have c54b1 : (t286 != 1) = true := bne_iff_ne.mpr c54
                                          obtain rfl := Option.some.inj H
                                          try go_wp2
                                          have n0_ := Aside0.mk (Kd.R_drew HO_10.out)
                                          have n1_ := Aside0.mk (Kd.N_drew HO_11.out)
                                          have n2_ := Aside0.mk (Kd.R_drew HO_14.out)
                                          have n3_ := Aside0.mk (below_drew1 HB.out)
                                          clear HO_10
                                          clear HO_11
                                          clear HO_14
                                          clear HB
                                          have HO_10 := n0_
                                          have HO_11 := n1_
                                          have HO_14 := n2_
                                          have HB := n3_
                                          clear n0_ n1_ n2_ n3_
                                          have q79 : (ji17 : Int) ≤ ((t253.length : Int) : Int) := of_decide_eq_true (by first | (with_reducible assumption) | assumption)
                                          obtain ⟨i079, hi079, _, hsz79, _⟩ := info_parts info41
                                          have hroom79 : t253.length ≤ co23 := (Kd.N_reads' HO_11.out).2.1
                                          have hC79 : Kd.F k41 _ _ (some ad256) t253.length t253 := (Kd.V_at (base := w.heap.size) (Kd.N_V HO_11.out)).2.2
                                          have hcut79 := cut_to (P := Try.prog) 37 41 .i64 Try.underlying37 hi079 (some ad256) t253.length co23 ji17 (of_decide_eq_true (by first | (with_reducible assumption) | assumption)) q79 hroom79
                                          have hr79 := Kd.F_take (m := (ji17 : Int).toNat) hC79 (by omega)
                                          have hy79 : y269.length = (ji17 : Int).toNat := (by rw [Ny269.out, List.length_take]; omega)
                                          rw [← Ny269.out] at hr79
                                          rw [← hy79] at hcut79
                                          have HO273 := Aside0.mk (show Kd.V k41 41 _ w.heap.size _ (.slice (some ad256) y269.length co23) y269 from Kd.V_mk (by omega) hr79)
                                          have HC273 := Aside0.mk (show y269.length ≤ co23 from by omega)
                                          clear hr79 hC79 hroom79 hi079 hsz79
                                          have KY79 := Aside0.mk hy79
                                          clear hy79
                                          replace q79 := eq_true q79
                                          have q80 : ((ji46) : Int) ≤ ((t253.length : Int) : Int) := of_decide_eq_true (by first | (with_reducible assumption) | assumption)
                                          obtain ⟨i080, hi080, _, hsz80, _⟩ := info_parts info41
                                          have hroom80 : t253.length ≤ co23 := (Kd.N_reads' HO_11.out).2.1
                                          have hC80 : Kd.F k41 _ _ (some ad256) t253.length t253 := (Kd.V_at (base := w.heap.size) (Kd.N_V HO_11.out)).2.2
                                          have q080 : (0 : Int) ≤ ((ji46) : Int) := of_decide_eq_true (by first | (with_reducible assumption) | assumption)
                                          have hcut80 := cut_from (P := Try.prog) 37 41 .i64 Try.underlying37 hi080 3 hsz80 (some ad256) t253.length co23 (ji46) q080 q80
                                          have hr80 := Kd.F_cut (m := ((ji46) : Int).toNat) (c := co23) hC80 (by omega) hroom80
                                          obtain ⟨A80, hA80⟩ : ∃ A1, A1 = (if co23 = ((ji46) : Int).toNat then (some ad256) else ((some ad256) : Option Addr).map (·.add (((ji46) : Int).toNat * 3))) := ⟨_, rfl⟩
                                          obtain ⟨c80, hc80⟩ : ∃ c1, c1 = co23 - ((ji46) : Int).toNat := ⟨_, rfl⟩
                                          have hy80 : y277.length = t253.length - ((ji46) : Int).toNat := (by rw [Ny277.out, List.length_drop] <;> omega)
                                          rw [show (t253).drop ((ji46) : Int).toNat = y277 from Ny277.out.symm] at hr80
                                          replace hr80 : Kd.F k41 _ _ A80 y277.length y277 := (by rw [hA80]; exact hr80)
                                          rw [← hy80, ← hA80, ← hc80] at hcut80
                                          have HO281 := Aside0.mk (show Kd.V k41 41 _ w.heap.size _ (.slice A80 y277.length c80) y277 from Kd.V_mk (by rw [hy80, hc80]; exact Nat.sub_le_sub_right hroom80 _) hr80)
                                          have HC281 := Aside0.mk (show y277.length ≤ c80 from by rw [hy80, hc80]; exact Nat.sub_le_sub_right hroom80 _)
                                          clear hr80 hC80 hroom80 hi080 hsz80 hc80
                                          have KY80 := Aside0.mk hy80
                                          have KA80 := Aside0.mk hA80
                                          clear hy80 hA80
                                          replace q80 := eq_true q80
                                          refine start_ (n := 11) (S := fun w' => True) (ds := []) #[false, false, false, false, false, false, false, false, false, false, false] (by kernel_rfl) rfl rfl trivial (fun hHeld => ?_); refine with_tabW souterrainlaw03_ScanSpoilt.tab15 souterrainlaw03_ScanSpoilt.bits15 (fun HT_ HW_ => ?_)
                                          generalize wr.drew = w78 at HO_10 HO_11 HO_14 HB HO273 HO281 hHeld ⊢
                                          refine pure_ (i := 1) (N := some 94) (v := ?_) (a' := ?_) #[false, true, false, false, false, false, false, false, false, false, false] rfl rfl (any_of HT_.out (by kernel_rfl)) (fun _ _ _ h => h) (Or.inl ⟨by rfl, ?_⟩) ?_ ?_
                                          rotate_left
                                          · intro w'
                                            go_simp
                                            with_reducible rfl
                                          rotate_left
                                          · simp only [Act.put, List.setIfInBounds_toArray, List.set_cons_zero, List.set_cons_succ, i64_w, i32_w]
                                            rfl
                                          refine pure_ (i := 2) (N := some 95) (v := ?_) (a' := ?_) #[false, true, true, false, false, false, false, false, false, false, false] rfl rfl (any_of HT_.out (by kernel_rfl)) (fun _ _ _ h => h) (Or.inl ⟨by rfl, ?_⟩) ?_ ?_
                                          rotate_left
                                          · intro w'
                                            go_simp
                                            with_reducible rfl
                                          rotate_left
                                          · simp only [Act.put, List.setIfInBounds_toArray, List.set_cons_zero, List.set_cons_succ, i64_w, i32_w]
                                            rfl
                                          refine pure_ (i := 3) (N := some 96) (v := ?_) (a' := ?_) #[false, true, true, true, false, false, false, false, false, false, false] rfl rfl (any_of HT_.out (by kernel_rfl)) (fun _ _ _ h => h) (Or.inl ⟨by rfl, ?_⟩) ?_ ?_
                                          rotate_left
                                          · intro w'
                                            go_simp
                                            with_reducible rfl
                                          rotate_left
                                          · simp only [Act.put, List.setIfInBounds_toArray, List.set_cons_zero, List.set_cons_succ, i64_w, i32_w]
                                            rfl
                                          refine pure_ (i := 5) (N := some 98) (v := ?_) (a' := ?_) #[false, true, true, true, false, true, false, false, false, false, false] rfl rfl (any_of HT_.out (by kernel_rfl)) (fun _ _ _ h => h) (Or.inl ⟨by rfl, ?_⟩) ?_ ?_
                                          rotate_left
                                          · intro w'
                                            go_simp
                                            with_reducible rfl
                                          rotate_left
                                          · simp only [Act.put, List.setIfInBounds_toArray, List.set_cons_zero, List.set_cons_succ, i64_w, i32_w]
                                            rfl
                                          refine pure_ (i := 6) (N := some 99) (v := ?_) (a' := ?_) #[false, true, true, true, false, true, true, false, false, false, false] rfl rfl (any_of HT_.out (by kernel_rfl)) (fun _ _ _ h => h) (Or.inl ⟨by rfl, ?_⟩) ?_ ?_
                                          rotate_left
                                          · intro w'
                                            go_simp
                                            with_reducible rfl
                                          rotate_left
                                          · simp only [Act.put, List.setIfInBounds_toArray, List.set_cons_zero, List.set_cons_succ, i64_w, i32_w]
                                            rfl
                                          refine pure_ (i := 7) (N := some 100) (v := ?_) (a' := ?_) #[false, true, true, true, false, true, true, true, false, false, false] rfl rfl (any_of HT_.out (by kernel_rfl)) (fun _ _ _ h => h) (Or.inl ⟨by rfl, ?_⟩) ?_ ?_
                                          rotate_left
                                          · intro w'
                                            go_simp
                                            with_reducible rfl
                                          rotate_left
                                          · simp only [Act.put, List.setIfInBounds_toArray, List.set_cons_zero, List.set_cons_succ, i64_w, i32_w]
                                            rfl
                                          refine pure_ (i := 8) (N := some 101) (v := ?_) (a' := ?_) #[false, true, true, true, false, true, true, true, true, false, false] rfl rfl (any_of HT_.out (by kernel_rfl)) (fun _ _ _ h => h) (Or.inl ⟨by rfl, ?_⟩) ?_ ?_
                                          rotate_left
                                          · intro w'
                                            go_simp
                                            with_reducible rfl
                                          rotate_left
                                          · simp only [Act.put, List.setIfInBounds_toArray, List.set_cons_zero, List.set_cons_succ, i64_w, i32_w]
                                            rfl
                                          refine one_ (i := 0) (N := some 93) #[true, true, true, true, false, true, true, true, true, false, false] rfl rfl (one_of HT_.out (by kernel_rfl)) (by decide) (fun K hK => ?_)
                                          refine Kd.N_lit_step k41 _ 41 ?hg (N' := 93) ?hd (xs := ([] : List (S41))) (inner := []) (ok := (fun k_ => some k_ ≠ (.slice Ao28 t250.length co28 : Value).ownBlock ∧ some k_ ≠ (.slice (some ad256) t253.length co23 : Value).ownBlock ∧ some k_ ≠ (v262 : Value).ownBlock)) (okp := (fun k_ => some k_ ≠ (.slice Ao28 t250.length co28 : Value).ownBlock ∧ some k_ ≠ (.slice (some ad256) t253.length co23 : Value).ownBlock ∧ some k_ ≠ (v262 : Value).ownBlock)) ?hr ?hp (fun _ hk => hk) ((show ∀ k_, w78.heap.size ≤ k_ → (fun k_ => some k_ ≠ (.slice Ao28 t250.length co28 : Value).ownBlock ∧ some k_ ≠ (.slice (some ad256) t253.length co23 : Value).ownBlock ∧ some k_ ≠ (v262 : Value).ownBlock) k_ from fun k_ hk => ⟨Kd.fresh' (Kd.R_lt (by (with_reducible repeat (first | apply Kd.R_alloc | apply Kd.R_drewN | apply Kd.R_drew)); exact HO_10.out)) k_ hk, Kd.fresh' (Kd.N_lt (by (with_reducible repeat (first | apply Kd.N_alloc | apply Kd.N_drewN | apply Kd.N_drew)); exact HO_11.out)) k_ hk, Kd.fresh' (Kd.R_lt (by (with_reducible repeat (first | apply Kd.R_alloc | apply Kd.R_drewN | apply Kd.R_drew)); exact HO_14.out)) k_ hk⟩) _ (Nat.le_refl _)) (Below.refl _ _) (Nat.le_refl _) (by simp) ?_; (case hd => rfl); (case hg => rfl); (case hr => first | (go_simp; done) | (go_simp; rfl)); (case hp => exact (Reps.none _ _))
                                          intro v267 w81 ho82 hb hg_ hnew_
                                          clear hg_ hnew_
                                          (first | rw [← Ny266.out] at ho82 | (simp only [Int.reduceToNat] at ho82; rw [← Ny266.out] at ho82))
                                          have n0_ := Aside0.mk (Kd.R_below (by (with_reducible repeat (first | apply Kd.R_alloc | apply Kd.R_drewN | apply Kd.R_drew)); exact HO_10.out) hb)
                                          have n1_ := Aside0.mk (Kd.N_elder' (by (with_reducible repeat (first | apply Kd.N_alloc | apply Kd.N_drewN | apply Kd.N_drew)); exact HO_11.out) (by first | exact Kd.N_base ho82 | exact Kd.S_base ho82) hb)
                                          have n2_ := Aside0.mk (Kd.R_below (by (with_reducible repeat (first | apply Kd.R_alloc | apply Kd.R_drewN | apply Kd.R_drew)); exact HO_14.out) hb)
                                          have n3_ := Aside0.mk (Kd.V_elder' (by (with_reducible repeat (first | apply Kd.V_alloc | apply Kd.V_drewN | apply Kd.V_drew)); exact HO273.out) (by first | exact Kd.N_base ho82 | exact Kd.S_base ho82) hb)
                                          have n4_ := Aside0.mk (Kd.V_elder' (by (with_reducible repeat (first | apply Kd.V_alloc | apply Kd.V_drewN | apply Kd.V_drew)); exact HO281.out) (by first | exact Kd.N_base ho82 | exact Kd.S_base ho82) hb)
                                          have n5_ := Aside0.mk (Kd.N_lower ho82 (below_size (by repeat (first | (with_reducible first | exact HB.out | apply below_alloc | apply pw_below_drewN | apply below_drew1) | exact HB.out))))
                                          have n6_ := Aside0.mk (below_step (by repeat (first | (with_reducible first | exact HB.out | apply below_alloc | apply pw_below_drewN | apply below_drew1) | exact HB.out)) hb)
                                          clear HO_10
                                          clear HO_11
                                          clear HO_14
                                          clear HO273
                                          clear HO281
                                          clear HB
                                          have HO_10 := n0_
                                          have HO_11 := n1_
                                          have HO_14 := n2_
                                          have HO273 := n3_
                                          have HO281 := n4_
                                          have HO268 := n5_
                                          have HB := n6_
                                          clear n0_ n1_ n2_ n3_ n4_ n5_ n6_
                                          clear hb ho82
                                          refine hK.out _ _ trivial (fun hHeld => ?_)
                                          clear hK K
                                          refine norm_ (a' := ?_) ?_ ?_
                                          rotate_left
                                          · show Act.put _ (some 93) _ = _
                                            simp only [Act.put, List.setIfInBounds_toArray, List.set_cons_zero, List.set_cons_succ, i64_w, i32_w]
                                            rfl
                                          refine one_ (i := 4) (N := some 97) #[true, true, true, true, true, true, true, true, true, false, false] rfl rfl (one_of HT_.out (by kernel_rfl)) (by decide) (fun K hK => ?_)
                                          refine Kd.N_append_rows_step k41 (w0 := w) w.heap.size (by rfl) (.tmp 93) (.tmp 96) 37 41 (.agg #[(.int .i64 0), (.int .i64 0), (.slice none 0 0)]) 40 rfl Try.underlying37 info41 rfl (by decide) (by omega) v267 y266 y269 _ _ _ (fun k_ => some k_ ≠ (.slice Ao28 t250.length co28 : Value).ownBlock ∧ some k_ ≠ (v262 : Value).ownBlock) (fun k_ => ((fun k_ => some k_ ≠ (.slice Ao28 t250.length co28 : Value).ownBlock ∧ some k_ ≠ (v262 : Value).ownBlock)) k_ ∧ some k_ ≠ (v267 : Value).ownBlock) rfl rfl ?aO ?aR (fun _ hk => hk) ?aF ?aB ?aS ?aL ?_
                                          (case aR => exact (by skip; exact Kd.V_F (Kd.V_mono (ok' := (fun k_ => ((fun k_ => some k_ ≠ (.slice Ao28 t250.length co28 : Value).ownBlock ∧ some k_ ≠ (v262 : Value).ownBlock)) k_ ∧ some k_ ≠ (v267 : Value).ownBlock)) (HO273.out) (fun k_ hk => ⟨⟨hk.1.1, hk.1.2⟩, hk.2⟩))))
                                          (case aB => exact (by repeat (first | (with_reducible first | exact HB.out | apply below_alloc | apply pw_below_drewN | apply below_drew1) | exact HB.out)))
                                          (case aF => exact (fun k_ hk => ⟨Kd.fresh' (Kd.R_lt (by (with_reducible repeat (first | apply Kd.R_alloc | apply Kd.R_drewN | apply Kd.R_drew)); exact HO_10.out)) k_ hk, Kd.fresh' (Kd.R_lt (by (with_reducible repeat (first | apply Kd.R_alloc | apply Kd.R_drewN | apply Kd.R_drew)); exact HO_14.out)) k_ hk⟩))
                                          (case aO => exact (by (with_reducible repeat (first | apply Kd.N_alloc | apply Kd.N_drewN | apply Kd.N_drew)); exact Kd.N_mono HO268.out (fun _ hk => ⟨hk.1, hk.2.2⟩)))
                                          (case aS => exact (below_size (by repeat (first | (with_reducible first | exact HB.out | apply below_alloc | apply pw_below_drewN | apply below_drew1) | exact HB.out))))
                                          (case aL => have := LMc45.out; omega)
                                          intro v275 w83 ho hb hg hat
                                          rw [← Ny274.out] at ho
                                          have n0_ := Aside0.mk (Kd.R_over' (by (with_reducible repeat (first | apply Kd.R_alloc | apply Kd.R_drewN | apply Kd.R_drew)); exact HO_10.out) (Kd.N_typed (by (with_reducible repeat (first | apply Kd.N_alloc | apply Kd.N_drewN | apply Kd.N_drew)); exact HO268.out)) (by decide) hg)
                                          have n1_ := Aside0.mk (Kd.N_afterv (ok := (fun k_ => some k_ ≠ (.slice Ao28 t250.length co28 : Value).ownBlock ∧ some k_ ≠ (v262 : Value).ownBlock)) (by (with_reducible repeat (first | apply Kd.N_alloc | apply Kd.N_drewN | apply Kd.N_drew)); exact HO_11.out) hg hat)
                                          have n2_ := Aside0.mk (Kd.R_over' (by (with_reducible repeat (first | apply Kd.R_alloc | apply Kd.R_drewN | apply Kd.R_drew)); exact HO_14.out) (Kd.N_typed (by (with_reducible repeat (first | apply Kd.N_alloc | apply Kd.N_drewN | apply Kd.N_drew)); exact HO268.out)) (by decide) hg)
                                          have n3_ := Aside0.mk (Kd.V_afterv (ok := (fun k_ => some k_ ≠ (.slice Ao28 t250.length co28 : Value).ownBlock ∧ some k_ ≠ (v262 : Value).ownBlock)) (by (with_reducible repeat (first | apply Kd.V_alloc | apply Kd.V_drewN | apply Kd.V_drew)); exact HO273.out) hg hat)
                                          have n4_ := Aside0.mk (Kd.V_afterv (ok := (fun k_ => some k_ ≠ (.slice Ao28 t250.length co28 : Value).ownBlock ∧ some k_ ≠ (v262 : Value).ownBlock)) (by (with_reducible repeat (first | apply Kd.V_alloc | apply Kd.V_drewN | apply Kd.V_drew)); exact HO281.out) hg hat)
                                          have n5_ := Aside0.mk (hb)
                                          have n6_ := Aside0.mk (ho)
                                          clear HO_10
                                          clear HO_11
                                          clear HO_14
                                          clear HO273
                                          clear HO281
                                          clear HB
                                          clear HO268
                                          have HO_10 := n0_
                                          have HO_11 := n1_
                                          have HO_14 := n2_
                                          have HO273 := n3_
                                          have HO281 := n4_
                                          have HB := n5_
                                          have HO276 := n6_
                                          clear n0_ n1_ n2_ n3_ n4_ n5_ n6_
                                          clear ho hb hg hat
                                          refine hK.out _ _ trivial (fun hHeld => ?_)
                                          clear hK K
                                          refine norm_ (a' := ?_) ?_ ?_
                                          rotate_left
                                          · show Act.put _ (some 97) _ = _
                                            simp only [Act.put, List.setIfInBounds_toArray, List.set_cons_zero, List.set_cons_succ, i64_w, i32_w]
                                            rfl
                                          refine one_ (i := 9) (N := some 102) #[true, true, true, true, true, true, true, true, true, true, false] rfl rfl (one_of HT_.out (by kernel_rfl)) (by decide) (fun K hK => ?_)
                                          refine Kd.N_append_rows_step k41 (w0 := w) w.heap.size (by rfl) (.tmp 97) (.tmp 101) 37 41 (.agg #[(.int .i64 0), (.int .i64 0), (.slice none 0 0)]) 40 rfl Try.underlying37 info41 rfl (by decide) (by omega) v275 y274 y277 _ _ _ (fun k_ => some k_ ≠ (.slice Ao28 t250.length co28 : Value).ownBlock ∧ some k_ ≠ (v262 : Value).ownBlock) (fun k_ => ((fun k_ => some k_ ≠ (.slice Ao28 t250.length co28 : Value).ownBlock ∧ some k_ ≠ (v262 : Value).ownBlock)) k_ ∧ some k_ ≠ (v275 : Value).ownBlock) rfl rfl ?aO ?aR (fun _ hk => hk) ?aF ?aB ?aS ?aL ?_
                                          (case aR => exact (by skip; exact Kd.V_F (Kd.V_mono (ok' := (fun k_ => ((fun k_ => some k_ ≠ (.slice Ao28 t250.length co28 : Value).ownBlock ∧ some k_ ≠ (v262 : Value).ownBlock)) k_ ∧ some k_ ≠ (v275 : Value).ownBlock)) (HO281.out) (fun k_ hk => ⟨⟨hk.1.1, hk.1.2⟩, hk.2⟩))))
                                          (case aB => exact (by repeat (first | (with_reducible first | exact HB.out | apply below_alloc | apply pw_below_drewN | apply below_drew1) | exact HB.out)))
                                          (case aF => exact (fun k_ hk => ⟨Kd.fresh' (Kd.R_lt (by (with_reducible repeat (first | apply Kd.R_alloc | apply Kd.R_drewN | apply Kd.R_drew)); exact HO_10.out)) k_ hk, Kd.fresh' (Kd.R_lt (by (with_reducible repeat (first | apply Kd.R_alloc | apply Kd.R_drewN | apply Kd.R_drew)); exact HO_14.out)) k_ hk⟩))
                                          (case aO => exact (by (with_reducible repeat (first | apply Kd.N_alloc | apply Kd.N_drewN | apply Kd.N_drew)); exact HO276.out))
                                          (case aS => exact (below_size (by repeat (first | (with_reducible first | exact HB.out | apply below_alloc | apply pw_below_drewN | apply below_drew1) | exact HB.out))))
                                          (case aL => have := LMc49.out; omega)
                                          intro v283 w84 ho hb hg hat
                                          rw [← Ny282.out] at ho
                                          have n0_ := Aside0.mk (Kd.R_over' (by (with_reducible repeat (first | apply Kd.R_alloc | apply Kd.R_drewN | apply Kd.R_drew)); exact HO_10.out) (Kd.N_typed (by (with_reducible repeat (first | apply Kd.N_alloc | apply Kd.N_drewN | apply Kd.N_drew)); exact HO276.out)) (by decide) hg)
                                          have n1_ := Aside0.mk (Kd.N_afterv (ok := (fun k_ => some k_ ≠ (.slice Ao28 t250.length co28 : Value).ownBlock ∧ some k_ ≠ (v262 : Value).ownBlock)) (by (with_reducible repeat (first | apply Kd.N_alloc | apply Kd.N_drewN | apply Kd.N_drew)); exact HO_11.out) hg hat)
                                          have n2_ := Aside0.mk (Kd.R_over' (by (with_reducible repeat (first | apply Kd.R_alloc | apply Kd.R_drewN | apply Kd.R_drew)); exact HO_14.out) (Kd.N_typed (by (with_reducible repeat (first | apply Kd.N_alloc | apply Kd.N_drewN | apply Kd.N_drew)); exact HO276.out)) (by decide) hg)
                                          have n3_ := Aside0.mk (Kd.V_afterv (ok := (fun k_ => some k_ ≠ (.slice Ao28 t250.length co28 : Value).ownBlock ∧ some k_ ≠ (v262 : Value).ownBlock)) (by (with_reducible repeat (first | apply Kd.V_alloc | apply Kd.V_drewN | apply Kd.V_drew)); exact HO273.out) hg hat)
                                          have n4_ := Aside0.mk (Kd.V_afterv (ok := (fun k_ => some k_ ≠ (.slice Ao28 t250.length co28 : Value).ownBlock ∧ some k_ ≠ (v262 : Value).ownBlock)) (by (with_reducible repeat (first | apply Kd.V_alloc | apply Kd.V_drewN | apply Kd.V_drew)); exact HO281.out) hg hat)
                                          have n5_ := Aside0.mk (hb)
                                          have n6_ := Aside0.mk (ho)
                                          clear HO_10
                                          clear HO_11
                                          clear HO_14
                                          clear HO273
                                          clear HO281
                                          clear HB
                                          clear HO276
                                          have HO_10 := n0_
                                          have HO_11 := n1_
                                          have HO_14 := n2_
                                          have HO273 := n3_
                                          have HO281 := n4_
                                          have HB := n5_
                                          have HO284 := n6_
                                          clear n0_ n1_ n2_ n3_ n4_ n5_ n6_
                                          clear ho hb hg hat
                                          refine hK.out _ _ trivial (fun hHeld => ?_)
                                          clear hK K
                                          refine norm_ (a' := ?_) ?_ ?_
                                          rotate_left
                                          · show Act.put _ (some 102) _ = _
                                            simp only [Act.put, List.setIfInBounds_toArray, List.set_cons_zero, List.set_cons_succ, i64_w, i32_w]
                                            rfl
                                          refine pure_ (i := 10) (N := some 16) (v := ?_) (a' := ?_) #[true, true, true, true, true, true, true, true, true, true, true] rfl rfl (any_of HT_.out (by kernel_rfl)) (fun _ _ _ h => h) (Or.inl ⟨by rfl, ?_⟩) ?_ ?_
                                          rotate_left
                                          · intro w'
                                            go_simp
                                            with_reducible rfl
                                          rotate_left
                                          · simp only [Act.put, List.setIfInBounds_toArray, List.set_cons_zero, List.set_cons_succ, i64_w, i32_w]
                                            rfl
                                          refine done_ (done_of HT_.out (by kernel_rfl)) ?_
                                          obtain ⟨Ao85, co85, eo85⟩ := Kd.R_slice HO_14.out
                                          subst eo85
                                          try go_wp2_with (first | ((with_reducible refine gate_callee (f := 23) rfl ?_); refine goesL_ (some 105) rfl rfl Try.func23 (by kernel_rfl) rfl #[.slice Ao85 x14_2.length co85] rfl (by (try simp only [List.map_toArray, List.map_cons, List.map_nil]); first | done | rfl | (simp only [List.length_drop, List.length_take]; rfl)) ?_; (with_reducible refine (scan_All.calls _ _ x14_2 t285 t286 t287 t288 _ ?side1 ?side2 A50.out).mono ?_); (case side1 => repeat (first | exact (Kd.R_reads' HO_14.out).2.2 | (with_reducible refine Kd.C_alloc ?_ _) | (with_reducible refine Kd.C_drewN ?_ _) | (with_reducible refine Kd.C_drew ?_))); (case side2 => exact (Kd.R_reads' HO_14.out).2.1); rintro e w86 ⟨v289, rfl, ho0, hb⟩; refine ⟨_, rfl, ?_⟩; have n0_ := Aside0.mk (Kd.R_below (by (with_reducible repeat (first | apply Kd.R_alloc | apply Kd.R_drewN | apply Kd.R_drew)); exact HO_10.out) hb); have n1_ := Aside0.mk (Kd.N_elder' (by (with_reducible repeat (first | apply Kd.N_alloc | apply Kd.N_drewN | apply Kd.N_drew)); exact HO_11.out) (by first | exact Kd.N_base ho0 | exact Kd.S_base ho0) hb); have n2_ := Aside0.mk (Kd.R_below (by (with_reducible repeat (first | apply Kd.R_alloc | apply Kd.R_drewN | apply Kd.R_drew)); exact HO_14.out) hb); have n3_ := Aside0.mk (Kd.V_elder' (by (with_reducible repeat (first | apply Kd.V_alloc | apply Kd.V_drewN | apply Kd.V_drew)); exact HO273.out) (by first | exact Kd.N_base ho0 | exact Kd.S_base ho0) hb); have n4_ := Aside0.mk (Kd.V_elder' (by (with_reducible repeat (first | apply Kd.V_alloc | apply Kd.V_drewN | apply Kd.V_drew)); exact HO281.out) (by first | exact Kd.N_base ho0 | exact Kd.S_base ho0) hb); have n5_ := Aside0.mk (Kd.N_elder' (by (with_reducible repeat (first | apply Kd.N_alloc | apply Kd.N_drewN | apply Kd.N_drew)); exact HO284.out) (by first | exact Kd.N_base ho0 | exact Kd.S_base ho0) hb); have n6_ := Aside0.mk (Kd.N_lower (Kd.N_mono (ok' := fun k_ => some k_ ≠ (.slice Ao28 t250.length co28 : Value).ownBlock ∧ some k_ ≠ (.slice (some ad256) t253.length co23 : Value).ownBlock ∧ some k_ ≠ (.slice Ao85 x14_2.length co85 : Value).ownBlock ∧ some k_ ≠ (v283 : Value).ownBlock) (Kd.S_N (Kd.S_bound ho0)) (fun k_ hk_ => ⟨(Kd.fresh' (Kd.R_lt (by (with_reducible repeat (first | apply Kd.R_alloc | apply Kd.R_drewN | apply Kd.R_drew)); exact HO_10.out)) k_ hk_.2.1), (Kd.fresh' (Kd.N_lt (by (with_reducible repeat (first | apply Kd.N_alloc | apply Kd.N_drewN | apply Kd.N_drew)); exact HO_11.out)) k_ hk_.2.1), (Kd.fresh' (Kd.R_lt (by (with_reducible repeat (first | apply Kd.R_alloc | apply Kd.R_drewN | apply Kd.R_drew)); exact HO_14.out)) k_ hk_.2.1), (Kd.fresh' (Kd.N_lt (by (with_reducible repeat (first | apply Kd.N_alloc | apply Kd.N_drewN | apply Kd.N_drew)); exact HO284.out)) k_ hk_.2.1)⟩)) (below_size (by repeat (first | (with_reducible first | exact HB.out | apply below_alloc | apply pw_below_drewN | apply below_drew1) | exact HB.out)))); have n7_ := Aside0.mk (below_step (by repeat (first | (with_reducible first | exact HB.out | apply below_alloc | apply pw_below_drewN | apply below_drew1) | exact HB.out)) hb); clear HO_10; clear HO_11; clear HO_14; clear HO273; clear HO281; clear HO284; clear HB; have HO_10 := n0_; have HO_11 := n1_; have HO_14 := n2_; have HO273 := n3_; have HO281 := n4_; have HO284 := n5_; have HO290 := n6_; have HB := n7_; clear n0_ n1_ n2_ n3_ n4_ n5_ n6_ n7_; (try clear hb); (try clear hb2); (try clear hk); (try clear hi); (try clear ho0); obtain ⟨Ao87, co87, eo87⟩ := Kd.N_slice HO290.out; subst eo87; obtain ⟨Ao88, co88, eo88⟩ := Kd.N_slice HO284.out; subst eo88) | (go_at_call 27; (with_reducible refine (souterrainref03_Same.calls k2 _ _ t285 _ _ y282 true _ ?side1 ?side2 ?side3 ?side4 A52.out).mono ?_); (case side1 => repeat (first | exact (Kd.N_reads' HO290.out).2.2 | (with_reducible refine Kd.C_alloc ?_ _) | (with_reducible refine Kd.C_drewN ?_ _) | (with_reducible refine Kd.C_drew ?_))); (case side2 => exact (Kd.N_reads' HO290.out).2.1); (case side3 => repeat (first | exact (Kd.N_reads' HO284.out).2.2 | (with_reducible refine Kd.C_alloc ?_ _) | (with_reducible refine Kd.C_drewN ?_ _) | (with_reducible refine Kd.C_drew ?_))); (case side4 => exact (Kd.N_reads' HO284.out).2.1); rintro e w' ⟨rfl, ⟨nd, rfl⟩⟩))
                                          go_ret
                                          exact ⟨by first | rfl | (simp [errW_none, errW_some] <;> rfl) | (simp only [← hji17, ← hji46]; first | rfl | (simp [errW_none, errW_some] <;> rfl)) | (simp [*, errW_none, errW_some] <;> rfl), by repeat (first | (with_reducible first | exact HB.out | apply below_alloc | apply pw_below_drewN | apply below_drew1) | exact HB.out)⟩
                                      · replace c53 := Bool.eq_false_iff.mpr c53
                                        subst c53
                                        have H1 : (some false) = some r := by rw [if_neg (show ¬ (false = true) by decide)] at H; exact H
                                        clear H
                                        have H := H1
                                        clear H1
                                        obtain rfl := Option.some.inj H
                                        try go_wp2
                                        have n0_ := Aside0.mk (Kd.R_drew HO_10.out)
                                        have n1_ := Aside0.mk (Kd.N_drew HO_11.out)
                                        have n2_ := Aside0.mk (Kd.R_drew HO_14.out)
                                        have n3_ := Aside0.mk (below_drew1 HB.out)
                                        clear HO_10
                                        clear HO_11
                                        clear HO_14
                                        clear HB
                                        have HO_10 := n0_
                                        have HO_11 := n1_
                                        have HO_14 := n2_
                                        have HB := n3_
                                        clear n0_ n1_ n2_ n3_
                                        have q90 : (ji17 : Int) ≤ ((t253.length : Int) : Int) := of_decide_eq_true (by first | (with_reducible assumption) | assumption)
                                        obtain ⟨i090, hi090, _, hsz90, _⟩ := info_parts info41
                                        have hroom90 : t253.length ≤ co23 := (Kd.N_reads' HO_11.out).2.1
                                        have hC90 : Kd.F k41 _ _ (some ad256) t253.length t253 := (Kd.V_at (base := w.heap.size) (Kd.N_V HO_11.out)).2.2
                                        have hcut90 := cut_to (P := Try.prog) 37 41 .i64 Try.underlying37 hi090 (some ad256) t253.length co23 ji17 (of_decide_eq_true (by first | (with_reducible assumption) | assumption)) q90 hroom90
                                        have hr90 := Kd.F_take (m := (ji17 : Int).toNat) hC90 (by omega)
                                        have hy90 : y269.length = (ji17 : Int).toNat := (by rw [Ny269.out, List.length_take]; omega)
                                        rw [← Ny269.out] at hr90
                                        rw [← hy90] at hcut90
                                        have HO273 := Aside0.mk (show Kd.V k41 41 _ w.heap.size _ (.slice (some ad256) y269.length co23) y269 from Kd.V_mk (by omega) hr90)
                                        have HC273 := Aside0.mk (show y269.length ≤ co23 from by omega)
                                        clear hr90 hC90 hroom90 hi090 hsz90
                                        have KY90 := Aside0.mk hy90
                                        clear hy90
                                        replace q90 := eq_true q90
                                        have q91 : ((ji46) : Int) ≤ ((t253.length : Int) : Int) := of_decide_eq_true (by first | (with_reducible assumption) | assumption)
                                        obtain ⟨i091, hi091, _, hsz91, _⟩ := info_parts info41
                                        have hroom91 : t253.length ≤ co23 := (Kd.N_reads' HO_11.out).2.1
                                        have hC91 : Kd.F k41 _ _ (some ad256) t253.length t253 := (Kd.V_at (base := w.heap.size) (Kd.N_V HO_11.out)).2.2
                                        have q091 : (0 : Int) ≤ ((ji46) : Int) := of_decide_eq_true (by first | (with_reducible assumption) | assumption)
                                        have hcut91 := cut_from (P := Try.prog) 37 41 .i64 Try.underlying37 hi091 3 hsz91 (some ad256) t253.length co23 (ji46) q091 q91
                                        have hr91 := Kd.F_cut (m := ((ji46) : Int).toNat) (c := co23) hC91 (by omega) hroom91
                                        obtain ⟨A91, hA91⟩ : ∃ A1, A1 = (if co23 = ((ji46) : Int).toNat then (some ad256) else ((some ad256) : Option Addr).map (·.add (((ji46) : Int).toNat * 3))) := ⟨_, rfl⟩
                                        obtain ⟨c91, hc91⟩ : ∃ c1, c1 = co23 - ((ji46) : Int).toNat := ⟨_, rfl⟩
                                        have hy91 : y277.length = t253.length - ((ji46) : Int).toNat := (by rw [Ny277.out, List.length_drop] <;> omega)
                                        rw [show (t253).drop ((ji46) : Int).toNat = y277 from Ny277.out.symm] at hr91
                                        replace hr91 : Kd.F k41 _ _ A91 y277.length y277 := (by rw [hA91]; exact hr91)
                                        rw [← hy91, ← hA91, ← hc91] at hcut91
                                        have HO281 := Aside0.mk (show Kd.V k41 41 _ w.heap.size _ (.slice A91 y277.length c91) y277 from Kd.V_mk (by rw [hy91, hc91]; exact Nat.sub_le_sub_right hroom91 _) hr91)
                                        have HC281 := Aside0.mk (show y277.length ≤ c91 from by rw [hy91, hc91]; exact Nat.sub_le_sub_right hroom91 _)
                                        clear hr91 hC91 hroom91 hi091 hsz91 hc91
                                        have KY91 := Aside0.mk hy91
                                        have KA91 := Aside0.mk hA91
                                        clear hy91 hA91
                                        replace q91 := eq_true q91
                                        refine start_ (n := 11) (S := fun w' => True) (ds := []) #[false, false, false, false, false, false, false, false, false, false, false] (by kernel_rfl) rfl rfl trivial (fun hHeld => ?_); refine with_tabW souterrainlaw03_ScanSpoilt.tab15 souterrainlaw03_ScanSpoilt.bits15 (fun HT_ HW_ => ?_)
                                        generalize wr.drew = w89 at HO_10 HO_11 HO_14 HB HO273 HO281 hHeld ⊢
                                        refine pure_ (i := 1) (N := some 94) (v := ?_) (a' := ?_) #[false, true, false, false, false, false, false, false, false, false, false] rfl rfl (any_of HT_.out (by kernel_rfl)) (fun _ _ _ h => h) (Or.inl ⟨by rfl, ?_⟩) ?_ ?_
                                        rotate_left
                                        · intro w'
                                          go_simp
                                          with_reducible rfl
                                        rotate_left
                                        · simp only [Act.put, List.setIfInBounds_toArray, List.set_cons_zero, List.set_cons_succ, i64_w, i32_w]
                                          rfl
                                        refine pure_ (i := 2) (N := some 95) (v := ?_) (a' := ?_) #[false, true, true, false, false, false, false, false, false, false, false] rfl rfl (any_of HT_.out (by kernel_rfl)) (fun _ _ _ h => h) (Or.inl ⟨by rfl, ?_⟩) ?_ ?_
                                        rotate_left
                                        · intro w'
                                          go_simp
                                          with_reducible rfl
                                        rotate_left
                                        · simp only [Act.put, List.setIfInBounds_toArray, List.set_cons_zero, List.set_cons_succ, i64_w, i32_w]
                                          rfl
                                        refine pure_ (i := 3) (N := some 96) (v := ?_) (a' := ?_) #[false, true, true, true, false, false, false, false, false, false, false] rfl rfl (any_of HT_.out (by kernel_rfl)) (fun _ _ _ h => h) (Or.inl ⟨by rfl, ?_⟩) ?_ ?_
                                        rotate_left
                                        · intro w'
                                          go_simp
                                          with_reducible rfl
                                        rotate_left
                                        · simp only [Act.put, List.setIfInBounds_toArray, List.set_cons_zero, List.set_cons_succ, i64_w, i32_w]
                                          rfl
                                        refine pure_ (i := 5) (N := some 98) (v := ?_) (a' := ?_) #[false, true, true, true, false, true, false, false, false, false, false] rfl rfl (any_of HT_.out (by kernel_rfl)) (fun _ _ _ h => h) (Or.inl ⟨by rfl, ?_⟩) ?_ ?_
                                        rotate_left
                                        · intro w'
                                          go_simp
                                          with_reducible rfl
                                        rotate_left
                                        · simp only [Act.put, List.setIfInBounds_toArray, List.set_cons_zero, List.set_cons_succ, i64_w, i32_w]
                                          rfl
                                        refine pure_ (i := 6) (N := some 99) (v := ?_) (a' := ?_) #[false, true, true, true, false, true, true, false, false, false, false] rfl rfl (any_of HT_.out (by kernel_rfl)) (fun _ _ _ h => h) (Or.inl ⟨by rfl, ?_⟩) ?_ ?_
                                        rotate_left
                                        · intro w'
                                          go_simp
                                          with_reducible rfl
                                        rotate_left
                                        · simp only [Act.put, List.setIfInBounds_toArray, List.set_cons_zero, List.set_cons_succ, i64_w, i32_w]
                                          rfl
                                        refine pure_ (i := 7) (N := some 100) (v := ?_) (a' := ?_) #[false, true, true, true, false, true, true, true, false, false, false] rfl rfl (any_of HT_.out (by kernel_rfl)) (fun _ _ _ h => h) (Or.inl ⟨by rfl, ?_⟩) ?_ ?_
                                        rotate_left
                                        · intro w'
                                          go_simp
                                          with_reducible rfl
                                        rotate_left
                                        · simp only [Act.put, List.setIfInBounds_toArray, List.set_cons_zero, List.set_cons_succ, i64_w, i32_w]
                                          rfl
                                        refine pure_ (i := 8) (N := some 101) (v := ?_) (a' := ?_) #[false, true, true, true, false, true, true, true, true, false, false] rfl rfl (any_of HT_.out (by kernel_rfl)) (fun _ _ _ h => h) (Or.inl ⟨by rfl, ?_⟩) ?_ ?_
                                        rotate_left
                                        · intro w'
                                          go_simp
                                          with_reducible rfl
                                        rotate_left
                                        · simp only [Act.put, List.setIfInBounds_toArray, List.set_cons_zero, List.set_cons_succ, i64_w, i32_w]
                                          rfl
                                        refine one_ (i := 0) (N := some 93) #[true, true, true, true, false, true, true, true, true, false, false] rfl rfl (one_of HT_.out (by kernel_rfl)) (by decide) (fun K hK => ?_)
                                        refine Kd.N_lit_step k41 _ 41 ?hg (N' := 93) ?hd (xs := ([] : List (S41))) (inner := []) (ok := (fun k_ => some k_ ≠ (.slice Ao28 t250.length co28 : Value).ownBlock ∧ some k_ ≠ (.slice (some ad256) t253.length co23 : Value).ownBlock ∧ some k_ ≠ (v262 : Value).ownBlock)) (okp := (fun k_ => some k_ ≠ (.slice Ao28 t250.length co28 : Value).ownBlock ∧ some k_ ≠ (.slice (some ad256) t253.length co23 : Value).ownBlock ∧ some k_ ≠ (v262 : Value).ownBlock)) ?hr ?hp (fun _ hk => hk) ((show ∀ k_, w89.heap.size ≤ k_ → (fun k_ => some k_ ≠ (.slice Ao28 t250.length co28 : Value).ownBlock ∧ some k_ ≠ (.slice (some ad256) t253.length co23 : Value).ownBlock ∧ some k_ ≠ (v262 : Value).ownBlock) k_ from fun k_ hk => ⟨Kd.fresh' (Kd.R_lt (by (with_reducible repeat (first | apply Kd.R_alloc | apply Kd.R_drewN | apply Kd.R_drew)); exact HO_10.out)) k_ hk, Kd.fresh' (Kd.N_lt (by (with_reducible repeat (first | apply Kd.N_alloc | apply Kd.N_drewN | apply Kd.N_drew)); exact HO_11.out)) k_ hk, Kd.fresh' (Kd.R_lt (by (with_reducible repeat (first | apply Kd.R_alloc | apply Kd.R_drewN | apply Kd.R_drew)); exact HO_14.out)) k_ hk⟩) _ (Nat.le_refl _)) (Below.refl _ _) (Nat.le_refl _) (by simp) ?_; (case hd => rfl); (case hg => rfl); (case hr => first | (go_simp; done) | (go_simp; rfl)); (case hp => exact (Reps.none _ _))
                                        intro v267 w92 ho93 hb hg_ hnew_
                                        clear hg_ hnew_
                                        (first | rw [← Ny266.out] at ho93 | (simp only [Int.reduceToNat] at ho93; rw [← Ny266.out] at ho93))
                                        have n0_ := Aside0.mk (Kd.R_below (by (with_reducible repeat (first | apply Kd.R_alloc | apply Kd.R_drewN | apply Kd.R_drew)); exact HO_10.out) hb)
                                        have n1_ := Aside0.mk (Kd.N_elder' (by (with_reducible repeat (first | apply Kd.N_alloc | apply Kd.N_drewN | apply Kd.N_drew)); exact HO_11.out) (by first | exact Kd.N_base ho93 | exact Kd.S_base ho93) hb)
                                        have n2_ := Aside0.mk (Kd.R_below (by (with_reducible repeat (first | apply Kd.R_alloc | apply Kd.R_drewN | apply Kd.R_drew)); exact HO_14.out) hb)
                                        have n3_ := Aside0.mk (Kd.V_elder' (by (with_reducible repeat (first | apply Kd.V_alloc | apply Kd.V_drewN | apply Kd.V_drew)); exact HO273.out) (by first | exact Kd.N_base ho93 | exact Kd.S_base ho93) hb)
                                        have n4_ := Aside0.mk (Kd.V_elder' (by (with_reducible repeat (first | apply Kd.V_alloc | apply Kd.V_drewN | apply Kd.V_drew)); exact HO281.out) (by first | exact Kd.N_base ho93 | exact Kd.S_base ho93) hb)
                                        have n5_ := Aside0.mk (Kd.N_lower ho93 (below_size (by repeat (first | (with_reducible first | exact HB.out | apply below_alloc | apply pw_below_drewN | apply below_drew1) | exact HB.out))))
                                        have n6_ := Aside0.mk (below_step (by repeat (first | (with_reducible first | exact HB.out | apply below_alloc | apply pw_below_drewN | apply below_drew1) | exact HB.out)) hb)
                                        clear HO_10
                                        clear HO_11
                                        clear HO_14
                                        clear HO273
                                        clear HO281
                                        clear HB
                                        have HO_10 := n0_
                                        have HO_11 := n1_
                                        have HO_14 := n2_
                                        have HO273 := n3_
                                        have HO281 := n4_
                                        have HO268 := n5_
                                        have HB := n6_
                                        clear n0_ n1_ n2_ n3_ n4_ n5_ n6_
                                        clear hb ho93
                                        refine hK.out _ _ trivial (fun hHeld => ?_)
                                        clear hK K
                                        refine norm_ (a' := ?_) ?_ ?_
                                        rotate_left
                                        · show Act.put _ (some 93) _ = _
                                          simp only [Act.put, List.setIfInBounds_toArray, List.set_cons_zero, List.set_cons_succ, i64_w, i32_w]
                                          rfl
                                        refine one_ (i := 4) (N := some 97) #[true, true, true, true, true, true, true, true, true, false, false] rfl rfl (one_of HT_.out (by kernel_rfl)) (by decide) (fun K hK => ?_)
                                        refine Kd.N_append_rows_step k41 (w0 := w) w.heap.size (by rfl) (.tmp 93) (.tmp 96) 37 41 (.agg #[(.int .i64 0), (.int .i64 0), (.slice none 0 0)]) 40 rfl Try.underlying37 info41 rfl (by decide) (by omega) v267 y266 y269 _ _ _ (fun k_ => some k_ ≠ (.slice Ao28 t250.length co28 : Value).ownBlock ∧ some k_ ≠ (v262 : Value).ownBlock) (fun k_ => ((fun k_ => some k_ ≠ (.slice Ao28 t250.length co28 : Value).ownBlock ∧ some k_ ≠ (v262 : Value).ownBlock)) k_ ∧ some k_ ≠ (v267 : Value).ownBlock) rfl rfl ?aO ?aR (fun _ hk => hk) ?aF ?aB ?aS ?aL ?_
                                        (case aR => exact (by skip; exact Kd.V_F (Kd.V_mono (ok' := (fun k_ => ((fun k_ => some k_ ≠ (.slice Ao28 t250.length co28 : Value).ownBlock ∧ some k_ ≠ (v262 : Value).ownBlock)) k_ ∧ some k_ ≠ (v267 : Value).ownBlock)) (HO273.out) (fun k_ hk => ⟨⟨hk.1.1, hk.1.2⟩, hk.2⟩))))
                                        (case aB => exact (by repeat (first | (with_reducible first | exact HB.out | apply below_alloc | apply pw_below_drewN | apply below_drew1) | exact HB.out)))
                                        (case aF => exact (fun k_ hk => ⟨Kd.fresh' (Kd.R_lt (by (with_reducible repeat (first | apply Kd.R_alloc | apply Kd.R_drewN | apply Kd.R_drew)); exact HO_10.out)) k_ hk, Kd.fresh' (Kd.R_lt (by (with_reducible repeat (first | apply Kd.R_alloc | apply Kd.R_drewN | apply Kd.R_drew)); exact HO_14.out)) k_ hk⟩))
                                        (case aO => exact (by (with_reducible repeat (first | apply Kd.N_alloc | apply Kd.N_drewN | apply Kd.N_drew)); exact Kd.N_mono HO268.out (fun _ hk => ⟨hk.1, hk.2.2⟩)))
                                        (case aS => exact (below_size (by repeat (first | (with_reducible first | exact HB.out | apply below_alloc | apply pw_below_drewN | apply below_drew1) | exact HB.out))))
                                        (case aL => have := LMc45.out; omega)
                                        intro v275 w94 ho hb hg hat
                                        rw [← Ny274.out] at ho
                                        have n0_ := Aside0.mk (Kd.R_over' (by (with_reducible repeat (first | apply Kd.R_alloc | apply Kd.R_drewN | apply Kd.R_drew)); exact HO_10.out) (Kd.N_typed (by (with_reducible repeat (first | apply Kd.N_alloc | apply Kd.N_drewN | apply Kd.N_drew)); exact HO268.out)) (by decide) hg)
                                        have n1_ := Aside0.mk (Kd.N_afterv (ok := (fun k_ => some k_ ≠ (.slice Ao28 t250.length co28 : Value).ownBlock ∧ some k_ ≠ (v262 : Value).ownBlock)) (by (with_reducible repeat (first | apply Kd.N_alloc | apply Kd.N_drewN | apply Kd.N_drew)); exact HO_11.out) hg hat)
                                        have n2_ := Aside0.mk (Kd.R_over' (by (with_reducible repeat (first | apply Kd.R_alloc | apply Kd.R_drewN | apply Kd.R_drew)); exact HO_14.out) (Kd.N_typed (by (with_reducible repeat (first | apply Kd.N_alloc | apply Kd.N_drewN | apply Kd.N_drew)); exact HO268.out)) (by decide) hg)
                                        have n3_ := Aside0.mk (Kd.V_afterv (ok := (fun k_ => some k_ ≠ (.slice Ao28 t250.length co28 : Value).ownBlock ∧ some k_ ≠ (v262 : Value).ownBlock)) (by (with_reducible repeat (first | apply Kd.V_alloc | apply Kd.V_drewN | apply Kd.V_drew)); exact HO273.out) hg hat)
                                        have n4_ := Aside0.mk (Kd.V_afterv (ok := (fun k_ => some k_ ≠ (.slice Ao28 t250.length co28 : Value).ownBlock ∧ some k_ ≠ (v262 : Value).ownBlock)) (by (with_reducible repeat (first | apply Kd.V_alloc | apply Kd.V_drewN | apply Kd.V_drew)); exact HO281.out) hg hat)
                                        have n5_ := Aside0.mk (hb)
                                        have n6_ := Aside0.mk (ho)
                                        clear HO_10
                                        clear HO_11
                                        clear HO_14
                                        clear HO273
                                        clear HO281
                                        clear HB
                                        clear HO268
                                        have HO_10 := n0_
                                        have HO_11 := n1_
                                        have HO_14 := n2_
                                        have HO273 := n3_
                                        have HO281 := n4_
                                        have HB := n5_
                                        have HO276 := n6_
                                        clear n0_ n1_ n2_ n3_ n4_ n5_ n6_
                                        clear ho hb hg hat
                                        refine hK.out _ _ trivial (fun hHeld => ?_)
                                        clear hK K
                                        refine norm_ (a' := ?_) ?_ ?_
                                        rotate_left
                                        · show Act.put _ (some 97) _ = _
                                          simp only [Act.put, List.setIfInBounds_toArray, List.set_cons_zero, List.set_cons_succ, i64_w, i32_w]
                                          rfl
                                        refine one_ (i := 9) (N := some 102) #[true, true, true, true, true, true, true, true, true, true, false] rfl rfl (one_of HT_.out (by kernel_rfl)) (by decide) (fun K hK => ?_)
                                        refine Kd.N_append_rows_step k41 (w0 := w) w.heap.size (by rfl) (.tmp 97) (.tmp 101) 37 41 (.agg #[(.int .i64 0), (.int .i64 0), (.slice none 0 0)]) 40 rfl Try.underlying37 info41 rfl (by decide) (by omega) v275 y274 y277 _ _ _ (fun k_ => some k_ ≠ (.slice Ao28 t250.length co28 : Value).ownBlock ∧ some k_ ≠ (v262 : Value).ownBlock) (fun k_ => ((fun k_ => some k_ ≠ (.slice Ao28 t250.length co28 : Value).ownBlock ∧ some k_ ≠ (v262 : Value).ownBlock)) k_ ∧ some k_ ≠ (v275 : Value).ownBlock) rfl rfl ?aO ?aR (fun _ hk => hk) ?aF ?aB ?aS ?aL ?_
                                        (case aR => exact (by skip; exact Kd.V_F (Kd.V_mono (ok' := (fun k_ => ((fun k_ => some k_ ≠ (.slice Ao28 t250.length co28 : Value).ownBlock ∧ some k_ ≠ (v262 : Value).ownBlock)) k_ ∧ some k_ ≠ (v275 : Value).ownBlock)) (HO281.out) (fun k_ hk => ⟨⟨hk.1.1, hk.1.2⟩, hk.2⟩))))
                                        (case aB => exact (by repeat (first | (with_reducible first | exact HB.out | apply below_alloc | apply pw_below_drewN | apply below_drew1) | exact HB.out)))
                                        (case aF => exact (fun k_ hk => ⟨Kd.fresh' (Kd.R_lt (by (with_reducible repeat (first | apply Kd.R_alloc | apply Kd.R_drewN | apply Kd.R_drew)); exact HO_10.out)) k_ hk, Kd.fresh' (Kd.R_lt (by (with_reducible repeat (first | apply Kd.R_alloc | apply Kd.R_drewN | apply Kd.R_drew)); exact HO_14.out)) k_ hk⟩))
                                        (case aO => exact (by (with_reducible repeat (first | apply Kd.N_alloc | apply Kd.N_drewN | apply Kd.N_drew)); exact HO276.out))
                                        (case aS => exact (below_size (by repeat (first | (with_reducible first | exact HB.out | apply below_alloc | apply pw_below_drewN | apply below_drew1) | exact HB.out))))
                                        (case aL => have := LMc49.out; omega)
                                        intro v283 w95 ho hb hg hat
                                        rw [← Ny282.out] at ho
                                        have n0_ := Aside0.mk (Kd.R_over' (by (with_reducible repeat (first | apply Kd.R_alloc | apply Kd.R_drewN | apply Kd.R_drew)); exact HO_10.out) (Kd.N_typed (by (with_reducible repeat (first | apply Kd.N_alloc | apply Kd.N_drewN | apply Kd.N_drew)); exact HO276.out)) (by decide) hg)
                                        have n1_ := Aside0.mk (Kd.N_afterv (ok := (fun k_ => some k_ ≠ (.slice Ao28 t250.length co28 : Value).ownBlock ∧ some k_ ≠ (v262 : Value).ownBlock)) (by (with_reducible repeat (first | apply Kd.N_alloc | apply Kd.N_drewN | apply Kd.N_drew)); exact HO_11.out) hg hat)
                                        have n2_ := Aside0.mk (Kd.R_over' (by (with_reducible repeat (first | apply Kd.R_alloc | apply Kd.R_drewN | apply Kd.R_drew)); exact HO_14.out) (Kd.N_typed (by (with_reducible repeat (first | apply Kd.N_alloc | apply Kd.N_drewN | apply Kd.N_drew)); exact HO276.out)) (by decide) hg)
                                        have n3_ := Aside0.mk (Kd.V_afterv (ok := (fun k_ => some k_ ≠ (.slice Ao28 t250.length co28 : Value).ownBlock ∧ some k_ ≠ (v262 : Value).ownBlock)) (by (with_reducible repeat (first | apply Kd.V_alloc | apply Kd.V_drewN | apply Kd.V_drew)); exact HO273.out) hg hat)
                                        have n4_ := Aside0.mk (Kd.V_afterv (ok := (fun k_ => some k_ ≠ (.slice Ao28 t250.length co28 : Value).ownBlock ∧ some k_ ≠ (v262 : Value).ownBlock)) (by (with_reducible repeat (first | apply Kd.V_alloc | apply Kd.V_drewN | apply Kd.V_drew)); exact HO281.out) hg hat)
                                        have n5_ := Aside0.mk (hb)
                                        have n6_ := Aside0.mk (ho)
                                        clear HO_10
                                        clear HO_11
                                        clear HO_14
                                        clear HO273
                                        clear HO281
                                        clear HB
                                        clear HO276
                                        have HO_10 := n0_
                                        have HO_11 := n1_
                                        have HO_14 := n2_
                                        have HO273 := n3_
                                        have HO281 := n4_
                                        have HB := n5_
                                        have HO284 := n6_
                                        clear n0_ n1_ n2_ n3_ n4_ n5_ n6_
                                        clear ho hb hg hat
                                        refine hK.out _ _ trivial (fun hHeld => ?_)
                                        clear hK K
                                        refine norm_ (a' := ?_) ?_ ?_
                                        rotate_left
                                        · show Act.put _ (some 102) _ = _
                                          simp only [Act.put, List.setIfInBounds_toArray, List.set_cons_zero, List.set_cons_succ, i64_w, i32_w]
                                          rfl
                                        refine pure_ (i := 10) (N := some 16) (v := ?_) (a' := ?_) #[true, true, true, true, true, true, true, true, true, true, true] rfl rfl (any_of HT_.out (by kernel_rfl)) (fun _ _ _ h => h) (Or.inl ⟨by rfl, ?_⟩) ?_ ?_
                                        rotate_left
                                        · intro w'
                                          go_simp
                                          with_reducible rfl
                                        rotate_left
                                        · simp only [Act.put, List.setIfInBounds_toArray, List.set_cons_zero, List.set_cons_succ, i64_w, i32_w]
                                          rfl
                                        refine done_ (done_of HT_.out (by kernel_rfl)) ?_
                                        obtain ⟨Ao96, co96, eo96⟩ := Kd.R_slice HO_14.out
                                        subst eo96
                                        try go_wp2_with (first | ((with_reducible refine gate_callee (f := 23) rfl ?_); refine goesL_ (some 105) rfl rfl Try.func23 (by kernel_rfl) rfl #[.slice Ao96 x14_2.length co96] rfl (by (try simp only [List.map_toArray, List.map_cons, List.map_nil]); first | done | rfl | (simp only [List.length_drop, List.length_take]; rfl)) ?_; (with_reducible refine (scan_All.calls _ _ x14_2 t285 t286 t287 t288 _ ?side1 ?side2 A50.out).mono ?_); (case side1 => repeat (first | exact (Kd.R_reads' HO_14.out).2.2 | (with_reducible refine Kd.C_alloc ?_ _) | (with_reducible refine Kd.C_drewN ?_ _) | (with_reducible refine Kd.C_drew ?_))); (case side2 => exact (Kd.R_reads' HO_14.out).2.1); rintro e w97 ⟨v289, rfl, ho0, hb⟩; refine ⟨_, rfl, ?_⟩; have n0_ := Aside0.mk (Kd.R_below (by (with_reducible repeat (first | apply Kd.R_alloc | apply Kd.R_drewN | apply Kd.R_drew)); exact HO_10.out) hb); have n1_ := Aside0.mk (Kd.N_elder' (by (with_reducible repeat (first | apply Kd.N_alloc | apply Kd.N_drewN | apply Kd.N_drew)); exact HO_11.out) (by first | exact Kd.N_base ho0 | exact Kd.S_base ho0) hb); have n2_ := Aside0.mk (Kd.R_below (by (with_reducible repeat (first | apply Kd.R_alloc | apply Kd.R_drewN | apply Kd.R_drew)); exact HO_14.out) hb); have n3_ := Aside0.mk (Kd.V_elder' (by (with_reducible repeat (first | apply Kd.V_alloc | apply Kd.V_drewN | apply Kd.V_drew)); exact HO273.out) (by first | exact Kd.N_base ho0 | exact Kd.S_base ho0) hb); have n4_ := Aside0.mk (Kd.V_elder' (by (with_reducible repeat (first | apply Kd.V_alloc | apply Kd.V_drewN | apply Kd.V_drew)); exact HO281.out) (by first | exact Kd.N_base ho0 | exact Kd.S_base ho0) hb); have n5_ := Aside0.mk (Kd.N_elder' (by (with_reducible repeat (first | apply Kd.N_alloc | apply Kd.N_drewN | apply Kd.N_drew)); exact HO284.out) (by first | exact Kd.N_base ho0 | exact Kd.S_base ho0) hb); have n6_ := Aside0.mk (Kd.N_lower (Kd.N_mono (ok' := fun k_ => some k_ ≠ (.slice Ao28 t250.length co28 : Value).ownBlock ∧ some k_ ≠ (.slice (some ad256) t253.length co23 : Value).ownBlock ∧ some k_ ≠ (.slice Ao96 x14_2.length co96 : Value).ownBlock ∧ some k_ ≠ (v283 : Value).ownBlock) (Kd.S_N (Kd.S_bound ho0)) (fun k_ hk_ => ⟨(Kd.fresh' (Kd.R_lt (by (with_reducible repeat (first | apply Kd.R_alloc | apply Kd.R_drewN | apply Kd.R_drew)); exact HO_10.out)) k_ hk_.2.1), (Kd.fresh' (Kd.N_lt (by (with_reducible repeat (first | apply Kd.N_alloc | apply Kd.N_drewN | apply Kd.N_drew)); exact HO_11.out)) k_ hk_.2.1), (Kd.fresh' (Kd.R_lt (by (with_reducible repeat (first | apply Kd.R_alloc | apply Kd.R_drewN | apply Kd.R_drew)); exact HO_14.out)) k_ hk_.2.1), (Kd.fresh' (Kd.N_lt (by (with_reducible repeat (first | apply Kd.N_alloc | apply Kd.N_drewN | apply Kd.N_drew)); exact HO284.out)) k_ hk_.2.1)⟩)) (below_size (by repeat (first | (with_reducible first | exact HB.out | apply below_alloc | apply pw_below_drewN | apply below_drew1) | exact HB.out)))); have n7_ := Aside0.mk (below_step (by repeat (first | (with_reducible first | exact HB.out | apply below_alloc | apply pw_below_drewN | apply below_drew1) | exact HB.out)) hb); clear HO_10; clear HO_11; clear HO_14; clear HO273; clear HO281; clear HO284; clear HB; have HO_10 := n0_; have HO_11 := n1_; have HO_14 := n2_; have HO273 := n3_; have HO281 := n4_; have HO284 := n5_; have HO290 := n6_; have HB := n7_; clear n0_ n1_ n2_ n3_ n4_ n5_ n6_ n7_; (try clear hb); (try clear hb2); (try clear hk); (try clear hi); (try clear ho0); obtain ⟨Ao98, co98, eo98⟩ := Kd.N_slice HO290.out; subst eo98; obtain ⟨Ao99, co99, eo99⟩ := Kd.N_slice HO284.out; subst eo99) | (go_at_call 27; (with_reducible refine (souterrainref03_Same.calls k2 _ _ t285 _ _ y282 false _ ?side1 ?side2 ?side3 ?side4 A52.out).mono ?_); (case side1 => repeat (first | exact (Kd.N_reads' HO290.out).2.2 | (with_reducible refine Kd.C_alloc ?_ _) | (with_reducible refine Kd.C_drewN ?_ _) | (with_reducible refine Kd.C_drew ?_))); (case side2 => exact (Kd.N_reads' HO290.out).2.1); (case side3 => repeat (first | exact (Kd.N_reads' HO284.out).2.2 | (with_reducible refine Kd.C_alloc ?_ _) | (with_reducible refine Kd.C_drewN ?_ _) | (with_reducible refine Kd.C_drew ?_))); (case side4 => exact (Kd.N_reads' HO284.out).2.1); rintro e w' ⟨rfl, ⟨nd, rfl⟩⟩))
                                        go_ret
                                        exact ⟨by first | rfl | (simp [errW_none, errW_some] <;> rfl) | (simp only [← hji17, ← hji46]; first | rfl | (simp [errW_none, errW_some] <;> rfl)) | (simp [*, errW_none, errW_some] <;> rfl), by repeat (first | (with_reducible first | exact HB.out | apply below_alloc | apply pw_below_drewN | apply below_drew1) | exact HB.out)⟩
                                    · replace c51 := Bool.eq_false_iff.mpr c51
                                      subst c51
                                      have H1 : (some false) = some r := by rw [if_neg (show ¬ (false = true) by decide)] at H; exact H
                                      clear H
                                      have H := H1
                                      clear H1
                                      obtain rfl := Option.some.inj H
                                      try go_wp2
                                      have n0_ := Aside0.mk (Kd.R_drew HO_10.out)
                                      have n1_ := Aside0.mk (Kd.N_drew HO_11.out)
                                      have n2_ := Aside0.mk (Kd.R_drew HO_14.out)
                                      have n3_ := Aside0.mk (below_drew1 HB.out)
                                      clear HO_10
                                      clear HO_11
                                      clear HO_14
                                      clear HB
                                      have HO_10 := n0_
                                      have HO_11 := n1_
                                      have HO_14 := n2_
                                      have HB := n3_
                                      clear n0_ n1_ n2_ n3_
                                      have q101 : (ji17 : Int) ≤ ((t253.length : Int) : Int) := of_decide_eq_true (by first | (with_reducible assumption) | assumption)
                                      obtain ⟨i0101, hi0101, _, hsz101, _⟩ := info_parts info41
                                      have hroom101 : t253.length ≤ co23 := (Kd.N_reads' HO_11.out).2.1
                                      have hC101 : Kd.F k41 _ _ (some ad256) t253.length t253 := (Kd.V_at (base := w.heap.size) (Kd.N_V HO_11.out)).2.2
                                      have hcut101 := cut_to (P := Try.prog) 37 41 .i64 Try.underlying37 hi0101 (some ad256) t253.length co23 ji17 (of_decide_eq_true (by first | (with_reducible assumption) | assumption)) q101 hroom101
                                      have hr101 := Kd.F_take (m := (ji17 : Int).toNat) hC101 (by omega)
                                      have hy101 : y269.length = (ji17 : Int).toNat := (by rw [Ny269.out, List.length_take]; omega)
                                      rw [← Ny269.out] at hr101
                                      rw [← hy101] at hcut101
                                      have HO273 := Aside0.mk (show Kd.V k41 41 _ w.heap.size _ (.slice (some ad256) y269.length co23) y269 from Kd.V_mk (by omega) hr101)
                                      have HC273 := Aside0.mk (show y269.length ≤ co23 from by omega)
                                      clear hr101 hC101 hroom101 hi0101 hsz101
                                      have KY101 := Aside0.mk hy101
                                      clear hy101
                                      replace q101 := eq_true q101
                                      have q102 : ((ji46) : Int) ≤ ((t253.length : Int) : Int) := of_decide_eq_true (by first | (with_reducible assumption) | assumption)
                                      obtain ⟨i0102, hi0102, _, hsz102, _⟩ := info_parts info41
                                      have hroom102 : t253.length ≤ co23 := (Kd.N_reads' HO_11.out).2.1
                                      have hC102 : Kd.F k41 _ _ (some ad256) t253.length t253 := (Kd.V_at (base := w.heap.size) (Kd.N_V HO_11.out)).2.2
                                      have q0102 : (0 : Int) ≤ ((ji46) : Int) := of_decide_eq_true (by first | (with_reducible assumption) | assumption)
                                      have hcut102 := cut_from (P := Try.prog) 37 41 .i64 Try.underlying37 hi0102 3 hsz102 (some ad256) t253.length co23 (ji46) q0102 q102
                                      have hr102 := Kd.F_cut (m := ((ji46) : Int).toNat) (c := co23) hC102 (by omega) hroom102
                                      obtain ⟨A102, hA102⟩ : ∃ A1, A1 = (if co23 = ((ji46) : Int).toNat then (some ad256) else ((some ad256) : Option Addr).map (·.add (((ji46) : Int).toNat * 3))) := ⟨_, rfl⟩
                                      obtain ⟨c102, hc102⟩ : ∃ c1, c1 = co23 - ((ji46) : Int).toNat := ⟨_, rfl⟩
                                      have hy102 : y277.length = t253.length - ((ji46) : Int).toNat := (by rw [Ny277.out, List.length_drop] <;> omega)
                                      rw [show (t253).drop ((ji46) : Int).toNat = y277 from Ny277.out.symm] at hr102
                                      replace hr102 : Kd.F k41 _ _ A102 y277.length y277 := (by rw [hA102]; exact hr102)
                                      rw [← hy102, ← hA102, ← hc102] at hcut102
                                      have HO281 := Aside0.mk (show Kd.V k41 41 _ w.heap.size _ (.slice A102 y277.length c102) y277 from Kd.V_mk (by rw [hy102, hc102]; exact Nat.sub_le_sub_right hroom102 _) hr102)
                                      have HC281 := Aside0.mk (show y277.length ≤ c102 from by rw [hy102, hc102]; exact Nat.sub_le_sub_right hroom102 _)
                                      clear hr102 hC102 hroom102 hi0102 hsz102 hc102
                                      have KY102 := Aside0.mk hy102
                                      have KA102 := Aside0.mk hA102
                                      clear hy102 hA102
                                      replace q102 := eq_true q102
                                      refine start_ (n := 11) (S := fun w' => True) (ds := []) #[false, false, false, false, false, false, false, false, false, false, false] (by kernel_rfl) rfl rfl trivial (fun hHeld => ?_); refine with_tabW souterrainlaw03_ScanSpoilt.tab15 souterrainlaw03_ScanSpoilt.bits15 (fun HT_ HW_ => ?_)
                                      generalize wr.drew = w100 at HO_10 HO_11 HO_14 HB HO273 HO281 hHeld ⊢
                                      refine pure_ (i := 1) (N := some 94) (v := ?_) (a' := ?_) #[false, true, false, false, false, false, false, false, false, false, false] rfl rfl (any_of HT_.out (by kernel_rfl)) (fun _ _ _ h => h) (Or.inl ⟨by rfl, ?_⟩) ?_ ?_
                                      rotate_left
                                      · intro w'
                                        go_simp
                                        with_reducible rfl
                                      rotate_left
                                      · simp only [Act.put, List.setIfInBounds_toArray, List.set_cons_zero, List.set_cons_succ, i64_w, i32_w]
                                        rfl
                                      refine pure_ (i := 2) (N := some 95) (v := ?_) (a' := ?_) #[false, true, true, false, false, false, false, false, false, false, false] rfl rfl (any_of HT_.out (by kernel_rfl)) (fun _ _ _ h => h) (Or.inl ⟨by rfl, ?_⟩) ?_ ?_
                                      rotate_left
                                      · intro w'
                                        go_simp
                                        with_reducible rfl
                                      rotate_left
                                      · simp only [Act.put, List.setIfInBounds_toArray, List.set_cons_zero, List.set_cons_succ, i64_w, i32_w]
                                        rfl
                                      refine pure_ (i := 3) (N := some 96) (v := ?_) (a' := ?_) #[false, true, true, true, false, false, false, false, false, false, false] rfl rfl (any_of HT_.out (by kernel_rfl)) (fun _ _ _ h => h) (Or.inl ⟨by rfl, ?_⟩) ?_ ?_
                                      rotate_left
                                      · intro w'
                                        go_simp
                                        with_reducible rfl
                                      rotate_left
                                      · simp only [Act.put, List.setIfInBounds_toArray, List.set_cons_zero, List.set_cons_succ, i64_w, i32_w]
                                        rfl
                                      refine pure_ (i := 5) (N := some 98) (v := ?_) (a' := ?_) #[false, true, true, true, false, true, false, false, false, false, false] rfl rfl (any_of HT_.out (by kernel_rfl)) (fun _ _ _ h => h) (Or.inl ⟨by rfl, ?_⟩) ?_ ?_
                                      rotate_left
                                      · intro w'
                                        go_simp
                                        with_reducible rfl
                                      rotate_left
                                      · simp only [Act.put, List.setIfInBounds_toArray, List.set_cons_zero, List.set_cons_succ, i64_w, i32_w]
                                        rfl
                                      refine pure_ (i := 6) (N := some 99) (v := ?_) (a' := ?_) #[false, true, true, true, false, true, true, false, false, false, false] rfl rfl (any_of HT_.out (by kernel_rfl)) (fun _ _ _ h => h) (Or.inl ⟨by rfl, ?_⟩) ?_ ?_
                                      rotate_left
                                      · intro w'
                                        go_simp
                                        with_reducible rfl
                                      rotate_left
                                      · simp only [Act.put, List.setIfInBounds_toArray, List.set_cons_zero, List.set_cons_succ, i64_w, i32_w]
                                        rfl
                                      refine pure_ (i := 7) (N := some 100) (v := ?_) (a' := ?_) #[false, true, true, true, false, true, true, true, false, false, false] rfl rfl (any_of HT_.out (by kernel_rfl)) (fun _ _ _ h => h) (Or.inl ⟨by rfl, ?_⟩) ?_ ?_
                                      rotate_left
                                      · intro w'
                                        go_simp
                                        with_reducible rfl
                                      rotate_left
                                      · simp only [Act.put, List.setIfInBounds_toArray, List.set_cons_zero, List.set_cons_succ, i64_w, i32_w]
                                        rfl
                                      refine pure_ (i := 8) (N := some 101) (v := ?_) (a' := ?_) #[false, true, true, true, false, true, true, true, true, false, false] rfl rfl (any_of HT_.out (by kernel_rfl)) (fun _ _ _ h => h) (Or.inl ⟨by rfl, ?_⟩) ?_ ?_
                                      rotate_left
                                      · intro w'
                                        go_simp
                                        with_reducible rfl
                                      rotate_left
                                      · simp only [Act.put, List.setIfInBounds_toArray, List.set_cons_zero, List.set_cons_succ, i64_w, i32_w]
                                        rfl
                                      refine one_ (i := 0) (N := some 93) #[true, true, true, true, false, true, true, true, true, false, false] rfl rfl (one_of HT_.out (by kernel_rfl)) (by decide) (fun K hK => ?_)
                                      refine Kd.N_lit_step k41 _ 41 ?hg (N' := 93) ?hd (xs := ([] : List (S41))) (inner := []) (ok := (fun k_ => some k_ ≠ (.slice Ao28 t250.length co28 : Value).ownBlock ∧ some k_ ≠ (.slice (some ad256) t253.length co23 : Value).ownBlock ∧ some k_ ≠ (v262 : Value).ownBlock)) (okp := (fun k_ => some k_ ≠ (.slice Ao28 t250.length co28 : Value).ownBlock ∧ some k_ ≠ (.slice (some ad256) t253.length co23 : Value).ownBlock ∧ some k_ ≠ (v262 : Value).ownBlock)) ?hr ?hp (fun _ hk => hk) ((show ∀ k_, w100.heap.size ≤ k_ → (fun k_ => some k_ ≠ (.slice Ao28 t250.length co28 : Value).ownBlock ∧ some k_ ≠ (.slice (some ad256) t253.length co23 : Value).ownBlock ∧ some k_ ≠ (v262 : Value).ownBlock) k_ from fun k_ hk => ⟨Kd.fresh' (Kd.R_lt (by (with_reducible repeat (first | apply Kd.R_alloc | apply Kd.R_drewN | apply Kd.R_drew)); exact HO_10.out)) k_ hk, Kd.fresh' (Kd.N_lt (by (with_reducible repeat (first | apply Kd.N_alloc | apply Kd.N_drewN | apply Kd.N_drew)); exact HO_11.out)) k_ hk, Kd.fresh' (Kd.R_lt (by (with_reducible repeat (first | apply Kd.R_alloc | apply Kd.R_drewN | apply Kd.R_drew)); exact HO_14.out)) k_ hk⟩) _ (Nat.le_refl _)) (Below.refl _ _) (Nat.le_refl _) (by simp) ?_; (case hd => rfl); (case hg => rfl); (case hr => first | (go_simp; done) | (go_simp; rfl)); (case hp => exact (Reps.none _ _))
                                      intro v267 w103 ho104 hb hg_ hnew_
                                      clear hg_ hnew_
                                      (first | rw [← Ny266.out] at ho104 | (simp only [Int.reduceToNat] at ho104; rw [← Ny266.out] at ho104))
                                      have n0_ := Aside0.mk (Kd.R_below (by (with_reducible repeat (first | apply Kd.R_alloc | apply Kd.R_drewN | apply Kd.R_drew)); exact HO_10.out) hb)
                                      have n1_ := Aside0.mk (Kd.N_elder' (by (with_reducible repeat (first | apply Kd.N_alloc | apply Kd.N_drewN | apply Kd.N_drew)); exact HO_11.out) (by first | exact Kd.N_base ho104 | exact Kd.S_base ho104) hb)
                                      have n2_ := Aside0.mk (Kd.R_below (by (with_reducible repeat (first | apply Kd.R_alloc | apply Kd.R_drewN | apply Kd.R_drew)); exact HO_14.out) hb)
                                      have n3_ := Aside0.mk (Kd.V_elder' (by (with_reducible repeat (first | apply Kd.V_alloc | apply Kd.V_drewN | apply Kd.V_drew)); exact HO273.out) (by first | exact Kd.N_base ho104 | exact Kd.S_base ho104) hb)
                                      have n4_ := Aside0.mk (Kd.V_elder' (by (with_reducible repeat (first | apply Kd.V_alloc | apply Kd.V_drewN | apply Kd.V_drew)); exact HO281.out) (by first | exact Kd.N_base ho104 | exact Kd.S_base ho104) hb)
                                      have n5_ := Aside0.mk (Kd.N_lower ho104 (below_size (by repeat (first | (with_reducible first | exact HB.out | apply below_alloc | apply pw_below_drewN | apply below_drew1) | exact HB.out))))
                                      have n6_ := Aside0.mk (below_step (by repeat (first | (with_reducible first | exact HB.out | apply below_alloc | apply pw_below_drewN | apply below_drew1) | exact HB.out)) hb)
                                      clear HO_10
                                      clear HO_11
                                      clear HO_14
                                      clear HO273
                                      clear HO281
                                      clear HB
                                      have HO_10 := n0_
                                      have HO_11 := n1_
                                      have HO_14 := n2_
                                      have HO273 := n3_
                                      have HO281 := n4_
                                      have HO268 := n5_
                                      have HB := n6_
                                      clear n0_ n1_ n2_ n3_ n4_ n5_ n6_
                                      clear hb ho104
                                      refine hK.out _ _ trivial (fun hHeld => ?_)
                                      clear hK K
                                      refine norm_ (a' := ?_) ?_ ?_
                                      rotate_left
                                      · show Act.put _ (some 93) _ = _
                                        simp only [Act.put, List.setIfInBounds_toArray, List.set_cons_zero, List.set_cons_succ, i64_w, i32_w]
                                        rfl
                                      refine one_ (i := 4) (N := some 97) #[true, true, true, true, true, true, true, true, true, false, false] rfl rfl (one_of HT_.out (by kernel_rfl)) (by decide) (fun K hK => ?_)
                                      refine Kd.N_append_rows_step k41 (w0 := w) w.heap.size (by rfl) (.tmp 93) (.tmp 96) 37 41 (.agg #[(.int .i64 0), (.int .i64 0), (.slice none 0 0)]) 40 rfl Try.underlying37 info41 rfl (by decide) (by omega) v267 y266 y269 _ _ _ (fun k_ => some k_ ≠ (.slice Ao28 t250.length co28 : Value).ownBlock ∧ some k_ ≠ (v262 : Value).ownBlock) (fun k_ => ((fun k_ => some k_ ≠ (.slice Ao28 t250.length co28 : Value).ownBlock ∧ some k_ ≠ (v262 : Value).ownBlock)) k_ ∧ some k_ ≠ (v267 : Value).ownBlock) rfl rfl ?aO ?aR (fun _ hk => hk) ?aF ?aB ?aS ?aL ?_
                                      (case aR => exact (by skip; exact Kd.V_F (Kd.V_mono (ok' := (fun k_ => ((fun k_ => some k_ ≠ (.slice Ao28 t250.length co28 : Value).ownBlock ∧ some k_ ≠ (v262 : Value).ownBlock)) k_ ∧ some k_ ≠ (v267 : Value).ownBlock)) (HO273.out) (fun k_ hk => ⟨⟨hk.1.1, hk.1.2⟩, hk.2⟩))))
                                      (case aB => exact (by repeat (first | (with_reducible first | exact HB.out | apply below_alloc | apply pw_below_drewN | apply below_drew1) | exact HB.out)))
                                      (case aF => exact (fun k_ hk => ⟨Kd.fresh' (Kd.R_lt (by (with_reducible repeat (first | apply Kd.R_alloc | apply Kd.R_drewN | apply Kd.R_drew)); exact HO_10.out)) k_ hk, Kd.fresh' (Kd.R_lt (by (with_reducible repeat (first | apply Kd.R_alloc | apply Kd.R_drewN | apply Kd.R_drew)); exact HO_14.out)) k_ hk⟩))
                                      (case aO => exact (by (with_reducible repeat (first | apply Kd.N_alloc | apply Kd.N_drewN | apply Kd.N_drew)); exact Kd.N_mono HO268.out (fun _ hk => ⟨hk.1, hk.2.2⟩)))
                                      (case aS => exact (below_size (by repeat (first | (with_reducible first | exact HB.out | apply below_alloc | apply pw_below_drewN | apply below_drew1) | exact HB.out))))
                                      (case aL => have := LMc45.out; omega)
                                      intro v275 w105 ho hb hg hat
                                      rw [← Ny274.out] at ho
                                      have n0_ := Aside0.mk (Kd.R_over' (by (with_reducible repeat (first | apply Kd.R_alloc | apply Kd.R_drewN | apply Kd.R_drew)); exact HO_10.out) (Kd.N_typed (by (with_reducible repeat (first | apply Kd.N_alloc | apply Kd.N_drewN | apply Kd.N_drew)); exact HO268.out)) (by decide) hg)
                                      have n1_ := Aside0.mk (Kd.N_afterv (ok := (fun k_ => some k_ ≠ (.slice Ao28 t250.length co28 : Value).ownBlock ∧ some k_ ≠ (v262 : Value).ownBlock)) (by (with_reducible repeat (first | apply Kd.N_alloc | apply Kd.N_drewN | apply Kd.N_drew)); exact HO_11.out) hg hat)
                                      have n2_ := Aside0.mk (Kd.R_over' (by (with_reducible repeat (first | apply Kd.R_alloc | apply Kd.R_drewN | apply Kd.R_drew)); exact HO_14.out) (Kd.N_typed (by (with_reducible repeat (first | apply Kd.N_alloc | apply Kd.N_drewN | apply Kd.N_drew)); exact HO268.out)) (by decide) hg)
                                      have n3_ := Aside0.mk (Kd.V_afterv (ok := (fun k_ => some k_ ≠ (.slice Ao28 t250.length co28 : Value).ownBlock ∧ some k_ ≠ (v262 : Value).ownBlock)) (by (with_reducible repeat (first | apply Kd.V_alloc | apply Kd.V_drewN | apply Kd.V_drew)); exact HO273.out) hg hat)
                                      have n4_ := Aside0.mk (Kd.V_afterv (ok := (fun k_ => some k_ ≠ (.slice Ao28 t250.length co28 : Value).ownBlock ∧ some k_ ≠ (v262 : Value).ownBlock)) (by (with_reducible repeat (first | apply Kd.V_alloc | apply Kd.V_drewN | apply Kd.V_drew)); exact HO281.out) hg hat)
                                      have n5_ := Aside0.mk (hb)
                                      have n6_ := Aside0.mk (ho)
                                      clear HO_10
                                      clear HO_11
                                      clear HO_14
                                      clear HO273
                                      clear HO281
                                      clear HB
                                      clear HO268
                                      have HO_10 := n0_
                                      have HO_11 := n1_
                                      have HO_14 := n2_
                                      have HO273 := n3_
                                      have HO281 := n4_
                                      have HB := n5_
                                      have HO276 := n6_
                                      clear n0_ n1_ n2_ n3_ n4_ n5_ n6_
                                      clear ho hb hg hat
                                      refine hK.out _ _ trivial (fun hHeld => ?_)
                                      clear hK K
                                      refine norm_ (a' := ?_) ?_ ?_
                                      rotate_left
                                      · show Act.put _ (some 97) _ = _
                                        simp only [Act.put, List.setIfInBounds_toArray, List.set_cons_zero, List.set_cons_succ, i64_w, i32_w]
                                        rfl
                                      refine one_ (i := 9) (N := some 102) #[true, true, true, true, true, true, true, true, true, true, false] rfl rfl (one_of HT_.out (by kernel_rfl)) (by decide) (fun K hK => ?_)
                                      refine Kd.N_append_rows_step k41 (w0 := w) w.heap.size (by rfl) (.tmp 97) (.tmp 101) 37 41 (.agg #[(.int .i64 0), (.int .i64 0), (.slice none 0 0)]) 40 rfl Try.underlying37 info41 rfl (by decide) (by omega) v275 y274 y277 _ _ _ (fun k_ => some k_ ≠ (.slice Ao28 t250.length co28 : Value).ownBlock ∧ some k_ ≠ (v262 : Value).ownBlock) (fun k_ => ((fun k_ => some k_ ≠ (.slice Ao28 t250.length co28 : Value).ownBlock ∧ some k_ ≠ (v262 : Value).ownBlock)) k_ ∧ some k_ ≠ (v275 : Value).ownBlock) rfl rfl ?aO ?aR (fun _ hk => hk) ?aF ?aB ?aS ?aL ?_
                                      (case aR => exact (by skip; exact Kd.V_F (Kd.V_mono (ok' := (fun k_ => ((fun k_ => some k_ ≠ (.slice Ao28 t250.length co28 : Value).ownBlock ∧ some k_ ≠ (v262 : Value).ownBlock)) k_ ∧ some k_ ≠ (v275 : Value).ownBlock)) (HO281.out) (fun k_ hk => ⟨⟨hk.1.1, hk.1.2⟩, hk.2⟩))))
                                      (case aB => exact (by repeat (first | (with_reducible first | exact HB.out | apply below_alloc | apply pw_below_drewN | apply below_drew1) | exact HB.out)))
                                      (case aF => exact (fun k_ hk => ⟨Kd.fresh' (Kd.R_lt (by (with_reducible repeat (first | apply Kd.R_alloc | apply Kd.R_drewN | apply Kd.R_drew)); exact HO_10.out)) k_ hk, Kd.fresh' (Kd.R_lt (by (with_reducible repeat (first | apply Kd.R_alloc | apply Kd.R_drewN | apply Kd.R_drew)); exact HO_14.out)) k_ hk⟩))
                                      (case aO => exact (by (with_reducible repeat (first | apply Kd.N_alloc | apply Kd.N_drewN | apply Kd.N_drew)); exact HO276.out))
                                      (case aS => exact (below_size (by repeat (first | (with_reducible first | exact HB.out | apply below_alloc | apply pw_below_drewN | apply below_drew1) | exact HB.out))))
                                      (case aL => have := LMc49.out; omega)
                                      intro v283 w106 ho hb hg hat
                                      rw [← Ny282.out] at ho
                                      have n0_ := Aside0.mk (Kd.R_over' (by (with_reducible repeat (first | apply Kd.R_alloc | apply Kd.R_drewN | apply Kd.R_drew)); exact HO_10.out) (Kd.N_typed (by (with_reducible repeat (first | apply Kd.N_alloc | apply Kd.N_drewN | apply Kd.N_drew)); exact HO276.out)) (by decide) hg)
                                      have n1_ := Aside0.mk (Kd.N_afterv (ok := (fun k_ => some k_ ≠ (.slice Ao28 t250.length co28 : Value).ownBlock ∧ some k_ ≠ (v262 : Value).ownBlock)) (by (with_reducible repeat (first | apply Kd.N_alloc | apply Kd.N_drewN | apply Kd.N_drew)); exact HO_11.out) hg hat)
                                      have n2_ := Aside0.mk (Kd.R_over' (by (with_reducible repeat (first | apply Kd.R_alloc | apply Kd.R_drewN | apply Kd.R_drew)); exact HO_14.out) (Kd.N_typed (by (with_reducible repeat (first | apply Kd.N_alloc | apply Kd.N_drewN | apply Kd.N_drew)); exact HO276.out)) (by decide) hg)
                                      have n3_ := Aside0.mk (Kd.V_afterv (ok := (fun k_ => some k_ ≠ (.slice Ao28 t250.length co28 : Value).ownBlock ∧ some k_ ≠ (v262 : Value).ownBlock)) (by (with_reducible repeat (first | apply Kd.V_alloc | apply Kd.V_drewN | apply Kd.V_drew)); exact HO273.out) hg hat)
                                      have n4_ := Aside0.mk (Kd.V_afterv (ok := (fun k_ => some k_ ≠ (.slice Ao28 t250.length co28 : Value).ownBlock ∧ some k_ ≠ (v262 : Value).ownBlock)) (by (with_reducible repeat (first | apply Kd.V_alloc | apply Kd.V_drewN | apply Kd.V_drew)); exact HO281.out) hg hat)
                                      have n5_ := Aside0.mk (hb)
                                      have n6_ := Aside0.mk (ho)
                                      clear HO_10
                                      clear HO_11
                                      clear HO_14
                                      clear HO273
                                      clear HO281
                                      clear HB
                                      clear HO276
                                      have HO_10 := n0_
                                      have HO_11 := n1_
                                      have HO_14 := n2_
                                      have HO273 := n3_
                                      have HO281 := n4_
                                      have HB := n5_
                                      have HO284 := n6_
                                      clear n0_ n1_ n2_ n3_ n4_ n5_ n6_
                                      clear ho hb hg hat
                                      refine hK.out _ _ trivial (fun hHeld => ?_)
                                      clear hK K
                                      refine norm_ (a' := ?_) ?_ ?_
                                      rotate_left
                                      · show Act.put _ (some 102) _ = _
                                        simp only [Act.put, List.setIfInBounds_toArray, List.set_cons_zero, List.set_cons_succ, i64_w, i32_w]
                                        rfl
                                      refine pure_ (i := 10) (N := some 16) (v := ?_) (a' := ?_) #[true, true, true, true, true, true, true, true, true, true, true] rfl rfl (any_of HT_.out (by kernel_rfl)) (fun _ _ _ h => h) (Or.inl ⟨by rfl, ?_⟩) ?_ ?_
                                      rotate_left
                                      · intro w'
                                        go_simp
                                        with_reducible rfl
                                      rotate_left
                                      · simp only [Act.put, List.setIfInBounds_toArray, List.set_cons_zero, List.set_cons_succ, i64_w, i32_w]
                                        rfl
                                      refine done_ (done_of HT_.out (by kernel_rfl)) ?_
                                      obtain ⟨Ao107, co107, eo107⟩ := Kd.R_slice HO_14.out
                                      subst eo107
                                      try go_wp2_with (first | ((with_reducible refine gate_callee (f := 23) rfl ?_); refine goesL_ (some 105) rfl rfl Try.func23 (by kernel_rfl) rfl #[.slice Ao107 x14_2.length co107] rfl (by (try simp only [List.map_toArray, List.map_cons, List.map_nil]); first | done | rfl | (simp only [List.length_drop, List.length_take]; rfl)) ?_; (with_reducible refine (scan_All.calls _ _ x14_2 t285 t286 t287 t288 _ ?side1 ?side2 A50.out).mono ?_); (case side1 => repeat (first | exact (Kd.R_reads' HO_14.out).2.2 | (with_reducible refine Kd.C_alloc ?_ _) | (with_reducible refine Kd.C_drewN ?_ _) | (with_reducible refine Kd.C_drew ?_))); (case side2 => exact (Kd.R_reads' HO_14.out).2.1); rintro e w108 ⟨v289, rfl, ho0, hb⟩; refine ⟨_, rfl, ?_⟩; have n0_ := Aside0.mk (Kd.R_below (by (with_reducible repeat (first | apply Kd.R_alloc | apply Kd.R_drewN | apply Kd.R_drew)); exact HO_10.out) hb); have n1_ := Aside0.mk (Kd.N_elder' (by (with_reducible repeat (first | apply Kd.N_alloc | apply Kd.N_drewN | apply Kd.N_drew)); exact HO_11.out) (by first | exact Kd.N_base ho0 | exact Kd.S_base ho0) hb); have n2_ := Aside0.mk (Kd.R_below (by (with_reducible repeat (first | apply Kd.R_alloc | apply Kd.R_drewN | apply Kd.R_drew)); exact HO_14.out) hb); have n3_ := Aside0.mk (Kd.V_elder' (by (with_reducible repeat (first | apply Kd.V_alloc | apply Kd.V_drewN | apply Kd.V_drew)); exact HO273.out) (by first | exact Kd.N_base ho0 | exact Kd.S_base ho0) hb); have n4_ := Aside0.mk (Kd.V_elder' (by (with_reducible repeat (first | apply Kd.V_alloc | apply Kd.V_drewN | apply Kd.V_drew)); exact HO281.out) (by first | exact Kd.N_base ho0 | exact Kd.S_base ho0) hb); have n5_ := Aside0.mk (Kd.N_elder' (by (with_reducible repeat (first | apply Kd.N_alloc | apply Kd.N_drewN | apply Kd.N_drew)); exact HO284.out) (by first | exact Kd.N_base ho0 | exact Kd.S_base ho0) hb); have n6_ := Aside0.mk (Kd.N_lower (Kd.N_mono (ok' := fun k_ => some k_ ≠ (.slice Ao28 t250.length co28 : Value).ownBlock ∧ some k_ ≠ (.slice (some ad256) t253.length co23 : Value).ownBlock ∧ some k_ ≠ (.slice Ao107 x14_2.length co107 : Value).ownBlock ∧ some k_ ≠ (v283 : Value).ownBlock) (Kd.S_N (Kd.S_bound ho0)) (fun k_ hk_ => ⟨(Kd.fresh' (Kd.R_lt (by (with_reducible repeat (first | apply Kd.R_alloc | apply Kd.R_drewN | apply Kd.R_drew)); exact HO_10.out)) k_ hk_.2.1), (Kd.fresh' (Kd.N_lt (by (with_reducible repeat (first | apply Kd.N_alloc | apply Kd.N_drewN | apply Kd.N_drew)); exact HO_11.out)) k_ hk_.2.1), (Kd.fresh' (Kd.R_lt (by (with_reducible repeat (first | apply Kd.R_alloc | apply Kd.R_drewN | apply Kd.R_drew)); exact HO_14.out)) k_ hk_.2.1), (Kd.fresh' (Kd.N_lt (by (with_reducible repeat (first | apply Kd.N_alloc | apply Kd.N_drewN | apply Kd.N_drew)); exact HO284.out)) k_ hk_.2.1)⟩)) (below_size (by repeat (first | (with_reducible first | exact HB.out | apply below_alloc | apply pw_below_drewN | apply below_drew1) | exact HB.out)))); have n7_ := Aside0.mk (below_step (by repeat (first | (with_reducible first | exact HB.out | apply below_alloc | apply pw_below_drewN | apply below_drew1) | exact HB.out)) hb); clear HO_10; clear HO_11; clear HO_14; clear HO273; clear HO281; clear HO284; clear HB; have HO_10 := n0_; have HO_11 := n1_; have HO_14 := n2_; have HO273 := n3_; have HO281 := n4_; have HO284 := n5_; have HO290 := n6_; have HB := n7_; clear n0_ n1_ n2_ n3_ n4_ n5_ n6_ n7_; (try clear hb); (try clear hb2); (try clear hk); (try clear hi); (try clear ho0)))
                                      go_ret
                                      exact ⟨by first | rfl | (simp [errW_none, errW_some] <;> rfl) | (simp only [← hji17, ← hji46]; first | rfl | (simp [errW_none, errW_some] <;> rfl)) | (simp [*, errW_none, errW_some] <;> rfl), by repeat (first | (with_reducible first | exact HB.out | apply below_alloc | apply pw_below_drewN | apply below_drew1) | exact HB.out)⟩
                                  · rw [if_neg c49] at H
                                    exact absurd H (by simp)
                                · rw [if_neg c48] at H
                                  exact absurd H (by simp)
                              · rw [if_neg c47] at H
                                exact absurd H (by simp)
                            · rw [if_neg c45] at H
                              exact absurd H (by simp)
                          · rw [if_neg c44] at H
                            exact absurd H (by simp)
                        · rw [if_neg c43] at H
                          exact absurd H (by simp)
                · rw [if_neg c21] at H
                  exact absurd H (by simp)
            · rw [if_neg c19] at H
              exact absurd H (by simp)
          · rw [if_neg c18] at H
            exact absurd H (by simp)

end Go.Proofs.Ytjednkbgdbalnaa.Pt
