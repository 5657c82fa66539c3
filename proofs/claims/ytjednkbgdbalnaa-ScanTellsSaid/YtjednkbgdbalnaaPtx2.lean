-- Written by a program of this session over the translation (a turned copy of the kit's printer). Lean checks it.
import Derived.Test.YtjednkbgdbalnaaPtx0
import Derived.Test.YtjednkbgdbalnaaPtx1
import Derived.Test.YtjednkbgdbalnaaFrH
import Derived.Test.YtjednkbgdbalnaaFrY
namespace Go.Proofs.Ytjednkbgdbalnaa.Pt
open Go.RowKit Go.Proofs.YtjednkbgdbalnaaW.PrintWords Go.Proofs.YtjednkbgdbalnaaW.PrintLast Go.Proofs.YtjednkbgdbalnaaW.PrintMore
attribute [local go_sem] max2_int min2_int max_two min_two max_three min_three max_four min_four   -- for this text's walks alone
set_option linter.unusedVariables false
set_option linter.unusedSimpArgs false

open Go.Proofs.Ytjednkbgdbalnaa.Ext
/-! ### souterrainref02_First: function 17 -/
def souterrainref02_First.j0 : Nat → List Int → Int → Bool → Option (List Int × Int × Int)
  | 0, _, _, _ => none
  | k + 1, x0, x5, x42 => if x42 = true then (some (([] : List Int), 0, 22)) else (if (x0.length : Int) < (wrap64 (x5 + 8)) then (some (([] : List Int), 0, 21)) else ((some (([] : List Int) : List Int)).bind fun y121 => (if 4 ≤ (wrap64 (x5 + 4)) then (if (wrap64 (x5 + 4)) ≤ (x0.length : Int) then (if y121.length + ((x0.take ((wrap64 (x5 + 4)) : Int).toNat).drop 4).length < 140737488355328 then ((some (y121 ++ ((x0.take ((wrap64 (x5 + 4)) : Int).toNat).drop 4) : List Int)).bind fun y125 => ((souterrainref02_Put.f k y125).bind fun t128 => (if 0 ≤ (wrap64 (x5 + 8)) then (if (wrap64 (x5 + 8)) ≤ (x0.length : Int) then (if (strOfNums t128).toList = (strOfNums (x0.take ((wrap64 (x5 + 8)) : Int).toNat)).toList then (some (y125, wrap64 (x5 + 8), 0)) else (some (([] : List Int), wrap64 (x5 + 8), 22))) else (none)) else (none)))) else (none)) else (none)) else (none))))
def souterrainref02_First.f (k : Nat) (l0 : List Int) : Option (List Int × Int × Int) := if (l0.length : Int) < 4 then (some (([] : List Int), 0, 21)) else (if 0 < (l0.length : Int) then (if 1 < (l0.length : Int) then ((souterrainref02_Size.f (wrap64 ((wrap64 (256 * (wrap64 (rd l0 0)))) + (wrap64 (rd l0 1))))).bind fun t118 => (if t118 = 0 then (souterrainref02_First.j0 k l0 (wrap64 ((wrap64 (256 * (wrap64 (rd l0 0)))) + (wrap64 (rd l0 1)))) true) else (if 2 < (l0.length : Int) then (if (wrap64 (rd l0 2)) = (wrap64 (255 - (wrap64 (Int.tdiv (wrap64 ((wrap64 (256 * (wrap64 (rd l0 0)))) + (wrap64 (rd l0 1)))) 256)))) then (if 3 < (l0.length : Int) then (souterrainref02_First.j0 k l0 (wrap64 ((wrap64 (256 * (wrap64 (rd l0 0)))) + (wrap64 (rd l0 1)))) ((wrap64 (rd l0 3)) != (wrap64 (255 - (Int.tmod (wrap64 ((wrap64 (256 * (wrap64 (rd l0 0)))) + (wrap64 (rd l0 1)))) 256))))) else (none)) else (souterrainref02_First.j0 k l0 (wrap64 ((wrap64 (256 * (wrap64 (rd l0 0)))) + (wrap64 (rd l0 1)))) true)) else (none)))) else (none)) else (none))
theorem souterrainref02_First.mono_l : ∀ k, (∀ y0 y1 y2, LeO (souterrainref02_First.j0 k y0 y1 y2) (souterrainref02_First.j0 (k + 1) y0 y1 y2))
  | 0 => fun _ _ _ r h => by simp [souterrainref02_First.j0] at h
  | k + 1 => by
    have ih0 := souterrainref02_First.mono_l k
    · intro y0 y1 y2
      unfold souterrainref02_First.j0
      repeat' first
      | (with_reducible exact ih0 _ _ _)
      | (with_reducible exact souterrainref02_Put.mono _ _)
      | (with_reducible exact LeO.refl _)
      | (with_reducible exact LeO.none _)
      | (with_reducible refine LeO.ite ?_ ?_)
      | (with_reducible refine LeO.bind ?_ (fun _ => ?_))
      | exact ih0 _ _ _
      | exact souterrainref02_Put.mono _ _
      | exact LeO.none _
      | refine LeO.ite ?_ ?_
      | refine LeO.bind ?_ (fun _ => ?_)
theorem souterrainref02_First.mono : ∀ a0 k, LeO (souterrainref02_First.f k a0) (souterrainref02_First.f (k + 1) a0) := by
  intro a0 k
  have ih0 := souterrainref02_First.mono_l k
  unfold souterrainref02_First.f
  repeat' first
      | (with_reducible exact ih0 _ _ _)
      | (with_reducible exact souterrainref02_Put.mono _ _)
      | (with_reducible exact LeO.refl _)
      | (with_reducible exact LeO.none _)
      | (with_reducible refine LeO.ite ?_ ?_)
      | (with_reducible refine LeO.bind ?_ (fun _ => ?_))
      | exact ih0 _ _ _
      | exact souterrainref02_Put.mono _ _
      | exact LeO.none _
      | refine LeO.ite ?_ ?_
      | refine LeO.bind ?_ (fun _ => ?_)
def souterrainref02_First.T3 : Bool × List (List Nat × List Nat) := (true, [([], []), ([0], [0]), ([1], [1]), ([2], [2]), ([3], [3]), ([], []), ([5], [5]), ([6], [6]), ([7], [7]), ([4, 8], [4, 8]), ([9, 0, 1, 2, 3, 4, 5, 6, 7, 8, 9], [9])])
def souterrainref02_First.B3 : List Nat := [0, 1, 3, 7, 15, 0, 32, 96, 224, 511, 1023]
theorem souterrainref02_First.tab3 : rtab .any (opsOf Try.f17 3) = souterrainref02_First.T3 := by kernel_rfl
theorem souterrainref02_First.bits3 : waitsOk souterrainref02_First.T3.2 souterrainref02_First.B3 = true := by kernel_rfl
def souterrainref02_First.T9 : Bool × List (List Nat × List Nat) := (true, [([], []), ([0], [0]), ([1], [1]), ([], []), ([], []), ([4], [4]), ([3, 5], [3, 5]), ([6], [6]), ([2, 7], [2, 7])])
def souterrainref02_First.B9 : List Nat := [0, 1, 3, 0, 0, 16, 56, 120, 255]
theorem souterrainref02_First.tab9 : rtab .any (opsOf Try.f17 9) = souterrainref02_First.T9 := by kernel_rfl
theorem souterrainref02_First.bits9 : waitsOk souterrainref02_First.T9.2 souterrainref02_First.B9 = true := by kernel_rfl
set_option maxHeartbeats 8000000 in
set_option maxRecDepth 100000 in
theorem souterrainref02_First.calls (k : Nat) (A0 : Option Addr) (c0 : Nat) (l0 : List Int) (r1 : List Int) (r2 : Int) (r3 : Int) (w : World) (hr0 : Kd.C (Kd.int .u8) w A0 l0.length l0) (hc0 : l0.length ≤ c0) (h : souterrainref02_First.f k l0 = some (r1, r2, r3)) :
    Calls Try.prog 17 #[.slice A0 l0.length c0] w fun e w' => ∃ v0_ : Value, e = .returned (.tuple #[v0_, .int .i64 r2, .int .i64 r3]) ∧ Kd.R (Kd.int .u8) 5 w' w.heap.size (fun _ => True) v0_ r1 ∧ Below w.heap.size w w' := by
  have HR0 := Aside0.mk hr0
  have HC0 := Aside0.mk hc0
  clear hr0 hc0
  have HB := Aside0.mk (Below.refl w.heap.size w)
  have H : (if (l0.length : Int) < 4 then (some (([] : List Int), 0, 21)) else (if 0 < (l0.length : Int) then (if 1 < (l0.length : Int) then ((souterrainref02_Size.f (wrap64 ((wrap64 (256 * (wrap64 (rd l0 0)))) + (wrap64 (rd l0 1))))).bind fun t118 => (if t118 = 0 then (souterrainref02_First.j0 k l0 (wrap64 ((wrap64 (256 * (wrap64 (rd l0 0)))) + (wrap64 (rd l0 1)))) true) else (if 2 < (l0.length : Int) then (if (wrap64 (rd l0 2)) = (wrap64 (255 - (wrap64 (Int.tdiv (wrap64 ((wrap64 (256 * (wrap64 (rd l0 0)))) + (wrap64 (rd l0 1)))) 256)))) then (if 3 < (l0.length : Int) then (souterrainref02_First.j0 k l0 (wrap64 ((wrap64 (256 * (wrap64 (rd l0 0)))) + (wrap64 (rd l0 1)))) ((wrap64 (rd l0 3)) != (wrap64 (255 - (Int.tmod (wrap64 ((wrap64 (256 * (wrap64 (rd l0 0)))) + (wrap64 (rd l0 1)))) 256))))) else (none)) else (souterrainref02_First.j0 k l0 (wrap64 ((wrap64 (256 * (wrap64 (rd l0 0)))) + (wrap64 (rd l0 1)))) true)) else (none)))) else (none)) else (none))) = some (r1, r2, r3) := h
  clear h
  by_cases c2 : (l0.length : Int) < 4
  · rw [if_pos c2] at H
    have c2b0 : decide ((l0.length : Int) < 4) = true := decide_eq_true c2
    have c2b1 : decide (l0.length < 4) = true := decide_eq_true (by omega)
    clear c2
    simp only [Option.some.injEq, Prod.mk.injEq] at H
    obtain ⟨rfl, rfl, rfl⟩ := H
    go_enter Try.func17, Try.ntmps17
    go_wp2
    go_ret3
    exact ⟨_, by first | rfl | (simp [errW_none, errW_some] <;> rfl) | (simp [*, errW_none, errW_some] <;> rfl), by first | exact Kd.R_nil _ _ _ _ _ | exact Kd.N_nil _ _ _ _ _ | exact Kd.V_nil _ _ _ _ _ | exact Kd.Q_nil _ _ _ _ _ | exact Kd.S_nil _ _ _ _ _, by repeat (first | (with_reducible first | exact HB.out | apply below_alloc | apply pw_below_drewN | apply below_drew1) | exact HB.out)⟩
  · rw [if_neg c2] at H
    have c2b0 : decide ((l0.length : Int) < 4) = false := decide_eq_false c2
    have c2b1 : decide (l0.length < 4) = false := decide_eq_false (by omega)
    clear c2
    by_cases c3 : 0 < (l0.length : Int)
    · rw [if_pos c3] at H
      have c3b0 : decide (0 < (l0.length : Int)) = true := decide_eq_true c3
      have c3b1 : decide (0 < l0.length) = true := decide_eq_true (by omega)
      clear c3
      by_cases c4 : 1 < (l0.length : Int)
      · rw [if_pos c4] at H
        have c4b0 : decide (1 < (l0.length : Int)) = true := decide_eq_true c4
        have c4b1 : decide (1 < l0.length) = true := decide_eq_true (by omega)
        clear c4
        have HC5 := Aside0.mk H
        clear H
        go_enter Try.func17, Try.ntmps17
        try go_wp2
        have n0_ := Aside0.mk (below_drew1 HB.out)
        clear HB
        have HB := n0_
        clear n0_
        have p116 : 0 ≤ (0 : Int) := (by omega)
        have q116 : 0 < (l0.length : Int) := of_decide_eq_true (by first | (with_reducible assumption) | assumption)
        obtain ⟨ad116, e116, hx116_0⟩ := Kd.at_int HR0.out 0 p116 q116
        have hw116_0 := hx116_0
        (try rw [show ((0 : Int)).toNat = 0 from rfl] at hw116_0)
        (try rw [show 0 * 1 = 0 from rfl] at hw116_0)
        (try rw [Addr.add_zero'] at hw116_0)
        cases e116
        have qi116 : (0 < l0.length) = True := eq_true (by omega)
        (try rw [show ((0 : Int)).toNat = 0 from rfl] at hx116_0)
        (try rw [Addr.add_zero'] at hx116_0)
        replace hx116_0 := (HB.out.cell (World.block_lt_of_cell? w _ hx116_0)).trans hx116_0
        replace p116 := eq_true p116
        replace q116 := eq_true q116
        have p117 : 0 ≤ (1 : Int) := (by omega)
        have q117 : 1 < (l0.length : Int) := of_decide_eq_true (by first | (with_reducible assumption) | assumption)
        obtain ⟨ad117, e117, hx117_0⟩ := Kd.at_int HR0.out 1 p117 q117
        have hw117_0 := hx117_0
        (try rw [show ((1 : Int)).toNat = 1 from rfl] at hw117_0)
        (try rw [show 1 * 1 = 1 from rfl] at hw117_0)
        (try simp only [Nat.reduceMul, Nat.reduceEqDiff, Go.Addr.add, ↓reduceIte] at hw117_0)
        obtain rfl : ad116 = ad117 := (by injection e117)
        (try simp only [show (1 : Int).toNat = 1 from rfl, Nat.reduceMul, Nat.reduceEqDiff, Go.Addr.add, ↓reduceIte] at hx117_0)
        have qi117 : (1 < l0.length) = True := eq_true (by omega)
        (try rw [show ((1 : Int)).toNat = 1 from rfl] at hx117_0)
        replace hx117_0 := (HB.out.cell (World.block_lt_of_cell? w _ hx117_0)).trans hx117_0
        replace p117 := eq_true p117
        replace q117 := eq_true q117
        refine start_ (n := 11) (S := fun w' => w'.cell? ad116 = some (.int .u8 (rd l0 0)) ∧ w'.cell? ⟨ad116.block, ad116.off + 1, none⟩ = some (.int .u8 (rd l0 1))) (ds := []) #[false, false, false, false, false, false, false, false, false, false, false] (by kernel_rfl) rfl rfl ⟨((HB.out.cell (World.block_lt_of_cell? w _ hw116_0)).trans hw116_0), ((HB.out.cell (World.block_lt_of_cell? w _ hw117_0)).trans hw117_0)⟩ (fun hHeld => ?_); refine with_tabW souterrainref02_First.tab3 souterrainref02_First.bits3 (fun HT_ HW_ => ?_)
        generalize w.drew = w6 at HB hx116_0 hx117_0 hHeld ⊢
        refine pure_ (i := 0) (N := some 10) (v := ?_) (a' := ?_) #[true, false, false, false, false, false, false, false, false, false, false] rfl rfl (any_of HT_.out (by kernel_rfl)) (fun _ _ _ h => h) (Or.inl ⟨by rfl, ?_⟩) ?_ ?_
        rotate_left
        · intro w'
          go_simp
          with_reducible rfl
        rotate_left
        · simp only [Act.put, List.setIfInBounds_toArray, List.set_cons_zero, List.set_cons_succ, i64_w, i32_w]
          rfl
        refine pure_ (i := 1) (N := some 11) (v := ?_) (a' := ?_) #[true, true, false, false, false, false, false, false, false, false, false] rfl rfl (any_of HT_.out (by kernel_rfl)) (fun _ _ _ h => h) (Or.inl ⟨by rfl, ?_⟩) ?_ ?_
        rotate_left
        · intro w'
          go_simp
          with_reducible rfl
        rotate_left
        · simp only [Act.put, List.setIfInBounds_toArray, List.set_cons_zero, List.set_cons_succ, i64_w, i32_w]
          rfl
        refine pure_ (i := 5) (N := some 15) (v := ?_) (a' := ?_) #[true, true, false, false, false, true, false, false, false, false, false] rfl rfl (any_of HT_.out (by kernel_rfl)) (fun _ _ _ h => h) (Or.inl ⟨by rfl, ?_⟩) ?_ ?_
        rotate_left
        · intro w'
          go_simp
          with_reducible rfl
        rotate_left
        · simp only [Act.put, List.setIfInBounds_toArray, List.set_cons_zero, List.set_cons_succ, i64_w, i32_w]
          rfl
        refine pure_ (i := 6) (N := some 16) (v := ?_) (a' := ?_) #[true, true, false, false, false, true, true, false, false, false, false] rfl rfl (any_of HT_.out (by kernel_rfl)) (fun _ _ _ h => h) (Or.inl ⟨by rfl, ?_⟩) ?_ ?_
        rotate_left
        · intro w'
          go_simp
          with_reducible rfl
        rotate_left
        · simp only [Act.put, List.setIfInBounds_toArray, List.set_cons_zero, List.set_cons_succ, i64_w, i32_w]
          rfl
        refine take_ (i := 2) (N := some 12) (v := ?_) (a' := ?_) #[true, true, true, false, false, true, true, false, false, false, false] rfl rfl (take_ofW HT_.out HW_.out (by kernel_rfl)) (fun _ _ _ h => h) (Or.inl ⟨by rfl, ?_⟩) hHeld ?_ ?_
        rotate_left
        · rintro w' ⟨s0, s1⟩
          go_simp
          with_reducible rfl
        rotate_left
        · simp only [Act.put, List.setIfInBounds_toArray, List.set_cons_zero, List.set_cons_succ, i64_w, i32_w]
          rfl
        refine pure_ (i := 3) (N := some 13) (v := ?_) (a' := ?_) #[true, true, true, true, false, true, true, false, false, false, false] rfl rfl (any_of HT_.out (by kernel_rfl)) (fun _ _ _ h => h) (Or.inl ⟨by rfl, ?_⟩) ?_ ?_
        rotate_left
        · intro w'
          go_simp
          with_reducible rfl
        rotate_left
        · simp only [Act.put, List.setIfInBounds_toArray, List.set_cons_zero, List.set_cons_succ, i64_w, i32_w]
          rfl
        refine pure_ (i := 4) (N := some 14) (v := ?_) (a' := ?_) #[true, true, true, true, true, true, true, false, false, false, false] rfl rfl (any_of HT_.out (by kernel_rfl)) (fun _ _ _ h => h) (Or.inl ⟨by rfl, ?_⟩) ?_ ?_
        rotate_left
        · intro w'
          go_simp
          with_reducible rfl
        rotate_left
        · simp only [Act.put, List.setIfInBounds_toArray, List.set_cons_zero, List.set_cons_succ, i64_w, i32_w]
          rfl
        refine take_ (i := 7) (N := some 17) (v := ?_) (a' := ?_) #[true, true, true, true, true, true, true, true, false, false, false] rfl rfl (take_ofW HT_.out HW_.out (by kernel_rfl)) (fun _ _ _ h => h) (Or.inl ⟨by rfl, ?_⟩) hHeld ?_ ?_
        rotate_left
        · rintro w' ⟨s0, s1⟩
          go_simp
          with_reducible rfl
        rotate_left
        · simp only [Act.put, List.setIfInBounds_toArray, List.set_cons_zero, List.set_cons_succ, i64_w, i32_w]
          rfl
        refine pure_ (i := 8) (N := some 18) (v := ?_) (a' := ?_) #[true, true, true, true, true, true, true, true, true, false, false] rfl rfl (any_of HT_.out (by kernel_rfl)) (fun _ _ _ h => h) (Or.inl ⟨by rfl, ?_⟩) ?_ ?_
        rotate_left
        · intro w'
          go_simp
          with_reducible rfl
        rotate_left
        · simp only [Act.put, List.setIfInBounds_toArray, List.set_cons_zero, List.set_cons_succ, i64_w, i32_w]
          rfl
        refine pure_ (i := 9) (N := some 19) (v := ?_) (a' := ?_) #[true, true, true, true, true, true, true, true, true, true, false] rfl rfl (any_of HT_.out (by kernel_rfl)) (fun _ _ _ h => h) (Or.inl ⟨by rfl, ?_⟩) ?_ ?_
        rotate_left
        · intro w'
          go_simp
          with_reducible rfl
        rotate_left
        · simp only [Act.put, List.setIfInBounds_toArray, List.set_cons_zero, List.set_cons_succ, i64_w, i32_w]
          rfl
        refine pure_ (i := 10) (N := some 5) (v := ?_) (a' := ?_) #[true, true, true, true, true, true, true, true, true, true, true] rfl rfl (any_of HT_.out (by kernel_rfl)) (fun _ _ _ h => h) (Or.inl ⟨by rfl, ?_⟩) ?_ ?_
        rotate_left
        · intro w'
          go_simp
          with_reducible rfl
        rotate_left
        · simp only [Act.put, List.setIfInBounds_toArray, List.set_cons_zero, List.set_cons_succ, i64_w, i32_w]
          rfl
        refine done_ (done_of HT_.out (by kernel_rfl)) ?_
        go_upto_region 4 with (fail)
        go_cut [42] (fun v42 wc => ∃ (kq : Nat) (x42_4 : Bool), v42 = .bool x42_4 ∧ Aside0 (souterrainref02_First.j0 kq l0 (wrap64 ((wrap64 (256 * (wrap64 (rd l0 0)))) + (wrap64 (rd l0 1)))) x42_4 = some (r1, r2, r3)) ∧ Aside0 (kq ≤ k) ∧ Aside0 (Below w.heap.size w wc))
        case first =>
          have H := HC5.out
          clear HC5
          replace H := Option.bind_eq_some_iff.mp H
          obtain ⟨t118, A70, H⟩ := H
          replace H : (if t118 = 0 then (souterrainref02_First.j0 k l0 (wrap64 ((wrap64 (256 * (wrap64 (rd l0 0)))) + (wrap64 (rd l0 1)))) true) else (if 2 < (l0.length : Int) then (if (wrap64 (rd l0 2)) = (wrap64 (255 - (wrap64 (Int.tdiv (wrap64 ((wrap64 (256 * (wrap64 (rd l0 0)))) + (wrap64 (rd l0 1)))) 256)))) then (if 3 < (l0.length : Int) then (souterrainref02_First.j0 k l0 (wrap64 ((wrap64 (256 * (wrap64 (rd l0 0)))) + (wrap64 (rd l0 1)))) ((wrap64 (rd l0 3)) != (wrap64 (255 - (Int.tmod (wrap64 ((wrap64 (256 * (wrap64 (rd l0 0)))) + (wrap64 (rd l0 1)))) 256))))) else (none)) else (souterrainref02_First.j0 k l0 (wrap64 ((wrap64 (256 * (wrap64 (rd l0 0)))) + (wrap64 (rd l0 1)))) true)) else (none))) = some (r1, r2, r3) := H
          have A7 := Aside0.mk A70
          clear A70
          by_cases c8 : t118 = 0
          · rw [if_pos c8] at H
            have c8b0 : (t118 == 0) = true := beq_iff_eq.mpr c8
            have c8b1 : (t118 != 0) = false := bne_eq_false_iff_eq.mpr c8
            clear c8
            (first | rw [c8b0] | (simp only [i64_w, i32_w]; rw [c8b0]) | skip)
            have H' := Aside0.mk H
            clear H
            go_wp2_with (first | ((with_reducible refine gate_callee (f := 21) rfl ?_); refine goesL_ (some 21) rfl rfl Try.func21 (by kernel_rfl) rfl #[.int .i64 (wrap64 ((wrap64 (256 * (wrap64 (rd l0 0)))) + (wrap64 (rd l0 1))))] rfl (by (try simp only [List.map_toArray, List.map_cons, List.map_nil]); first | done | rfl | (simp only [List.length_drop, List.length_take]; rfl)) ?_; (with_reducible refine (souterrainref02_Size.calls (wrap64 ((wrap64 (256 * (wrap64 (rd l0 0)))) + (wrap64 (rd l0 1)))) t118 _ A7.out).mono ?_); rintro e w' ⟨rfl, ⟨nd, rfl⟩⟩; refine ⟨_, rfl, ?_⟩))
            go_meet
            case rel => exact ⟨_, (true), (by first | rfl | (simp; done) | (simp [*]; done)), H', ⟨by first | omega | exact Nat.le_refl _⟩, ⟨by repeat (first | (with_reducible first | exact HB.out | apply below_alloc | apply pw_below_drewN | apply below_drew1) | exact HB.out)⟩⟩
          · rw [if_neg c8] at H
            have c8b0 : (t118 == 0) = false := beq_eq_false_iff_ne.mpr c8
            have c8b1 : (t118 != 0) = true := bne_iff_ne.mpr c8
            (first | rw [c8b0] | (simp only [i64_w, i32_w]; rw [c8b0]) | skip)
            by_cases c9 : 2 < (l0.length : Int)
            · rw [if_pos c9] at H
              have c9b0 : decide (2 < (l0.length : Int)) = true := decide_eq_true c9
              have c9b1 : decide (2 < l0.length) = true := decide_eq_true (by omega)
              clear c9
              by_cases c10 : (wrap64 (rd l0 2)) = (wrap64 (255 - (wrap64 (Int.tdiv (wrap64 ((wrap64 (256 * (wrap64 (rd l0 0)))) + (wrap64 (rd l0 1)))) 256))))
              · rw [if_pos c10] at H
                have c10b0 : ((wrap64 (rd l0 2)) == (wrap64 (255 - (wrap64 (Int.tdiv (wrap64 ((wrap64 (256 * (wrap64 (rd l0 0)))) + (wrap64 (rd l0 1)))) 256))))) = true := beq_iff_eq.mpr c10
                have c10b1 : ((wrap64 (rd l0 2)) != (wrap64 (255 - (wrap64 (Int.tdiv (wrap64 ((wrap64 (256 * (wrap64 (rd l0 0)))) + (wrap64 (rd l0 1)))) 256))))) = false := bne_eq_false_iff_eq.mpr c10
                clear c10
                by_cases c11 : 3 < (l0.length : Int)
                · rw [if_pos c11] at H
                  have c11b0 : decide (3 < (l0.length : Int)) = true := decide_eq_true c11
                  have c11b1 : decide (3 < l0.length) = true := decide_eq_true (by omega)
                  clear c11
                  have H' := Aside0.mk H
                  clear H
                  go_wp2_with (first | ((with_reducible refine gate_callee (f := 21) rfl ?_); refine goesL_ (some 21) rfl rfl Try.func21 (by kernel_rfl) rfl #[.int .i64 (wrap64 ((wrap64 (256 * (wrap64 (rd l0 0)))) + (wrap64 (rd l0 1))))] rfl (by (try simp only [List.map_toArray, List.map_cons, List.map_nil]); first | done | rfl | (simp only [List.length_drop, List.length_take]; rfl)) ?_; (with_reducible refine (souterrainref02_Size.calls (wrap64 ((wrap64 (256 * (wrap64 (rd l0 0)))) + (wrap64 (rd l0 1)))) t118 _ A7.out).mono ?_); rintro e w' ⟨rfl, ⟨nd, rfl⟩⟩; refine ⟨_, rfl, ?_⟩; have p119 : 0 ≤ (2 : Int) := (by omega); have q119 : 2 < (l0.length : Int) := of_decide_eq_true (by first | (with_reducible assumption) | assumption); obtain ⟨ad119, e119, hx119_0⟩ := Kd.at_int HR0.out 2 p119 q119; obtain rfl : ad116 = ad119 := (by injection e119); (try simp only [show (2 : Int).toNat = 2 from rfl, Nat.reduceMul, Nat.reduceEqDiff, Go.Addr.add, ↓reduceIte] at hx119_0); have qi119 : (2 < l0.length) = True := eq_true (by omega); (try rw [show ((2 : Int)).toNat = 2 from rfl] at hx119_0); replace hx119_0 := (HB.out.cell (World.block_lt_of_cell? w _ hx119_0)).trans hx119_0; replace p119 := eq_true p119; replace q119 := eq_true q119; have p120 : 0 ≤ (3 : Int) := (by omega); have q120 : 3 < (l0.length : Int) := of_decide_eq_true (by first | (with_reducible assumption) | assumption); obtain ⟨ad120, e120, hx120_0⟩ := Kd.at_int HR0.out 3 p120 q120; obtain rfl : ad116 = ad120 := (by injection e120); (try simp only [show (3 : Int).toNat = 3 from rfl, Nat.reduceMul, Nat.reduceEqDiff, Go.Addr.add, ↓reduceIte] at hx120_0); have qi120 : (3 < l0.length) = True := eq_true (by omega); (try rw [show ((3 : Int)).toNat = 3 from rfl] at hx120_0); replace hx120_0 := (HB.out.cell (World.block_lt_of_cell? w _ hx120_0)).trans hx120_0; replace p120 := eq_true p120; replace q120 := eq_true q120))
                  go_meet
                  case rel => exact ⟨_, (((wrap64 (rd l0 3)) != (wrap64 (255 - (Int.tmod (wrap64 ((wrap64 (256 * (wrap64 (rd l0 0)))) + (wrap64 (rd l0 1)))) 256))))), (by first | rfl | (simp; done) | (simp [*]; done)), H', ⟨by first | omega | exact Nat.le_refl _⟩, ⟨by repeat (first | (with_reducible first | exact HB.out | apply below_alloc | apply pw_below_drewN | apply below_drew1) | exact HB.out)⟩⟩
                · rw [if_neg c11] at H
                  exact absurd H (by simp)
              · rw [if_neg c10] at H
                have c10b0 : ((wrap64 (rd l0 2)) == (wrap64 (255 - (wrap64 (Int.tdiv (wrap64 ((wrap64 (256 * (wrap64 (rd l0 0)))) + (wrap64 (rd l0 1)))) 256))))) = false := beq_eq_false_iff_ne.mpr c10
                have c10b1 : ((wrap64 (rd l0 2)) != (wrap64 (255 - (wrap64 (Int.tdiv (wrap64 ((wrap64 (256 * (wrap64 (rd l0 0)))) + (wrap64 (rd l0 1)))) 256))))) = true := bne_iff_ne.mpr c10
                have H' := Aside0.mk H
                clear H
                go_wp2_with (first | ((with_reducible refine gate_callee (f := 21) rfl ?_); refine goesL_ (some 21) rfl rfl Try.func21 (by kernel_rfl) rfl #[.int .i64 (wrap64 ((wrap64 (256 * (wrap64 (rd l0 0)))) + (wrap64 (rd l0 1))))] rfl (by (try simp only [List.map_toArray, List.map_cons, List.map_nil]); first | done | rfl | (simp only [List.length_drop, List.length_take]; rfl)) ?_; (with_reducible refine (souterrainref02_Size.calls (wrap64 ((wrap64 (256 * (wrap64 (rd l0 0)))) + (wrap64 (rd l0 1)))) t118 _ A7.out).mono ?_); rintro e w' ⟨rfl, ⟨nd, rfl⟩⟩; refine ⟨_, rfl, ?_⟩; have p119 : 0 ≤ (2 : Int) := (by omega); have q119 : 2 < (l0.length : Int) := of_decide_eq_true (by first | (with_reducible assumption) | assumption); obtain ⟨ad119, e119, hx119_0⟩ := Kd.at_int HR0.out 2 p119 q119; obtain rfl : ad116 = ad119 := (by injection e119); (try simp only [show (2 : Int).toNat = 2 from rfl, Nat.reduceMul, Nat.reduceEqDiff, Go.Addr.add, ↓reduceIte] at hx119_0); have qi119 : (2 < l0.length) = True := eq_true (by omega); (try rw [show ((2 : Int)).toNat = 2 from rfl] at hx119_0); replace hx119_0 := (HB.out.cell (World.block_lt_of_cell? w _ hx119_0)).trans hx119_0; replace p119 := eq_true p119; replace q119 := eq_true q119))
                go_meet
                case rel => exact ⟨_, (true), (by first | rfl | (simp; done) | (simp [*]; done)), H', ⟨by first | omega | exact Nat.le_refl _⟩, ⟨by repeat (first | (with_reducible first | exact HB.out | apply below_alloc | apply pw_below_drewN | apply below_drew1) | exact HB.out)⟩⟩
            · rw [if_neg c9] at H
              exact absurd H (by simp)
        case rest =>
          clear HC5
          try clear c1
          try clear p1
          try clear q1
          try clear hx1
          try clear qi1
          try clear c2
          try clear c2b0
          try clear c2b1
          try clear p2
          try clear c3
          try clear c3b0
          try clear c3b1
          try clear c4
          try clear c4b0
          try clear c4b1
          try clear p6
          try clear c8
          try clear c8b0
          try clear c8b1
          try clear c9
          try clear c9b0
          try clear c9b1
          try clear c10
          try clear c10b0
          try clear c10b1
          try clear c11
          try clear c11b0
          try clear c11b1
          try clear p11
          try clear q11
          try clear hx11
          try clear qi11
          try clear hx116_0
          try clear hx117_0
          try clear hx119_0
          try clear hx120_0
          try clear p116
          try clear p117
          try clear p119
          try clear p120
          try clear q116
          try clear q117
          try clear q119
          try clear q120
          obtain ⟨kq, x42_4, rfl, HA, HJ4, HB⟩ := hcut
          cases kq with
          | zero => exact absurd HA.out (by simp [souterrainref02_First.j0])
          | succ kj4 =>
            have H := HA.out
            clear HA
            simp only [souterrainref02_First.j0] at H
            by_cases c12 : x42_4 = true
            · subst c12
              have H1 : (some (([] : List Int), 0, 22)) = some (r1, r2, r3) := by rw [if_pos rfl] at H; exact H
              clear H
              have H := H1
              clear H1
              simp only [Option.some.injEq, Prod.mk.injEq] at H
              obtain ⟨rfl, rfl, rfl⟩ := H
              go_wp2
              go_ret3
              exact ⟨_, by first | rfl | (simp [errW_none, errW_some] <;> rfl) | (simp [*, errW_none, errW_some] <;> rfl), by first | exact Kd.R_nil _ _ _ _ _ | exact Kd.N_nil _ _ _ _ _ | exact Kd.V_nil _ _ _ _ _ | exact Kd.Q_nil _ _ _ _ _ | exact Kd.S_nil _ _ _ _ _, by repeat (first | (with_reducible first | exact HB.out | apply below_alloc | apply pw_below_drewN | apply below_drew1) | exact HB.out)⟩
            · replace c12 := Bool.eq_false_iff.mpr c12
              subst c12
              have H1 : (if (l0.length : Int) < (wrap64 ((wrap64 ((wrap64 (256 * (wrap64 (rd l0 0)))) + (wrap64 (rd l0 1)))) + 8)) then (some (([] : List Int), 0, 21)) else ((some (([] : List Int) : List Int)).bind fun y121 => (if 4 ≤ (wrap64 ((wrap64 ((wrap64 (256 * (wrap64 (rd l0 0)))) + (wrap64 (rd l0 1)))) + 4)) then (if (wrap64 ((wrap64 ((wrap64 (256 * (wrap64 (rd l0 0)))) + (wrap64 (rd l0 1)))) + 4)) ≤ (l0.length : Int) then (if y121.length + ((l0.take ((wrap64 ((wrap64 ((wrap64 (256 * (wrap64 (rd l0 0)))) + (wrap64 (rd l0 1)))) + 4)) : Int).toNat).drop 4).length < 140737488355328 then ((some (y121 ++ ((l0.take ((wrap64 ((wrap64 ((wrap64 (256 * (wrap64 (rd l0 0)))) + (wrap64 (rd l0 1)))) + 4)) : Int).toNat).drop 4) : List Int)).bind fun y125 => ((souterrainref02_Put.f kj4 y125).bind fun t128 => (if 0 ≤ (wrap64 ((wrap64 ((wrap64 (256 * (wrap64 (rd l0 0)))) + (wrap64 (rd l0 1)))) + 8)) then (if (wrap64 ((wrap64 ((wrap64 (256 * (wrap64 (rd l0 0)))) + (wrap64 (rd l0 1)))) + 8)) ≤ (l0.length : Int) then (if (strOfNums t128).toList = (strOfNums (l0.take ((wrap64 ((wrap64 ((wrap64 (256 * (wrap64 (rd l0 0)))) + (wrap64 (rd l0 1)))) + 8)) : Int).toNat)).toList then (some (y125, wrap64 ((wrap64 ((wrap64 (256 * (wrap64 (rd l0 0)))) + (wrap64 (rd l0 1)))) + 8), 0)) else (some (([] : List Int), wrap64 ((wrap64 ((wrap64 (256 * (wrap64 (rd l0 0)))) + (wrap64 (rd l0 1)))) + 8), 22))) else (none)) else (none)))) else (none)) else (none)) else (none)))) = some (r1, r2, r3) := by rw [if_neg (show ¬ (false = true) by decide)] at H; exact H
              clear H
              have H := H1
              clear H1
              by_cases c13 : (l0.length : Int) < (wrap64 ((wrap64 ((wrap64 (256 * (wrap64 (rd l0 0)))) + (wrap64 (rd l0 1)))) + 8))
              · rw [if_pos c13] at H
                have c13b0 : decide ((l0.length : Int) < (wrap64 ((wrap64 ((wrap64 (256 * (wrap64 (rd l0 0)))) + (wrap64 (rd l0 1)))) + 8))) = true := decide_eq_true c13
                clear c13
                simp only [Option.some.injEq, Prod.mk.injEq] at H
                obtain ⟨rfl, rfl, rfl⟩ := H
                go_wp2
                go_ret3
                exact ⟨_, by first | rfl | (simp [errW_none, errW_some] <;> rfl) | (simp [*, errW_none, errW_some] <;> rfl), by first | exact Kd.R_nil _ _ _ _ _ | exact Kd.N_nil _ _ _ _ _ | exact Kd.V_nil _ _ _ _ _ | exact Kd.Q_nil _ _ _ _ _ | exact Kd.S_nil _ _ _ _ _, by repeat (first | (with_reducible first | exact HB.out | apply below_alloc | apply pw_below_drewN | apply below_drew1) | exact HB.out)⟩
              · rw [if_neg c13] at H
                have c13b0 : decide ((l0.length : Int) < (wrap64 ((wrap64 ((wrap64 (256 * (wrap64 (rd l0 0)))) + (wrap64 (rd l0 1)))) + 8))) = false := decide_eq_false c13
                clear c13
                obtain ⟨y121, hy121⟩ : ∃ y_ : List Int, y_ = (([] : List Int)) := ⟨_, rfl⟩
                replace H : (if 4 ≤ (wrap64 ((wrap64 ((wrap64 (256 * (wrap64 (rd l0 0)))) + (wrap64 (rd l0 1)))) + 4)) then (if (wrap64 ((wrap64 ((wrap64 (256 * (wrap64 (rd l0 0)))) + (wrap64 (rd l0 1)))) + 4)) ≤ (l0.length : Int) then (if y121.length + ((l0.take ((wrap64 ((wrap64 ((wrap64 (256 * (wrap64 (rd l0 0)))) + (wrap64 (rd l0 1)))) + 4)) : Int).toNat).drop 4).length < 140737488355328 then ((some (y121 ++ ((l0.take ((wrap64 ((wrap64 ((wrap64 (256 * (wrap64 (rd l0 0)))) + (wrap64 (rd l0 1)))) + 4)) : Int).toNat).drop 4) : List Int)).bind fun y125 => ((souterrainref02_Put.f kj4 y125).bind fun t128 => (if 0 ≤ (wrap64 ((wrap64 ((wrap64 (256 * (wrap64 (rd l0 0)))) + (wrap64 (rd l0 1)))) + 8)) then (if (wrap64 ((wrap64 ((wrap64 (256 * (wrap64 (rd l0 0)))) + (wrap64 (rd l0 1)))) + 8)) ≤ (l0.length : Int) then (if (strOfNums t128).toList = (strOfNums (l0.take ((wrap64 ((wrap64 ((wrap64 (256 * (wrap64 (rd l0 0)))) + (wrap64 (rd l0 1)))) + 8)) : Int).toNat)).toList then (some (y125, wrap64 ((wrap64 ((wrap64 (256 * (wrap64 (rd l0 0)))) + (wrap64 (rd l0 1)))) + 8), 0)) else (some (([] : List Int), wrap64 ((wrap64 ((wrap64 (256 * (wrap64 (rd l0 0)))) + (wrap64 (rd l0 1)))) + 8), 22))) else (none)) else (none)))) else (none)) else (none)) else (none)) = some (r1, r2, r3) := by first | (rw [hy121]; with_reducible exact H) | (have H2_ := (Option.bind_some _ _).symm.trans H; rw [hy121]; with_reducible exact H2_) | (have H2_ := (Option.bind_some _ _).symm.trans H; with_reducible exact H2_) | with_reducible exact H | (rw [hy121]; exact H) | exact H
                have Ny121 := Aside0.mk hy121
                clear hy121
                by_cases c14 : 4 ≤ (wrap64 ((wrap64 ((wrap64 (256 * (wrap64 (rd l0 0)))) + (wrap64 (rd l0 1)))) + 4))
                · rw [if_pos c14] at H
                  have c14b0 := eq_true c14
                  have c14b1 : decide (4 ≤ (wrap64 ((wrap64 ((wrap64 (256 * (wrap64 (rd l0 0)))) + (wrap64 (rd l0 1)))) + 4))) = true := decide_eq_true c14
                  by_cases c15 : (wrap64 ((wrap64 ((wrap64 (256 * (wrap64 (rd l0 0)))) + (wrap64 (rd l0 1)))) + 4)) ≤ (l0.length : Int)
                  · rw [if_pos c15] at H
                    have c15b0 := eq_true c15
                    have c15b1 : decide ((wrap64 ((wrap64 ((wrap64 (256 * (wrap64 (rd l0 0)))) + (wrap64 (rd l0 1)))) + 4)) ≤ (l0.length : Int)) = true := decide_eq_true c15
                    by_cases c16 : y121.length + ((l0.take ((wrap64 ((wrap64 ((wrap64 (256 * (wrap64 (rd l0 0)))) + (wrap64 (rd l0 1)))) + 4)) : Int).toNat).drop 4).length < 140737488355328
                    · rw [if_pos c16] at H
                      have LMc16 := Aside0.mk c16
                      clear c16
                      obtain ⟨y125, hy125⟩ : ∃ y_ : List Int, y_ = (y121 ++ ((l0.take ((wrap64 ((wrap64 ((wrap64 (256 * (wrap64 (rd l0 0)))) + (wrap64 (rd l0 1)))) + 4)) : Int).toNat).drop 4)) := ⟨_, rfl⟩
                      replace H : ((souterrainref02_Put.f kj4 y125).bind fun t128 => (if 0 ≤ (wrap64 ((wrap64 ((wrap64 (256 * (wrap64 (rd l0 0)))) + (wrap64 (rd l0 1)))) + 8)) then (if (wrap64 ((wrap64 ((wrap64 (256 * (wrap64 (rd l0 0)))) + (wrap64 (rd l0 1)))) + 8)) ≤ (l0.length : Int) then (if (strOfNums t128).toList = (strOfNums (l0.take ((wrap64 ((wrap64 ((wrap64 (256 * (wrap64 (rd l0 0)))) + (wrap64 (rd l0 1)))) + 8)) : Int).toNat)).toList then (some (y125, wrap64 ((wrap64 ((wrap64 (256 * (wrap64 (rd l0 0)))) + (wrap64 (rd l0 1)))) + 8), 0)) else (some (([] : List Int), wrap64 ((wrap64 ((wrap64 (256 * (wrap64 (rd l0 0)))) + (wrap64 (rd l0 1)))) + 8), 22))) else (none)) else (none))) = some (r1, r2, r3) := by first | (rw [hy125]; with_reducible exact H) | (have H2_ := (Option.bind_some _ _).symm.trans H; rw [hy125]; with_reducible exact H2_) | (have H2_ := (Option.bind_some _ _).symm.trans H; with_reducible exact H2_) | with_reducible exact H | (rw [hy125]; exact H) | exact H
                      have Ny125 := Aside0.mk hy125
                      clear hy125
                      replace H := Option.bind_eq_some_iff.mp H
                      obtain ⟨t128, A170, H⟩ := H
                      replace H : (if 0 ≤ (wrap64 ((wrap64 ((wrap64 (256 * (wrap64 (rd l0 0)))) + (wrap64 (rd l0 1)))) + 8)) then (if (wrap64 ((wrap64 ((wrap64 (256 * (wrap64 (rd l0 0)))) + (wrap64 (rd l0 1)))) + 8)) ≤ (l0.length : Int) then (if (strOfNums t128).toList = (strOfNums (l0.take ((wrap64 ((wrap64 ((wrap64 (256 * (wrap64 (rd l0 0)))) + (wrap64 (rd l0 1)))) + 8)) : Int).toNat)).toList then (some (y125, wrap64 ((wrap64 ((wrap64 (256 * (wrap64 (rd l0 0)))) + (wrap64 (rd l0 1)))) + 8), 0)) else (some (([] : List Int), wrap64 ((wrap64 ((wrap64 (256 * (wrap64 (rd l0 0)))) + (wrap64 (rd l0 1)))) + 8), 22))) else (none)) else (none)) = some (r1, r2, r3) := H
                      have A17 := Aside0.mk A170
                      clear A170
                      obtain ⟨ji18, hji18⟩ : ∃ j_ : Int, (wrap64 ((wrap64 ((wrap64 (256 * (wrap64 (rd l0 0)))) + (wrap64 (rd l0 1)))) + 8)) = j_ := ⟨_, rfl⟩
                      replace H : (if 0 ≤ (ji18) then (if (ji18) ≤ (l0.length : Int) then (if (strOfNums t128).toList = (strOfNums (l0.take ((ji18) : Int).toNat)).toList then (some (y125, ji18, 0)) else (some (([] : List Int), ji18, 22))) else (none)) else (none)) = some (r1, r2, r3) := by first | (rw [hji18] at H; exact H) | (simp only [hji18] at H ⊢; exact H)
                      (try rw [hji18] at c13b0)
                      (try rw [hji18] at A17)
                      have hji18w : (IntKind.i64.wrap ((wrap64 ((wrap64 (256 * (wrap64 (rd l0 0)))) + (wrap64 (rd l0 1)))) + 8)) = ji18 := (i64_w _).trans hji18
                      by_cases c19 : 0 ≤ (ji18)
                      · rw [if_pos c19] at H
                        have c19b0 := eq_true c19
                        have c19b1 : decide (0 ≤ (ji18)) = true := decide_eq_true c19
                        clear c19
                        by_cases c20 : (ji18) ≤ (l0.length : Int)
                        · rw [if_pos c20] at H
                          have c20b0 := eq_true c20
                          have c20b1 : decide ((ji18) ≤ (l0.length : Int)) = true := decide_eq_true c20
                          clear c20
                          by_cases c21 : (strOfNums t128).toList = (strOfNums (l0.take ((ji18) : Int).toNat)).toList
                          · rw [if_pos c21] at H
                            have c21b0 : ((strOfNums t128).toList == (strOfNums (l0.take ((ji18) : Int).toNat)).toList) = true := beq_iff_eq.mpr c21
                            have c21b1 : ((strOfNums t128).toList != (strOfNums (l0.take ((ji18) : Int).toNat)).toList) = false := bne_eq_false_iff_eq.mpr c21
                            clear c21
                            simp only [Option.some.injEq, Prod.mk.injEq] at H
                            obtain ⟨rfl, rfl, rfl⟩ := H
                            try go_wp2_with (first | ((with_reducible refine gate_dst (N := 48) rfl ?_); refine Kd.R_lit (Kd.int .u8) _ 5 ?hg (N := 48) ?hd (xs := ([] : List Int)) (inner := []) (ok := fun _ => True) (okp := fun _ => True) ?hr ?hp (fun _ hk => hk) trivial (Below.refl _ _) (Nat.le_refl _) (by simp) ?_; (case hd => rfl); (case hg => rfl); (case hr => first | (go_simp; done) | (go_simp; rfl)); (case hp => exact (Reps.none _ _)); intro v122 w22 ho23 hb hg_ hnew_; clear hg_ hnew_; (first | rw [← Ny121.out] at ho23 | (simp only [Int.reduceToNat] at ho23; rw [← Ny121.out] at ho23)); have n0_ := Aside0.mk (Kd.R_lower ho23 (below_size (by repeat (first | (with_reducible first | exact HB.out | apply below_alloc | apply pw_below_drewN | apply below_drew1) | exact HB.out)))); have n1_ := Aside0.mk (below_step (by repeat (first | (with_reducible first | exact HB.out | apply below_alloc | apply pw_below_drewN | apply below_drew1) | exact HB.out)) hb); clear HB; have HO123 := n0_; have HB := n1_; clear n0_ n1_; clear hb ho23; obtain ⟨i024, hi024, _, hsz24, _⟩ := info_parts info5; obtain ⟨A24, hcut24, hA24, hC24⟩ := print_mid_of (P := Try.prog) (Value.int .u8) 0 22 5 .i64 .i64 Try.underlying22 hi024 hsz24 (some ad116) c0 l0 4 (wrap64 ((wrap64 ((wrap64 (256 * (wrap64 (rd l0 0)))) + (wrap64 (rd l0 1)))) + 4)) (by omega) (by first | omega | exact of_decide_eq_true (by first | (with_reducible assumption) | assumption)) (of_decide_eq_true (by first | (with_reducible assumption) | assumption)) HC0.out; have HR124 := Aside0.mk (Kd.C_of_reads (h1 := fun _ => rfl) (hA24 _ (Kd.reads_of_C HR0.out))); have HC124 := Aside0.mk hC24; clear hA24 hC24 hi024 hsz24) | ((with_reducible refine gate_builtin (b := .append) (xs := #[.tmp 48, .tmp 52]) rfl ?_); at_builtin; refine Kd.R_append_rows (Kd.int .u8) (w0 := w) w.heap.size rfl (.tmp 48) (.tmp 52) 22 5 (.int .u8 0) 1 rfl Try.underlying22 info5 rfl (by decide) (by omega) v122 y121 ((l0.take ((wrap64 ((wrap64 ((wrap64 (256 * (wrap64 (rd l0 0)))) + (wrap64 (rd l0 1)))) + 4)) : Int).toNat).drop 4) _ _ _ (fun _ => True) (fun _ => False) rfl rfl ?aO ?aR (fun _ _ h => h) (fun _ h => h.elim) ?aF ?aB ?aS ?aL ?_; (case aR => first | (rw [← show ((l0.take ((wrap64 ((wrap64 ((wrap64 (256 * (wrap64 (rd l0 0)))) + (wrap64 (rd l0 1)))) + 4)) : Int).toNat).drop 4).length = ((wrap64 ((wrap64 ((wrap64 (256 * (wrap64 (rd l0 0)))) + (wrap64 (rd l0 1)))) + 4)).toNat - 4) from (by rw [List.length_drop, List.length_take]; have h_ : ((wrap64 ((wrap64 ((wrap64 (256 * (wrap64 (rd l0 0)))) + (wrap64 (rd l0 1)))) + 4)) : Int) ≤ (l0.length : Int) := of_decide_eq_true (by first | (with_reducible assumption) | assumption); omega)]; repeat (first | exact (Kd.C_below HR124.out HB.out) | (with_reducible refine Kd.C_alloc ?_ _) | (with_reducible refine Kd.C_drewN ?_ _) | (with_reducible refine Kd.C_drew ?_))) | (repeat (first | exact (Kd.C_below HR124.out HB.out) | (with_reducible refine Kd.C_alloc ?_ _) | (with_reducible refine Kd.C_drewN ?_ _) | (with_reducible refine Kd.C_drew ?_)))); (case aB => exact (by repeat (first | (with_reducible first | exact HB.out | apply below_alloc | apply pw_below_drewN | apply below_drew1) | exact HB.out))); (case aF => exact (fun _ _ => trivial)); (case aO => exact (by (with_reducible repeat (first | apply Kd.R_alloc | apply Kd.R_drewN | apply Kd.R_drew)); exact HO123.out)); (case aS => exact (below_size (by repeat (first | (with_reducible first | exact HB.out | apply below_alloc | apply pw_below_drewN | apply below_drew1) | exact HB.out)))); (case aL => have := LMc16.out; have hlx_ := (show ((l0.take ((wrap64 ((wrap64 ((wrap64 (256 * (wrap64 (rd l0 0)))) + (wrap64 (rd l0 1)))) + 4)) : Int).toNat).drop 4).length = ((wrap64 ((wrap64 ((wrap64 (256 * (wrap64 (rd l0 0)))) + (wrap64 (rd l0 1)))) + 4)).toNat - 4) from (by rw [List.length_drop, List.length_take]; have h_ : ((wrap64 ((wrap64 ((wrap64 (256 * (wrap64 (rd l0 0)))) + (wrap64 (rd l0 1)))) + 4)) : Int) ≤ (l0.length : Int) := of_decide_eq_true (by first | (with_reducible assumption) | assumption); omega)); omega); intro v126 w25 ho hb hg hat; rw [← Ny125.out] at ho; have n0_ := Aside0.mk (hb); have n1_ := Aside0.mk (ho); clear HB; clear HO123; have HB := n0_; have HO127 := n1_; clear n0_ n1_; clear ho hb hg hat))
                            have n0_ := Aside0.mk (Kd.R_drew HO127.out)
                            have n1_ := Aside0.mk (below_drew1 HB.out)
                            clear HO127
                            clear HB
                            have HO127 := n0_
                            have HB := n1_
                            clear n0_ n1_
                            obtain ⟨i027, hi027, _, hsz27, _⟩ := info_parts info5
                            obtain ⟨hcut27, hA27, hC27⟩ := print_take_of (P := Try.prog) (Value.int .u8) 0 22 5 .i64 Try.underlying22 hi027 hsz27 (some ad116) c0 l0 (ji18) (of_decide_eq_true (by first | (with_reducible assumption) | assumption)) (of_decide_eq_true (by first | (with_reducible assumption) | assumption)) HC0.out
                            have HR131 := Aside0.mk (Kd.C_of_reads (h1 := fun _ => rfl) (hA27 _ (Kd.reads_of_C HR0.out)))
                            have HC131 := Aside0.mk hC27
                            clear hA27 hC27 hi027 hsz27
                            obtain ⟨Ao28, co28, eo28⟩ := Kd.R_slice HO127.out
                            (first | subst eo28 | (injection eo28 with f1_ f2_ f3_; have f4_ := f1_.symm; have f5_ := f3_.symm; clear f1_ f2_ f3_; subst f4_; subst f5_))
                            refine start_ (n := 9) (S := fun w' => (convert 22 9 (.slice (some ad116) (l0.take ((ji18) : Int).toNat).length c0)).run Try.prog w' = .ok (.string (strOfNums (l0.take ((ji18) : Int).toNat))) w') (ds := []) #[false, false, false, false, false, false, false, false, false] (by kernel_rfl) rfl rfl ((Kd.C_string (P := Try.prog) (A := (some ad116)) (c := c0) Try.underlying22 Try.underlying5 Try.underlying9 (Kd.C_below HR131.out HB.out))) (fun hHeld => ?_); refine with_tabW souterrainref02_First.tab9 souterrainref02_First.bits9 (fun HT_ HW_ => ?_)
                            generalize w25.drew = w26 at HO127 HB HR131 hHeld ⊢
                            refine pure_ (i := 0) (N := some 54) (v := ?_) (a' := ?_) #[true, false, false, false, false, false, false, false, false] rfl rfl (any_of HT_.out (by kernel_rfl)) (fun _ _ _ h => h) (Or.inl ⟨by rfl, ?_⟩) ?_ ?_
                            rotate_left
                            · intro w'
                              go_simp
                              with_reducible rfl
                            rotate_left
                            · simp only [Act.put, List.setIfInBounds_toArray, List.set_cons_zero, List.set_cons_succ, i64_w, i32_w]
                              rfl
                            refine pure_ (i := 3) (N := some 57) (v := ?_) (a' := ?_) #[true, false, false, true, false, false, false, false, false] rfl rfl (any_of HT_.out (by kernel_rfl)) (fun _ _ _ h => h) (Or.inl ⟨by rfl, ?_⟩) ?_ ?_
                            rotate_left
                            · intro w'
                              go_simp
                              with_reducible rfl
                            rotate_left
                            · simp only [Act.put, List.setIfInBounds_toArray, List.set_cons_zero, List.set_cons_succ, i64_w, i32_w]
                              rfl
                            refine pure_ (i := 4) (N := some 58) (v := ?_) (a' := ?_) #[true, false, false, true, true, false, false, false, false] rfl rfl (any_of HT_.out (by kernel_rfl)) (fun _ _ _ h => h) (Or.inl ⟨by rfl, ?_⟩) ?_ ?_
                            rotate_left
                            · intro w'
                              go_simp
                              with_reducible rfl
                            rotate_left
                            · simp only [Act.put, List.setIfInBounds_toArray, List.set_cons_zero, List.set_cons_succ, i64_w, i32_w]
                              rfl
                            refine pure_ (i := 5) (N := some 59) (v := ?_) (a' := ?_) #[true, false, false, true, true, true, false, false, false] rfl rfl (any_of HT_.out (by kernel_rfl)) (fun _ _ _ h => h) (Or.inl ⟨by rfl, ?_⟩) ?_ ?_
                            rotate_left
                            · intro w'
                              go_simp
                              with_reducible rfl
                            rotate_left
                            · simp only [Act.put, List.setIfInBounds_toArray, List.set_cons_zero, List.set_cons_succ, i64_w, i32_w]
                              rfl
                            refine pure_ (i := 6) (N := some 60) (v := ?_) (a' := ?_) #[true, false, false, true, true, true, true, false, false] rfl rfl (any_of HT_.out (by kernel_rfl)) (fun _ _ _ h => h) (Or.inl ⟨by rfl, ?_⟩) ?_ ?_
                            rotate_left
                            · intro w'
                              go_simp
                              with_reducible rfl
                            rotate_left
                            · simp only [Act.put, List.setIfInBounds_toArray, List.set_cons_zero, List.set_cons_succ, i64_w, i32_w]
                              rfl
                            refine take_ (i := 7) (N := some 61) (v := ?_) (a' := ?_) #[true, false, false, true, true, true, true, true, false] rfl rfl (take_ofW HT_.out HW_.out (by kernel_rfl)) (fun _ _ _ h => h) (Or.inl ⟨by rfl, ?_⟩) hHeld ?_ ?_
                            rotate_left
                            · intro w' s0
                              go_simp
                              all_goals first | with_reducible rfl | (rw [conv_len s0 ?_]; all_goals first | with_reducible rfl | rfl | (simp only [List.length_drop, List.length_take]; omega) | (simp only [List.length_drop, List.length_take]; simp only [decide_eq_true_eq, decide_eq_false_iff_not, eq_iff_iff, iff_true] at *; omega) | (simp [*]; done) | (simp [*]; omega))
                            rotate_left
                            · simp only [Act.put, List.setIfInBounds_toArray, List.set_cons_zero, List.set_cons_succ, i64_w, i32_w]
                              rfl
                            refine one_ (i := 1) (N := some 55) #[true, true, false, true, true, true, true, true, false] rfl rfl (one_of HT_.out (by kernel_rfl)) (by decide) (fun K hK => ?_)
                            refine goes_ Try.func19 (by kernel_rfl) rfl #[.slice Ao28 y125.length co28] (by rfl) rfl rfl (by (try simp only [List.map_toArray, List.map_cons, List.map_nil]); first | done | rfl | (simp only [List.length_drop, List.length_take]; rfl)) ?_
                            with_reducible refine (souterrainref02_Put.calls kj4 _ _ y125 t128 _ ?side1 ?side2 A17.out).mono ?_
                            (case side1 => repeat (first | exact (Kd.R_reads' HO127.out).2.2 | (with_reducible refine Kd.C_alloc ?_ _) | (with_reducible refine Kd.C_drewN ?_ _) | (with_reducible refine Kd.C_drew ?_)))
                            (case side2 => exact (Kd.R_reads' HO127.out).2.1)
                            rintro e w29 ⟨v129, rfl, ho0, hb⟩
                            refine ⟨_, rfl, ?_⟩
                            have n0_ := Aside0.mk (Kd.R_elder' (by (with_reducible repeat (first | apply Kd.R_alloc | apply Kd.R_drewN | apply Kd.R_drew)); exact HO127.out) (Kd.R_base ho0) hb)
                            have n1_ := Aside0.mk (Kd.R_lower (Kd.R_new' ho0 (Kd.R_lt (by (with_reducible repeat (first | apply Kd.R_alloc | apply Kd.R_drewN | apply Kd.R_drew)); exact HO127.out))) (below_size (by repeat (first | (with_reducible first | exact HB.out | apply below_alloc | apply pw_below_drewN | apply below_drew1) | exact HB.out))))
                            have n2_ := Aside0.mk (below_step (by repeat (first | (with_reducible first | exact HB.out | apply below_alloc | apply pw_below_drewN | apply below_drew1) | exact HB.out)) hb)
                            clear HO127
                            clear HB
                            have HO127 := n0_
                            have HO130 := n1_
                            have HB := n2_
                            clear n0_ n1_ n2_
                            (try clear hb)
                            (try clear hb2)
                            (try clear hk)
                            (try clear hi)
                            (try clear ho0)
                            refine hK.out _ _ ((Kd.C_string (P := Try.prog) (A := (some ad116)) (c := c0) Try.underlying22 Try.underlying5 Try.underlying9 (Kd.C_below HR131.out HB.out))) (fun hHeld => ?_)
                            clear hK K
                            refine norm_ (a' := ?_) ?_ ?_
                            rotate_left
                            · show Act.put _ (some 55) _ = _
                              simp only [Act.put, List.setIfInBounds_toArray, List.set_cons_zero, List.set_cons_succ, i64_w, i32_w]
                              rfl
                            refine one_ (i := 2) (N := some 56) #[true, true, true, true, true, true, true, true, false] rfl rfl (one_of HT_.out (by kernel_rfl)) (by decide) (fun K hK => ?_)
                            have hcv30 := own_string (P := Try.prog) Try.underlying22 Try.underlying5 Try.underlying9 (Kd.own_of_R HO130.out)
                            refine value_ (w1 := ?_) (v := ?_) (by rfl) rfl ?_ ?_
                            rotate_left 2
                            · go_simp
                              constructor
                              · rfl
                              · rfl
                            clear hcv30
                            refine hK.out _ _ ((Kd.C_string (P := Try.prog) (A := (some ad116)) (c := c0) Try.underlying22 Try.underlying5 Try.underlying9 (Kd.C_below HR131.out HB.out))) (fun hHeld => ?_)
                            clear hK K
                            refine norm_ (a' := ?_) ?_ ?_
                            rotate_left
                            · show Act.put _ (some 56) _ = _
                              simp only [Act.put, List.setIfInBounds_toArray, List.set_cons_zero, List.set_cons_succ, i64_w, i32_w]
                              rfl
                            refine pure_ (i := 8) (N := some 62) (v := ?_) (a' := ?_) #[true, true, true, true, true, true, true, true, true] rfl rfl (any_of HT_.out (by kernel_rfl)) (fun _ _ _ h => h) (Or.inl ⟨by rfl, ?_⟩) ?_ ?_
                            rotate_left
                            · intro w'
                              go_simp
                              with_reducible rfl
                            rotate_left
                            · simp only [Act.put, List.setIfInBounds_toArray, List.set_cons_zero, List.set_cons_succ, i64_w, i32_w]
                              rfl
                            refine done_ (done_of HT_.out (by kernel_rfl)) ?_
                            try go_wp2
                            go_ret3
                            exact ⟨_, by first | rfl | (simp [errW_none, errW_some] <;> rfl) | (simp only [← hji18]; first | rfl | (simp [errW_none, errW_some] <;> rfl)) | (simp [*, errW_none, errW_some] <;> rfl), by (with_reducible repeat (first | apply Kd.R_alloc | apply Kd.R_drewN | apply Kd.R_drew)); exact Kd.R_mono HO127.out (fun _ hk => trivial), by repeat (first | (with_reducible first | exact HB.out | apply below_alloc | apply pw_below_drewN | apply below_drew1) | exact HB.out)⟩
                          · rw [if_neg c21] at H
                            have c21b0 : ((strOfNums t128).toList == (strOfNums (l0.take ((ji18) : Int).toNat)).toList) = false := beq_eq_false_iff_ne.mpr c21
                            have c21b1 : ((strOfNums t128).toList != (strOfNums (l0.take ((ji18) : Int).toNat)).toList) = true := bne_iff_ne.mpr c21
                            simp only [Option.some.injEq, Prod.mk.injEq] at H
                            obtain ⟨rfl, rfl, rfl⟩ := H
                            try go_wp2_with (first | ((with_reducible refine gate_dst (N := 48) rfl ?_); refine Kd.R_lit (Kd.int .u8) _ 5 ?hg (N := 48) ?hd (xs := ([] : List Int)) (inner := []) (ok := fun _ => True) (okp := fun _ => True) ?hr ?hp (fun _ hk => hk) trivial (Below.refl _ _) (Nat.le_refl _) (by simp) ?_; (case hd => rfl); (case hg => rfl); (case hr => first | (go_simp; done) | (go_simp; rfl)); (case hp => exact (Reps.none _ _)); intro v122 w31 ho32 hb hg_ hnew_; clear hg_ hnew_; (first | rw [← Ny121.out] at ho32 | (simp only [Int.reduceToNat] at ho32; rw [← Ny121.out] at ho32)); have n0_ := Aside0.mk (Kd.R_lower ho32 (below_size (by repeat (first | (with_reducible first | exact HB.out | apply below_alloc | apply pw_below_drewN | apply below_drew1) | exact HB.out)))); have n1_ := Aside0.mk (below_step (by repeat (first | (with_reducible first | exact HB.out | apply below_alloc | apply pw_below_drewN | apply below_drew1) | exact HB.out)) hb); clear HB; have HO123 := n0_; have HB := n1_; clear n0_ n1_; clear hb ho32; obtain ⟨i033, hi033, _, hsz33, _⟩ := info_parts info5; obtain ⟨A33, hcut33, hA33, hC33⟩ := print_mid_of (P := Try.prog) (Value.int .u8) 0 22 5 .i64 .i64 Try.underlying22 hi033 hsz33 (some ad116) c0 l0 4 (wrap64 ((wrap64 ((wrap64 (256 * (wrap64 (rd l0 0)))) + (wrap64 (rd l0 1)))) + 4)) (by omega) (by first | omega | exact of_decide_eq_true (by first | (with_reducible assumption) | assumption)) (of_decide_eq_true (by first | (with_reducible assumption) | assumption)) HC0.out; have HR124 := Aside0.mk (Kd.C_of_reads (h1 := fun _ => rfl) (hA33 _ (Kd.reads_of_C HR0.out))); have HC124 := Aside0.mk hC33; clear hA33 hC33 hi033 hsz33) | ((with_reducible refine gate_builtin (b := .append) (xs := #[.tmp 48, .tmp 52]) rfl ?_); at_builtin; refine Kd.R_append_rows (Kd.int .u8) (w0 := w) w.heap.size rfl (.tmp 48) (.tmp 52) 22 5 (.int .u8 0) 1 rfl Try.underlying22 info5 rfl (by decide) (by omega) v122 y121 ((l0.take ((wrap64 ((wrap64 ((wrap64 (256 * (wrap64 (rd l0 0)))) + (wrap64 (rd l0 1)))) + 4)) : Int).toNat).drop 4) _ _ _ (fun _ => True) (fun _ => False) rfl rfl ?aO ?aR (fun _ _ h => h) (fun _ h => h.elim) ?aF ?aB ?aS ?aL ?_; (case aR => first | (rw [← show ((l0.take ((wrap64 ((wrap64 ((wrap64 (256 * (wrap64 (rd l0 0)))) + (wrap64 (rd l0 1)))) + 4)) : Int).toNat).drop 4).length = ((wrap64 ((wrap64 ((wrap64 (256 * (wrap64 (rd l0 0)))) + (wrap64 (rd l0 1)))) + 4)).toNat - 4) from (by rw [List.length_drop, List.length_take]; have h_ : ((wrap64 ((wrap64 ((wrap64 (256 * (wrap64 (rd l0 0)))) + (wrap64 (rd l0 1)))) + 4)) : Int) ≤ (l0.length : Int) := of_decide_eq_true (by first | (with_reducible assumption) | assumption); omega)]; repeat (first | exact (Kd.C_below HR124.out HB.out) | (with_reducible refine Kd.C_alloc ?_ _) | (with_reducible refine Kd.C_drewN ?_ _) | (with_reducible refine Kd.C_drew ?_))) | (repeat (first | exact (Kd.C_below HR124.out HB.out) | (with_reducible refine Kd.C_alloc ?_ _) | (with_reducible refine Kd.C_drewN ?_ _) | (with_reducible refine Kd.C_drew ?_)))); (case aB => exact (by repeat (first | (with_reducible first | exact HB.out | apply below_alloc | apply pw_below_drewN | apply below_drew1) | exact HB.out))); (case aF => exact (fun _ _ => trivial)); (case aO => exact (by (with_reducible repeat (first | apply Kd.R_alloc | apply Kd.R_drewN | apply Kd.R_drew)); exact HO123.out)); (case aS => exact (below_size (by repeat (first | (with_reducible first | exact HB.out | apply below_alloc | apply pw_below_drewN | apply below_drew1) | exact HB.out)))); (case aL => have := LMc16.out; have hlx_ := (show ((l0.take ((wrap64 ((wrap64 ((wrap64 (256 * (wrap64 (rd l0 0)))) + (wrap64 (rd l0 1)))) + 4)) : Int).toNat).drop 4).length = ((wrap64 ((wrap64 ((wrap64 (256 * (wrap64 (rd l0 0)))) + (wrap64 (rd l0 1)))) + 4)).toNat - 4) from (by rw [List.length_drop, List.length_take]; have h_ : ((wrap64 ((wrap64 ((wrap64 (256 * (wrap64 (rd l0 0)))) + (wrap64 (rd l0 1)))) + 4)) : Int) ≤ (l0.length : Int) := of_decide_eq_true (by first | (with_reducible assumption) | assumption); omega)); omega); intro v126 w34 ho hb hg hat; rw [← Ny125.out] at ho; have n0_ := Aside0.mk (hb); have n1_ := Aside0.mk (ho); clear HB; clear HO123; have HB := n0_; have HO127 := n1_; clear n0_ n1_; clear ho hb hg hat))
                            have n0_ := Aside0.mk (Kd.R_drew HO127.out)
                            have n1_ := Aside0.mk (below_drew1 HB.out)
                            clear HO127
                            clear HB
                            have HO127 := n0_
                            have HB := n1_
                            clear n0_ n1_
                            obtain ⟨i036, hi036, _, hsz36, _⟩ := info_parts info5
                            obtain ⟨hcut36, hA36, hC36⟩ := print_take_of (P := Try.prog) (Value.int .u8) 0 22 5 .i64 Try.underlying22 hi036 hsz36 (some ad116) c0 l0 (ji18) (of_decide_eq_true (by first | (with_reducible assumption) | assumption)) (of_decide_eq_true (by first | (with_reducible assumption) | assumption)) HC0.out
                            have HR131 := Aside0.mk (Kd.C_of_reads (h1 := fun _ => rfl) (hA36 _ (Kd.reads_of_C HR0.out)))
                            have HC131 := Aside0.mk hC36
                            clear hA36 hC36 hi036 hsz36
                            obtain ⟨Ao37, co37, eo37⟩ := Kd.R_slice HO127.out
                            (first | subst eo37 | (injection eo37 with f1_ f2_ f3_; have f4_ := f1_.symm; have f5_ := f3_.symm; clear f1_ f2_ f3_; subst f4_; subst f5_))
                            refine start_ (n := 9) (S := fun w' => (convert 22 9 (.slice (some ad116) (l0.take ((ji18) : Int).toNat).length c0)).run Try.prog w' = .ok (.string (strOfNums (l0.take ((ji18) : Int).toNat))) w') (ds := []) #[false, false, false, false, false, false, false, false, false] (by kernel_rfl) rfl rfl ((Kd.C_string (P := Try.prog) (A := (some ad116)) (c := c0) Try.underlying22 Try.underlying5 Try.underlying9 (Kd.C_below HR131.out HB.out))) (fun hHeld => ?_); refine with_tabW souterrainref02_First.tab9 souterrainref02_First.bits9 (fun HT_ HW_ => ?_)
                            generalize w34.drew = w35 at HO127 HB HR131 hHeld ⊢
                            refine pure_ (i := 0) (N := some 54) (v := ?_) (a' := ?_) #[true, false, false, false, false, false, false, false, false] rfl rfl (any_of HT_.out (by kernel_rfl)) (fun _ _ _ h => h) (Or.inl ⟨by rfl, ?_⟩) ?_ ?_
                            rotate_left
                            · intro w'
                              go_simp
                              with_reducible rfl
                            rotate_left
                            · simp only [Act.put, List.setIfInBounds_toArray, List.set_cons_zero, List.set_cons_succ, i64_w, i32_w]
                              rfl
                            refine pure_ (i := 3) (N := some 57) (v := ?_) (a' := ?_) #[true, false, false, true, false, false, false, false, false] rfl rfl (any_of HT_.out (by kernel_rfl)) (fun _ _ _ h => h) (Or.inl ⟨by rfl, ?_⟩) ?_ ?_
                            rotate_left
                            · intro w'
                              go_simp
                              with_reducible rfl
                            rotate_left
                            · simp only [Act.put, List.setIfInBounds_toArray, List.set_cons_zero, List.set_cons_succ, i64_w, i32_w]
                              rfl
                            refine pure_ (i := 4) (N := some 58) (v := ?_) (a' := ?_) #[true, false, false, true, true, false, false, false, false] rfl rfl (any_of HT_.out (by kernel_rfl)) (fun _ _ _ h => h) (Or.inl ⟨by rfl, ?_⟩) ?_ ?_
                            rotate_left
                            · intro w'
                              go_simp
                              with_reducible rfl
                            rotate_left
                            · simp only [Act.put, List.setIfInBounds_toArray, List.set_cons_zero, List.set_cons_succ, i64_w, i32_w]
                              rfl
                            refine pure_ (i := 5) (N := some 59) (v := ?_) (a' := ?_) #[true, false, false, true, true, true, false, false, false] rfl rfl (any_of HT_.out (by kernel_rfl)) (fun _ _ _ h => h) (Or.inl ⟨by rfl, ?_⟩) ?_ ?_
                            rotate_left
                            · intro w'
                              go_simp
                              with_reducible rfl
                            rotate_left
                            · simp only [Act.put, List.setIfInBounds_toArray, List.set_cons_zero, List.set_cons_succ, i64_w, i32_w]
                              rfl
                            refine pure_ (i := 6) (N := some 60) (v := ?_) (a' := ?_) #[true, false, false, true, true, true, true, false, false] rfl rfl (any_of HT_.out (by kernel_rfl)) (fun _ _ _ h => h) (Or.inl ⟨by rfl, ?_⟩) ?_ ?_
                            rotate_left
                            · intro w'
                              go_simp
                              with_reducible rfl
                            rotate_left
                            · simp only [Act.put, List.setIfInBounds_toArray, List.set_cons_zero, List.set_cons_succ, i64_w, i32_w]
                              rfl
                            refine take_ (i := 7) (N := some 61) (v := ?_) (a' := ?_) #[true, false, false, true, true, true, true, true, false] rfl rfl (take_ofW HT_.out HW_.out (by kernel_rfl)) (fun _ _ _ h => h) (Or.inl ⟨by rfl, ?_⟩) hHeld ?_ ?_
                            rotate_left
                            · intro w' s0
                              go_simp
                              all_goals first | with_reducible rfl | (rw [conv_len s0 ?_]; all_goals first | with_reducible rfl | rfl | (simp only [List.length_drop, List.length_take]; omega) | (simp only [List.length_drop, List.length_take]; simp only [decide_eq_true_eq, decide_eq_false_iff_not, eq_iff_iff, iff_true] at *; omega) | (simp [*]; done) | (simp [*]; omega))
                            rotate_left
                            · simp only [Act.put, List.setIfInBounds_toArray, List.set_cons_zero, List.set_cons_succ, i64_w, i32_w]
                              rfl
                            refine one_ (i := 1) (N := some 55) #[true, true, false, true, true, true, true, true, false] rfl rfl (one_of HT_.out (by kernel_rfl)) (by decide) (fun K hK => ?_)
                            refine goes_ Try.func19 (by kernel_rfl) rfl #[.slice Ao37 y125.length co37] (by rfl) rfl rfl (by (try simp only [List.map_toArray, List.map_cons, List.map_nil]); first | done | rfl | (simp only [List.length_drop, List.length_take]; rfl)) ?_
                            with_reducible refine (souterrainref02_Put.calls kj4 _ _ y125 t128 _ ?side1 ?side2 A17.out).mono ?_
                            (case side1 => repeat (first | exact (Kd.R_reads' HO127.out).2.2 | (with_reducible refine Kd.C_alloc ?_ _) | (with_reducible refine Kd.C_drewN ?_ _) | (with_reducible refine Kd.C_drew ?_)))
                            (case side2 => exact (Kd.R_reads' HO127.out).2.1)
                            rintro e w38 ⟨v129, rfl, ho0, hb⟩
                            refine ⟨_, rfl, ?_⟩
                            have n0_ := Aside0.mk (Kd.R_elder' (by (with_reducible repeat (first | apply Kd.R_alloc | apply Kd.R_drewN | apply Kd.R_drew)); exact HO127.out) (Kd.R_base ho0) hb)
                            have n1_ := Aside0.mk (Kd.R_lower (Kd.R_new' ho0 (Kd.R_lt (by (with_reducible repeat (first | apply Kd.R_alloc | apply Kd.R_drewN | apply Kd.R_drew)); exact HO127.out))) (below_size (by repeat (first | (with_reducible first | exact HB.out | apply below_alloc | apply pw_below_drewN | apply below_drew1) | exact HB.out))))
                            have n2_ := Aside0.mk (below_step (by repeat (first | (with_reducible first | exact HB.out | apply below_alloc | apply pw_below_drewN | apply below_drew1) | exact HB.out)) hb)
                            clear HO127
                            clear HB
                            have HO127 := n0_
                            have HO130 := n1_
                            have HB := n2_
                            clear n0_ n1_ n2_
                            (try clear hb)
                            (try clear hb2)
                            (try clear hk)
                            (try clear hi)
                            (try clear ho0)
                            refine hK.out _ _ ((Kd.C_string (P := Try.prog) (A := (some ad116)) (c := c0) Try.underlying22 Try.underlying5 Try.underlying9 (Kd.C_below HR131.out HB.out))) (fun hHeld => ?_)
                            clear hK K
                            refine norm_ (a' := ?_) ?_ ?_
                            rotate_left
                            · show Act.put _ (some 55) _ = _
                              simp only [Act.put, List.setIfInBounds_toArray, List.set_cons_zero, List.set_cons_succ, i64_w, i32_w]
                              rfl
                            refine one_ (i := 2) (N := some 56) #[true, true, true, true, true, true, true, true, false] rfl rfl (one_of HT_.out (by kernel_rfl)) (by decide) (fun K hK => ?_)
                            have hcv39 := own_string (P := Try.prog) Try.underlying22 Try.underlying5 Try.underlying9 (Kd.own_of_R HO130.out)
                            refine value_ (w1 := ?_) (v := ?_) (by rfl) rfl ?_ ?_
                            rotate_left 2
                            · go_simp
                              constructor
                              · rfl
                              · rfl
                            clear hcv39
                            refine hK.out _ _ ((Kd.C_string (P := Try.prog) (A := (some ad116)) (c := c0) Try.underlying22 Try.underlying5 Try.underlying9 (Kd.C_below HR131.out HB.out))) (fun hHeld => ?_)
                            clear hK K
                            refine norm_ (a' := ?_) ?_ ?_
                            rotate_left
                            · show Act.put _ (some 56) _ = _
                              simp only [Act.put, List.setIfInBounds_toArray, List.set_cons_zero, List.set_cons_succ, i64_w, i32_w]
                              rfl
                            refine pure_ (i := 8) (N := some 62) (v := ?_) (a' := ?_) #[true, true, true, true, true, true, true, true, true] rfl rfl (any_of HT_.out (by kernel_rfl)) (fun _ _ _ h => h) (Or.inl ⟨by rfl, ?_⟩) ?_ ?_
                            rotate_left
                            · intro w'
                              go_simp
                              with_reducible rfl
                            rotate_left
                            · simp only [Act.put, List.setIfInBounds_toArray, List.set_cons_zero, List.set_cons_succ, i64_w, i32_w]
                              rfl
                            refine done_ (done_of HT_.out (by kernel_rfl)) ?_
                            try go_wp2
                            go_ret3
                            exact ⟨_, by first | rfl | (simp [errW_none, errW_some] <;> rfl) | (simp only [← hji18]; first | rfl | (simp [errW_none, errW_some] <;> rfl)) | (simp [*, errW_none, errW_some] <;> rfl), by first | exact Kd.R_nil _ _ _ _ _ | exact Kd.N_nil _ _ _ _ _ | exact Kd.V_nil _ _ _ _ _ | exact Kd.Q_nil _ _ _ _ _ | exact Kd.S_nil _ _ _ _ _, by repeat (first | (with_reducible first | exact HB.out | apply below_alloc | apply pw_below_drewN | apply below_drew1) | exact HB.out)⟩
                        · rw [if_neg c20] at H
                          exact absurd H (by simp)
                      · rw [if_neg c19] at H
                        exact absurd H (by simp)
                    · rw [if_neg c16] at H
                      exact absurd H (by simp)
                  · rw [if_neg c15] at H
                    exact absurd H (by simp)
                · rw [if_neg c14] at H
                  exact absurd H (by simp)
      · rw [if_neg c4] at H
        exact absurd H (by simp)
    · rw [if_neg c3] at H
      exact absurd H (by simp)

/-! ### souterrainref03_step: function 37 -/
def souterrainref03_step.l0 : Nat → List Int → Int → Int → Option (Int × Int × List Int × Int × Int × Int)
  | 0, _, _, _ => none
  | k + 1, x0, x1, x8 => if x1 < (x0.length : Int) then (if 0 ≤ x1 then (if x1 ≤ (x0.length : Int) then ((souterrainref02_First.f k (x0.drop (x1 : Int).toNat)).bind fun bt134 => (if bt134.2.2 = 0 then (some (x1, bt134.2.1, bt134.1, wrap64 (x1 + bt134.2.1), x8, 0)) else (if bt134.2.1 = 0 then (some (0, 0, ([] : List Int), x1, x8, bt134.2.2)) else (souterrainref03_step.l0 k x0 (wrap64 (x1 + bt134.2.1)) (wrap64 (x8 + 1)))))) else (none)) else (none)) else (some (0, 0, ([] : List Int), x1, x8, 0))
def souterrainref03_step.f (k : Nat) (l0 : List Int) (a1 : Int) : Option (Int × Int × List Int × Int × Int × Int) := souterrainref03_step.l0 k l0 a1 0
theorem souterrainref03_step.mono_l : ∀ k, (∀ y0 y1 y2, LeO (souterrainref03_step.l0 k y0 y1 y2) (souterrainref03_step.l0 (k + 1) y0 y1 y2))
  | 0 => fun _ _ _ r h => by simp [souterrainref03_step.l0] at h
  | k + 1 => by
    have ih0 := souterrainref03_step.mono_l k
    · intro y0 y1 y2
      unfold souterrainref03_step.l0
      repeat' first
      | (with_reducible exact ih0 _ _ _)
      | (with_reducible exact souterrainref02_First.mono _ _)
      | (with_reducible exact LeO.refl _)
      | (with_reducible exact LeO.none _)
      | (with_reducible refine LeO.ite ?_ ?_)
      | (with_reducible refine LeO.bind ?_ (fun _ => ?_))
      | exact ih0 _ _ _
      | exact souterrainref02_First.mono _ _
      | exact LeO.none _
      | refine LeO.ite ?_ ?_
      | refine LeO.bind ?_ (fun _ => ?_)
theorem souterrainref03_step.mono : ∀ a0 a1 k, LeO (souterrainref03_step.f k a0 a1) (souterrainref03_step.f (k + 1) a0 a1) := by
  intro a0 a1 k
  have ih0 := souterrainref03_step.mono_l k
  unfold souterrainref03_step.f
  repeat' first
      | (with_reducible exact ih0 _ _ _)
      | (with_reducible exact souterrainref02_First.mono _ _)
      | (with_reducible exact LeO.refl _)
      | (with_reducible exact LeO.none _)
      | (with_reducible refine LeO.ite ?_ ?_)
      | (with_reducible refine LeO.bind ?_ (fun _ => ?_))
      | exact ih0 _ _ _
      | exact souterrainref02_First.mono _ _
      | exact LeO.none _
      | refine LeO.ite ?_ ?_
      | refine LeO.bind ?_ (fun _ => ?_)
set_option maxHeartbeats 8000000 in
set_option maxRecDepth 100000 in
theorem souterrainref03_step.calls (k : Nat) (A0 : Option Addr) (c0 : Nat) (l0 : List Int) (a1 : Int) (r1 : Int) (r2 : Int) (r3 : List Int) (r4 : Int) (r5 : Int) (r6 : Int) (w : World) (hr0 : Kd.C (Kd.int .u8) w A0 l0.length l0) (hc0 : l0.length ≤ c0) (h : souterrainref03_step.f k l0 a1 = some (r1, r2, r3, r4, r5, r6)) :
    Calls Try.prog 37 #[.slice A0 l0.length c0, .int .i64 a1] w fun e w' => ∃ v2_ : Value, e = .returned (.tuple #[.agg #[.int .i64 r1, .int .i64 r2, v2_], .int .i64 r4, .int .i64 r5, .int .i64 r6]) ∧ Kd.R (Kd.int .u8) 5 w' w.heap.size (fun _ => True) v2_ r3 ∧ Below w.heap.size w w' := by
  have hu41 := Try.underlying41
  have HR0 := Aside0.mk hr0
  have HC0 := Aside0.mk hc0
  clear hr0 hc0
  have HB := Aside0.mk (Below.refl w.heap.size w)
  have H : (souterrainref03_step.l0 k l0 a1 0) = some (r1, r2, r3, r4, r5, r6) := h
  clear h
  have H' := Aside0.mk H
  clear H
  go_enter Try.func37, Try.ntmps37
  go_wp2_with (first | ((with_reducible refine gate_dst (N := 4) rfl ?_); refine box_event ?hg (N := 4) ?hd (cs := #[.int .i64 0, .int .i64 0, .slice none 0 0]) (t := 41) ?hr ?_; (case hd => rfl); (case hg => rfl); (case hr => first | (go_simp; done) | (go_simp; rfl)); intro gb132 hg w3 hbox hb; have n0_ := Aside0.mk (below_step (by repeat (first | (with_reducible first | exact HB.out | apply below_alloc | apply pw_below_drewN | apply below_drew1) | exact HB.out)) hb); have n1_ := Aside0.mk (hbox); have n2_ := Aside0.mk ((by rw [hg]; exact (below_size (by repeat (first | (with_reducible first | exact HB.out | apply below_alloc | apply pw_below_drewN | apply below_drew1) | exact HB.out))) : w.heap.size ≤ gb132)); have n3_ := Aside0.mk ((by rw [hg]; exact (below_size (by repeat (first | (with_reducible first | exact HB.out | apply below_alloc | apply pw_below_drewN | apply below_drew1) | exact HB.out))) : w.heap.size ≤ gb132)); clear HB; have HB := n0_; have BK132 := n1_; have GW132 := n2_; have GE132 := n3_; clear n0_ n1_ n2_ n3_; clear hb hbox hg))
  go_loopg [1, 8] k (fun kq v1 v8 w' => ∃ (x1_1 : Int) (x8_1 : Int) (x133000_1 : Int) (x133001_1 : Int), v1 = .int .i64 x1_1 ∧ v8 = .int .i64 x8_1 ∧ Aside0 (souterrainref03_step.l0 kq l0 x1_1 x8_1 = some (r1, r2, r3, r4, r5, r6)) ∧ Aside0 (kq ≤ k) ∧ Aside0 (w'.heap[gb132]? = some (.cells #[.int .i64 x133000_1, .int .i64 x133001_1, (.slice none 0 0)] 41 (0, 0))) ∧ Aside0 (Below w.heap.size w w'))
  case atStart => exact ⟨(a1), (0), (0), (0), (by first | rfl | (simp; done) | (simp [*]; done)), (by first | rfl | (simp; done) | (simp [*]; done)), H', ⟨Nat.le_refl _⟩, ⟨by (with_reducible repeat (first | refine blk_drewN ?_ _ | refine blk_drew ?_ | refine blk_alloc ?_ _)); exact BK132.out⟩, ⟨by repeat (first | (with_reducible first | exact HB.out | apply below_alloc | apply pw_below_drewN | apply below_drew1 | refine below_set ?_ GE132.out) | exact HB.out)⟩⟩
  case round =>
    clear H'
    try clear p2
    try clear c3
    obtain ⟨x1_1, x8_1, x133000_1, x133001_1, rfl, rfl, HA, HK1, BK132, HB⟩ := hrel
    cases gk with
    | zero => exact absurd HA.out (by simp [souterrainref03_step.l0])
    | succ k1 =>
      have H := HA.out
      clear HA
      simp only [souterrainref03_step.l0] at H
      by_cases c4 : x1_1 < (l0.length : Int)
      · rw [if_pos c4] at H
        have c4b0 : decide (x1_1 < (l0.length : Int)) = true := decide_eq_true c4
        clear c4
        by_cases c5 : 0 ≤ x1_1
        · rw [if_pos c5] at H
          have c5b0 := eq_true c5
          have c5b1 : decide (0 ≤ x1_1) = true := decide_eq_true c5
          clear c5
          by_cases c6 : x1_1 ≤ (l0.length : Int)
          · rw [if_pos c6] at H
            have c6b0 := eq_true c6
            have c6b1 : decide (x1_1 ≤ (l0.length : Int)) = true := decide_eq_true c6
            clear c6
            replace H := Option.bind_eq_some_iff.mp H
            obtain ⟨⟨t134, t135, t136⟩, A70, H⟩ := H
            replace H : (if t136 = 0 then (some (x1_1, t135, t134, wrap64 (x1_1 + t135), x8_1, 0)) else (if t135 = 0 then (some (0, 0, ([] : List Int), x1_1, x8_1, t136)) else (souterrainref03_step.l0 k1 l0 (wrap64 (x1_1 + t135)) (wrap64 (x8_1 + 1))))) = some (r1, r2, r3, r4, r5, r6) := H
            have A7 := Aside0.mk A70
            clear A70
            by_cases c8 : t136 = 0
            · rw [if_pos c8] at H
              have c8b0 : (t136 == 0) = true := beq_iff_eq.mpr c8
              have c8b1 : (t136 != 0) = false := bne_eq_false_iff_eq.mpr c8
              clear c8
              simp only [Option.some.injEq, Prod.mk.injEq] at H
              obtain ⟨rfl, rfl, rfl, rfl, rfl, rfl⟩ := H
              obtain ⟨i09, hi09, _, hsz9, _⟩ := info_parts info5
              obtain ⟨A9, hcut9, hA9, hC9⟩ := print_drop_of (P := Try.prog) (Value.int .u8) 0 22 5 .i64 Try.underlying22 hi09 hsz9 A0 c0 l0 x1_1 (of_decide_eq_true (by first | (with_reducible assumption) | assumption)) (of_decide_eq_true (by first | (with_reducible assumption) | assumption)) HC0.out
              have HR133 := Aside0.mk (Kd.C_of_reads (h1 := fun _ => rfl) (hA9 _ (Kd.reads_of_C HR0.out)))
              have HC133 := Aside0.mk hC9
              clear hA9 hC9 hi09 hsz9
              go_wp2_with (first | ((with_reducible refine gate_callee (f := 17) rfl ?_); refine goesL_ (some 20) rfl rfl Try.func17 (by kernel_rfl) rfl #[.slice A9 (l0.drop (x1_1 : Int).toNat).length (c0 - x1_1.toNat)] rfl (by (try simp only [List.map_toArray, List.map_cons, List.map_nil]); first | done | (rw [show (l0.drop (x1_1 : Int).toNat).length = (l0.length - x1_1.toNat) from List.length_drop] <;> rfl) | rfl | (simp only [List.length_drop, List.length_take]; rfl)) ?_; (with_reducible refine (souterrainref02_First.calls k1 _ _ (l0.drop (x1_1 : Int).toNat) t134 t135 t136 _ ?side1 ?side2 A7.out).mono ?_); (case side1 => repeat (first | exact (Kd.C_below HR133.out HB.out) | (with_reducible refine Kd.C_alloc ?_ _) | (with_reducible refine Kd.C_drewN ?_ _) | (with_reducible refine Kd.C_drew ?_))); (case side2 => exact HC133.out); rintro e w10 ⟨v137, rfl, ho0, hb⟩; refine ⟨_, rfl, ?_⟩; have n0_ := Aside0.mk (Kd.R_lower ho0 (below_size (by repeat (first | (with_reducible first | exact HB.out | apply below_alloc | apply pw_below_drewN | apply below_drew1 | refine below_set ?_ GE132.out) | exact HB.out)))); have n1_ := Aside0.mk (blk_below (g := gb132) (o := .cells #[.int .i64 x133000_1, .int .i64 x133001_1, .slice none 0 0] 41 (0, 0)) (by (with_reducible repeat (first | refine blk_drewN ?_ _ | refine blk_drew ?_ | refine blk_alloc ?_ _)); exact BK132.out) hb); have n2_ := Aside0.mk (below_step (by repeat (first | (with_reducible first | exact HB.out | apply below_alloc | apply pw_below_drewN | apply below_drew1 | refine below_set ?_ GE132.out) | exact HB.out)) hb); clear BK132; clear HB; have HO138 := n0_; have BK132 := n1_; have HB := n2_; clear n0_ n1_ n2_; (try clear hb); (try clear hb2); (try clear hk); (try clear hi); (try clear ho0); obtain ⟨Ao11, co11, eo11⟩ := Kd.R_slice HO138.out; subst eo11; have hcz12_0 : w10.cell? ⟨gb132, 0, none⟩ = some (.int .i64 x133000_1) := (blk_cell BK132.out 0).trans rfl; have hcz12_1 : w10.cell? ⟨gb132, 1, none⟩ = some (.int .i64 x133001_1) := (blk_cell BK132.out 1).trans rfl; have hcz12_2 : w10.cell? ⟨gb132, 2, none⟩ = some (.slice none 0 0) := (blk_cell BK132.out 2).trans rfl; have hfz12_0 := blk_frozen BK132.out 0; have hfz12_1 := blk_frozen BK132.out 1; have hfz12_2 := blk_frozen BK132.out 2))
              refine bodyPost_ret (results_list (rs := [.cell 4 41, .tmp 5, .tmp 6, .tmp 7]) rfl (by simp) (.cell gb132 41 #[.int .i64 x1_1, .int .i64 t135, .slice Ao11 t134.length co11] (0, 0) _ rfl (by (with_reducible repeat (first | refine blk_drewN ?_ _ | refine blk_drew ?_ | refine blk_alloc ?_ _)); refine blk_put (cs := #[.int .i64 x1_1, .int .i64 t135, .slice none 0 0]) ?_ 2 _ rfl; (with_reducible repeat (first | refine blk_drewN ?_ _ | refine blk_drew ?_ | refine blk_alloc ?_ _)); refine blk_put (cs := #[.int .i64 x1_1, .int .i64 x133001_1, .slice none 0 0]) ?_ 1 _ rfl; (with_reducible repeat (first | refine blk_drewN ?_ _ | refine blk_drew ?_ | refine blk_alloc ?_ _)); refine blk_put (cs := #[.int .i64 x133000_1, .int .i64 x133001_1, .slice none 0 0]) ?_ 0 _ rfl; (with_reducible repeat (first | refine blk_drewN ?_ _ | refine blk_drew ?_ | refine blk_alloc ?_ _)); exact BK132.out) Try.underlying41 rfl (by kernel_rfl) (.tmp (.tmp (.tmp .nil))))) rfl ?_
              exact ⟨_, by first | rfl | (simp [errW_none, errW_some] <;> rfl) | (simp [*, errW_none, errW_some] <;> rfl), by (with_reducible repeat (first | apply Kd.R_alloc | apply Kd.R_drewN | apply Kd.R_drew)); exact Kd.R_mono (Kd.R_far (p := ⟨gb132, 2, none⟩) (Kd.R_far (p := ⟨gb132, 1, none⟩) (Kd.R_far (p := ⟨gb132, 0, none⟩) (Kd.R_types HO138.out BK132.out (by decide)) (fun _ hk => hk.2) (.int .i64 x1_1)) (fun _ hk => hk.2) (.int .i64 t135)) (fun _ hk => hk.2) (.slice Ao11 t134.length co11)) (fun _ hk => trivial), by repeat (first | (with_reducible first | exact HB.out | apply below_alloc | apply pw_below_drewN | apply below_drew1 | refine below_set ?_ GE132.out) | exact HB.out)⟩
            · rw [if_neg c8] at H
              have c8b0 : (t136 == 0) = false := beq_eq_false_iff_ne.mpr c8
              have c8b1 : (t136 != 0) = true := bne_iff_ne.mpr c8
              by_cases c13 : t135 = 0
              · rw [if_pos c13] at H
                have c13b0 : (t135 == 0) = true := beq_iff_eq.mpr c13
                have c13b1 : (t135 != 0) = false := bne_eq_false_iff_eq.mpr c13
                clear c13
                simp only [Option.some.injEq, Prod.mk.injEq] at H
                obtain ⟨rfl, rfl, rfl, rfl, rfl, rfl⟩ := H
                obtain ⟨i014, hi014, _, hsz14, _⟩ := info_parts info5
                obtain ⟨A14, hcut14, hA14, hC14⟩ := print_drop_of (P := Try.prog) (Value.int .u8) 0 22 5 .i64 Try.underlying22 hi014 hsz14 A0 c0 l0 x1_1 (of_decide_eq_true (by first | (with_reducible assumption) | assumption)) (of_decide_eq_true (by first | (with_reducible assumption) | assumption)) HC0.out
                have HR133 := Aside0.mk (Kd.C_of_reads (h1 := fun _ => rfl) (hA14 _ (Kd.reads_of_C HR0.out)))
                have HC133 := Aside0.mk hC14
                clear hA14 hC14 hi014 hsz14
                go_wp2_with (first | ((with_reducible refine gate_callee (f := 17) rfl ?_); refine goesL_ (some 20) rfl rfl Try.func17 (by kernel_rfl) rfl #[.slice A14 (l0.drop (x1_1 : Int).toNat).length (c0 - x1_1.toNat)] rfl (by (try simp only [List.map_toArray, List.map_cons, List.map_nil]); first | done | (rw [show (l0.drop (x1_1 : Int).toNat).length = (l0.length - x1_1.toNat) from List.length_drop] <;> rfl) | rfl | (simp only [List.length_drop, List.length_take]; rfl)) ?_; (with_reducible refine (souterrainref02_First.calls k1 _ _ (l0.drop (x1_1 : Int).toNat) t134 t135 t136 _ ?side1 ?side2 A7.out).mono ?_); (case side1 => repeat (first | exact (Kd.C_below HR133.out HB.out) | (with_reducible refine Kd.C_alloc ?_ _) | (with_reducible refine Kd.C_drewN ?_ _) | (with_reducible refine Kd.C_drew ?_))); (case side2 => exact HC133.out); rintro e w15 ⟨v137, rfl, ho0, hb⟩; refine ⟨_, rfl, ?_⟩; have n0_ := Aside0.mk (Kd.R_lower ho0 (below_size (by repeat (first | (with_reducible first | exact HB.out | apply below_alloc | apply pw_below_drewN | apply below_drew1 | refine below_set ?_ GE132.out) | exact HB.out)))); have n1_ := Aside0.mk (blk_below (g := gb132) (o := .cells #[.int .i64 x133000_1, .int .i64 x133001_1, .slice none 0 0] 41 (0, 0)) (by (with_reducible repeat (first | refine blk_drewN ?_ _ | refine blk_drew ?_ | refine blk_alloc ?_ _)); exact BK132.out) hb); have n2_ := Aside0.mk (below_step (by repeat (first | (with_reducible first | exact HB.out | apply below_alloc | apply pw_below_drewN | apply below_drew1 | refine below_set ?_ GE132.out) | exact HB.out)) hb); clear BK132; clear HB; have HO138 := n0_; have BK132 := n1_; have HB := n2_; clear n0_ n1_ n2_; (try clear hb); (try clear hb2); (try clear hk); (try clear hi); (try clear ho0); have hcz16_0 : w15.cell? ⟨gb132, 0, none⟩ = some (.int .i64 x133000_1) := (blk_cell BK132.out 0).trans rfl; have hcz16_1 : w15.cell? ⟨gb132, 1, none⟩ = some (.int .i64 x133001_1) := (blk_cell BK132.out 1).trans rfl; have hcz16_2 : w15.cell? ⟨gb132, 2, none⟩ = some (.slice none 0 0) := (blk_cell BK132.out 2).trans rfl; have hfz16_0 := blk_frozen BK132.out 0; have hfz16_1 := blk_frozen BK132.out 1; have hfz16_2 := blk_frozen BK132.out 2))
                refine bodyPost_ret (results_list (rs := [.cell 4 41, .tmp 5, .tmp 6, .tmp 7]) rfl (by simp) (.cell gb132 41 #[.int .i64 0, .int .i64 0, .slice none 0 0] (0, 0) _ rfl (by (with_reducible repeat (first | refine blk_drewN ?_ _ | refine blk_drew ?_ | refine blk_alloc ?_ _)); refine blk_put (cs := #[.int .i64 0, .int .i64 0, .slice none 0 0]) ?_ 2 _ rfl; (with_reducible repeat (first | refine blk_drewN ?_ _ | refine blk_drew ?_ | refine blk_alloc ?_ _)); refine blk_put (cs := #[.int .i64 0, .int .i64 x133001_1, .slice none 0 0]) ?_ 1 _ rfl; (with_reducible repeat (first | refine blk_drewN ?_ _ | refine blk_drew ?_ | refine blk_alloc ?_ _)); refine blk_put (cs := #[.int .i64 x133000_1, .int .i64 x133001_1, .slice none 0 0]) ?_ 0 _ rfl; (with_reducible repeat (first | refine blk_drewN ?_ _ | refine blk_drew ?_ | refine blk_alloc ?_ _)); exact BK132.out) Try.underlying41 rfl (by kernel_rfl) (.tmp (.tmp (.tmp .nil))))) rfl ?_
                exact ⟨_, by first | rfl | (simp [errW_none, errW_some] <;> rfl) | (simp [*, errW_none, errW_some] <;> rfl), by first | exact Kd.R_nil _ _ _ _ _ | exact Kd.N_nil _ _ _ _ _ | exact Kd.V_nil _ _ _ _ _ | exact Kd.Q_nil _ _ _ _ _ | exact Kd.S_nil _ _ _ _ _, by repeat (first | (with_reducible first | exact HB.out | apply below_alloc | apply pw_below_drewN | apply below_drew1 | refine below_set ?_ GE132.out) | exact HB.out)⟩
              · rw [if_neg c13] at H
                have c13b0 : (t135 == 0) = false := beq_eq_false_iff_ne.mpr c13
                have c13b1 : (t135 != 0) = true := bne_iff_ne.mpr c13
                have H' := Aside0.mk H
                clear H
                obtain ⟨i017, hi017, _, hsz17, _⟩ := info_parts info5
                obtain ⟨A17, hcut17, hA17, hC17⟩ := print_drop_of (P := Try.prog) (Value.int .u8) 0 22 5 .i64 Try.underlying22 hi017 hsz17 A0 c0 l0 x1_1 (of_decide_eq_true (by first | (with_reducible assumption) | assumption)) (of_decide_eq_true (by first | (with_reducible assumption) | assumption)) HC0.out
                have HR133 := Aside0.mk (Kd.C_of_reads (h1 := fun _ => rfl) (hA17 _ (Kd.reads_of_C HR0.out)))
                have HC133 := Aside0.mk hC17
                clear hA17 hC17 hi017 hsz17
                go_wp2_with (first | ((with_reducible refine gate_callee (f := 17) rfl ?_); refine goesL_ (some 20) rfl rfl Try.func17 (by kernel_rfl) rfl #[.slice A17 (l0.drop (x1_1 : Int).toNat).length (c0 - x1_1.toNat)] rfl (by (try simp only [List.map_toArray, List.map_cons, List.map_nil]); first | done | (rw [show (l0.drop (x1_1 : Int).toNat).length = (l0.length - x1_1.toNat) from List.length_drop] <;> rfl) | rfl | (simp only [List.length_drop, List.length_take]; rfl)) ?_; (with_reducible refine (souterrainref02_First.calls k1 _ _ (l0.drop (x1_1 : Int).toNat) t134 t135 t136 _ ?side1 ?side2 A7.out).mono ?_); (case side1 => repeat (first | exact (Kd.C_below HR133.out HB.out) | (with_reducible refine Kd.C_alloc ?_ _) | (with_reducible refine Kd.C_drewN ?_ _) | (with_reducible refine Kd.C_drew ?_))); (case side2 => exact HC133.out); rintro e w18 ⟨v137, rfl, ho0, hb⟩; refine ⟨_, rfl, ?_⟩; have n0_ := Aside0.mk (Kd.R_lower ho0 (below_size (by repeat (first | (with_reducible first | exact HB.out | apply below_alloc | apply pw_below_drewN | apply below_drew1 | refine below_set ?_ GE132.out) | exact HB.out)))); have n1_ := Aside0.mk (blk_below (g := gb132) (o := .cells #[.int .i64 x133000_1, .int .i64 x133001_1, .slice none 0 0] 41 (0, 0)) (by (with_reducible repeat (first | refine blk_drewN ?_ _ | refine blk_drew ?_ | refine blk_alloc ?_ _)); exact BK132.out) hb); have n2_ := Aside0.mk (below_step (by repeat (first | (with_reducible first | exact HB.out | apply below_alloc | apply pw_below_drewN | apply below_drew1 | refine below_set ?_ GE132.out) | exact HB.out)) hb); clear BK132; clear HB; have HO138 := n0_; have BK132 := n1_; have HB := n2_; clear n0_ n1_ n2_; (try clear hb); (try clear hb2); (try clear hk); (try clear hi); (try clear ho0)))
                go_roundg k1
                case measure => have := HK1.out; omega
                case rel => exact ⟨(wrap64 (x1_1 + t135)), (wrap64 (x8_1 + 1)), (x133000_1), (x133001_1), (by first | rfl | (simp; done) | (simp [*]; done)), (by first | rfl | (simp; done) | (simp [*]; done)), H', ⟨by have := HK1.out; omega⟩, ⟨by (with_reducible repeat (first | refine blk_drewN ?_ _ | refine blk_drew ?_ | refine blk_alloc ?_ _)); exact BK132.out⟩, ⟨by repeat (first | (with_reducible first | exact HB.out | apply below_alloc | apply pw_below_drewN | apply below_drew1 | refine below_set ?_ GE132.out) | exact HB.out)⟩⟩
          · rw [if_neg c6] at H
            exact absurd H (by simp)
        · rw [if_neg c5] at H
          exact absurd H (by simp)
      · rw [if_neg c4] at H
        have c4b0 : decide (x1_1 < (l0.length : Int)) = false := decide_eq_false c4
        clear c4
        simp only [Option.some.injEq, Prod.mk.injEq] at H
        obtain ⟨rfl, rfl, rfl, rfl, rfl, rfl⟩ := H
        have hcz19_0 : wr.cell? ⟨gb132, 0, none⟩ = some (.int .i64 x133000_1) := (blk_cell BK132.out 0).trans rfl
        have hcz19_1 : wr.cell? ⟨gb132, 1, none⟩ = some (.int .i64 x133001_1) := (blk_cell BK132.out 1).trans rfl
        have hcz19_2 : wr.cell? ⟨gb132, 2, none⟩ = some (.slice none 0 0) := (blk_cell BK132.out 2).trans rfl
        have hfz19_0 := blk_frozen BK132.out 0
        have hfz19_1 := blk_frozen BK132.out 1
        have hfz19_2 := blk_frozen BK132.out 2
        go_wp2
        refine bodyPost_ret (results_list (rs := [.cell 4 41, .tmp 5, .tmp 6, .tmp 7]) rfl (by simp) (.cell gb132 41 #[.int .i64 0, .int .i64 0, .slice none 0 0] (0, 0) _ rfl (by (with_reducible repeat (first | refine blk_drewN ?_ _ | refine blk_drew ?_ | refine blk_alloc ?_ _)); refine blk_put (cs := #[.int .i64 0, .int .i64 0, .slice none 0 0]) ?_ 2 _ rfl; (with_reducible repeat (first | refine blk_drewN ?_ _ | refine blk_drew ?_ | refine blk_alloc ?_ _)); refine blk_put (cs := #[.int .i64 0, .int .i64 x133001_1, .slice none 0 0]) ?_ 1 _ rfl; (with_reducible repeat (first | refine blk_drewN ?_ _ | refine blk_drew ?_ | refine blk_alloc ?_ _)); refine blk_put (cs := #[.int .i64 x133000_1, .int .i64 x133001_1, .slice none 0 0]) ?_ 0 _ rfl; (with_reducible repeat (first | refine blk_drewN ?_ _ | refine blk_drew ?_ | refine blk_alloc ?_ _)); exact BK132.out) Try.underlying41 rfl (by kernel_rfl) (.tmp (.tmp (.tmp .nil))))) rfl ?_
        exact ⟨_, by first | rfl | (simp [errW_none, errW_some] <;> rfl) | (simp [*, errW_none, errW_some] <;> rfl), by first | exact Kd.R_nil _ _ _ _ _ | exact Kd.N_nil _ _ _ _ _ | exact Kd.V_nil _ _ _ _ _ | exact Kd.Q_nil _ _ _ _ _ | exact Kd.S_nil _ _ _ _ _, by repeat (first | (with_reducible first | exact HB.out | apply below_alloc | apply pw_below_drewN | apply below_drew1 | refine below_set ?_ GE132.out) | exact HB.out)⟩

end Go.Proofs.Ytjednkbgdbalnaa.Pt
