-- Written by a program of this session over the translation (a turned copy of the kit's printer). Lean checks it.
import Derived.Test.YteplnpedakdjkaaZPtx0
import Derived.Test.YteplnpedakdjkaaZPtx8
import Derived.Test.YteplnpedakdjkaaZPtx11
import Derived.Test.YteplnpedakdjkaaZGa
namespace Go.Proofs.Yteplnpedakdjkaa.Pt
open Go.RowKit Go.Proofs.YteplnpedakdjkaaW.PrintWords Go.Proofs.YteplnpedakdjkaaW.PrintLast Go.Proofs.YteplnpedakdjkaaW.PrintMore
attribute [local go_sem] max2_int min2_int max_two min_two max_three min_three max_four min_four   -- for this text's walks alone
set_option linter.unusedVariables false
set_option linter.unusedSimpArgs false

open Go.Proofs.Yteplnpedakdjkaa.Ext
/-! ### souterrainref11_four: function 37 -/
abbrev mk12_0 : Array Bool := #[false, false, false, false, false, false, false, false, false, false, false, false, false, false, false, false, false, false, false, false, false, false, false, false, false, false, false, false, false, false]
abbrev mk12_1 : Array Bool := #[true, false, false, false, false, false, false, false, false, false, false, false, false, false, false, false, false, false, false, false, false, false, false, false, false, false, false, false, false, false]
abbrev mk12_2 : Array Bool := #[true, true, false, false, false, false, false, false, false, false, false, false, false, false, false, false, false, false, false, false, false, false, false, false, false, false, false, false, false, false]
abbrev mk12_3 : Array Bool := #[true, true, true, false, false, false, false, false, false, false, false, false, false, false, false, false, false, false, false, false, false, false, false, false, false, false, false, false, false, false]
abbrev mk12_4 : Array Bool := #[true, true, true, true, false, false, false, false, false, false, false, false, false, false, false, false, false, false, false, false, false, false, false, false, false, false, false, false, false, false]
abbrev mk12_5 : Array Bool := #[true, true, true, true, false, false, false, true, false, false, false, false, false, false, false, false, false, false, false, false, false, false, false, false, false, false, false, false, false, false]
abbrev mk12_6 : Array Bool := #[true, true, true, true, false, false, false, true, true, false, false, false, false, false, false, false, false, false, false, false, false, false, false, false, false, false, false, false, false, false]
abbrev mk12_7 : Array Bool := #[true, true, true, true, false, false, false, true, true, true, false, false, false, false, false, false, false, false, false, false, false, false, false, false, false, false, false, false, false, false]
abbrev mk12_8 : Array Bool := #[true, true, true, true, false, false, false, true, true, true, true, false, false, false, false, false, false, false, false, false, false, false, false, false, false, false, false, false, false, false]
abbrev mk12_9 : Array Bool := #[true, true, true, true, false, false, false, true, true, true, true, false, false, true, false, false, false, false, false, false, false, false, false, false, false, false, false, false, false, false]
abbrev mk12_10 : Array Bool := #[true, true, true, true, false, false, false, true, true, true, true, false, false, true, true, false, false, false, false, false, false, false, false, false, false, false, false, false, false, false]
abbrev mk12_11 : Array Bool := #[true, true, true, true, false, false, false, true, true, true, true, false, false, true, true, true, false, false, false, false, false, false, false, false, false, false, false, false, false, false]
abbrev mk12_12 : Array Bool := #[true, true, true, true, false, false, false, true, true, true, true, false, false, true, true, true, true, false, false, false, false, false, false, false, false, false, false, false, false, false]
abbrev mk12_13 : Array Bool := #[true, true, true, true, false, false, false, true, true, true, true, false, false, true, true, true, true, false, false, false, true, false, false, false, false, false, false, false, false, false]
abbrev mk12_14 : Array Bool := #[true, true, true, true, false, false, false, true, true, true, true, false, false, true, true, true, true, false, false, false, true, true, false, false, false, false, false, false, false, false]
abbrev mk12_15 : Array Bool := #[true, true, true, true, false, false, false, true, true, true, true, false, false, true, true, true, true, false, false, false, true, true, true, false, false, false, false, false, false, false]
abbrev mk12_16 : Array Bool := #[true, true, true, true, false, false, false, true, true, true, true, false, false, true, true, true, true, false, false, false, true, true, true, true, false, false, false, false, false, false]
abbrev mk12_17 : Array Bool := #[true, true, true, true, true, false, false, true, true, true, true, false, false, true, true, true, true, false, false, false, true, true, true, true, false, false, false, false, false, false]
abbrev mk12_18 : Array Bool := #[true, true, true, true, true, true, false, true, true, true, true, false, false, true, true, true, true, false, false, false, true, true, true, true, false, false, false, false, false, false]
abbrev mk12_19 : Array Bool := #[true, true, true, true, true, true, false, true, true, true, true, true, false, true, true, true, true, false, false, false, true, true, true, true, false, false, false, false, false, false]
abbrev mk12_20 : Array Bool := #[true, true, true, true, true, true, false, true, true, true, true, true, false, true, true, true, true, true, false, false, true, true, true, true, false, false, false, false, false, false]
abbrev mk12_21 : Array Bool := #[true, true, true, true, true, true, false, true, true, true, true, true, false, true, true, true, true, true, true, false, true, true, true, true, false, false, false, false, false, false]
abbrev mk12_22 : Array Bool := #[true, true, true, true, true, true, false, true, true, true, true, true, false, true, true, true, true, true, true, true, true, true, true, true, false, false, false, false, false, false]
abbrev mk12_23 : Array Bool := #[true, true, true, true, true, true, false, true, true, true, true, true, false, true, true, true, true, true, true, true, true, true, true, true, true, false, false, false, false, false]
abbrev mk12_24 : Array Bool := #[true, true, true, true, true, true, false, true, true, true, true, true, false, true, true, true, true, true, true, true, true, true, true, true, true, true, false, false, false, false]
abbrev mk12_25 : Array Bool := #[true, true, true, true, true, true, false, true, true, true, true, true, false, true, true, true, true, true, true, true, true, true, true, true, true, true, true, false, false, false]
abbrev mk12_26 : Array Bool := #[true, true, true, true, true, true, true, true, true, true, true, true, true, true, true, true, true, true, true, true, true, true, true, true, true, true, true, true, false, false]
abbrev mk12_27 : Array Bool := #[true, true, true, true, true, true, true, true, true, true, true, true, false, true, true, true, true, true, true, true, true, true, true, true, true, true, true, false, false, false]
abbrev mk12_28 : Array Bool := #[true, true, true, true, true, true, false, true, true, true, true, true, false, true, true, true, true, true, true, true, true, true, true, true, true, true, true, true, false, false]
abbrev mk12_29 : Array Bool := #[true, true, true, true, true, true, true, true, true, true, true, true, true, true, true, true, true, true, true, true, true, true, true, true, true, true, true, false, false, false]
abbrev mk12_30 : Array Bool := #[true, true, true, true, true, true, true, true, true, true, true, true, false, true, true, true, true, true, true, true, true, true, true, true, true, true, true, true, false, false]
abbrev mk12_31 : Array Bool := #[true, true, true, true, true, true, true, true, true, true, true, true, true, true, true, true, true, true, true, true, true, true, true, true, true, true, true, true, true, false]
abbrev mk12_32 : Array Bool := #[true, true, true, true, true, true, true, true, true, true, true, true, true, true, true, true, true, true, true, true, true, true, true, true, true, true, true, true, true, true]
section
variable {P : Program} {ops : Array Oper} {Q : Exit → Act → World → Prop} {md : Region.Mode} {S : World → Prop} {ds : List Nat}
theorem py12_ (i N : Nat) {oi : Oper} (v : Value) {fuel : Nat} {l : Array Bool} {a : Act} {w : World} (l' : Array Bool) {T : Bool × List (List Nat × List Nat)} (HT : Aside0 (rtab md ops = T)) (hi : ops[i]? = some oi) (hN : oi.dst = some N) (hc : anyT T l.toList l'.toList i = true)
  (hQ : ∀ c a w, Q (.panic c) (a.put oi.dst v) w → Q (.panic c) a w) (hy : Yields P ops oi v a) {a' : Act} (ha : a.put (some N) v = a')
  (h : wpAnyLast P md ops Q S ds fuel l' a' w) : wpAnyLast P md ops Q S ds (fuel + 1) l a w :=
 pure_ l' hi hN (any_of HT.out hc) hQ hy ha h
theorem pS12 : (∀ (l : List Value) (i : Nat) (a : Value), l.toArray.setIfInBounds i a = (l.set i a).toArray) ∧ (∀ (x : Value) (l : List Value) (a : Value), (x :: l).set 0 a = a :: l) ∧ (∀ (x : Value) (l : List Value) (i : Nat) (a : Value), (x :: l).set (i + 1) a = x :: l.set i a) ∧ (∀ n : Int, IntKind.i64.wrap n = Go.RowKit.wrap64 n) ∧ (∀ n : Int, IntKind.i32.wrap n = Go.RowKit.wrap32 n) :=
 ⟨fun l i a => List.setIfInBounds_toArray .., fun x l a => List.set_cons_zero .., fun x l i a => List.set_cons_succ .., i64_w, i32_w⟩
end
def souterrainref11_four.f (l0 : List Int) (a1 : Int) : Option (List Int) := (some (([(a1 / 16777216) % 256, (a1 / 65536) % 256, (a1 / 256) % 256, (a1) % 256] : List Int) : List Int)).bind fun y269 => (if l0.length + y269.length < 140737488355328 then (some (l0 ++ y269)) else (none))
set_option maxHeartbeats 8000000 in
set_option maxRecDepth 100000 in
theorem souterrainref11_four.calls (P0_ : Nat → Prop) (u9000_ : Value) (l0 : List Int) (a1 : Int) (r : List Int) (w0 w : World) (hB : Below w0.heap.size w0 w) (ho0 : Kd.R (Kd.int .u8) 5 w w0.heap.size P0_ u9000_ l0) (h : souterrainref11_four.f l0 a1 = some r) :
  Calls Try.prog 37 #[u9000_, .int .i64 a1] w fun e w' => ∃ v0_ : Value, e = .returned (v0_) ∧ Kd.R (Kd.int .u8) 5 w' w0.heap.size (fun k_ => (P0_ k_ ∨ w.heap.size ≤ k_)) v0_ r ∧ Below w0.heap.size w0 w' ∧ Kept w w' (fun k_ => P0_ k_) := by
 have HO0 := Aside0.mk (show Kd.R (Kd.int .u8) 5 w w0.heap.size (fun k_ => (P0_ k_ ∨ w.heap.size ≤ k_)) u9000_ l0 from Kd.R_mono ho0 (fun k_ hk => (.inl hk)))
 have HK := Aside0.mk (Kept.refl w (fun k_ => P0_ k_))
 have HW0 := Aside0.mk hB.size
 have HB := Aside0.mk hB
 clear hB
 have H : ((some (([(a1 / 16777216) % 256, (a1 / 65536) % 256, (a1 / 256) % 256, (a1) % 256] : List Int) : List Int)).bind fun y269 => (if l0.length + y269.length < 140737488355328 then (some (l0 ++ y269)) else (none))) = some r := h
 clear h
 obtain ⟨y269, hy269⟩ : ∃ y_ : List Int, y_ = (([(a1 / 16777216) % 256, (a1 / 65536) % 256, (a1 / 256) % 256, (a1) % 256] : List Int)) := ⟨_, rfl⟩
 replace H : (if l0.length + y269.length < 140737488355328 then (some (l0 ++ y269)) else (none)) = some r := by first | (rw [hy269]; with_reducible exact H) | (have H2_ := (Option.bind_some _ _).symm.trans H; rw [hy269]; with_reducible exact H2_) | (have H2_ := (Option.bind_some _ _).symm.trans H; with_reducible exact H2_) | with_reducible exact H | (rw [hy269]; exact H) | exact H
 have Ny269 := Aside0.mk hy269
 clear hy269
 by_cases c3 : l0.length + y269.length < 140737488355328
 ·rw [if_pos c3] at H
  have LMc3 := Aside0.mk c3
  clear c3
  obtain ⟨y272, hy272⟩ : ∃ y_ : List Int, y_ = (l0 ++ y269) := ⟨_, rfl⟩
  replace H : (some y272) = some r := by first | (rw [hy272]; with_reducible exact H) | (have H2_ := (Option.bind_some _ _).symm.trans H; rw [hy272]; with_reducible exact H2_) | (have H2_ := (Option.bind_some _ _).symm.trans H; with_reducible exact H2_) | with_reducible exact H | (rw [hy272]; exact H) | exact H
  have Ny272 := Aside0.mk hy272
  clear hy272
  obtain rfl := Option.some.inj H
  go_enter Try.func37, Try.ntmps37
  go_wp2_with (first | ((with_reducible refine gate_dst (N := 17) rfl ?_); refine Kd.R_lit (Kd.int .u8) _ 5 ?hg (N := 17) ?hd (xs := ([(a1 / 16777216) % 256, (a1 / 65536) % 256, (a1 / 256) % 256, (a1) % 256] : List Int)) (inner := [.int .u8 ((a1 / 16777216) % 256), .int .u8 ((a1 / 65536) % 256), .int .u8 ((a1 / 256) % 256), .int .u8 ((a1) % 256)]) (ok := fun _ => True) (okp := fun _ => True) ?hr ?hp (fun _ hk => hk) trivial (Below.refl _ _) (Nat.le_refl _) (by simp) ?_; (case hd => rfl); (case hg => rfl); (case hr => first | (go_simp; done) | (go_simp; rfl)); (case hp => exact (Reps.one (show Kd.M (Kd.int .u8) _ _ _ ((a1 / 16777216) % 256) [.int .u8 ((a1 / 16777216) % 256)] from rfl) (Reps.one (show Kd.M (Kd.int .u8) _ _ _ ((a1 / 65536) % 256) [.int .u8 ((a1 / 65536) % 256)] from rfl) (Reps.one (show Kd.M (Kd.int .u8) _ _ _ ((a1 / 256) % 256) [.int .u8 ((a1 / 256) % 256)] from rfl) (Reps.one (show Kd.M (Kd.int .u8) _ _ _ ((a1) % 256) [.int .u8 ((a1) % 256)] from rfl) (Reps.none _ _)))))); intro v270 w4 ho5 hb hg_ hnew_; clear hg_ hnew_; (first | rw [← Ny269.out] at ho5 | (simp only [Int.reduceToNat] at ho5; rw [← Ny269.out] at ho5)); have n0_ := Aside0.mk (Kd.R_elder' (by (with_reducible repeat (first | apply Kd.R_alloc | apply Kd.R_drewN | apply Kd.R_drew)); exact HO0.out) (Kd.R_base ho5) hb); have n1_ := Aside0.mk (Kd.R_lower (Kd.R_new' (Kd.R_newM (M := fun k_ => (P0_ k_ ∨ w.heap.size ≤ k_)) ho5 (by first | exact HK.out.1 | exact (show Kept w _ (fun k_ => P0_ k_) from by repeat (first | (with_reducible first | exact HK.out | apply Kept.alloc | apply Kept.drewN | apply Kept.drew) | exact HK.out)).1) (fun k_ h_ => .inr h_)) (Kd.R_lt (by (with_reducible repeat (first | apply Kd.R_alloc | apply Kd.R_drewN | apply Kd.R_drew)); exact HO0.out))) (below_size (by repeat (first | (with_reducible first | exact HB.out | apply below_alloc | apply pw_below_drewN | apply below_drew1) | exact HB.out)))); have n2_ := Aside0.mk (Kept.below (S := (fun k_ => P0_ k_)) (by repeat (first | (with_reducible first | exact HK.out | apply Kept.alloc | apply Kept.drewN | apply Kept.drew) | exact HK.out)) hb); have n3_ := Aside0.mk (below_step (by repeat (first | (with_reducible first | exact HB.out | apply below_alloc | apply pw_below_drewN | apply below_drew1) | exact HB.out)) hb); clear HO0; clear HK; clear HB; have HO0 := n0_; have HO271 := n1_; have HK := n2_; have HB := n3_; clear n0_ n1_ n2_ n3_; clear hb ho5; obtain ⟨Ao7, co7, eo7⟩ := Kd.R_slice HO271.out; subst eo7) | ((with_reducible refine gate_builtin (b := .append) (xs := #[.tmp 5, .tmp 17]) rfl ?_); at_builtin; refine Kd.R_append_rows (Kd.int .u8) (w0 := w0) w0.heap.size rfl (.tmp 5) (.tmp 17) 23 5 (.int .u8 0) 1 rfl Try.underlying23 info5 rfl (by decide) (by omega) u9000_ l0 y269 _ _ _ (fun k_ => (P0_ k_ ∨ w.heap.size ≤ k_) ∧ some k_ ≠ (.slice Ao7 y269.length co7 : Value).ownBlock) (fun _ => False) rfl rfl ?aO ?aR (fun _ _ h => h) (fun _ h => h.elim) ?aF ?aB ?aS ?aL ?_; (case aR => repeat (first | exact (Kd.R_reads' HO271.out).2.2 | (with_reducible refine Kd.C_alloc ?_ _) | (with_reducible refine Kd.C_drewN ?_ _) | (with_reducible refine Kd.C_drew ?_))); (case aB => exact (by repeat (first | (with_reducible first | exact HB.out | apply below_alloc | apply pw_below_drewN | apply below_drew1) | exact HB.out))); (case aF => exact (fun k_ hk => ⟨(.inr (Nat.le_trans (by first | exact HK.out.1 | exact (show Kept w _ (fun k_ => P0_ k_) from by repeat (first | (with_reducible first | exact HK.out | apply Kept.alloc | apply Kept.drewN | apply Kept.drew) | exact HK.out)).1) hk)), Kd.fresh' (Kd.R_lt (by (with_reducible repeat (first | apply Kd.R_alloc | apply Kd.R_drewN | apply Kd.R_drew)); exact HO271.out)) k_ hk⟩)); (case aO => exact (by (with_reducible repeat (first | apply Kd.R_alloc | apply Kd.R_drewN | apply Kd.R_drew)); exact HO0.out)); (case aS => exact (below_size (by repeat (first | (with_reducible first | exact HB.out | apply below_alloc | apply pw_below_drewN | apply below_drew1) | exact HB.out)))); (case aL => have := LMc3.out; omega); intro v273 w6 ho hb hg hat; rw [← Ny272.out] at ho; have n0_ := Aside0.mk (Kd.R_after (ok := (fun k_ => (P0_ k_ ∨ w.heap.size ≤ k_))) (by (with_reducible repeat (first | apply Kd.R_alloc | apply Kd.R_drewN | apply Kd.R_drew)); exact Kd.R_mono HO271.out (fun _ hk => ⟨hk.1.1, hk.2⟩)) hg hat); have n1_ := Aside0.mk (hb); have n2_ := Aside0.mk (Kept.of_grown (S := (fun k_ => P0_ k_)) hg (by repeat (first | (with_reducible first | exact HK.out | apply Kept.alloc | apply Kept.drewN | apply Kept.drew) | exact HK.out)) (fun k_ e_ => (HO0.out.1 k_ e_).1)); have n3_ := Aside0.mk (ho); clear HO271; clear HB; clear HK; clear HO0; have HO271 := n0_; have HB := n1_; have HK := n2_; have HO274 := n3_; clear n0_ n1_ n2_ n3_; clear ho hb hg hat))
  go_ret
  exact ⟨_, by first | rfl | (simp [errW_none, errW_some] <;> rfl) | (simp [*, errW_none, errW_some] <;> rfl), by (with_reducible repeat (first | apply Kd.R_alloc | apply Kd.R_drewN | apply Kd.R_drew)); exact Kd.R_mono HO274.out (fun _ hk => hk.1), by repeat (first | (with_reducible first | exact HB.out | apply below_alloc | apply pw_below_drewN | apply below_drew1) | exact HB.out), by repeat (first | (with_reducible first | exact HK.out | apply Kept.alloc | apply Kept.drewN | apply Kept.drew) | exact HK.out)⟩
 ·rw [if_neg c3] at H
  exact absurd H (by simp)

/-! ### souterrainref11_Put: function 17 -/
mutual
def souterrainref11_Put.j0 : Nat → List (S41) → Int → Bool → Option (List Int)
 | 0, _, _, _ => none
 | k + 1, x0, x1, x19 => if x19 = true then (some ([] : List Int)) else (souterrainref11_Put.l0 k x0 x1 ([] : List Int) 0)
def souterrainref11_Put.l0 : Nat → List (S41) → Int → List Int → Int → Option (List Int)
 | 0, _, _, _, _ => none
 | k + 1, x0, x1, x5, x6 => if x6 < (x0.length : Int) then (if 0 ≤ x6 then ((souterrainref11_four.f (([((rd_T41 x0 x6).f0) % 256] : List Int)) ((rd_T41 x0 x6).f2)).bind fun t281 => ((some (([(wrap64 (Int.tdiv ((rd_T41 x0 x6).f3) 256)) % 256, (Int.tmod ((rd_T41 x0 x6).f3) 256) % 256] : List Int) : List Int)).bind fun y286 => (if t281.length + y286.length < 140737488355328 then ((some (t281 ++ y286 : List Int)).bind fun y289 => (if y289.length + ((rd_T41 x0 x6).f1).size < 140737488355328 then ((souterrainref02_Put.f k (y289 ++ bytesOf ((rd_T41 x0 x6).f1))).bind fun t296 => (if x5.length + t296.length < 140737488355328 then (souterrainref11_Put.l0 k x0 x1 (x5 ++ t296) (wrap64 (x6 + 1))) else (none))) else (none))) else (none)))) else (none)) else ((souterrainref11_four.f (([7] : List Int)) (x0.length : Int)).bind fun t305 => ((souterrainref11_four.f t305 x1).bind fun t308 => ((souterrainref01_Bit.f k x5).bind fun t311 => ((souterrainref11_four.f t308 (wrap64 (t311))).bind fun t312 => ((souterrainref02_Put.f k t312).bind fun t315 => (if x5.length + t315.length < 140737488355328 then (some (x5 ++ t315)) else (none)))))))
end
def souterrainref11_Put.f (k : Nat) (l0 : List (S41)) (a1 : Int) : Option (List Int) := (souterrainref11_Right.f k l0).bind fun t275 => (if t275 = true then (if a1 < 0 then (souterrainref11_Put.j0 k l0 a1 true) else (souterrainref11_Put.j0 k l0 a1 (decide (a1 > 1073741824)))) else (souterrainref11_Put.j0 k l0 a1 true))
def souterrainref11_Put.T7 : Bool × List (List Nat × List Nat) := (true, [([], []), ([], []), ([0, 1], [0, 1]), ([2], [2]), ([3], [3]), ([4], [4]), ([5], [5]), ([], []), ([], []), ([7, 8], [7, 8]), ([9], [9]), ([10], [10]), ([6, 11], [6, 11]), ([], []), ([], []), ([13, 14], [13, 14]), ([15], [15]), ([16], [16]), ([17], [17]), ([18], [18]), ([], []), ([], []), ([20, 21], [20, 21]), ([22], [22]), ([23], [23]), ([24], [24]), ([25], [25]), ([19, 26], [19, 26]), ([12, 27, 12], [12, 27]), ([28, 28, 0, 1, 2, 3, 4, 5, 6, 7, 8, 9, 10, 11, 12, 13, 14, 15, 16, 17, 18, 19, 20, 21, 22, 23, 24, 25, 26, 27, 28], [28])])
def souterrainref11_Put.B7 : List Nat := [0, 0, 3, 7, 15, 31, 63, 0, 0, 384, 896, 1920, 4095, 0, 0, 24576, 57344, 122880, 253952, 516096, 0, 0, 3145728, 7340032, 15728640, 32505856, 66060288, 134209536, 268435455, 536870911]
theorem souterrainref11_Put.tab7 : rtab .any (opsOf Try.f17 7) = souterrainref11_Put.T7 := by kernel_rfl
theorem souterrainref11_Put.bits7 : waitsOk souterrainref11_Put.T7.2 souterrainref11_Put.B7 = true := by kernel_rfl
set_option maxHeartbeats 8000000 in
set_option maxRecDepth 100000 in
theorem souterrainref11_Put.calls (k : Nat) (A0 : Option Addr) (c0 : Nat) (l0 : List (S41)) (a1 : Int) (r : List Int) (w : World) (hr0 : Kd.C k41 w A0 l0.length l0) (hc0 : l0.length ≤ c0) (h : souterrainref11_Put.f k l0 a1 = some r) :
  Calls Try.prog 17 #[.slice A0 l0.length c0, .int .i64 a1] w fun e w' => ∃ v0_ : Value, e = .returned (v0_) ∧ Kd.R (Kd.int .u8) 5 w' w.heap.size (fun _ => True) v0_ r ∧ Below w.heap.size w w' := by
 have HR0 := Aside0.mk hr0
 have HC0 := Aside0.mk hc0
 clear hr0 hc0
 have HB := Aside0.mk (Below.refl w.heap.size w)
 have H : ((souterrainref11_Right.f k l0).bind fun t275 => (if t275 = true then (if a1 < 0 then (souterrainref11_Put.j0 k l0 a1 true) else (souterrainref11_Put.j0 k l0 a1 (decide (a1 > 1073741824)))) else (souterrainref11_Put.j0 k l0 a1 true))) = some r := h
 clear h
 have HC3 := Aside0.mk H
 clear H
 go_enter Try.func17, Try.ntmps17
 go_upto_region 1 with (fail)
 go_cut [19] (fun v19 wc => ∃ (kq : Nat) (x19_2 : Bool), v19 = .bool x19_2 ∧ Aside0 (souterrainref11_Put.j0 kq l0 a1 x19_2 = some r) ∧ Aside0 (kq ≤ k) ∧ Aside0 (Below w.heap.size w wc))
 case first =>
  have H := HC3.out
  clear HC3
  replace H := Option.bind_eq_some_iff.mp H
  obtain ⟨t275, A40, H⟩ := H
  replace H : (if t275 = true then (if a1 < 0 then (souterrainref11_Put.j0 k l0 a1 true) else (souterrainref11_Put.j0 k l0 a1 (decide (a1 > 1073741824)))) else (souterrainref11_Put.j0 k l0 a1 true)) = some r := H
  have A4 := Aside0.mk A40
  clear A40
  by_cases c5 : t275 = true
  ·subst c5
   have H1 : (if a1 < 0 then (souterrainref11_Put.j0 k l0 a1 true) else (souterrainref11_Put.j0 k l0 a1 (decide (a1 > 1073741824)))) = some r := by rw [if_pos rfl] at H; exact H
   clear H
   have H := H1
   clear H1
   by_cases c6 : a1 < 0
   ·rw [if_pos c6] at H
    have c6b0 : decide (a1 < 0) = true := decide_eq_true c6
    clear c6
    (first | rw [c6b0] | (simp only [i64_w, i32_w]; rw [c6b0]) | skip)
    have H' := Aside0.mk H
    clear H
    go_wp2_with (first | ((with_reducible refine gate_callee (f := 15) rfl ?_); refine goesL_ (some 10) rfl rfl Try.func15 (by kernel_rfl) rfl #[.slice A0 l0.length c0] rfl (by (try simp only [List.map_toArray, List.map_cons, List.map_nil]); first | done | rfl | (simp only [List.length_drop, List.length_take]; rfl)) ?_; (with_reducible refine (souterrainref11_Right.calls k _ _ l0 true _ ?side1 ?side2 A4.out).mono ?_); (case side1 => repeat (first | exact (Kd.C_below HR0.out HB.out) | (with_reducible refine Kd.C_alloc ?_ _) | (with_reducible refine Kd.C_drewN ?_ _) | (with_reducible refine Kd.C_drew ?_))); (case side2 => exact HC0.out); rintro e w7 ⟨rfl, hb⟩; refine ⟨_, rfl, ?_⟩; have n0_ := Aside0.mk (below_step (by repeat (first | (with_reducible first | exact HB.out | apply below_alloc | apply pw_below_drewN | apply below_drew1) | exact HB.out)) hb); clear HB; have HB := n0_; clear n0_; (try clear hb); (try clear hb2); (try clear hk); (try clear hi)))
    go_meet
    case rel => exact ⟨_, (true), (by first | rfl | (simp; done) | (simp [*]; done)), H', ⟨by first | omega | exact Nat.le_refl _⟩, ⟨by repeat (first | (with_reducible first | exact HB.out | apply below_alloc | apply pw_below_drewN | apply below_drew1) | exact HB.out)⟩⟩
   ·rw [if_neg c6] at H
    have c6b0 : decide (a1 < 0) = false := decide_eq_false c6
    clear c6
    (first | rw [c6b0] | (simp only [i64_w, i32_w]; rw [c6b0]) | skip)
    have H' := Aside0.mk H
    clear H
    go_wp2_with (first | ((with_reducible refine gate_callee (f := 15) rfl ?_); refine goesL_ (some 10) rfl rfl Try.func15 (by kernel_rfl) rfl #[.slice A0 l0.length c0] rfl (by (try simp only [List.map_toArray, List.map_cons, List.map_nil]); first | done | rfl | (simp only [List.length_drop, List.length_take]; rfl)) ?_; (with_reducible refine (souterrainref11_Right.calls k _ _ l0 true _ ?side1 ?side2 A4.out).mono ?_); (case side1 => repeat (first | exact (Kd.C_below HR0.out HB.out) | (with_reducible refine Kd.C_alloc ?_ _) | (with_reducible refine Kd.C_drewN ?_ _) | (with_reducible refine Kd.C_drew ?_))); (case side2 => exact HC0.out); rintro e w8 ⟨rfl, hb⟩; refine ⟨_, rfl, ?_⟩; have n0_ := Aside0.mk (below_step (by repeat (first | (with_reducible first | exact HB.out | apply below_alloc | apply pw_below_drewN | apply below_drew1) | exact HB.out)) hb); clear HB; have HB := n0_; clear n0_; (try clear hb); (try clear hb2); (try clear hk); (try clear hi)))
    go_meet
    case rel => exact ⟨_, (decide (a1 > 1073741824)), (by first | rfl | (simp; done) | (simp [*]; done)), H', ⟨by first | omega | exact Nat.le_refl _⟩, ⟨by repeat (first | (with_reducible first | exact HB.out | apply below_alloc | apply pw_below_drewN | apply below_drew1) | exact HB.out)⟩⟩
  ·replace c5 := Bool.eq_false_iff.mpr c5
   subst c5
   have H1 : (souterrainref11_Put.j0 k l0 a1 true) = some r := by rw [if_neg (show ¬ (false = true) by decide)] at H; exact H
   clear H
   have H := H1
   clear H1
   have H' := Aside0.mk H
   clear H
   go_wp2_with (first | ((with_reducible refine gate_callee (f := 15) rfl ?_); refine goesL_ (some 10) rfl rfl Try.func15 (by kernel_rfl) rfl #[.slice A0 l0.length c0] rfl (by (try simp only [List.map_toArray, List.map_cons, List.map_nil]); first | done | rfl | (simp only [List.length_drop, List.length_take]; rfl)) ?_; (with_reducible refine (souterrainref11_Right.calls k _ _ l0 false _ ?side1 ?side2 A4.out).mono ?_); (case side1 => repeat (first | exact (Kd.C_below HR0.out HB.out) | (with_reducible refine Kd.C_alloc ?_ _) | (with_reducible refine Kd.C_drewN ?_ _) | (with_reducible refine Kd.C_drew ?_))); (case side2 => exact HC0.out); rintro e w9 ⟨rfl, hb⟩; refine ⟨_, rfl, ?_⟩; have n0_ := Aside0.mk (below_step (by repeat (first | (with_reducible first | exact HB.out | apply below_alloc | apply pw_below_drewN | apply below_drew1) | exact HB.out)) hb); clear HB; have HB := n0_; clear n0_; (try clear hb); (try clear hb2); (try clear hk); (try clear hi)))
   go_meet
   case rel => exact ⟨_, (true), (by first | rfl | (simp; done) | (simp [*]; done)), H', ⟨by first | omega | exact Nat.le_refl _⟩, ⟨by repeat (first | (with_reducible first | exact HB.out | apply below_alloc | apply pw_below_drewN | apply below_drew1) | exact HB.out)⟩⟩
 case rest =>
  clear HC3
  try clear c1
  try clear p2
  try clear c5
  try clear c6
  try clear c6b0
  obtain ⟨kq, x19_2, rfl, HA, HJ2, HB⟩ := hcut
  cases kq with
  | zero => exact absurd HA.out (by simp [souterrainref11_Put.j0])
  | succ kj2 =>
   have H := HA.out
   clear HA
   simp only [souterrainref11_Put.j0] at H
   by_cases c10 : x19_2 = true
   ·subst c10
    have H1 : (some ([] : List Int)) = some r := by rw [if_pos rfl] at H; exact H
    clear H
    have H := H1
    clear H1
    obtain rfl := Option.some.inj H
    go_wp2
    go_ret
    exact ⟨_, by first | rfl | (simp [errW_none, errW_some] <;> rfl) | (simp [*, errW_none, errW_some] <;> rfl), by first | exact Kd.R_nil _ _ _ _ _ | exact Kd.N_nil _ _ _ _ _ | exact Kd.V_nil _ _ _ _ _ | exact Kd.Q_nil _ _ _ _ _ | exact Kd.S_nil _ _ _ _ _, by repeat (first | (with_reducible first | exact HB.out | apply below_alloc | apply pw_below_drewN | apply below_drew1) | exact HB.out)⟩
   ·replace c10 := Bool.eq_false_iff.mpr c10
    subst c10
    have H1 : (souterrainref11_Put.l0 kj2 l0 a1 ([] : List Int) 0) = some r := by rw [if_neg (show ¬ (false = true) by decide)] at H; exact H
    clear H
    have H := H1
    clear H1
    have H' := Aside0.mk H
    clear H
    go_wp2
    go_loopg [5, 6] kj2 (fun kq v5 v6 w' => ∃ (x5_2 : List Int) (x6_2 : Int), v6 = .int .i64 x6_2 ∧ Aside0 (souterrainref11_Put.l0 kq l0 a1 x5_2 x6_2 = some r) ∧ Aside0 (kq ≤ kj2) ∧ Aside0 (Kd.R (Kd.int .u8) 5 w' w.heap.size (fun _ => True) v5 x5_2) ∧ Aside0 (Below w.heap.size w w'))
    case atStart => exact ⟨(([] : List Int)), (0), (by first | rfl | (simp; done) | (simp [*]; done)), H', ⟨Nat.le_refl _⟩, ⟨by first | exact Kd.R_nil _ _ _ _ _ | exact Kd.N_nil _ _ _ _ _ | exact Kd.V_nil _ _ _ _ _ | exact Kd.Q_nil _ _ _ _ _ | exact Kd.S_nil _ _ _ _ _⟩, ⟨by repeat (first | (with_reducible first | exact HB.out | apply below_alloc | apply pw_below_drewN | apply below_drew1) | exact HB.out)⟩⟩
    case round =>
     clear H'
     try clear c1
     try clear p2
     try clear c5
     try clear c6
     try clear c6b0
     try clear c10
     try clear p2
     obtain ⟨x5_2, x6_2, rfl, HA, HK2, HO_5, HB⟩ := hrel
     cases gk with
     | zero => exact absurd HA.out (by simp [souterrainref11_Put.l0])
     | succ k2 =>
      have H := HA.out
      clear HA
      simp only [souterrainref11_Put.l0] at H
      by_cases c11 : x6_2 < (l0.length : Int)
      ·rw [if_pos c11] at H
       have c11b0 : decide (x6_2 < (l0.length : Int)) = true := decide_eq_true c11
       clear c11
       by_cases c12 : 0 ≤ x6_2
       ·rw [if_pos c12] at H
        have c12b0 : decide (0 ≤ x6_2) = true := decide_eq_true c12
        clear c12
        obtain ⟨y277, hy277⟩ : ∃ y_ : List Int, y_ = (([((rd_T41 l0 x6_2).f0) % 256] : List Int)) := ⟨_, rfl⟩
        replace H : ((souterrainref11_four.f y277 ((rd_T41 l0 x6_2).f2)).bind fun t281 => ((some (([(wrap64 (Int.tdiv ((rd_T41 l0 x6_2).f3) 256)) % 256, (Int.tmod ((rd_T41 l0 x6_2).f3) 256) % 256] : List Int) : List Int)).bind fun y286 => (if t281.length + y286.length < 140737488355328 then ((some (t281 ++ y286 : List Int)).bind fun y289 => (if y289.length + ((rd_T41 l0 x6_2).f1).size < 140737488355328 then ((souterrainref02_Put.f k2 (y289 ++ bytesOf ((rd_T41 l0 x6_2).f1))).bind fun t296 => (if x5_2.length + t296.length < 140737488355328 then (souterrainref11_Put.l0 k2 l0 a1 (x5_2 ++ t296) (wrap64 (x6_2 + 1))) else (none))) else (none))) else (none)))) = some r := by first | (rw [hy277]; with_reducible exact H) | (have H2_ := (Option.bind_some _ _).symm.trans H; rw [hy277]; with_reducible exact H2_) | (have H2_ := (Option.bind_some _ _).symm.trans H; with_reducible exact H2_) | with_reducible exact H | (rw [hy277]; exact H) | exact H
        have Ny277 := Aside0.mk hy277
        clear hy277
        replace H := Option.bind_eq_some_iff.mp H
        obtain ⟨t281, A130, H⟩ := H
        replace H : ((some (([(wrap64 (Int.tdiv ((rd_T41 l0 x6_2).f3) 256)) % 256, (Int.tmod ((rd_T41 l0 x6_2).f3) 256) % 256] : List Int) : List Int)).bind fun y286 => (if t281.length + y286.length < 140737488355328 then ((some (t281 ++ y286 : List Int)).bind fun y289 => (if y289.length + ((rd_T41 l0 x6_2).f1).size < 140737488355328 then ((souterrainref02_Put.f k2 (y289 ++ bytesOf ((rd_T41 l0 x6_2).f1))).bind fun t296 => (if x5_2.length + t296.length < 140737488355328 then (souterrainref11_Put.l0 k2 l0 a1 (x5_2 ++ t296) (wrap64 (x6_2 + 1))) else (none))) else (none))) else (none))) = some r := H
        have A13 := Aside0.mk A130
        clear A130
        obtain ⟨y286, hy286⟩ : ∃ y_ : List Int, y_ = (([(wrap64 (Int.tdiv ((rd_T41 l0 x6_2).f3) 256)) % 256, (Int.tmod ((rd_T41 l0 x6_2).f3) 256) % 256] : List Int)) := ⟨_, rfl⟩
        replace H : (if t281.length + y286.length < 140737488355328 then ((some (t281 ++ y286 : List Int)).bind fun y289 => (if y289.length + ((rd_T41 l0 x6_2).f1).size < 140737488355328 then ((souterrainref02_Put.f k2 (y289 ++ bytesOf ((rd_T41 l0 x6_2).f1))).bind fun t296 => (if x5_2.length + t296.length < 140737488355328 then (souterrainref11_Put.l0 k2 l0 a1 (x5_2 ++ t296) (wrap64 (x6_2 + 1))) else (none))) else (none))) else (none)) = some r := by first | (rw [hy286]; with_reducible exact H) | (have H2_ := (Option.bind_some _ _).symm.trans H; rw [hy286]; with_reducible exact H2_) | (have H2_ := (Option.bind_some _ _).symm.trans H; with_reducible exact H2_) | with_reducible exact H | (rw [hy286]; exact H) | exact H
        have Ny286 := Aside0.mk hy286
        clear hy286
        by_cases c14 : t281.length + y286.length < 140737488355328
        ·rw [if_pos c14] at H
         have LMc14 := Aside0.mk c14
         clear c14
         obtain ⟨y289, hy289⟩ : ∃ y_ : List Int, y_ = (t281 ++ y286) := ⟨_, rfl⟩
         replace H : (if y289.length + ((rd_T41 l0 x6_2).f1).size < 140737488355328 then ((souterrainref02_Put.f k2 (y289 ++ bytesOf ((rd_T41 l0 x6_2).f1))).bind fun t296 => (if x5_2.length + t296.length < 140737488355328 then (souterrainref11_Put.l0 k2 l0 a1 (x5_2 ++ t296) (wrap64 (x6_2 + 1))) else (none))) else (none)) = some r := by first | (rw [hy289]; with_reducible exact H) | (have H2_ := (Option.bind_some _ _).symm.trans H; rw [hy289]; with_reducible exact H2_) | (have H2_ := (Option.bind_some _ _).symm.trans H; with_reducible exact H2_) | with_reducible exact H | (rw [hy289]; exact H) | exact H
         have Ny289 := Aside0.mk hy289
         clear hy289
         by_cases c15 : y289.length + ((rd_T41 l0 x6_2).f1).size < 140737488355328
         ·rw [if_pos c15] at H
          have LMc15 := Aside0.mk c15
          clear c15
          obtain ⟨y293, hy293⟩ : ∃ y_ : List Int, y_ = (y289 ++ bytesOf ((rd_T41 l0 x6_2).f1)) := ⟨_, rfl⟩
          replace H : ((souterrainref02_Put.f k2 y293).bind fun t296 => (if x5_2.length + t296.length < 140737488355328 then (souterrainref11_Put.l0 k2 l0 a1 (x5_2 ++ t296) (wrap64 (x6_2 + 1))) else (none))) = some r := by first | (rw [hy293]; with_reducible exact H) | (have H2_ := (Option.bind_some _ _).symm.trans H; rw [hy293]; with_reducible exact H2_) | (have H2_ := (Option.bind_some _ _).symm.trans H; with_reducible exact H2_) | with_reducible exact H | (rw [hy293]; exact H) | exact H
          have Ny293 := Aside0.mk hy293
          clear hy293
          replace H := Option.bind_eq_some_iff.mp H
          obtain ⟨t296, A160, H⟩ := H
          replace H : (if x5_2.length + t296.length < 140737488355328 then (souterrainref11_Put.l0 k2 l0 a1 (x5_2 ++ t296) (wrap64 (x6_2 + 1))) else (none)) = some r := H
          have A16 := Aside0.mk A160
          clear A160
          by_cases c17 : x5_2.length + t296.length < 140737488355328
          ·rw [if_pos c17] at H
           have LMc17 := Aside0.mk c17
           clear c17
           obtain ⟨y299, hy299⟩ : ∃ y_ : List Int, y_ = (x5_2 ++ t296) := ⟨_, rfl⟩
           replace H : (souterrainref11_Put.l0 k2 l0 a1 y299 (wrap64 (x6_2 + 1))) = some r := by first | (rw [hy299]; with_reducible exact H) | (have H2_ := (Option.bind_some _ _).symm.trans H; rw [hy299]; with_reducible exact H2_) | (have H2_ := (Option.bind_some _ _).symm.trans H; with_reducible exact H2_) | with_reducible exact H | (rw [hy299]; exact H) | exact H
           have Ny299 := Aside0.mk hy299
           clear hy299
           have H' := Aside0.mk H
           clear H
           try go_wp2
           have n0_ := Aside0.mk (Kd.R_drew HO_5.out)
           have n1_ := Aside0.mk (below_drew1 HB.out)
           clear HO_5
           clear HB
           have HO_5 := n0_
           have HB := n1_
           clear n0_ n1_
           have p276 : 0 ≤ (x6_2 : Int) := of_decide_eq_true (by first | (with_reducible assumption) | assumption)
           have q276 : x6_2 < (l0.length : Int) := of_decide_eq_true (by first | (with_reducible assumption) | assumption)
           obtain ⟨ad276, e276, hx276_0, hx276_1, hx276_2, hx276_3⟩ := at_T41 HR0.out x6_2 p276 q276
           have hw276_3 := hx276_3
           have hw276_2 := hx276_2
           have hw276_1 := hx276_1
           have hw276_0 := hx276_0
           cases e276
           replace hx276_0 := (HB.out.cell (World.block_lt_of_cell? w _ hx276_0)).trans hx276_0
           replace hx276_1 := (HB.out.cell (World.block_lt_of_cell? w _ hx276_1)).trans hx276_1
           replace hx276_2 := (HB.out.cell (World.block_lt_of_cell? w _ hx276_2)).trans hx276_2
           replace hx276_3 := (HB.out.cell (World.block_lt_of_cell? w _ hx276_3)).trans hx276_3
           replace p276 := eq_true p276
           replace q276 := eq_true q276
           have p280 : 0 ≤ (x6_2 : Int) := of_decide_eq_true (by first | (with_reducible assumption) | assumption)
           have q280 : x6_2 < (l0.length : Int) := of_decide_eq_true (by first | (with_reducible assumption) | assumption)
           obtain ⟨ad280, e280, hx280_0, hx280_1, hx280_2, hx280_3⟩ := at_T41 HR0.out x6_2 p280 q280
           have hw280_3 := hx280_3
           have hw280_2 := hx280_2
           have hw280_1 := hx280_1
           have hw280_0 := hx280_0
           obtain rfl : ad276 = ad280 := (by injection e280)
           replace hx280_0 := (HB.out.cell (World.block_lt_of_cell? w _ hx280_0)).trans hx280_0
           replace hx280_1 := (HB.out.cell (World.block_lt_of_cell? w _ hx280_1)).trans hx280_1
           replace hx280_2 := (HB.out.cell (World.block_lt_of_cell? w _ hx280_2)).trans hx280_2
           replace hx280_3 := (HB.out.cell (World.block_lt_of_cell? w _ hx280_3)).trans hx280_3
           replace p280 := eq_true p280
           replace q280 := eq_true q280
           have p284 : 0 ≤ (x6_2 : Int) := of_decide_eq_true (by first | (with_reducible assumption) | assumption)
           have q284 : x6_2 < (l0.length : Int) := of_decide_eq_true (by first | (with_reducible assumption) | assumption)
           obtain ⟨ad284, e284, hx284_0, hx284_1, hx284_2, hx284_3⟩ := at_T41 HR0.out x6_2 p284 q284
           have hw284_3 := hx284_3
           have hw284_2 := hx284_2
           have hw284_1 := hx284_1
           have hw284_0 := hx284_0
           obtain rfl : ad276 = ad284 := (by injection e284)
           replace hx284_0 := (HB.out.cell (World.block_lt_of_cell? w _ hx284_0)).trans hx284_0
           replace hx284_1 := (HB.out.cell (World.block_lt_of_cell? w _ hx284_1)).trans hx284_1
           replace hx284_2 := (HB.out.cell (World.block_lt_of_cell? w _ hx284_2)).trans hx284_2
           replace hx284_3 := (HB.out.cell (World.block_lt_of_cell? w _ hx284_3)).trans hx284_3
           replace p284 := eq_true p284
           replace q284 := eq_true q284
           have p285 : 0 ≤ (x6_2 : Int) := of_decide_eq_true (by first | (with_reducible assumption) | assumption)
           have q285 : x6_2 < (l0.length : Int) := of_decide_eq_true (by first | (with_reducible assumption) | assumption)
           obtain ⟨ad285, e285, hx285_0, hx285_1, hx285_2, hx285_3⟩ := at_T41 HR0.out x6_2 p285 q285
           have hw285_3 := hx285_3
           have hw285_2 := hx285_2
           have hw285_1 := hx285_1
           have hw285_0 := hx285_0
           obtain rfl : ad276 = ad285 := (by injection e285)
           replace hx285_0 := (HB.out.cell (World.block_lt_of_cell? w _ hx285_0)).trans hx285_0
           replace hx285_1 := (HB.out.cell (World.block_lt_of_cell? w _ hx285_1)).trans hx285_1
           replace hx285_2 := (HB.out.cell (World.block_lt_of_cell? w _ hx285_2)).trans hx285_2
           replace hx285_3 := (HB.out.cell (World.block_lt_of_cell? w _ hx285_3)).trans hx285_3
           replace p285 := eq_true p285
           replace q285 := eq_true q285
           refine start_ (n := 30) (S := fun w' => w'.cell? (ad276.add ((x6_2).toNat * 4)) = some (.int .i64 ((rd_T41 l0 x6_2).f0)) ∧ w'.cell? ⟨(ad276.add ((x6_2).toNat * 4)).block, (ad276.add ((x6_2).toNat * 4)).off + 1, none⟩ = some (.string ((rd_T41 l0 x6_2).f1)) ∧ w'.cell? ⟨(ad276.add ((x6_2).toNat * 4)).block, (ad276.add ((x6_2).toNat * 4)).off + 2, none⟩ = some (.int .i64 ((rd_T41 l0 x6_2).f2)) ∧ w'.cell? ⟨(ad276.add ((x6_2).toNat * 4)).block, (ad276.add ((x6_2).toNat * 4)).off + 3, none⟩ = some (.int .i64 ((rd_T41 l0 x6_2).f3)) ∧ w'.cell? (ad276.add ((x6_2).toNat * 4)) = some (.int .i64 ((rd_T41 l0 x6_2).f0)) ∧ w'.cell? ⟨(ad276.add ((x6_2).toNat * 4)).block, (ad276.add ((x6_2).toNat * 4)).off + 1, none⟩ = some (.string ((rd_T41 l0 x6_2).f1)) ∧ w'.cell? ⟨(ad276.add ((x6_2).toNat * 4)).block, (ad276.add ((x6_2).toNat * 4)).off + 2, none⟩ = some (.int .i64 ((rd_T41 l0 x6_2).f2)) ∧ w'.cell? ⟨(ad276.add ((x6_2).toNat * 4)).block, (ad276.add ((x6_2).toNat * 4)).off + 3, none⟩ = some (.int .i64 ((rd_T41 l0 x6_2).f3)) ∧ w'.cell? (ad276.add ((x6_2).toNat * 4)) = some (.int .i64 ((rd_T41 l0 x6_2).f0)) ∧ w'.cell? ⟨(ad276.add ((x6_2).toNat * 4)).block, (ad276.add ((x6_2).toNat * 4)).off + 1, none⟩ = some (.string ((rd_T41 l0 x6_2).f1)) ∧ w'.cell? ⟨(ad276.add ((x6_2).toNat * 4)).block, (ad276.add ((x6_2).toNat * 4)).off + 2, none⟩ = some (.int .i64 ((rd_T41 l0 x6_2).f2)) ∧ w'.cell? ⟨(ad276.add ((x6_2).toNat * 4)).block, (ad276.add ((x6_2).toNat * 4)).off + 3, none⟩ = some (.int .i64 ((rd_T41 l0 x6_2).f3)) ∧ w'.cell? (ad276.add ((x6_2).toNat * 4)) = some (.int .i64 ((rd_T41 l0 x6_2).f0)) ∧ w'.cell? ⟨(ad276.add ((x6_2).toNat * 4)).block, (ad276.add ((x6_2).toNat * 4)).off + 1, none⟩ = some (.string ((rd_T41 l0 x6_2).f1)) ∧ w'.cell? ⟨(ad276.add ((x6_2).toNat * 4)).block, (ad276.add ((x6_2).toNat * 4)).off + 2, none⟩ = some (.int .i64 ((rd_T41 l0 x6_2).f2)) ∧ w'.cell? ⟨(ad276.add ((x6_2).toNat * 4)).block, (ad276.add ((x6_2).toNat * 4)).off + 3, none⟩ = some (.int .i64 ((rd_T41 l0 x6_2).f3))) (ds := []) mk12_0 (by kernel_rfl) rfl rfl ⟨((HB.out.cell (World.block_lt_of_cell? w _ hw276_0)).trans hw276_0), ((HB.out.cell (World.block_lt_of_cell? w _ hw276_1)).trans hw276_1), ((HB.out.cell (World.block_lt_of_cell? w _ hw276_2)).trans hw276_2), ((HB.out.cell (World.block_lt_of_cell? w _ hw276_3)).trans hw276_3), ((HB.out.cell (World.block_lt_of_cell? w _ hw280_0)).trans hw280_0), ((HB.out.cell (World.block_lt_of_cell? w _ hw280_1)).trans hw280_1), ((HB.out.cell (World.block_lt_of_cell? w _ hw280_2)).trans hw280_2), ((HB.out.cell (World.block_lt_of_cell? w _ hw280_3)).trans hw280_3), ((HB.out.cell (World.block_lt_of_cell? w _ hw284_0)).trans hw284_0), ((HB.out.cell (World.block_lt_of_cell? w _ hw284_1)).trans hw284_1), ((HB.out.cell (World.block_lt_of_cell? w _ hw284_2)).trans hw284_2), ((HB.out.cell (World.block_lt_of_cell? w _ hw284_3)).trans hw284_3), ((HB.out.cell (World.block_lt_of_cell? w _ hw285_0)).trans hw285_0), ((HB.out.cell (World.block_lt_of_cell? w _ hw285_1)).trans hw285_1), ((HB.out.cell (World.block_lt_of_cell? w _ hw285_2)).trans hw285_2), ((HB.out.cell (World.block_lt_of_cell? w _ hw285_3)).trans hw285_3)⟩ (fun hHeld => ?_); refine with_tabW souterrainref11_Put.tab7 souterrainref11_Put.bits7 (fun HT_ HW_ => ?_)
           generalize wr.drew = w18 at HO_5 HB hx276_0 hx276_1 hx276_2 hx276_3 hx280_0 hx280_1 hx280_2 hx280_3 hx284_0 hx284_1 hx284_2 hx284_3 hx285_0 hx285_1 hx285_2 hx285_3 hHeld ⊢
           refine py12_ (a' := ?_) 0 26 ?_ mk12_1 HT_ rfl rfl (by kernel_rfl) (fun _ _ _ h => h) (Or.inl ⟨by rfl, ?_⟩) ?_ ?_; rotate_left; (focus intro w'; go_simp; with_reducible rfl); rotate_left; (focus simp only [Act.put, pS12]; rfl)
           refine py12_ (a' := ?_) 1 27 ?_ mk12_2 HT_ rfl rfl (by kernel_rfl) (fun _ _ _ h => h) (Or.inl ⟨by rfl, ?_⟩) ?_ ?_; rotate_left; (focus intro w'; go_simp; with_reducible rfl); rotate_left; (focus simp only [Act.put, pS12]; rfl)
           refine py12_ (a' := ?_) 2 28 ?_ mk12_3 HT_ rfl rfl (by kernel_rfl) (fun _ _ _ h => h) (Or.inl ⟨by rfl, ?_⟩) ?_ ?_; rotate_left; (focus intro w'; go_simp; with_reducible rfl); rotate_left; (focus simp only [Act.put, pS12]; rfl)
           refine py12_ (a' := ?_) 3 29 ?_ mk12_4 HT_ rfl rfl (by kernel_rfl) (fun _ _ _ h => h) (Or.inl ⟨by rfl, ?_⟩) ?_ ?_; rotate_left; (focus intro w'; go_simp; with_reducible rfl); rotate_left; (focus simp only [Act.put, pS12]; rfl)
           refine py12_ (a' := ?_) 7 33 ?_ mk12_5 HT_ rfl rfl (by kernel_rfl) (fun _ _ _ h => h) (Or.inl ⟨by rfl, ?_⟩) ?_ ?_; rotate_left; (focus intro w'; go_simp; with_reducible rfl); rotate_left; (focus simp only [Act.put, pS12]; rfl)
           refine py12_ (a' := ?_) 8 34 ?_ mk12_6 HT_ rfl rfl (by kernel_rfl) (fun _ _ _ h => h) (Or.inl ⟨by rfl, ?_⟩) ?_ ?_; rotate_left; (focus intro w'; go_simp; with_reducible rfl); rotate_left; (focus simp only [Act.put, pS12]; rfl)
           refine py12_ (a' := ?_) 9 35 ?_ mk12_7 HT_ rfl rfl (by kernel_rfl) (fun _ _ _ h => h) (Or.inl ⟨by rfl, ?_⟩) ?_ ?_; rotate_left; (focus intro w'; go_simp; with_reducible rfl); rotate_left; (focus simp only [Act.put, pS12]; rfl)
           refine py12_ (a' := ?_) 10 36 ?_ mk12_8 HT_ rfl rfl (by kernel_rfl) (fun _ _ _ h => h) (Or.inl ⟨by rfl, ?_⟩) ?_ ?_; rotate_left; (focus intro w'; go_simp; with_reducible rfl); rotate_left; (focus simp only [Act.put, pS12]; rfl)
           refine py12_ (a' := ?_) 13 39 ?_ mk12_9 HT_ rfl rfl (by kernel_rfl) (fun _ _ _ h => h) (Or.inl ⟨by rfl, ?_⟩) ?_ ?_; rotate_left; (focus intro w'; go_simp; with_reducible rfl); rotate_left; (focus simp only [Act.put, pS12]; rfl)
           refine py12_ (a' := ?_) 14 40 ?_ mk12_10 HT_ rfl rfl (by kernel_rfl) (fun _ _ _ h => h) (Or.inl ⟨by rfl, ?_⟩) ?_ ?_; rotate_left; (focus intro w'; go_simp; with_reducible rfl); rotate_left; (focus simp only [Act.put, pS12]; rfl)
           refine py12_ (a' := ?_) 15 41 ?_ mk12_11 HT_ rfl rfl (by kernel_rfl) (fun _ _ _ h => h) (Or.inl ⟨by rfl, ?_⟩) ?_ ?_; rotate_left; (focus intro w'; go_simp; with_reducible rfl); rotate_left; (focus simp only [Act.put, pS12]; rfl)
           refine py12_ (a' := ?_) 16 42 ?_ mk12_12 HT_ rfl rfl (by kernel_rfl) (fun _ _ _ h => h) (Or.inl ⟨by rfl, ?_⟩) ?_ ?_; rotate_left; (focus intro w'; go_simp; with_reducible rfl); rotate_left; (focus simp only [Act.put, pS12]; rfl)
           refine py12_ (a' := ?_) 20 46 ?_ mk12_13 HT_ rfl rfl (by kernel_rfl) (fun _ _ _ h => h) (Or.inl ⟨by rfl, ?_⟩) ?_ ?_; rotate_left; (focus intro w'; go_simp; with_reducible rfl); rotate_left; (focus simp only [Act.put, pS12]; rfl)
           refine py12_ (a' := ?_) 21 47 ?_ mk12_14 HT_ rfl rfl (by kernel_rfl) (fun _ _ _ h => h) (Or.inl ⟨by rfl, ?_⟩) ?_ ?_; rotate_left; (focus intro w'; go_simp; with_reducible rfl); rotate_left; (focus simp only [Act.put, pS12]; rfl)
           refine py12_ (a' := ?_) 22 48 ?_ mk12_15 HT_ rfl rfl (by kernel_rfl) (fun _ _ _ h => h) (Or.inl ⟨by rfl, ?_⟩) ?_ ?_; rotate_left; (focus intro w'; go_simp; with_reducible rfl); rotate_left; (focus simp only [Act.put, pS12]; rfl)
           refine py12_ (a' := ?_) 23 49 ?_ mk12_16 HT_ rfl rfl (by kernel_rfl) (fun _ _ _ h => h) (Or.inl ⟨by rfl, ?_⟩) ?_ ?_; rotate_left; (focus intro w'; go_simp; with_reducible rfl); rotate_left; (focus simp only [Act.put, pS12]; rfl)
           refine take_ (i := 4) (N := some 30) (v := ?_) (a' := ?_) mk12_17 rfl rfl (take_ofW HT_.out HW_.out (by kernel_rfl)) (fun _ _ _ h => h) (Or.inl ⟨by rfl, ?_⟩) hHeld ?_ ?_; rotate_left; (focus rintro w' ⟨s0, s1, s2, s3, s4, s5, s6, s7, s8, s9, s10, s11, s12, s13, s14, s15⟩; go_simp; with_reducible rfl); rotate_left; (focus simp only [Act.put, pS12]; rfl)
           refine py12_ (a' := ?_) 5 31 ?_ mk12_18 HT_ rfl rfl (by kernel_rfl) (fun _ _ _ h => h) (Or.inl ⟨by rfl, ?_⟩) ?_ ?_; rotate_left; (focus intro w'; go_simp; with_reducible rfl); rotate_left; (focus simp only [Act.put, pS12]; rfl)
           refine take_ (i := 11) (N := some 37) (v := ?_) (a' := ?_) mk12_19 rfl rfl (take_ofW HT_.out HW_.out (by kernel_rfl)) (fun _ _ _ h => h) (Or.inl ⟨by rfl, ?_⟩) hHeld ?_ ?_; rotate_left; (focus rintro w' ⟨s0, s1, s2, s3, s4, s5, s6, s7, s8, s9, s10, s11, s12, s13, s14, s15⟩; go_simp; with_reducible rfl); rotate_left; (focus simp only [Act.put, pS12]; rfl)
           refine take_ (i := 17) (N := some 43) (v := ?_) (a' := ?_) mk12_20 rfl rfl (take_ofW HT_.out HW_.out (by kernel_rfl)) (fun _ _ _ h => h) (Or.inl ⟨by rfl, ?_⟩) hHeld ?_ ?_; rotate_left; (focus rintro w' ⟨s0, s1, s2, s3, s4, s5, s6, s7, s8, s9, s10, s11, s12, s13, s14, s15⟩; go_simp; with_reducible rfl); rotate_left; (focus simp only [Act.put, pS12]; rfl)
           refine py12_ (a' := ?_) 18 44 ?_ mk12_21 HT_ rfl rfl (by kernel_rfl) (fun _ _ _ h => h) (Or.inl ⟨by rfl, ?_⟩) ?_ ?_; rotate_left; (focus intro w'; go_simp; with_reducible rfl); rotate_left; (focus simp only [Act.put, pS12]; rfl)
           refine py12_ (a' := ?_) 19 45 ?_ mk12_22 HT_ rfl rfl (by kernel_rfl) (fun _ _ _ h => h) (Or.inl ⟨by rfl, ?_⟩) ?_ ?_; rotate_left; (focus intro w'; go_simp; with_reducible rfl); rotate_left; (focus simp only [Act.put, pS12]; rfl)
           refine take_ (i := 24) (N := some 50) (v := ?_) (a' := ?_) mk12_23 rfl rfl (take_ofW HT_.out HW_.out (by kernel_rfl)) (fun _ _ _ h => h) (Or.inl ⟨by rfl, ?_⟩) hHeld ?_ ?_; rotate_left; (focus rintro w' ⟨s0, s1, s2, s3, s4, s5, s6, s7, s8, s9, s10, s11, s12, s13, s14, s15⟩; go_simp; with_reducible rfl); rotate_left; (focus simp only [Act.put, pS12]; rfl)
           refine py12_ (a' := ?_) 25 51 ?_ mk12_24 HT_ rfl rfl (by kernel_rfl) (fun _ _ _ h => h) (Or.inl ⟨by rfl, ?_⟩) ?_ ?_; rotate_left; (focus intro w'; go_simp; with_reducible rfl); rotate_left; (focus simp only [Act.put, pS12]; rfl)
           refine py12_ (a' := ?_) 26 52 ?_ mk12_25 HT_ rfl rfl (by kernel_rfl) (fun _ _ _ h => h) (Or.inl ⟨by rfl, ?_⟩) ?_ ?_; rotate_left; (focus intro w'; go_simp; with_reducible rfl); rotate_left; (focus simp only [Act.put, pS12]; rfl)
           refine join_ (σ := Value × Value × Value) 2 mk12_26 (fun s_ => [(32, s_.1), (38, s_.2.1), (53, s_.2.2)]) (fun s_ w' => (w'.cell? (ad276.add ((x6_2).toNat * 4)) = some (.int .i64 ((rd_T41 l0 x6_2).f0)) ∧ w'.cell? ⟨(ad276.add ((x6_2).toNat * 4)).block, (ad276.add ((x6_2).toNat * 4)).off + 1, none⟩ = some (.string ((rd_T41 l0 x6_2).f1)) ∧ w'.cell? ⟨(ad276.add ((x6_2).toNat * 4)).block, (ad276.add ((x6_2).toNat * 4)).off + 2, none⟩ = some (.int .i64 ((rd_T41 l0 x6_2).f2)) ∧ w'.cell? ⟨(ad276.add ((x6_2).toNat * 4)).block, (ad276.add ((x6_2).toNat * 4)).off + 3, none⟩ = some (.int .i64 ((rd_T41 l0 x6_2).f3)) ∧ w'.cell? (ad276.add ((x6_2).toNat * 4)) = some (.int .i64 ((rd_T41 l0 x6_2).f0)) ∧ w'.cell? ⟨(ad276.add ((x6_2).toNat * 4)).block, (ad276.add ((x6_2).toNat * 4)).off + 1, none⟩ = some (.string ((rd_T41 l0 x6_2).f1)) ∧ w'.cell? ⟨(ad276.add ((x6_2).toNat * 4)).block, (ad276.add ((x6_2).toNat * 4)).off + 2, none⟩ = some (.int .i64 ((rd_T41 l0 x6_2).f2)) ∧ w'.cell? ⟨(ad276.add ((x6_2).toNat * 4)).block, (ad276.add ((x6_2).toNat * 4)).off + 3, none⟩ = some (.int .i64 ((rd_T41 l0 x6_2).f3)) ∧ w'.cell? (ad276.add ((x6_2).toNat * 4)) = some (.int .i64 ((rd_T41 l0 x6_2).f0)) ∧ w'.cell? ⟨(ad276.add ((x6_2).toNat * 4)).block, (ad276.add ((x6_2).toNat * 4)).off + 1, none⟩ = some (.string ((rd_T41 l0 x6_2).f1)) ∧ w'.cell? ⟨(ad276.add ((x6_2).toNat * 4)).block, (ad276.add ((x6_2).toNat * 4)).off + 2, none⟩ = some (.int .i64 ((rd_T41 l0 x6_2).f2)) ∧ w'.cell? ⟨(ad276.add ((x6_2).toNat * 4)).block, (ad276.add ((x6_2).toNat * 4)).off + 3, none⟩ = some (.int .i64 ((rd_T41 l0 x6_2).f3)) ∧ w'.cell? (ad276.add ((x6_2).toNat * 4)) = some (.int .i64 ((rd_T41 l0 x6_2).f0)) ∧ w'.cell? ⟨(ad276.add ((x6_2).toNat * 4)).block, (ad276.add ((x6_2).toNat * 4)).off + 1, none⟩ = some (.string ((rd_T41 l0 x6_2).f1)) ∧ w'.cell? ⟨(ad276.add ((x6_2).toNat * 4)).block, (ad276.add ((x6_2).toNat * 4)).off + 2, none⟩ = some (.int .i64 ((rd_T41 l0 x6_2).f2)) ∧ w'.cell? ⟨(ad276.add ((x6_2).toNat * 4)).block, (ad276.add ((x6_2).toNat * 4)).off + 3, none⟩ = some (.int .i64 ((rd_T41 l0 x6_2).f3))) ∧ (Kd.R (Kd.int .u8) 5 w' w.heap.size (fun k_ => some k_ ≠ (s_.2.2 : Value).ownBlock ∧ some k_ ≠ (u5 : Value).ownBlock) s_.2.1 t281) ∧ (Kd.R (Kd.int .u8) 5 w' w.heap.size (fun k_ => some k_ ≠ (s_.2.1 : Value).ownBlock ∧ some k_ ≠ (u5 : Value).ownBlock) s_.2.2 y286) ∧ (Kd.R (Kd.int .u8) 5 w' w.heap.size (fun k_ => some k_ ≠ (s_.2.1 : Value).ownBlock ∧ some k_ ≠ (s_.2.2 : Value).ownBlock) u5 x5_2) ∧ (Below w.heap.size w w')) ?_ ?_
           rotate_left
           ·intro hCont
            refine two_ (i := 6) (j := 27) (Ni := some 32) (Nj := some 53) mk12_27 mk12_28 rfl rfl rfl rfl (two_of HT_.out (by kernel_rfl)) (by decide) (by decide) (fun K hK => ?_) (fun K hK => ?_)
            ·skip
             refine Kd.R_lit_step (Kd.int .u8) _ 5 ?hg (N := 32) ?hd (xs := ([((rd_T41 l0 x6_2).f0) % 256] : List Int)) (inner := [.int .u8 (((rd_T41 l0 x6_2).f0) % 256)]) (ok := fun _ => True) (okp := fun _ => True) ?hr ?hp (fun _ hk => hk) trivial (Below.refl _ _) (Nat.le_refl _) (by simp) ?_; (case hd => rfl); (case hg => rfl); (case hr => first | (go_simp; done) | (go_simp; rfl)); (case hp => exact (Reps.one (show Kd.M (Kd.int .u8) _ _ _ (((rd_T41 l0 x6_2).f0) % 256) [.int .u8 (((rd_T41 l0 x6_2).f0) % 256)] from rfl) (Reps.none _ _)))
             intro v278 w19 ho20 hb hg_ hnew_
             clear hg_ hnew_
             (first | rw [← Ny277.out] at ho20 | (simp only [Int.reduceToNat] at ho20; rw [← Ny277.out] at ho20))
             have n0_ := Aside0.mk (Kd.R_elder' (by (with_reducible repeat (first | apply Kd.R_alloc | apply Kd.R_drewN | apply Kd.R_drew)); exact HO_5.out) (Kd.R_base ho20) hb)
             have n1_ := Aside0.mk (Kd.R_lower (Kd.R_new' ho20 (Kd.R_lt (by (with_reducible repeat (first | apply Kd.R_alloc | apply Kd.R_drewN | apply Kd.R_drew)); exact HO_5.out))) (below_size (by repeat (first | (with_reducible first | exact HB.out | apply below_alloc | apply pw_below_drewN | apply below_drew1) | exact HB.out))))
             have n2_ := Aside0.mk (below_step (by repeat (first | (with_reducible first | exact HB.out | apply below_alloc | apply pw_below_drewN | apply below_drew1) | exact HB.out)) hb)
             clear HO_5
             clear HB
             have HO_5 := n0_
             have HO279 := n1_
             have HB := n2_
             clear n0_ n1_ n2_
             clear hb ho20
             obtain ⟨Ao21, co21, eo21⟩ := Kd.R_slice HO279.out
             (first | subst eo21 | (injection eo21 with f1_ f2_ f3_; have f4_ := f1_.symm; have f5_ := f3_.symm; clear f1_ f2_ f3_; subst f4_; subst f5_))
             refine hK.out _ _ ⟨((HB.out.cell (World.block_lt_of_cell? w _ hw276_0)).trans hw276_0), ((HB.out.cell (World.block_lt_of_cell? w _ hw276_1)).trans hw276_1), ((HB.out.cell (World.block_lt_of_cell? w _ hw276_2)).trans hw276_2), ((HB.out.cell (World.block_lt_of_cell? w _ hw276_3)).trans hw276_3), ((HB.out.cell (World.block_lt_of_cell? w _ hw280_0)).trans hw280_0), ((HB.out.cell (World.block_lt_of_cell? w _ hw280_1)).trans hw280_1), ((HB.out.cell (World.block_lt_of_cell? w _ hw280_2)).trans hw280_2), ((HB.out.cell (World.block_lt_of_cell? w _ hw280_3)).trans hw280_3), ((HB.out.cell (World.block_lt_of_cell? w _ hw284_0)).trans hw284_0), ((HB.out.cell (World.block_lt_of_cell? w _ hw284_1)).trans hw284_1), ((HB.out.cell (World.block_lt_of_cell? w _ hw284_2)).trans hw284_2), ((HB.out.cell (World.block_lt_of_cell? w _ hw284_3)).trans hw284_3), ((HB.out.cell (World.block_lt_of_cell? w _ hw285_0)).trans hw285_0), ((HB.out.cell (World.block_lt_of_cell? w _ hw285_1)).trans hw285_1), ((HB.out.cell (World.block_lt_of_cell? w _ hw285_2)).trans hw285_2), ((HB.out.cell (World.block_lt_of_cell? w _ hw285_3)).trans hw285_3)⟩ (fun hHeld => ?_)
             clear hK K
             refine norm_ (a' := ?_) ?_ ?_
             rotate_left
             ·show Act.put _ (some 32) _ = _
              simp only [Act.put, pS12]
              rfl
             refine two_ (i := 12) (j := 27) (Ni := some 38) (Nj := some 53) mk12_29 mk12_30 rfl rfl rfl rfl (two_of HT_.out (by kernel_rfl)) (by decide) (by decide) (fun K hK => ?_) (fun K hK => ?_)
             ·skip
              refine goes_ Try.func37 (by kernel_rfl) rfl #[.slice Ao21 y277.length co21, .int .i64 ((rd_T41 l0 x6_2).f2)] (by rfl) rfl rfl (by (try simp only [List.map_toArray, List.map_cons, List.map_nil]); first | done | rfl | (simp only [List.length_drop, List.length_take]; rfl)) ?_
              with_reducible refine (souterrainref11_four.calls (fun k_ => some k_ = (.slice Ao21 y277.length co21 : Value).ownBlock) (.slice Ao21 y277.length co21) y277 ((rd_T41 l0 x6_2).f2) t281 w _ ?side1 ?side2 A13.out).mono ?_
              (case side1 => repeat (first | (with_reducible first | exact HB.out | apply below_alloc | apply pw_below_drewN | apply below_drew1) | exact HB.out))
              (case side2 => exact Kd.R_tight rfl HO279.out)
              rintro e w22 ⟨v282, rfl, ho0, hb, hkp⟩
              refine ⟨_, rfl, ?_⟩
              have n0_ := Aside0.mk (Kd.R_mono (ok' := fun k_ => some k_ ≠ (v282 : Value).ownBlock) (Kd.R_keptB (HO_5.out) hkp (fun k_ hk_ hs_ => (hk_.2) hs_)) (fun k_ hk_ => fun e_ => Or.elim (ho0.1 k_ e_.symm) (fun hs_ => hk_.2.1 hs_) (fun hn_ => Nat.not_le.2 hk_.2.2 hn_)))
              have n1_ := Aside0.mk (Kd.R_mono (ok' := fun k_ => some k_ ≠ (u5 : Value).ownBlock) ho0 (fun k_ hk_ => Or.elim hk_ (fun hs_ => fun e_ => (((HO_5.out).1 k_ e_.symm).2) hs_) (fun hn_ => (Kd.fresh' (Kd.R_lt (by (with_reducible repeat (first | apply Kd.R_alloc | apply Kd.R_drewN | apply Kd.R_drew)); exact HO_5.out)) k_ hn_))))
              have n2_ := Aside0.mk (hb)
              clear HO_5
              clear HB
              clear HO279
              have HO_5 := n0_
              have HO283 := n1_
              have HB := n2_
              clear n0_ n1_ n2_
              (try clear hb)
              (try clear hkp)
              (try clear ho0)
              refine hK.out _ _ ⟨((HB.out.cell (World.block_lt_of_cell? w _ hw276_0)).trans hw276_0), ((HB.out.cell (World.block_lt_of_cell? w _ hw276_1)).trans hw276_1), ((HB.out.cell (World.block_lt_of_cell? w _ hw276_2)).trans hw276_2), ((HB.out.cell (World.block_lt_of_cell? w _ hw276_3)).trans hw276_3), ((HB.out.cell (World.block_lt_of_cell? w _ hw280_0)).trans hw280_0), ((HB.out.cell (World.block_lt_of_cell? w _ hw280_1)).trans hw280_1), ((HB.out.cell (World.block_lt_of_cell? w _ hw280_2)).trans hw280_2), ((HB.out.cell (World.block_lt_of_cell? w _ hw280_3)).trans hw280_3), ((HB.out.cell (World.block_lt_of_cell? w _ hw284_0)).trans hw284_0), ((HB.out.cell (World.block_lt_of_cell? w _ hw284_1)).trans hw284_1), ((HB.out.cell (World.block_lt_of_cell? w _ hw284_2)).trans hw284_2), ((HB.out.cell (World.block_lt_of_cell? w _ hw284_3)).trans hw284_3), ((HB.out.cell (World.block_lt_of_cell? w _ hw285_0)).trans hw285_0), ((HB.out.cell (World.block_lt_of_cell? w _ hw285_1)).trans hw285_1), ((HB.out.cell (World.block_lt_of_cell? w _ hw285_2)).trans hw285_2), ((HB.out.cell (World.block_lt_of_cell? w _ hw285_3)).trans hw285_3)⟩ (fun hHeld => ?_)
              clear hK K
              refine norm_ (a' := ?_) ?_ ?_
              rotate_left
              ·show Act.put _ (some 38) _ = _
               simp only [Act.put, pS12]
               rfl
              refine one_ (i := 27) (N := some 53) mk12_26 rfl rfl (one_of HT_.out (by kernel_rfl)) (by decide) (fun K hK => ?_)
              refine Kd.R_lit_step (Kd.int .u8) _ 5 ?hg (N := 53) ?hd (xs := ([(wrap64 (Int.tdiv ((rd_T41 l0 x6_2).f3) 256)) % 256, (Int.tmod ((rd_T41 l0 x6_2).f3) 256) % 256] : List Int)) (inner := [.int .u8 ((wrap64 (Int.tdiv ((rd_T41 l0 x6_2).f3) 256)) % 256), .int .u8 ((Int.tmod ((rd_T41 l0 x6_2).f3) 256) % 256)]) (ok := fun _ => True) (okp := fun _ => True) ?hr ?hp (fun _ hk => hk) trivial (Below.refl _ _) (Nat.le_refl _) (by simp) ?_; (case hd => rfl); (case hg => rfl); (case hr => first | (go_simp; done) | (go_simp; rfl)); (case hp => exact (Reps.one (show Kd.M (Kd.int .u8) _ _ _ ((wrap64 (Int.tdiv ((rd_T41 l0 x6_2).f3) 256)) % 256) [.int .u8 ((wrap64 (Int.tdiv ((rd_T41 l0 x6_2).f3) 256)) % 256)] from rfl) (Reps.one (show Kd.M (Kd.int .u8) _ _ _ ((Int.tmod ((rd_T41 l0 x6_2).f3) 256) % 256) [.int .u8 ((Int.tmod ((rd_T41 l0 x6_2).f3) 256) % 256)] from rfl) (Reps.none _ _))))
              intro v287 w23 ho24 hb hg_ hnew_
              clear hg_ hnew_
              (first | rw [← Ny286.out] at ho24 | (simp only [Int.reduceToNat] at ho24; rw [← Ny286.out] at ho24))
              have n0_ := Aside0.mk (Kd.R_elder' (by (with_reducible repeat (first | apply Kd.R_alloc | apply Kd.R_drewN | apply Kd.R_drew)); exact HO_5.out) (Kd.R_base ho24) hb)
              have n1_ := Aside0.mk (Kd.R_elder' (by (with_reducible repeat (first | apply Kd.R_alloc | apply Kd.R_drewN | apply Kd.R_drew)); exact HO283.out) (Kd.R_base ho24) hb)
              have n2_ := Aside0.mk (Kd.R_lower (Kd.R_new' (Kd.R_new' ho24 (Kd.R_lt (by (with_reducible repeat (first | apply Kd.R_alloc | apply Kd.R_drewN | apply Kd.R_drew)); exact HO_5.out))) (Kd.R_lt (by (with_reducible repeat (first | apply Kd.R_alloc | apply Kd.R_drewN | apply Kd.R_drew)); exact HO283.out))) (below_size (by repeat (first | (with_reducible first | exact HB.out | apply below_alloc | apply pw_below_drewN | apply below_drew1) | exact HB.out))))
              have n3_ := Aside0.mk (below_step (by repeat (first | (with_reducible first | exact HB.out | apply below_alloc | apply pw_below_drewN | apply below_drew1) | exact HB.out)) hb)
              clear HO_5
              clear HO283
              clear HB
              have HO_5 := n0_
              have HO283 := n1_
              have HO288 := n2_
              have HB := n3_
              clear n0_ n1_ n2_ n3_
              clear hb ho24
              refine hK.out _ _ ⟨((HB.out.cell (World.block_lt_of_cell? w _ hw276_0)).trans hw276_0), ((HB.out.cell (World.block_lt_of_cell? w _ hw276_1)).trans hw276_1), ((HB.out.cell (World.block_lt_of_cell? w _ hw276_2)).trans hw276_2), ((HB.out.cell (World.block_lt_of_cell? w _ hw276_3)).trans hw276_3), ((HB.out.cell (World.block_lt_of_cell? w _ hw280_0)).trans hw280_0), ((HB.out.cell (World.block_lt_of_cell? w _ hw280_1)).trans hw280_1), ((HB.out.cell (World.block_lt_of_cell? w _ hw280_2)).trans hw280_2), ((HB.out.cell (World.block_lt_of_cell? w _ hw280_3)).trans hw280_3), ((HB.out.cell (World.block_lt_of_cell? w _ hw284_0)).trans hw284_0), ((HB.out.cell (World.block_lt_of_cell? w _ hw284_1)).trans hw284_1), ((HB.out.cell (World.block_lt_of_cell? w _ hw284_2)).trans hw284_2), ((HB.out.cell (World.block_lt_of_cell? w _ hw284_3)).trans hw284_3), ((HB.out.cell (World.block_lt_of_cell? w _ hw285_0)).trans hw285_0), ((HB.out.cell (World.block_lt_of_cell? w _ hw285_1)).trans hw285_1), ((HB.out.cell (World.block_lt_of_cell? w _ hw285_2)).trans hw285_2), ((HB.out.cell (World.block_lt_of_cell? w _ hw285_3)).trans hw285_3)⟩ (fun hHeld => ?_)
              clear hK K
              refine norm_ (a' := ?_) ?_ ?_
              rotate_left
              ·show Act.put _ (some 53) _ = _
               simp only [Act.put, pS12]
               rfl
              exact norm_ (by simp only [putAll, Act.put, List.setIfInBounds_toArray, List.set_cons_zero, List.set_cons_succ]) (hCont (.slice Ao21 y277.length co21, v282, v287) _ ⟨hHeld, (by (with_reducible repeat (first | apply Kd.R_alloc | apply Kd.R_drewN | apply Kd.R_drew)); exact Kd.R_mono HO283.out (fun _ hk => ⟨hk.2, hk.1⟩)), (by (with_reducible repeat (first | apply Kd.R_alloc | apply Kd.R_drewN | apply Kd.R_drew)); exact Kd.R_mono HO288.out (fun _ hk => ⟨hk.2, hk.1.2⟩)), (by (with_reducible repeat (first | apply Kd.R_alloc | apply Kd.R_drewN | apply Kd.R_drew)); exact HO_5.out), (by repeat (first | (with_reducible first | exact HB.out | apply below_alloc | apply pw_below_drewN | apply below_drew1) | exact HB.out))⟩)
             ·skip
              refine Kd.R_lit_step (Kd.int .u8) _ 5 ?hg (N := 53) ?hd (xs := ([(wrap64 (Int.tdiv ((rd_T41 l0 x6_2).f3) 256)) % 256, (Int.tmod ((rd_T41 l0 x6_2).f3) 256) % 256] : List Int)) (inner := [.int .u8 ((wrap64 (Int.tdiv ((rd_T41 l0 x6_2).f3) 256)) % 256), .int .u8 ((Int.tmod ((rd_T41 l0 x6_2).f3) 256) % 256)]) (ok := fun _ => True) (okp := fun _ => True) ?hr ?hp (fun _ hk => hk) trivial (Below.refl _ _) (Nat.le_refl _) (by simp) ?_; (case hd => rfl); (case hg => rfl); (case hr => first | (go_simp; done) | (go_simp; rfl)); (case hp => exact (Reps.one (show Kd.M (Kd.int .u8) _ _ _ ((wrap64 (Int.tdiv ((rd_T41 l0 x6_2).f3) 256)) % 256) [.int .u8 ((wrap64 (Int.tdiv ((rd_T41 l0 x6_2).f3) 256)) % 256)] from rfl) (Reps.one (show Kd.M (Kd.int .u8) _ _ _ ((Int.tmod ((rd_T41 l0 x6_2).f3) 256) % 256) [.int .u8 ((Int.tmod ((rd_T41 l0 x6_2).f3) 256) % 256)] from rfl) (Reps.none _ _))))
              intro v287 w21 ho22 hb hg_ hnew_
              clear hg_ hnew_
              (first | rw [← Ny286.out] at ho22 | (simp only [Int.reduceToNat] at ho22; rw [← Ny286.out] at ho22))
              have n0_ := Aside0.mk (Kd.R_elder' (by (with_reducible repeat (first | apply Kd.R_alloc | apply Kd.R_drewN | apply Kd.R_drew)); exact HO_5.out) (Kd.R_base ho22) hb)
              have n1_ := Aside0.mk (Kd.R_elder' (by (with_reducible repeat (first | apply Kd.R_alloc | apply Kd.R_drewN | apply Kd.R_drew)); exact HO279.out) (Kd.R_base ho22) hb)
              have n2_ := Aside0.mk (Kd.R_lower (Kd.R_new' (Kd.R_new' ho22 (Kd.R_lt (by (with_reducible repeat (first | apply Kd.R_alloc | apply Kd.R_drewN | apply Kd.R_drew)); exact HO_5.out))) (Kd.R_lt (by (with_reducible repeat (first | apply Kd.R_alloc | apply Kd.R_drewN | apply Kd.R_drew)); exact HO279.out))) (below_size (by repeat (first | (with_reducible first | exact HB.out | apply below_alloc | apply pw_below_drewN | apply below_drew1) | exact HB.out))))
              have n3_ := Aside0.mk (below_step (by repeat (first | (with_reducible first | exact HB.out | apply below_alloc | apply pw_below_drewN | apply below_drew1) | exact HB.out)) hb)
              clear HO_5
              clear HO279
              clear HB
              have HO_5 := n0_
              have HO279 := n1_
              have HO288 := n2_
              have HB := n3_
              clear n0_ n1_ n2_ n3_
              clear hb ho22
              obtain ⟨Ao23, co23, eo23⟩ := Kd.R_slice HO279.out
              (first | subst eo23 | (injection eo23 with f1_ f2_ f3_; have f4_ := f1_.symm; have f5_ := f3_.symm; clear f1_ f2_ f3_; subst f4_; subst f5_))
              refine hK.out _ _ ⟨((HB.out.cell (World.block_lt_of_cell? w _ hw276_0)).trans hw276_0), ((HB.out.cell (World.block_lt_of_cell? w _ hw276_1)).trans hw276_1), ((HB.out.cell (World.block_lt_of_cell? w _ hw276_2)).trans hw276_2), ((HB.out.cell (World.block_lt_of_cell? w _ hw276_3)).trans hw276_3), ((HB.out.cell (World.block_lt_of_cell? w _ hw280_0)).trans hw280_0), ((HB.out.cell (World.block_lt_of_cell? w _ hw280_1)).trans hw280_1), ((HB.out.cell (World.block_lt_of_cell? w _ hw280_2)).trans hw280_2), ((HB.out.cell (World.block_lt_of_cell? w _ hw280_3)).trans hw280_3), ((HB.out.cell (World.block_lt_of_cell? w _ hw284_0)).trans hw284_0), ((HB.out.cell (World.block_lt_of_cell? w _ hw284_1)).trans hw284_1), ((HB.out.cell (World.block_lt_of_cell? w _ hw284_2)).trans hw284_2), ((HB.out.cell (World.block_lt_of_cell? w _ hw284_3)).trans hw284_3), ((HB.out.cell (World.block_lt_of_cell? w _ hw285_0)).trans hw285_0), ((HB.out.cell (World.block_lt_of_cell? w _ hw285_1)).trans hw285_1), ((HB.out.cell (World.block_lt_of_cell? w _ hw285_2)).trans hw285_2), ((HB.out.cell (World.block_lt_of_cell? w _ hw285_3)).trans hw285_3)⟩ (fun hHeld => ?_)
              clear hK K
              refine norm_ (a' := ?_) ?_ ?_
              rotate_left
              ·show Act.put _ (some 53) _ = _
               simp only [Act.put, pS12]
               rfl
              refine one_ (i := 12) (N := some 38) mk12_26 rfl rfl (one_of HT_.out (by kernel_rfl)) (by decide) (fun K hK => ?_)
              refine goes_ Try.func37 (by kernel_rfl) rfl #[.slice Ao23 y277.length co23, .int .i64 ((rd_T41 l0 x6_2).f2)] (by rfl) rfl rfl (by (try simp only [List.map_toArray, List.map_cons, List.map_nil]); first | done | rfl | (simp only [List.length_drop, List.length_take]; rfl)) ?_
              with_reducible refine (souterrainref11_four.calls (fun k_ => some k_ = (.slice Ao23 y277.length co23 : Value).ownBlock) (.slice Ao23 y277.length co23) y277 ((rd_T41 l0 x6_2).f2) t281 w _ ?side1 ?side2 A13.out).mono ?_
              (case side1 => repeat (first | (with_reducible first | exact HB.out | apply below_alloc | apply pw_below_drewN | apply below_drew1) | exact HB.out))
              (case side2 => exact Kd.R_tight rfl HO279.out)
              rintro e w24 ⟨v282, rfl, ho0, hb, hkp⟩
              refine ⟨_, rfl, ?_⟩
              have n0_ := Aside0.mk (Kd.R_mono (ok' := fun k_ => some k_ ≠ (v287 : Value).ownBlock ∧ some k_ ≠ (v282 : Value).ownBlock) (Kd.R_keptB (HO_5.out) hkp (fun k_ hk_ hs_ => (hk_.1.2) hs_)) (fun k_ hk_ => ⟨hk_.1.2, fun e_ => Or.elim (ho0.1 k_ e_.symm) (fun hs_ => hk_.2.1 hs_) (fun hn_ => Nat.not_le.2 hk_.2.2 hn_)⟩))
              have n1_ := Aside0.mk (Kd.R_mono (ok' := fun k_ => some k_ ≠ (u5 : Value).ownBlock ∧ some k_ ≠ (v282 : Value).ownBlock) (Kd.R_keptB (HO288.out) hkp (fun k_ hk_ hs_ => (hk_.2) hs_)) (fun k_ hk_ => ⟨hk_.1.1.2, fun e_ => Or.elim (ho0.1 k_ e_.symm) (fun hs_ => hk_.2.1 hs_) (fun hn_ => Nat.not_le.2 hk_.2.2 hn_)⟩))
              have n2_ := Aside0.mk (Kd.R_mono (ok' := fun k_ => some k_ ≠ (u5 : Value).ownBlock ∧ some k_ ≠ (v287 : Value).ownBlock) ho0 (fun k_ hk_ => ⟨Or.elim hk_ (fun hs_ => fun e_ => (((HO_5.out).1 k_ e_.symm).1.2) hs_) (fun hn_ => (Kd.fresh' (Kd.R_lt (by (with_reducible repeat (first | apply Kd.R_alloc | apply Kd.R_drewN | apply Kd.R_drew)); exact HO_5.out)) k_ hn_)), Or.elim hk_ (fun hs_ => fun e_ => (((HO288.out).1 k_ e_.symm).2) hs_) (fun hn_ => (Kd.fresh' (Kd.R_lt (by (with_reducible repeat (first | apply Kd.R_alloc | apply Kd.R_drewN | apply Kd.R_drew)); exact HO288.out)) k_ hn_))⟩))
              have n3_ := Aside0.mk (hb)
              clear HO_5
              clear HO288
              clear HB
              clear HO279
              have HO_5 := n0_
              have HO288 := n1_
              have HO283 := n2_
              have HB := n3_
              clear n0_ n1_ n2_ n3_
              (try clear hb)
              (try clear hkp)
              (try clear ho0)
              refine hK.out _ _ ⟨((HB.out.cell (World.block_lt_of_cell? w _ hw276_0)).trans hw276_0), ((HB.out.cell (World.block_lt_of_cell? w _ hw276_1)).trans hw276_1), ((HB.out.cell (World.block_lt_of_cell? w _ hw276_2)).trans hw276_2), ((HB.out.cell (World.block_lt_of_cell? w _ hw276_3)).trans hw276_3), ((HB.out.cell (World.block_lt_of_cell? w _ hw280_0)).trans hw280_0), ((HB.out.cell (World.block_lt_of_cell? w _ hw280_1)).trans hw280_1), ((HB.out.cell (World.block_lt_of_cell? w _ hw280_2)).trans hw280_2), ((HB.out.cell (World.block_lt_of_cell? w _ hw280_3)).trans hw280_3), ((HB.out.cell (World.block_lt_of_cell? w _ hw284_0)).trans hw284_0), ((HB.out.cell (World.block_lt_of_cell? w _ hw284_1)).trans hw284_1), ((HB.out.cell (World.block_lt_of_cell? w _ hw284_2)).trans hw284_2), ((HB.out.cell (World.block_lt_of_cell? w _ hw284_3)).trans hw284_3), ((HB.out.cell (World.block_lt_of_cell? w _ hw285_0)).trans hw285_0), ((HB.out.cell (World.block_lt_of_cell? w _ hw285_1)).trans hw285_1), ((HB.out.cell (World.block_lt_of_cell? w _ hw285_2)).trans hw285_2), ((HB.out.cell (World.block_lt_of_cell? w _ hw285_3)).trans hw285_3)⟩ (fun hHeld => ?_)
              clear hK K
              refine norm_ (a' := ?_) ?_ ?_
              rotate_left
              ·show Act.put _ (some 38) _ = _
               simp only [Act.put, pS12]
               rfl
              exact norm_ (by simp only [putAll, Act.put, List.setIfInBounds_toArray, List.set_cons_zero, List.set_cons_succ]) (hCont (.slice Ao23 y277.length co23, v282, v287) _ ⟨hHeld, (by (with_reducible repeat (first | apply Kd.R_alloc | apply Kd.R_drewN | apply Kd.R_drew)); exact Kd.R_mono HO283.out (fun _ hk => ⟨hk.2, hk.1⟩)), (by (with_reducible repeat (first | apply Kd.R_alloc | apply Kd.R_drewN | apply Kd.R_drew)); exact Kd.R_mono HO288.out (fun _ hk => ⟨hk.2, hk.1⟩)), (by (with_reducible repeat (first | apply Kd.R_alloc | apply Kd.R_drewN | apply Kd.R_drew)); exact Kd.R_mono HO_5.out (fun _ hk => ⟨hk.2, hk.1⟩)), (by repeat (first | (with_reducible first | exact HB.out | apply below_alloc | apply pw_below_drewN | apply below_drew1) | exact HB.out))⟩)
            ·skip
             refine Kd.R_lit_step (Kd.int .u8) _ 5 ?hg (N := 53) ?hd (xs := ([(wrap64 (Int.tdiv ((rd_T41 l0 x6_2).f3) 256)) % 256, (Int.tmod ((rd_T41 l0 x6_2).f3) 256) % 256] : List Int)) (inner := [.int .u8 ((wrap64 (Int.tdiv ((rd_T41 l0 x6_2).f3) 256)) % 256), .int .u8 ((Int.tmod ((rd_T41 l0 x6_2).f3) 256) % 256)]) (ok := fun _ => True) (okp := fun _ => True) ?hr ?hp (fun _ hk => hk) trivial (Below.refl _ _) (Nat.le_refl _) (by simp) ?_; (case hd => rfl); (case hg => rfl); (case hr => first | (go_simp; done) | (go_simp; rfl)); (case hp => exact (Reps.one (show Kd.M (Kd.int .u8) _ _ _ ((wrap64 (Int.tdiv ((rd_T41 l0 x6_2).f3) 256)) % 256) [.int .u8 ((wrap64 (Int.tdiv ((rd_T41 l0 x6_2).f3) 256)) % 256)] from rfl) (Reps.one (show Kd.M (Kd.int .u8) _ _ _ ((Int.tmod ((rd_T41 l0 x6_2).f3) 256) % 256) [.int .u8 ((Int.tmod ((rd_T41 l0 x6_2).f3) 256) % 256)] from rfl) (Reps.none _ _))))
             intro v287 w19 ho20 hb hg_ hnew_
             clear hg_ hnew_
             (first | rw [← Ny286.out] at ho20 | (simp only [Int.reduceToNat] at ho20; rw [← Ny286.out] at ho20))
             have n0_ := Aside0.mk (Kd.R_elder' (by (with_reducible repeat (first | apply Kd.R_alloc | apply Kd.R_drewN | apply Kd.R_drew)); exact HO_5.out) (Kd.R_base ho20) hb)
             have n1_ := Aside0.mk (Kd.R_lower (Kd.R_new' ho20 (Kd.R_lt (by (with_reducible repeat (first | apply Kd.R_alloc | apply Kd.R_drewN | apply Kd.R_drew)); exact HO_5.out))) (below_size (by repeat (first | (with_reducible first | exact HB.out | apply below_alloc | apply pw_below_drewN | apply below_drew1) | exact HB.out))))
             have n2_ := Aside0.mk (below_step (by repeat (first | (with_reducible first | exact HB.out | apply below_alloc | apply pw_below_drewN | apply below_drew1) | exact HB.out)) hb)
             clear HO_5
             clear HB
             have HO_5 := n0_
             have HO288 := n1_
             have HB := n2_
             clear n0_ n1_ n2_
             clear hb ho20
             refine hK.out _ _ ⟨((HB.out.cell (World.block_lt_of_cell? w _ hw276_0)).trans hw276_0), ((HB.out.cell (World.block_lt_of_cell? w _ hw276_1)).trans hw276_1), ((HB.out.cell (World.block_lt_of_cell? w _ hw276_2)).trans hw276_2), ((HB.out.cell (World.block_lt_of_cell? w _ hw276_3)).trans hw276_3), ((HB.out.cell (World.block_lt_of_cell? w _ hw280_0)).trans hw280_0), ((HB.out.cell (World.block_lt_of_cell? w _ hw280_1)).trans hw280_1), ((HB.out.cell (World.block_lt_of_cell? w _ hw280_2)).trans hw280_2), ((HB.out.cell (World.block_lt_of_cell? w _ hw280_3)).trans hw280_3), ((HB.out.cell (World.block_lt_of_cell? w _ hw284_0)).trans hw284_0), ((HB.out.cell (World.block_lt_of_cell? w _ hw284_1)).trans hw284_1), ((HB.out.cell (World.block_lt_of_cell? w _ hw284_2)).trans hw284_2), ((HB.out.cell (World.block_lt_of_cell? w _ hw284_3)).trans hw284_3), ((HB.out.cell (World.block_lt_of_cell? w _ hw285_0)).trans hw285_0), ((HB.out.cell (World.block_lt_of_cell? w _ hw285_1)).trans hw285_1), ((HB.out.cell (World.block_lt_of_cell? w _ hw285_2)).trans hw285_2), ((HB.out.cell (World.block_lt_of_cell? w _ hw285_3)).trans hw285_3)⟩ (fun hHeld => ?_)
             clear hK K
             refine norm_ (a' := ?_) ?_ ?_
             rotate_left
             ·show Act.put _ (some 53) _ = _
              simp only [Act.put, pS12]
              rfl
             refine one_ (i := 6) (N := some 32) mk12_30 rfl rfl (one_of HT_.out (by kernel_rfl)) (by decide) (fun K hK => ?_)
             refine Kd.R_lit_step (Kd.int .u8) _ 5 ?hg (N := 32) ?hd (xs := ([((rd_T41 l0 x6_2).f0) % 256] : List Int)) (inner := [.int .u8 (((rd_T41 l0 x6_2).f0) % 256)]) (ok := fun _ => True) (okp := fun _ => True) ?hr ?hp (fun _ hk => hk) trivial (Below.refl _ _) (Nat.le_refl _) (by simp) ?_; (case hd => rfl); (case hg => rfl); (case hr => first | (go_simp; done) | (go_simp; rfl)); (case hp => exact (Reps.one (show Kd.M (Kd.int .u8) _ _ _ (((rd_T41 l0 x6_2).f0) % 256) [.int .u8 (((rd_T41 l0 x6_2).f0) % 256)] from rfl) (Reps.none _ _)))
             intro v278 w21 ho22 hb hg_ hnew_
             clear hg_ hnew_
             (first | rw [← Ny277.out] at ho22 | (simp only [Int.reduceToNat] at ho22; rw [← Ny277.out] at ho22))
             have n0_ := Aside0.mk (Kd.R_elder' (by (with_reducible repeat (first | apply Kd.R_alloc | apply Kd.R_drewN | apply Kd.R_drew)); exact HO_5.out) (Kd.R_base ho22) hb)
             have n1_ := Aside0.mk (Kd.R_elder' (by (with_reducible repeat (first | apply Kd.R_alloc | apply Kd.R_drewN | apply Kd.R_drew)); exact HO288.out) (Kd.R_base ho22) hb)
             have n2_ := Aside0.mk (Kd.R_lower (Kd.R_new' (Kd.R_new' ho22 (Kd.R_lt (by (with_reducible repeat (first | apply Kd.R_alloc | apply Kd.R_drewN | apply Kd.R_drew)); exact HO_5.out))) (Kd.R_lt (by (with_reducible repeat (first | apply Kd.R_alloc | apply Kd.R_drewN | apply Kd.R_drew)); exact HO288.out))) (below_size (by repeat (first | (with_reducible first | exact HB.out | apply below_alloc | apply pw_below_drewN | apply below_drew1) | exact HB.out))))
             have n3_ := Aside0.mk (below_step (by repeat (first | (with_reducible first | exact HB.out | apply below_alloc | apply pw_below_drewN | apply below_drew1) | exact HB.out)) hb)
             clear HO_5
             clear HO288
             clear HB
             have HO_5 := n0_
             have HO288 := n1_
             have HO279 := n2_
             have HB := n3_
             clear n0_ n1_ n2_ n3_
             clear hb ho22
             obtain ⟨Ao23, co23, eo23⟩ := Kd.R_slice HO279.out
             (first | subst eo23 | (injection eo23 with f1_ f2_ f3_; have f4_ := f1_.symm; have f5_ := f3_.symm; clear f1_ f2_ f3_; subst f4_; subst f5_))
             refine hK.out _ _ ⟨((HB.out.cell (World.block_lt_of_cell? w _ hw276_0)).trans hw276_0), ((HB.out.cell (World.block_lt_of_cell? w _ hw276_1)).trans hw276_1), ((HB.out.cell (World.block_lt_of_cell? w _ hw276_2)).trans hw276_2), ((HB.out.cell (World.block_lt_of_cell? w _ hw276_3)).trans hw276_3), ((HB.out.cell (World.block_lt_of_cell? w _ hw280_0)).trans hw280_0), ((HB.out.cell (World.block_lt_of_cell? w _ hw280_1)).trans hw280_1), ((HB.out.cell (World.block_lt_of_cell? w _ hw280_2)).trans hw280_2), ((HB.out.cell (World.block_lt_of_cell? w _ hw280_3)).trans hw280_3), ((HB.out.cell (World.block_lt_of_cell? w _ hw284_0)).trans hw284_0), ((HB.out.cell (World.block_lt_of_cell? w _ hw284_1)).trans hw284_1), ((HB.out.cell (World.block_lt_of_cell? w _ hw284_2)).trans hw284_2), ((HB.out.cell (World.block_lt_of_cell? w _ hw284_3)).trans hw284_3), ((HB.out.cell (World.block_lt_of_cell? w _ hw285_0)).trans hw285_0), ((HB.out.cell (World.block_lt_of_cell? w _ hw285_1)).trans hw285_1), ((HB.out.cell (World.block_lt_of_cell? w _ hw285_2)).trans hw285_2), ((HB.out.cell (World.block_lt_of_cell? w _ hw285_3)).trans hw285_3)⟩ (fun hHeld => ?_)
             clear hK K
             refine norm_ (a' := ?_) ?_ ?_
             rotate_left
             ·show Act.put _ (some 32) _ = _
              simp only [Act.put, pS12]
              rfl
             refine one_ (i := 12) (N := some 38) mk12_26 rfl rfl (one_of HT_.out (by kernel_rfl)) (by decide) (fun K hK => ?_)
             refine goes_ Try.func37 (by kernel_rfl) rfl #[.slice Ao23 y277.length co23, .int .i64 ((rd_T41 l0 x6_2).f2)] (by rfl) rfl rfl (by (try simp only [List.map_toArray, List.map_cons, List.map_nil]); first | done | rfl | (simp only [List.length_drop, List.length_take]; rfl)) ?_
             with_reducible refine (souterrainref11_four.calls (fun k_ => some k_ = (.slice Ao23 y277.length co23 : Value).ownBlock) (.slice Ao23 y277.length co23) y277 ((rd_T41 l0 x6_2).f2) t281 w _ ?side1 ?side2 A13.out).mono ?_
             (case side1 => repeat (first | (with_reducible first | exact HB.out | apply below_alloc | apply pw_below_drewN | apply below_drew1) | exact HB.out))
             (case side2 => exact Kd.R_tight rfl HO279.out)
             rintro e w24 ⟨v282, rfl, ho0, hb, hkp⟩
             refine ⟨_, rfl, ?_⟩
             have n0_ := Aside0.mk (Kd.R_mono (ok' := fun k_ => some k_ ≠ (v287 : Value).ownBlock ∧ some k_ ≠ (v282 : Value).ownBlock) (Kd.R_keptB (HO_5.out) hkp (fun k_ hk_ hs_ => (hk_.2) hs_)) (fun k_ hk_ => ⟨hk_.1.1.2, fun e_ => Or.elim (ho0.1 k_ e_.symm) (fun hs_ => hk_.2.1 hs_) (fun hn_ => Nat.not_le.2 hk_.2.2 hn_)⟩))
             have n1_ := Aside0.mk (Kd.R_mono (ok' := fun k_ => some k_ ≠ (u5 : Value).ownBlock ∧ some k_ ≠ (v282 : Value).ownBlock) (Kd.R_keptB (HO288.out) hkp (fun k_ hk_ hs_ => (hk_.2) hs_)) (fun k_ hk_ => ⟨hk_.1.1.2, fun e_ => Or.elim (ho0.1 k_ e_.symm) (fun hs_ => hk_.2.1 hs_) (fun hn_ => Nat.not_le.2 hk_.2.2 hn_)⟩))
             have n2_ := Aside0.mk (Kd.R_mono (ok' := fun k_ => some k_ ≠ (u5 : Value).ownBlock ∧ some k_ ≠ (v287 : Value).ownBlock) ho0 (fun k_ hk_ => ⟨Or.elim hk_ (fun hs_ => fun e_ => (((HO_5.out).1 k_ e_.symm).2) hs_) (fun hn_ => (Kd.fresh' (Kd.R_lt (by (with_reducible repeat (first | apply Kd.R_alloc | apply Kd.R_drewN | apply Kd.R_drew)); exact HO_5.out)) k_ hn_)), Or.elim hk_ (fun hs_ => fun e_ => (((HO288.out).1 k_ e_.symm).2) hs_) (fun hn_ => (Kd.fresh' (Kd.R_lt (by (with_reducible repeat (first | apply Kd.R_alloc | apply Kd.R_drewN | apply Kd.R_drew)); exact HO288.out)) k_ hn_))⟩))
             have n3_ := Aside0.mk (hb)
             clear HO_5
             clear HO288
             clear HB
             clear HO279
             have HO_5 := n0_
             have HO288 := n1_
             have HO283 := n2_
             have HB := n3_
             clear n0_ n1_ n2_ n3_
             (try clear hb)
             (try clear hkp)
             (try clear ho0)
             refine hK.out _ _ ⟨((HB.out.cell (World.block_lt_of_cell? w _ hw276_0)).trans hw276_0), ((HB.out.cell (World.block_lt_of_cell? w _ hw276_1)).trans hw276_1), ((HB.out.cell (World.block_lt_of_cell? w _ hw276_2)).trans hw276_2), ((HB.out.cell (World.block_lt_of_cell? w _ hw276_3)).trans hw276_3), ((HB.out.cell (World.block_lt_of_cell? w _ hw280_0)).trans hw280_0), ((HB.out.cell (World.block_lt_of_cell? w _ hw280_1)).trans hw280_1), ((HB.out.cell (World.block_lt_of_cell? w _ hw280_2)).trans hw280_2), ((HB.out.cell (World.block_lt_of_cell? w _ hw280_3)).trans hw280_3), ((HB.out.cell (World.block_lt_of_cell? w _ hw284_0)).trans hw284_0), ((HB.out.cell (World.block_lt_of_cell? w _ hw284_1)).trans hw284_1), ((HB.out.cell (World.block_lt_of_cell? w _ hw284_2)).trans hw284_2), ((HB.out.cell (World.block_lt_of_cell? w _ hw284_3)).trans hw284_3), ((HB.out.cell (World.block_lt_of_cell? w _ hw285_0)).trans hw285_0), ((HB.out.cell (World.block_lt_of_cell? w _ hw285_1)).trans hw285_1), ((HB.out.cell (World.block_lt_of_cell? w _ hw285_2)).trans hw285_2), ((HB.out.cell (World.block_lt_of_cell? w _ hw285_3)).trans hw285_3)⟩ (fun hHeld => ?_)
             clear hK K
             refine norm_ (a' := ?_) ?_ ?_
             rotate_left
             ·show Act.put _ (some 38) _ = _
              simp only [Act.put, pS12]
              rfl
             exact norm_ (by simp only [putAll, Act.put, List.setIfInBounds_toArray, List.set_cons_zero, List.set_cons_succ]) (hCont (.slice Ao23 y277.length co23, v282, v287) _ ⟨hHeld, (by (with_reducible repeat (first | apply Kd.R_alloc | apply Kd.R_drewN | apply Kd.R_drew)); exact Kd.R_mono HO283.out (fun _ hk => ⟨hk.2, hk.1⟩)), (by (with_reducible repeat (first | apply Kd.R_alloc | apply Kd.R_drewN | apply Kd.R_drew)); exact Kd.R_mono HO288.out (fun _ hk => ⟨hk.2, hk.1⟩)), (by (with_reducible repeat (first | apply Kd.R_alloc | apply Kd.R_drewN | apply Kd.R_drew)); exact Kd.R_mono HO_5.out (fun _ hk => ⟨hk.2, hk.1⟩)), (by repeat (first | (with_reducible first | exact HB.out | apply below_alloc | apply pw_below_drewN | apply below_drew1) | exact HB.out))⟩)
           rintro ⟨v278, v282, v287⟩ w25 ⟨hS_, h0_, h1_, h2_, h3_⟩
           have n0_ : Aside0 (Kd.R (Kd.int .u8) 5 w25 w.heap.size (fun k_ => some k_ ≠ (v287 : Value).ownBlock ∧ some k_ ≠ (u5 : Value).ownBlock) v282 t281) := ⟨h0_⟩
           have n1_ : Aside0 (Kd.R (Kd.int .u8) 5 w25 w.heap.size (fun k_ => some k_ ≠ (v282 : Value).ownBlock ∧ some k_ ≠ (u5 : Value).ownBlock) v287 y286) := ⟨h1_⟩
           have n2_ : Aside0 (Kd.R (Kd.int .u8) 5 w25 w.heap.size (fun k_ => some k_ ≠ (v282 : Value).ownBlock ∧ some k_ ≠ (v287 : Value).ownBlock) u5 x5_2) := ⟨h2_⟩
           have n3_ : Aside0 (Below w.heap.size w w25) := ⟨h3_⟩
           clear HO_5
           clear HB
           clear h0_ h1_ h2_ h3_
           have HO283 := n0_
           have HO288 := n1_
           have HO_5 := n2_
           have HB := n3_
           clear n0_ n1_ n2_ n3_
           have hHeld : w25.cell? (ad276.add ((x6_2).toNat * 4)) = some (.int .i64 ((rd_T41 l0 x6_2).f0)) ∧ w25.cell? ⟨(ad276.add ((x6_2).toNat * 4)).block, (ad276.add ((x6_2).toNat * 4)).off + 1, none⟩ = some (.string ((rd_T41 l0 x6_2).f1)) ∧ w25.cell? ⟨(ad276.add ((x6_2).toNat * 4)).block, (ad276.add ((x6_2).toNat * 4)).off + 2, none⟩ = some (.int .i64 ((rd_T41 l0 x6_2).f2)) ∧ w25.cell? ⟨(ad276.add ((x6_2).toNat * 4)).block, (ad276.add ((x6_2).toNat * 4)).off + 3, none⟩ = some (.int .i64 ((rd_T41 l0 x6_2).f3)) ∧ w25.cell? (ad276.add ((x6_2).toNat * 4)) = some (.int .i64 ((rd_T41 l0 x6_2).f0)) ∧ w25.cell? ⟨(ad276.add ((x6_2).toNat * 4)).block, (ad276.add ((x6_2).toNat * 4)).off + 1, none⟩ = some (.string ((rd_T41 l0 x6_2).f1)) ∧ w25.cell? ⟨(ad276.add ((x6_2).toNat * 4)).block, (ad276.add ((x6_2).toNat * 4)).off + 2, none⟩ = some (.int .i64 ((rd_T41 l0 x6_2).f2)) ∧ w25.cell? ⟨(ad276.add ((x6_2).toNat * 4)).block, (ad276.add ((x6_2).toNat * 4)).off + 3, none⟩ = some (.int .i64 ((rd_T41 l0 x6_2).f3)) ∧ w25.cell? (ad276.add ((x6_2).toNat * 4)) = some (.int .i64 ((rd_T41 l0 x6_2).f0)) ∧ w25.cell? ⟨(ad276.add ((x6_2).toNat * 4)).block, (ad276.add ((x6_2).toNat * 4)).off + 1, none⟩ = some (.string ((rd_T41 l0 x6_2).f1)) ∧ w25.cell? ⟨(ad276.add ((x6_2).toNat * 4)).block, (ad276.add ((x6_2).toNat * 4)).off + 2, none⟩ = some (.int .i64 ((rd_T41 l0 x6_2).f2)) ∧ w25.cell? ⟨(ad276.add ((x6_2).toNat * 4)).block, (ad276.add ((x6_2).toNat * 4)).off + 3, none⟩ = some (.int .i64 ((rd_T41 l0 x6_2).f3)) ∧ w25.cell? (ad276.add ((x6_2).toNat * 4)) = some (.int .i64 ((rd_T41 l0 x6_2).f0)) ∧ w25.cell? ⟨(ad276.add ((x6_2).toNat * 4)).block, (ad276.add ((x6_2).toNat * 4)).off + 1, none⟩ = some (.string ((rd_T41 l0 x6_2).f1)) ∧ w25.cell? ⟨(ad276.add ((x6_2).toNat * 4)).block, (ad276.add ((x6_2).toNat * 4)).off + 2, none⟩ = some (.int .i64 ((rd_T41 l0 x6_2).f2)) ∧ w25.cell? ⟨(ad276.add ((x6_2).toNat * 4)).block, (ad276.add ((x6_2).toNat * 4)).off + 3, none⟩ = some (.int .i64 ((rd_T41 l0 x6_2).f3)) := hS_
           obtain ⟨Ao27, co27, eo27⟩ := Kd.R_slice HO288.out
           (first | subst eo27 | (injection eo27 with f1_ f2_ f3_; have f4_ := f1_.symm; have f5_ := f3_.symm; clear f1_ f2_ f3_; subst f4_; subst f5_))
           refine norm_ (a' := ?_) ?_ ?_
           rotate_left
           ·simp only [putAll, Act.put, List.setIfInBounds_toArray, List.set_cons_zero, List.set_cons_succ]
            rfl
           refine one_ (i := 28) (N := some 54) mk12_31 rfl rfl (one_of HT_.out (by kernel_rfl)) (by decide) (fun K hK => ?_)
           refine Kd.R_append_rows_step (Kd.int .u8) (w0 := w) w.heap.size (by rfl) (.tmp 38) (.tmp 53) 23 5 (.int .u8 0) 1 rfl Try.underlying23 info5 rfl (by decide) (by omega) v282 t281 y286 _ _ _ (fun k_ => some k_ ≠ (u5 : Value).ownBlock ∧ some k_ ≠ (.slice Ao27 y286.length co27 : Value).ownBlock) (fun _ => False) rfl rfl ?aO ?aR (fun _ _ h => h) (fun _ h => h.elim) ?aF ?aB ?aS ?aL ?_
           (case aR => repeat (first | exact (Kd.R_reads' HO288.out).2.2 | (with_reducible refine Kd.C_alloc ?_ _) | (with_reducible refine Kd.C_drewN ?_ _) | (with_reducible refine Kd.C_drew ?_)))
           (case aB => exact (by repeat (first | (with_reducible first | exact HB.out | apply below_alloc | apply pw_below_drewN | apply below_drew1) | exact HB.out)))
           (case aF => exact (fun k_ hk => ⟨Kd.fresh' (Kd.R_lt (by (with_reducible repeat (first | apply Kd.R_alloc | apply Kd.R_drewN | apply Kd.R_drew)); exact HO_5.out)) k_ hk, Kd.fresh' (Kd.R_lt (by (with_reducible repeat (first | apply Kd.R_alloc | apply Kd.R_drewN | apply Kd.R_drew)); exact HO288.out)) k_ hk⟩))
           (case aO => exact (by (with_reducible repeat (first | apply Kd.R_alloc | apply Kd.R_drewN | apply Kd.R_drew)); exact Kd.R_mono HO283.out (fun _ hk => ⟨hk.2, hk.1⟩)))
           (case aS => exact (below_size (by repeat (first | (with_reducible first | exact HB.out | apply below_alloc | apply pw_below_drewN | apply below_drew1) | exact HB.out))))
           (case aL => have := LMc14.out; omega)
           intro v290 w26 ho hb hg hat
           rw [← Ny289.out] at ho
           have n0_ := Aside0.mk (Kd.R_after (ok := (fun k_ => some k_ ≠ (.slice Ao27 y286.length co27 : Value).ownBlock)) (by (with_reducible repeat (first | apply Kd.R_alloc | apply Kd.R_drewN | apply Kd.R_drew)); exact Kd.R_mono HO_5.out (fun _ hk => ⟨hk.2, hk.1⟩)) hg hat)
           have n1_ := Aside0.mk (Kd.R_after (ok := (fun k_ => some k_ ≠ (u5 : Value).ownBlock)) (by (with_reducible repeat (first | apply Kd.R_alloc | apply Kd.R_drewN | apply Kd.R_drew)); exact Kd.R_mono HO288.out (fun _ hk => ⟨hk.2, hk.1⟩)) hg hat)
           have n2_ := Aside0.mk (hb)
           have n3_ := Aside0.mk (ho)
           clear HO_5
           clear HO288
           clear HB
           clear HO283
           have HO_5 := n0_
           have HO288 := n1_
           have HB := n2_
           have HO291 := n3_
           clear n0_ n1_ n2_ n3_
           clear ho hb hg hat
           refine hK.out _ _ ⟨((HB.out.cell (World.block_lt_of_cell? w _ hw276_0)).trans hw276_0), ((HB.out.cell (World.block_lt_of_cell? w _ hw276_1)).trans hw276_1), ((HB.out.cell (World.block_lt_of_cell? w _ hw276_2)).trans hw276_2), ((HB.out.cell (World.block_lt_of_cell? w _ hw276_3)).trans hw276_3), ((HB.out.cell (World.block_lt_of_cell? w _ hw280_0)).trans hw280_0), ((HB.out.cell (World.block_lt_of_cell? w _ hw280_1)).trans hw280_1), ((HB.out.cell (World.block_lt_of_cell? w _ hw280_2)).trans hw280_2), ((HB.out.cell (World.block_lt_of_cell? w _ hw280_3)).trans hw280_3), ((HB.out.cell (World.block_lt_of_cell? w _ hw284_0)).trans hw284_0), ((HB.out.cell (World.block_lt_of_cell? w _ hw284_1)).trans hw284_1), ((HB.out.cell (World.block_lt_of_cell? w _ hw284_2)).trans hw284_2), ((HB.out.cell (World.block_lt_of_cell? w _ hw284_3)).trans hw284_3), ((HB.out.cell (World.block_lt_of_cell? w _ hw285_0)).trans hw285_0), ((HB.out.cell (World.block_lt_of_cell? w _ hw285_1)).trans hw285_1), ((HB.out.cell (World.block_lt_of_cell? w _ hw285_2)).trans hw285_2), ((HB.out.cell (World.block_lt_of_cell? w _ hw285_3)).trans hw285_3)⟩ (fun hHeld => ?_)
           clear hK K
           refine norm_ (a' := ?_) ?_ ?_
           rotate_left
           ·show Act.put _ (some 54) _ = _
            simp only [Act.put, pS12]
            rfl
           refine py12_ (a' := ?_) 29 7 ?_ mk12_32 HT_ rfl rfl (by kernel_rfl) (fun _ _ _ h => h) (Or.inl ⟨by rfl, ?_⟩) ?_ ?_; rotate_left; (focus intro w'; go_simp; with_reducible rfl); rotate_left; (focus simp only [Act.put, pS12]; rfl)
           refine done_ (done_of HT_.out (by kernel_rfl)) ?_
           have p292 : 0 ≤ (x6_2 : Int) := of_decide_eq_true (by first | (with_reducible assumption) | assumption)
           have q292 : x6_2 < (l0.length : Int) := of_decide_eq_true (by first | (with_reducible assumption) | assumption)
           obtain ⟨ad292, e292, hx292_0, hx292_1, hx292_2, hx292_3⟩ := at_T41 HR0.out x6_2 p292 q292
           obtain rfl : ad276 = ad292 := (by injection e292)
           replace hx292_0 := (HB.out.cell (World.block_lt_of_cell? w _ hx292_0)).trans hx292_0
           replace hx292_1 := (HB.out.cell (World.block_lt_of_cell? w _ hx292_1)).trans hx292_1
           replace hx292_2 := (HB.out.cell (World.block_lt_of_cell? w _ hx292_2)).trans hx292_2
           replace hx292_3 := (HB.out.cell (World.block_lt_of_cell? w _ hx292_3)).trans hx292_3
           replace p292 := eq_true p292
           replace q292 := eq_true q292
           try go_wp2_with (first | (at_builtin; refine print_append_str (w0 := w) w.heap.size rfl (.tmp 56) _ 23 9 5 rfl Try.underlying23 Try.underlying9 info5 v290 y289 ((rd_T41 l0 x6_2).f1) rfl rfl ?aO ?aB ?aS ?aL ?_; (case aB => exact (by repeat (first | (with_reducible first | exact HB.out | apply below_alloc | apply pw_below_drewN | apply below_drew1) | exact HB.out))); (case aO => exact (Kd.own_of_R (by (with_reducible repeat (first | apply Kd.R_alloc | apply Kd.R_drewN | apply Kd.R_drew)); exact Kd.R_mono HO291.out (fun _ hk => trivial)))); (case aS => exact (below_size (by repeat (first | (with_reducible first | exact HB.out | apply below_alloc | apply pw_below_drewN | apply below_drew1) | exact HB.out)))); (case aL => have := LMc15.out; omega); intro v294 w28 ho0 hb hg; have ho := Kd.R_of_own (h1 := fun _ => rfl) (ok := fun _ => True) ho0 (fun _ _ => trivial); clear ho0; have hat := True.intro; rw [← Ny293.out] at ho; change Kd.R (Kd.int .u8) 5 w28 w.heap.size (fun _ => True) v294 y293 at ho; have n0_ := Aside0.mk (hb); have n1_ := Aside0.mk (ho); clear HB; clear HO291; have HB := n0_; have HO295 := n1_; clear n0_ n1_; have n2_ := Aside0.mk (Kd.R_grown HO_5.out hg (fun k_ hk_ => hk_.2)); clear HO_5; have HO_5 := n2_; clear n2_; clear ho hb hg hat; obtain ⟨Ao29, co29, eo29⟩ := Kd.R_slice HO295.out; subst eo29) | ((with_reducible refine gate_callee (f := 38) rfl ?_); refine goesL_ (some 63) rfl rfl Try.func38 (by kernel_rfl) rfl #[.slice Ao29 y293.length co29] rfl (by (try simp only [List.map_toArray, List.map_cons, List.map_nil]); first | done | rfl | (simp only [List.length_drop, List.length_take]; rfl)) ?_; (with_reducible refine (souterrainref02_Put.calls k2 _ _ y293 t296 _ ?side1 ?side2 A16.out).mono ?_); (case side1 => repeat (first | exact (Kd.R_reads' HO295.out).2.2 | (with_reducible refine Kd.C_alloc ?_ _) | (with_reducible refine Kd.C_drewN ?_ _) | (with_reducible refine Kd.C_drew ?_))); (case side2 => exact (Kd.R_reads' HO295.out).2.1); rintro e w30 ⟨v297, rfl, ho0, hb⟩; refine ⟨_, rfl, ?_⟩; have n0_ := Aside0.mk (Kd.R_elder' (by (with_reducible repeat (first | apply Kd.R_alloc | apply Kd.R_drewN | apply Kd.R_drew)); exact HO295.out) (Kd.R_base ho0) hb); have n1_ := Aside0.mk (Kd.R_lower (Kd.R_new' ho0 (Kd.R_lt (by (with_reducible repeat (first | apply Kd.R_alloc | apply Kd.R_drewN | apply Kd.R_drew)); exact HO295.out))) (below_size (by repeat (first | (with_reducible first | exact HB.out | apply below_alloc | apply pw_below_drewN | apply below_drew1) | exact HB.out)))); have n2_ := Aside0.mk (below_step (by repeat (first | (with_reducible first | exact HB.out | apply below_alloc | apply pw_below_drewN | apply below_drew1) | exact HB.out)) hb); clear HO295; clear HB; have HO295 := n0_; have HO298 := n1_; have HB := n2_; clear n0_ n1_ n2_; have n3_ := Aside0.mk (Kd.R_elder' (by (with_reducible repeat (first | apply Kd.R_alloc | apply Kd.R_drewN | apply Kd.R_drew)); exact HO_5.out) (Kd.R_base ho0) hb); clear HO_5; have HO_5 := n3_; clear n3_; (try clear hb); (try clear hb2); (try clear hk); (try clear hi); (try clear ho0); obtain ⟨Ao32, co32, eo32⟩ := Kd.R_slice HO298.out; subst eo32) | ((with_reducible refine gate_builtin (b := .append) (xs := #[.tmp 55, .tmp 63]) rfl ?_); at_builtin; refine Kd.R_append_rows (Kd.int .u8) (w0 := w) w.heap.size rfl (.tmp 55) (.tmp 63) 23 5 (.int .u8 0) 1 rfl Try.underlying23 info5 rfl (by decide) (by omega) u5 x5_2 t296 _ _ _ (fun k_ => some k_ ≠ (.slice Ao32 t296.length co32 : Value).ownBlock) (fun _ => False) rfl rfl ?aO ?aR (fun _ _ h => h) (fun _ h => h.elim) ?aF ?aB ?aS ?aL ?_; (case aR => repeat (first | exact (Kd.R_reads' HO298.out).2.2 | (with_reducible refine Kd.C_alloc ?_ _) | (with_reducible refine Kd.C_drewN ?_ _) | (with_reducible refine Kd.C_drew ?_))); (case aB => exact (by repeat (first | (with_reducible first | exact HB.out | apply below_alloc | apply pw_below_drewN | apply below_drew1) | exact HB.out))); (case aF => exact (fun k_ hk => Kd.fresh' (Kd.R_lt (by (with_reducible repeat (first | apply Kd.R_alloc | apply Kd.R_drewN | apply Kd.R_drew)); exact HO298.out)) k_ hk)); (case aO => exact (Kd.R_mono HO_5.out (fun _ hk => hk.2))); (case aS => exact (below_size (by repeat (first | (with_reducible first | exact HB.out | apply below_alloc | apply pw_below_drewN | apply below_drew1) | exact HB.out)))); (case aL => have := LMc17.out; omega); intro v300 w31 ho hb hg hat; rw [← Ny299.out] at ho; have n2_ := Aside0.mk (hb); have n3_ := Aside0.mk (ho); clear HB; have HB := n2_; have HO301 := n3_; clear n2_ n3_; clear ho hb hg hat))
           go_roundg k2
           case measure => have := HJ2.out; have := HK2.out; omega
           case rel => exact ⟨(y299), (wrap64 (x6_2 + 1)), (by first | rfl | (simp; done) | (simp [*]; done)), H', ⟨by have := HJ2.out; have := HK2.out; omega⟩, ⟨by (with_reducible repeat (first | apply Kd.R_alloc | apply Kd.R_drewN | apply Kd.R_drew)); exact Kd.R_mono HO301.out (fun _ hk => trivial)⟩, ⟨by repeat (first | (with_reducible first | exact HB.out | apply below_alloc | apply pw_below_drewN | apply below_drew1) | exact HB.out)⟩⟩
          ·rw [if_neg c17] at H
           exact absurd H (by simp)
         ·rw [if_neg c15] at H
          exact absurd H (by simp)
        ·rw [if_neg c14] at H
         exact absurd H (by simp)
       ·rw [if_neg c12] at H
        exact absurd H (by simp)
      ·rw [if_neg c11] at H
       have c11b0 : decide (x6_2 < (l0.length : Int)) = false := decide_eq_false c11
       clear c11
       obtain ⟨y302, hy302⟩ : ∃ y_ : List Int, y_ = (([7] : List Int)) := ⟨_, rfl⟩
       replace H : ((souterrainref11_four.f y302 (l0.length : Int)).bind fun t305 => ((souterrainref11_four.f t305 a1).bind fun t308 => ((souterrainref01_Bit.f k2 x5_2).bind fun t311 => ((souterrainref11_four.f t308 (wrap64 (t311))).bind fun t312 => ((souterrainref02_Put.f k2 t312).bind fun t315 => (if x5_2.length + t315.length < 140737488355328 then (some (x5_2 ++ t315)) else (none))))))) = some r := by first | (rw [hy302]; with_reducible exact H) | (have H2_ := (Option.bind_some _ _).symm.trans H; rw [hy302]; with_reducible exact H2_) | (have H2_ := (Option.bind_some _ _).symm.trans H; with_reducible exact H2_) | with_reducible exact H | (rw [hy302]; exact H) | exact H
       have Ny302 := Aside0.mk hy302
       clear hy302
       replace H := Option.bind_eq_some_iff.mp H
       obtain ⟨t305, A330, H⟩ := H
       replace H : ((souterrainref11_four.f t305 a1).bind fun t308 => ((souterrainref01_Bit.f k2 x5_2).bind fun t311 => ((souterrainref11_four.f t308 (wrap64 (t311))).bind fun t312 => ((souterrainref02_Put.f k2 t312).bind fun t315 => (if x5_2.length + t315.length < 140737488355328 then (some (x5_2 ++ t315)) else (none)))))) = some r := H
       have A33 := Aside0.mk A330
       clear A330
       replace H := Option.bind_eq_some_iff.mp H
       obtain ⟨t308, A340, H⟩ := H
       replace H : ((souterrainref01_Bit.f k2 x5_2).bind fun t311 => ((souterrainref11_four.f t308 (wrap64 (t311))).bind fun t312 => ((souterrainref02_Put.f k2 t312).bind fun t315 => (if x5_2.length + t315.length < 140737488355328 then (some (x5_2 ++ t315)) else (none))))) = some r := H
       have A34 := Aside0.mk A340
       clear A340
       replace H := Option.bind_eq_some_iff.mp H
       obtain ⟨t311, A350, H⟩ := H
       replace H : ((souterrainref11_four.f t308 (wrap64 (t311))).bind fun t312 => ((souterrainref02_Put.f k2 t312).bind fun t315 => (if x5_2.length + t315.length < 140737488355328 then (some (x5_2 ++ t315)) else (none)))) = some r := H
       have A35 := Aside0.mk A350
       clear A350
       replace H := Option.bind_eq_some_iff.mp H
       obtain ⟨t312, A360, H⟩ := H
       replace H : ((souterrainref02_Put.f k2 t312).bind fun t315 => (if x5_2.length + t315.length < 140737488355328 then (some (x5_2 ++ t315)) else (none))) = some r := H
       have A36 := Aside0.mk A360
       clear A360
       replace H := Option.bind_eq_some_iff.mp H
       obtain ⟨t315, A370, H⟩ := H
       replace H : (if x5_2.length + t315.length < 140737488355328 then (some (x5_2 ++ t315)) else (none)) = some r := H
       have A37 := Aside0.mk A370
       clear A370
       by_cases c38 : x5_2.length + t315.length < 140737488355328
       ·rw [if_pos c38] at H
        have LMc38 := Aside0.mk c38
        clear c38
        obtain ⟨y318, hy318⟩ : ∃ y_ : List Int, y_ = (x5_2 ++ t315) := ⟨_, rfl⟩
        replace H : (some y318) = some r := by first | (rw [hy318]; with_reducible exact H) | (have H2_ := (Option.bind_some _ _).symm.trans H; rw [hy318]; with_reducible exact H2_) | (have H2_ := (Option.bind_some _ _).symm.trans H; with_reducible exact H2_) | with_reducible exact H | (rw [hy318]; exact H) | exact H
        have Ny318 := Aside0.mk hy318
        clear hy318
        obtain rfl := Option.some.inj H
        go_wp2_with (first | ((with_reducible refine gate_dst (N := 65) rfl ?_); refine Kd.R_lit (Kd.int .u8) _ 5 ?hg (N := 65) ?hd (xs := ([7] : List Int)) (inner := [.int .u8 7]) (ok := fun _ => True) (okp := fun _ => True) ?hr ?hp (fun _ hk => hk) trivial (Below.refl _ _) (Nat.le_refl _) (by simp) ?_; (case hd => rfl); (case hg => rfl); (case hr => first | (go_simp; done) | (go_simp; rfl)); (case hp => exact (Reps.one (show Kd.M (Kd.int .u8) _ _ _ 7 [.int .u8 7] from rfl) (Reps.none _ _))); intro v303 w39 ho40 hb hg_ hnew_; clear hg_ hnew_; (first | rw [← Ny302.out] at ho40 | (simp only [Int.reduceToNat] at ho40; rw [← Ny302.out] at ho40)); have n0_ := Aside0.mk (Kd.R_elder' (by (with_reducible repeat (first | apply Kd.R_alloc | apply Kd.R_drewN | apply Kd.R_drew)); exact HO_5.out) (Kd.R_base ho40) hb); have n1_ := Aside0.mk (Kd.R_lower (Kd.R_new' ho40 (Kd.R_lt (by (with_reducible repeat (first | apply Kd.R_alloc | apply Kd.R_drewN | apply Kd.R_drew)); exact HO_5.out))) (below_size (by repeat (first | (with_reducible first | exact HB.out | apply below_alloc | apply pw_below_drewN | apply below_drew1) | exact HB.out)))); have n2_ := Aside0.mk (below_step (by repeat (first | (with_reducible first | exact HB.out | apply below_alloc | apply pw_below_drewN | apply below_drew1) | exact HB.out)) hb); clear HO_5; clear HB; have HO_5 := n0_; have HO304 := n1_; have HB := n2_; clear n0_ n1_ n2_; clear hb ho40; obtain ⟨Ao41, co41, eo41⟩ := Kd.R_slice HO304.out; subst eo41) | ((with_reducible refine gate_callee (f := 37) rfl ?_); refine goesL_ (some 68) rfl rfl Try.func37 (by kernel_rfl) rfl #[.slice Ao41 y302.length co41, .int .i64 (l0.length : Int)] rfl (by (try simp only [List.map_toArray, List.map_cons, List.map_nil]); first | done | rfl | (simp only [List.length_drop, List.length_take]; rfl)) ?_; (with_reducible refine (souterrainref11_four.calls (fun k_ => some k_ = (.slice Ao41 y302.length co41 : Value).ownBlock) (.slice Ao41 y302.length co41) y302 (l0.length : Int) t305 w _ ?side1 ?side2 A33.out).mono ?_); (case side1 => repeat (first | (with_reducible first | exact HB.out | apply below_alloc | apply pw_below_drewN | apply below_drew1) | exact HB.out)); (case side2 => exact Kd.R_tight rfl HO304.out); rintro e w42 ⟨v306, rfl, ho0, hb, hkp⟩; refine ⟨_, rfl, ?_⟩; have n0_ := Aside0.mk (Kd.R_mono (ok' := fun k_ => some k_ ≠ (v306 : Value).ownBlock) (Kd.R_keptB (HO_5.out) hkp (fun k_ hk_ hs_ => (hk_.2) hs_)) (fun k_ hk_ => fun e_ => Or.elim (ho0.1 k_ e_.symm) (fun hs_ => hk_.2.1 hs_) (fun hn_ => Nat.not_le.2 hk_.2.2 hn_))); have n1_ := Aside0.mk (Kd.R_mono (ok' := fun k_ => some k_ ≠ (u5 : Value).ownBlock) ho0 (fun k_ hk_ => Or.elim hk_ (fun hs_ => fun e_ => (((HO_5.out).1 k_ e_.symm).2) hs_) (fun hn_ => (Kd.fresh' (Kd.R_lt (by (with_reducible repeat (first | apply Kd.R_alloc | apply Kd.R_drewN | apply Kd.R_drew)); exact HO_5.out)) k_ hn_)))); have n2_ := Aside0.mk (hb); clear HO_5; clear HB; clear HO304; have HO_5 := n0_; have HO307 := n1_; have HB := n2_; clear n0_ n1_ n2_; (try clear hb); (try clear hkp); (try clear ho0); obtain ⟨Ao43, co43, eo43⟩ := Kd.R_slice HO307.out; subst eo43) | ((with_reducible refine gate_callee (f := 37) rfl ?_); refine goesL_ (some 70) rfl rfl Try.func37 (by kernel_rfl) rfl #[.slice Ao43 t305.length co43, .int .i64 a1] rfl (by (try simp only [List.map_toArray, List.map_cons, List.map_nil]); first | done | rfl | (simp only [List.length_drop, List.length_take]; rfl)) ?_; (with_reducible refine (souterrainref11_four.calls (fun k_ => some k_ = (.slice Ao43 t305.length co43 : Value).ownBlock) (.slice Ao43 t305.length co43) t305 a1 t308 w _ ?side1 ?side2 A34.out).mono ?_); (case side1 => repeat (first | (with_reducible first | exact HB.out | apply below_alloc | apply pw_below_drewN | apply below_drew1) | exact HB.out)); (case side2 => exact Kd.R_tight rfl HO307.out); rintro e w44 ⟨v309, rfl, ho0, hb, hkp⟩; refine ⟨_, rfl, ?_⟩; have n0_ := Aside0.mk (Kd.R_mono (ok' := fun k_ => some k_ ≠ (v309 : Value).ownBlock) (Kd.R_keptB (HO_5.out) hkp (fun k_ hk_ hs_ => (hk_) hs_)) (fun k_ hk_ => fun e_ => Or.elim (ho0.1 k_ e_.symm) (fun hs_ => hk_.2.1 hs_) (fun hn_ => Nat.not_le.2 hk_.2.2 hn_))); have n1_ := Aside0.mk (Kd.R_mono (ok' := fun k_ => some k_ ≠ (u5 : Value).ownBlock) ho0 (fun k_ hk_ => Or.elim hk_ (fun hs_ => fun e_ => (((HO_5.out).1 k_ e_.symm)) hs_) (fun hn_ => (Kd.fresh' (Kd.R_lt (by (with_reducible repeat (first | apply Kd.R_alloc | apply Kd.R_drewN | apply Kd.R_drew)); exact HO_5.out)) k_ hn_)))); have n2_ := Aside0.mk (hb); clear HO_5; clear HB; clear HO307; have HO_5 := n0_; have HO310 := n1_; have HB := n2_; clear n0_ n1_ n2_; (try clear hb); (try clear hkp); (try clear ho0); obtain ⟨Ao45, co45, eo45⟩ := Kd.R_slice HO_5.out; subst eo45) | ((with_reducible refine gate_callee (f := 39) rfl ?_); refine goesL_ (some 74) rfl rfl Try.func39 (by kernel_rfl) rfl #[.slice Ao45 x5_2.length co45] rfl (by (try simp only [List.map_toArray, List.map_cons, List.map_nil]); first | done | rfl | (simp only [List.length_drop, List.length_take]; rfl)) ?_; (with_reducible refine (souterrainref01_Bit.calls k2 _ _ x5_2 t311 _ ?side1 ?side2 A35.out).mono ?_); (case side1 => repeat (first | exact (Kd.R_reads' HO_5.out).2.2 | (with_reducible refine Kd.C_alloc ?_ _) | (with_reducible refine Kd.C_drewN ?_ _) | (with_reducible refine Kd.C_drew ?_))); (case side2 => exact (Kd.R_reads' HO_5.out).2.1); rintro e w' ⟨rfl, ⟨nd, rfl⟩⟩; refine ⟨_, rfl, ?_⟩; obtain ⟨Ao46, co46, eo46⟩ := Kd.R_slice HO310.out; subst eo46) | ((with_reducible refine gate_callee (f := 37) rfl ?_); refine goesL_ (some 76) rfl rfl Try.func37 (by kernel_rfl) rfl #[.slice Ao46 t308.length co46, .int .i64 (wrap64 (t311))] rfl (by (try simp only [List.map_toArray, List.map_cons, List.map_nil]); first | done | rfl | (simp only [List.length_drop, List.length_take]; rfl)) ?_; (with_reducible refine (souterrainref11_four.calls (fun k_ => some k_ = (.slice Ao46 t308.length co46 : Value).ownBlock) (.slice Ao46 t308.length co46) t308 (wrap64 (t311)) t312 w _ ?side1 ?side2 A36.out).mono ?_); (case side1 => repeat (first | (with_reducible first | exact HB.out | apply below_alloc | apply pw_below_drewN | apply below_drew1) | exact HB.out)); (case side2 => exact Kd.R_tight rfl HO310.out); rintro e w47 ⟨v313, rfl, ho0, hb, hkp⟩; refine ⟨_, rfl, ?_⟩; have n0_ := Aside0.mk (Kd.R_mono (ok' := fun k_ => some k_ ≠ (v313 : Value).ownBlock) (Kd.R_keptB (HO_5.out) hkp (fun k_ hk_ hs_ => (hk_) hs_)) (fun k_ hk_ => fun e_ => Or.elim (ho0.1 k_ e_.symm) (fun hs_ => hk_.2.1 hs_) (fun hn_ => Nat.not_le.2 hk_.2.2 hn_))); have n1_ := Aside0.mk (Kd.R_mono (ok' := fun k_ => some k_ ≠ (.slice Ao45 x5_2.length co45 : Value).ownBlock) ho0 (fun k_ hk_ => Or.elim hk_ (fun hs_ => fun e_ => (((HO_5.out).1 k_ e_.symm)) hs_) (fun hn_ => (Kd.fresh' (Kd.R_lt (by (with_reducible repeat (first | apply Kd.R_alloc | apply Kd.R_drewN | apply Kd.R_drew)); exact HO_5.out)) k_ hn_)))); have n2_ := Aside0.mk (hb); clear HO_5; clear HB; clear HO310; have HO_5 := n0_; have HO314 := n1_; have HB := n2_; clear n0_ n1_ n2_; (try clear hb); (try clear hkp); (try clear ho0); obtain ⟨Ao48, co48, eo48⟩ := Kd.R_slice HO314.out; subst eo48) | ((with_reducible refine gate_callee (f := 38) rfl ?_); refine goesL_ (some 77) rfl rfl Try.func38 (by kernel_rfl) rfl #[.slice Ao48 t312.length co48] rfl (by (try simp only [List.map_toArray, List.map_cons, List.map_nil]); first | done | rfl | (simp only [List.length_drop, List.length_take]; rfl)) ?_; (with_reducible refine (souterrainref02_Put.calls k2 _ _ t312 t315 _ ?side1 ?side2 A37.out).mono ?_); (case side1 => repeat (first | exact (Kd.R_reads' HO314.out).2.2 | (with_reducible refine Kd.C_alloc ?_ _) | (with_reducible refine Kd.C_drewN ?_ _) | (with_reducible refine Kd.C_drew ?_))); (case side2 => exact (Kd.R_reads' HO314.out).2.1); rintro e w49 ⟨v316, rfl, ho0, hb⟩; refine ⟨_, rfl, ?_⟩; have n0_ := Aside0.mk (Kd.R_elder' (by (with_reducible repeat (first | apply Kd.R_alloc | apply Kd.R_drewN | apply Kd.R_drew)); exact HO_5.out) (Kd.R_base ho0) hb); have n1_ := Aside0.mk (Kd.R_elder' (by (with_reducible repeat (first | apply Kd.R_alloc | apply Kd.R_drewN | apply Kd.R_drew)); exact HO314.out) (Kd.R_base ho0) hb); have n2_ := Aside0.mk (Kd.R_lower (Kd.R_new' (Kd.R_new' ho0 (Kd.R_lt (by (with_reducible repeat (first | apply Kd.R_alloc | apply Kd.R_drewN | apply Kd.R_drew)); exact HO_5.out))) (Kd.R_lt (by (with_reducible repeat (first | apply Kd.R_alloc | apply Kd.R_drewN | apply Kd.R_drew)); exact HO314.out))) (below_size (by repeat (first | (with_reducible first | exact HB.out | apply below_alloc | apply pw_below_drewN | apply below_drew1) | exact HB.out)))); have n3_ := Aside0.mk (below_step (by repeat (first | (with_reducible first | exact HB.out | apply below_alloc | apply pw_below_drewN | apply below_drew1) | exact HB.out)) hb); clear HO_5; clear HO314; clear HB; have HO_5 := n0_; have HO314 := n1_; have HO317 := n2_; have HB := n3_; clear n0_ n1_ n2_ n3_; (try clear hb); (try clear hb2); (try clear hk); (try clear hi); (try clear ho0); obtain ⟨Ao51, co51, eo51⟩ := Kd.R_slice HO317.out; subst eo51) | ((with_reducible refine gate_builtin (b := .append) (xs := #[.tmp 71, .tmp 77]) rfl ?_); at_builtin; refine Kd.R_append_rows (Kd.int .u8) (w0 := w) w.heap.size rfl (.tmp 71) (.tmp 77) 23 5 (.int .u8 0) 1 rfl Try.underlying23 info5 rfl (by decide) (by omega) (.slice Ao45 x5_2.length co45) x5_2 t315 _ _ _ (fun k_ => some k_ ≠ (.slice Ao48 t312.length co48 : Value).ownBlock ∧ some k_ ≠ (.slice Ao51 t315.length co51 : Value).ownBlock) (fun _ => False) rfl rfl ?aO ?aR (fun _ _ h => h) (fun _ h => h.elim) ?aF ?aB ?aS ?aL ?_; (case aR => repeat (first | exact (Kd.R_reads' HO317.out).2.2 | (with_reducible refine Kd.C_alloc ?_ _) | (with_reducible refine Kd.C_drewN ?_ _) | (with_reducible refine Kd.C_drew ?_))); (case aB => exact (by repeat (first | (with_reducible first | exact HB.out | apply below_alloc | apply pw_below_drewN | apply below_drew1) | exact HB.out))); (case aF => exact (fun k_ hk => ⟨Kd.fresh' (Kd.R_lt (by (with_reducible repeat (first | apply Kd.R_alloc | apply Kd.R_drewN | apply Kd.R_drew)); exact HO314.out)) k_ hk, Kd.fresh' (Kd.R_lt (by (with_reducible repeat (first | apply Kd.R_alloc | apply Kd.R_drewN | apply Kd.R_drew)); exact HO317.out)) k_ hk⟩)); (case aO => exact (by (with_reducible repeat (first | apply Kd.R_alloc | apply Kd.R_drewN | apply Kd.R_drew)); exact HO_5.out)); (case aS => exact (below_size (by repeat (first | (with_reducible first | exact HB.out | apply below_alloc | apply pw_below_drewN | apply below_drew1) | exact HB.out)))); (case aL => have := LMc38.out; omega); intro v319 w50 ho hb hg hat; rw [← Ny318.out] at ho; have n0_ := Aside0.mk (Kd.R_after (ok := (fun k_ => some k_ ≠ (.slice Ao51 t315.length co51 : Value).ownBlock)) (by (with_reducible repeat (first | apply Kd.R_alloc | apply Kd.R_drewN | apply Kd.R_drew)); exact Kd.R_mono HO314.out (fun _ hk => ⟨hk.2, hk.1⟩)) hg hat); have n1_ := Aside0.mk (Kd.R_after (ok := (fun k_ => some k_ ≠ (.slice Ao48 t312.length co48 : Value).ownBlock)) (by (with_reducible repeat (first | apply Kd.R_alloc | apply Kd.R_drewN | apply Kd.R_drew)); exact Kd.R_mono HO317.out (fun _ hk => ⟨hk.2, hk.1.2⟩)) hg hat); have n2_ := Aside0.mk (hb); have n3_ := Aside0.mk (ho); clear HO314; clear HO317; clear HB; clear HO_5; have HO314 := n0_; have HO317 := n1_; have HB := n2_; have HO320 := n3_; clear n0_ n1_ n2_ n3_; clear ho hb hg hat))
        go_ret
        exact ⟨_, by first | rfl | (simp [errW_none, errW_some] <;> rfl) | (simp [*, errW_none, errW_some] <;> rfl), by (with_reducible repeat (first | apply Kd.R_alloc | apply Kd.R_drewN | apply Kd.R_drew)); exact Kd.R_mono HO320.out (fun _ hk => trivial), by repeat (first | (with_reducible first | exact HB.out | apply below_alloc | apply pw_below_drewN | apply below_drew1) | exact HB.out)⟩
       ·rw [if_neg c38] at H
        exact absurd H (by simp)

end Go.Proofs.Yteplnpedakdjkaa.Pt

