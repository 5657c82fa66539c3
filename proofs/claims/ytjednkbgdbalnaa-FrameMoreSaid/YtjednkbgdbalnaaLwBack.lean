/- What is in a frame is got of it, and what is got of any bytes has their frame: the walk. -/
import Derived.Test.YtjednkbgdbalnaaLw
import Derived.Outline
import Derived.Deep.RegionHeld3
import Derived.Test.YtjednkbgdbalnaaWLast
import Derived.Test.YtjednkbgdbalnaaWTab
import Derived.Test.YtjednkbgdbalnaaWFour
import Derived.Test.YtjednkbgdbalnaaWQPut
import Derived.Test.YtjednkbgdbalnaaWWords
import Derived.Test.YtjednkbgdbalnaaWMore
namespace Go.Proofs.Ytjednkbgdbalnaa.Lw
open Go.RowKit Go.Proofs.YtjednkbgdbalnaaW.PrintWords Go.Proofs.YtjednkbgdbalnaaW.PrintLast Go.Proofs.YtjednkbgdbalnaaW.PrintMore Go.Proofs.Ytjednkbgdbalnaa.Fr Go.Proofs.Ytjednkbgdbalnaa.Ext Go.Proofs.Ytjednkbgdbalnaa.Pure
set_option linter.unusedVariables false
set_option linter.unusedSimpArgs false

def back_T : Bool × List (List Nat × List Nat) := (true, [([], []), ([0], [0]), ([1], [1]), ([2, 1], [1, 2]), ([1, 3], [1, 3]), ([4, 1], [4]), ([5], [5]), ([5], [5]), ([7, 5], [5, 7]), ([6, 8, 5], [5, 6, 8]), ([5, 9], [5, 9]), ([10, 5], [10]), ([11], [11]), ([12, 11, 11], [11, 12]), ([13, 11], [11, 13]), ([11], [11]), ([11], [11]), ([15, 16, 11], [11, 15, 16]), ([17, 11], [11, 17]), ([14, 18, 11], [11, 14, 18]), ([11, 19], [11, 19]), ([20, 13, 0, 1, 2, 3, 4, 5, 6, 7, 8, 9, 10, 11, 12, 13, 14, 15, 16, 17, 18, 19, 20], [20])])
def back_B : List Nat := [0, 1, 3, 7, 15, 31, 63, 63, 191, 511, 1023, 2047, 4095, 8191, 16383, 4095, 4095, 102399, 233471, 524287, 1048575, 2097151]
theorem back_tab : rtab .any (opsOf Try.f4 15) = back_T := by kernel_rfl
/-- What may be got of bytes, and what is to be asked of it. -/
inductive Got (l : List Int) : List Int → Int → Int → Prop
  | short : Got l [] 0 21
  | bad : Got l [] 0 22
  | spoilt (k : Nat) : 9 ≤ k → k ≤ l.length → Got l [] k 22
  | fine (xs F : List Int) (k : Nat) : 9 ≤ k → k ≤ l.length → 1 ≤ xs.length → xs.length ≤ 8192 → frameOf xs = F → xs.length + 8 = k → l.take k = F → IsBytes xs → Got l xs k 0
theorem got_of (l : List Int) (hB : IsBytes l) : ∃ xs k f, firstL l = (xs, k, f) ∧ Got l xs k f := by
  rcases first_cases l hB with h | h | ⟨g1, g2, g3, g4, h | ⟨z, h, hz, hzf, hzB⟩⟩
  · exact ⟨_, _, _, h, .short⟩
  · exact ⟨_, _, _, h, .bad⟩
  · obtain ⟨n, hn⟩ := Int.eq_ofNat_of_zero_le (show 0 ≤ nOf l by omega)
    rw [hn] at h
    exact ⟨_, _, _, h, by rw [show (n : Int) + 8 = ((n + 8 : Nat) : Int) by omega]; exact .spoilt _ (by omega) (by omega)⟩
  · obtain ⟨n, hn⟩ := Int.eq_ofNat_of_zero_le (show 0 ≤ nOf l by omega)
    rw [hn] at h hzf
    rw [show ((n : Int) + 8).toNat = n + 8 by omega] at hzf
    exact ⟨_, _, _, h, by rw [show (n : Int) + 8 = ((n + 8 : Nat) : Int) by omega]; exact .fine z _ _ (by omega) (by omega) (by omega) (by omega) rfl (by omega) hzf hzB⟩

theorem take_run (A : Option Addr) (c : Nat) (l : List Int) (k : Nat) (hk : k ≤ l.length) (hc : l.length ≤ c) : ∀ W : World, (Instr.slice 22 (.slice A l.length c) none (some (.int .i64 (k : Int))) none).run Try.prog W = .ok (.slice A k c) W := by
  obtain ⟨i0, hi, hz0, hz1, hz2⟩ := info_parts info_u8
  have h := (print_take_int (P := Try.prog) (k := .u8) 22 5 Try.underlying22 hi hz1 A c l (k : Int) (by omega) (by omega) hc).1
  rwa [Int.toNat_natCast, List.length_take, Nat.min_eq_left hk] at h
theorem Rd.take {w : World} {A : Option Addr} {l : List Int} (h : Rd w A l) (k : Nat) (hk : k ≤ l.length) : Rd w A (l.take k) := by
  have := (ints_of_C h).take_ k hk
  have e : (l.take k).length = k := by rw [List.length_take]; omega
  unfold Rd
  rw [e]
  exact C_of_ints this

theorem row_len {w : World} {A : Option Addr} {l : List Int} {m : Nat} (h : Rd w A l) (hm : l.length = m) : Kd.C (Kd.int .u8) w A m l := by
  subst hm
  exact h

set_option maxHeartbeats 8000000 in
set_option maxRecDepth 100000 in
theorem back_zero_short (A0 A1 A2 : Option Addr) (c0 c1 c2 : Nat) (l more cc : List Int) (w : World) (hB0 : IsBytes l) (hB1 : IsBytes more) (hB2 : IsBytes cc) (hc0 : l.length ≤ c0) (hc1 : more.length ≤ c1) (hc2 : cc.length ≤ c2)
    (hl0 : l.length ≤ 140737488351232) (hl1 : more.length ≤ 140737488351232) (hl2 : cc.length ≤ 140737488351232) (HR0 : Aside0 (Rd w A0 l)) (HR1 : Aside0 (Rd w A1 more)) (HR2 : Aside0 (Rd w A2 cc))
    (hbg : l.length + more.length + cc.length ≤ 30000) (d1 : decide (30000 < (l.length : Int) + (more.length : Int) + (cc.length : Int)) = false)  (HG : Aside0 (firstL cc = ([], 0, 21)))
    (hno : l.length < 1 ∨ 8192 < l.length) (hz : l.length ≤ 0) :
    Calls Try.prog 4 #[.slice A0 l.length c0, .slice A1 more.length c1, .slice A2 cc.length c2] w fun e w' => e = .returned (.bool true) ∧ Below w.heap.size w w' := by
  have hs := Aside0.mk (sizeI_no (l.length : Int) (by omega))
  have e1 : decide (1 ≤ (l.length : Int)) = false := decide_eq_false (by omega)
  have e1' : decide (1 ≤ l.length) = false := decide_eq_false (by omega)
  clear hz
  go_enter Try.func4, Try.ntmps4
  go_wp2_with (first
    | (go_at_call 15; (with_reducible refine (head_n _).mono ?_); rintro e w1 ⟨rfl, B1⟩)
    | (go_at_call 18; (with_reducible refine (put_no_n A0 c0 l.length l rfl hno _ hc0 (HR0.out.below B1.out)).mono ?_); rintro e w2 ⟨A3, c3, rfl, O2, B2⟩; have D2 := Aside0.mk (below_then B1.out B1.out.size B2.out))
    | (go_at_call 20; (with_reducible refine (size_n _ 0 hs.out _).mono ?_); rintro e w3 ⟨rfl, rfl⟩)
    | (go_at_call 16; (with_reducible refine (first_n A2 c2 cc.length cc [] 0 21 HG.out rfl hB2 _ hc2 (HR2.out.below D2.out)).mono ?_); rintro e w6 ⟨A6, c6, rfl, hc6, O6, R6, B6⟩; have D6 := Aside0.mk (below_then D2.out D2.out.size B6.out)))
  go_ret
  exact ⟨rfl, D6.out⟩

set_option maxHeartbeats 8000000 in
set_option maxRecDepth 100000 in
theorem back_zero_bad (A0 A1 A2 : Option Addr) (c0 c1 c2 : Nat) (l more cc : List Int) (w : World) (hB0 : IsBytes l) (hB1 : IsBytes more) (hB2 : IsBytes cc) (hc0 : l.length ≤ c0) (hc1 : more.length ≤ c1) (hc2 : cc.length ≤ c2)
    (hl0 : l.length ≤ 140737488351232) (hl1 : more.length ≤ 140737488351232) (hl2 : cc.length ≤ 140737488351232) (HR0 : Aside0 (Rd w A0 l)) (HR1 : Aside0 (Rd w A1 more)) (HR2 : Aside0 (Rd w A2 cc))
    (hbg : l.length + more.length + cc.length ≤ 30000) (d1 : decide (30000 < (l.length : Int) + (more.length : Int) + (cc.length : Int)) = false)  (HG : Aside0 (firstL cc = ([], 0, 22)))
    (hno : l.length < 1 ∨ 8192 < l.length) (hz : l.length ≤ 0) :
    Calls Try.prog 4 #[.slice A0 l.length c0, .slice A1 more.length c1, .slice A2 cc.length c2] w fun e w' => e = .returned (.bool true) ∧ Below w.heap.size w w' := by
  have hs := Aside0.mk (sizeI_no (l.length : Int) (by omega))
  have e1 : decide (1 ≤ (l.length : Int)) = false := decide_eq_false (by omega)
  have e1' : decide (1 ≤ l.length) = false := decide_eq_false (by omega)
  clear hz
  go_enter Try.func4, Try.ntmps4
  go_wp2_with (first
    | (go_at_call 15; (with_reducible refine (head_n _).mono ?_); rintro e w1 ⟨rfl, B1⟩)
    | (go_at_call 18; (with_reducible refine (put_no_n A0 c0 l.length l rfl hno _ hc0 (HR0.out.below B1.out)).mono ?_); rintro e w2 ⟨A3, c3, rfl, O2, B2⟩; have D2 := Aside0.mk (below_then B1.out B1.out.size B2.out))
    | (go_at_call 20; (with_reducible refine (size_n _ 0 hs.out _).mono ?_); rintro e w3 ⟨rfl, rfl⟩)
    | (go_at_call 16; (with_reducible refine (first_n A2 c2 cc.length cc [] 0 22 HG.out rfl hB2 _ hc2 (HR2.out.below D2.out)).mono ?_); rintro e w6 ⟨A6, c6, rfl, hc6, O6, R6, B6⟩; have D6 := Aside0.mk (below_then D2.out D2.out.size B6.out)))
  go_ret
  exact ⟨rfl, D6.out⟩

set_option maxHeartbeats 8000000 in
set_option maxRecDepth 100000 in
theorem back_zero_spoilt (A0 A1 A2 : Option Addr) (c0 c1 c2 : Nat) (l more cc : List Int) (w : World) (hB0 : IsBytes l) (hB1 : IsBytes more) (hB2 : IsBytes cc) (hc0 : l.length ≤ c0) (hc1 : more.length ≤ c1) (hc2 : cc.length ≤ c2)
    (hl0 : l.length ≤ 140737488351232) (hl1 : more.length ≤ 140737488351232) (hl2 : cc.length ≤ 140737488351232) (HR0 : Aside0 (Rd w A0 l)) (HR1 : Aside0 (Rd w A1 more)) (HR2 : Aside0 (Rd w A2 cc))
    (hbg : l.length + more.length + cc.length ≤ 30000) (d1 : decide (30000 < (l.length : Int) + (more.length : Int) + (cc.length : Int)) = false) (k : Nat) (hk1 : 9 ≤ k) (hk2 : k ≤ cc.length) (HG : Aside0 (firstL cc = ([], (k : Int), 22)))
    (hno : l.length < 1 ∨ 8192 < l.length) (hz : l.length ≤ 0) :
    Calls Try.prog 4 #[.slice A0 l.length c0, .slice A1 more.length c1, .slice A2 cc.length c2] w fun e w' => e = .returned (.bool true) ∧ Below w.heap.size w w' := by
  have hs := Aside0.mk (sizeI_no (l.length : Int) (by omega))
  have e1 : decide (1 ≤ (l.length : Int)) = false := decide_eq_false (by omega)
  have e1' : decide (1 ≤ l.length) = false := decide_eq_false (by omega)
  clear hz
  have k0 : ((k : Int) == 0) = false := beq_eq_false_iff_ne.mpr (by omega)
  have k1 : decide (9 ≤ (k : Int)) = true := decide_eq_true (by omega)
  have k1' : decide (9 ≤ k) = true := decide_eq_true hk1
  have k2 : decide ((k : Int) ≤ (cc.length : Int)) = true := decide_eq_true (by omega)
  have k2' : decide (k ≤ cc.length) = true := decide_eq_true hk2
  go_enter Try.func4, Try.ntmps4
  go_wp2_with (first
    | (go_at_call 15; (with_reducible refine (head_n _).mono ?_); rintro e w1 ⟨rfl, B1⟩)
    | (go_at_call 18; (with_reducible refine (put_no_n A0 c0 l.length l rfl hno _ hc0 (HR0.out.below B1.out)).mono ?_); rintro e w2 ⟨A3, c3, rfl, O2, B2⟩; have D2 := Aside0.mk (below_then B1.out B1.out.size B2.out))
    | (go_at_call 20; (with_reducible refine (size_n _ 0 hs.out _).mono ?_); rintro e w3 ⟨rfl, rfl⟩)
    | (go_at_call 16; (with_reducible refine (first_n A2 c2 cc.length cc [] _ 22 HG.out rfl hB2 _ hc2 (HR2.out.below D2.out)).mono ?_); rintro e w6 ⟨A6, c6, rfl, hc6, O6, R6, B6⟩; have D6 := Aside0.mk (below_then D2.out D2.out.size B6.out)))
  go_ret
  exact ⟨rfl, D6.out⟩

set_option maxHeartbeats 8000000 in
set_option maxRecDepth 100000 in
theorem back_zero_fine (A0 A1 A2 : Option Addr) (c0 c1 c2 : Nat) (l more cc : List Int) (w : World) (hB0 : IsBytes l) (hB1 : IsBytes more) (hB2 : IsBytes cc) (hc0 : l.length ≤ c0) (hc1 : more.length ≤ c1) (hc2 : cc.length ≤ c2)
    (hl0 : l.length ≤ 140737488351232) (hl1 : more.length ≤ 140737488351232) (hl2 : cc.length ≤ 140737488351232) (HR0 : Aside0 (Rd w A0 l)) (HR1 : Aside0 (Rd w A1 more)) (HR2 : Aside0 (Rd w A2 cc))
    (hbg : l.length + more.length + cc.length ≤ 30000) (d1 : decide (30000 < (l.length : Int) + (more.length : Int) + (cc.length : Int)) = false) (xs G : List Int) (k : Nat) (hk1 : 9 ≤ k) (hk2 : k ≤ cc.length) (hx1 : 1 ≤ xs.length) (hx2 : xs.length ≤ 8192) (hF3 : frameOf xs = G) (hk3 : xs.length + 8 = k) (hF4 : cc.take k = G) (hxB : IsBytes xs) (HG : Aside0 (firstL cc = (xs, (k : Int), 0)))
    (hno : l.length < 1 ∨ 8192 < l.length) (hz : l.length ≤ 0) :
    Calls Try.prog 4 #[.slice A0 l.length c0, .slice A1 more.length c1, .slice A2 cc.length c2] w fun e w' => e = .returned (.bool true) ∧ Below w.heap.size w w' := by
  have hs := Aside0.mk (sizeI_no (l.length : Int) (by omega))
  have e1 : decide (1 ≤ (l.length : Int)) = false := decide_eq_false (by omega)
  have e1' : decide (1 ≤ l.length) = false := decide_eq_false (by omega)
  clear hz
  have k1 : decide (9 ≤ (k : Int)) = true := decide_eq_true (by omega)
  have k1' : decide (9 ≤ k) = true := decide_eq_true hk1
  have k2 : decide ((k : Int) ≤ (cc.length : Int)) = true := decide_eq_true (by omega)
  have k2' : decide (k ≤ cc.length) = true := decide_eq_true hk2
  obtain ⟨s3, HS3⟩ : ∃ s, Aside0 (strOfNums G = s) := ⟨_, ⟨rfl⟩⟩
  have HS4 := Aside0.mk (show strOfNums (cc.take k) = s3 by rw [hF4]; exact HS3.out)
  have hsl := take_run A2 c2 cc k hk2 hc2
  have HTK := Aside0.mk (show (cc.take k).length = k by rw [List.length_take]; omega)
  have HGl := Aside0.mk (show G.length = k by rw [← hF4]; exact HTK.out)
  have HF4 := Aside0.mk hF4
  have HF3 := Aside0.mk hF3
  have HK3 := Aside0.mk hk3
  clear hF4 hF3 hk3
  go_enter Try.func4, Try.ntmps4
  go_wp2_with (first
    | (go_at_call 15; (with_reducible refine (head_n _).mono ?_); rintro e w1 ⟨rfl, B1⟩)
    | (go_at_call 18; (with_reducible refine (put_no_n A0 c0 l.length l rfl hno _ hc0 (HR0.out.below B1.out)).mono ?_); rintro e w2 ⟨A3, c3, rfl, O2, B2⟩; have D2 := Aside0.mk (below_then B1.out B1.out.size B2.out))
    | (go_at_call 20; (with_reducible refine (size_n _ 0 hs.out _).mono ?_); rintro e w3 ⟨rfl, rfl⟩)
    | (go_at_call 16; (with_reducible refine (first_n A2 c2 cc.length cc xs _ 0 HG.out rfl hB2 _ hc2 (HR2.out.below D2.out)).mono ?_); rintro e w6 ⟨A6, c6, rfl, hc6, O6, R6, B6⟩; have D6 := Aside0.mk (below_then D2.out D2.out.size B6.out); have q6 := ((HR2.out.below D6.out).take k hk2).str c2 k HTK.out HS4.out))
  have D6d := Aside0.mk (below_drew1 D6.out)
  have R6d : Aside0 (Rd w6.drew A6 xs) := ⟨Kd.C_drew R6.out⟩
  clear D6 R6 q6
  have BIT : waitsOk back_T.2 back_B = true := by kernel_rfl
  refine start_ (n := 22) (S := fun w' => (convert 22 9 (.slice A2 k c2)).run Try.prog w' = .ok (.string s3) w') (ds := []) #[false, false, false, false, false, false, false, false, false, false, false, false, false, false, false, false, false, false, false, false, false, false] (by kernel_rfl) rfl rfl (((HR2.out.below D6d.out).take k hk2).str c2 k HTK.out HS4.out) (fun hHeld => ?_); refine with_tabW back_tab BIT (fun HT_ HW_ => ?_)
  generalize w6.drew = w6d at D6d R6d hHeld ⊢
  have q6 := hHeld
  refine pure_ (i := 0) (N := some 108) (v := ?_) (a' := ?_) #[true, false, false, false, false, false, false, false, false, false, false, false, false, false, false, false, false, false, false, false, false, false] rfl rfl (any_of HT_.out (by kernel_rfl)) (fun _ _ _ h => h) (Or.inl ⟨by rfl, ?_⟩) ?_ ?_
  rotate_left
  · intro w'
    go_simp
    with_reducible rfl
  rotate_left
  · simp only [Act.put, List.setIfInBounds_toArray, List.set_cons_zero, List.set_cons_succ, i64_w, i32_w]
    rfl
  refine pure_ (i := 1) (N := some 109) (v := ?_) (a' := ?_) #[true, true, false, false, false, false, false, false, false, false, false, false, false, false, false, false, false, false, false, false, false, false] rfl rfl (any_of HT_.out (by kernel_rfl)) (fun _ _ _ h => h) (Or.inl ⟨by rfl, ?_⟩) ?_ ?_
  rotate_left
  · intro w'
    go_simp
    with_reducible rfl
  rotate_left
  · simp only [Act.put, List.setIfInBounds_toArray, List.set_cons_zero, List.set_cons_succ, i64_w, i32_w]
    rfl
  refine pure_ (i := 2) (N := some 110) (v := ?_) (a' := ?_) #[true, true, true, false, false, false, false, false, false, false, false, false, false, false, false, false, false, false, false, false, false, false] rfl rfl (any_of HT_.out (by kernel_rfl)) (fun _ _ _ h => h) (Or.inl ⟨by rfl, ?_⟩) ?_ ?_
  rotate_left
  · intro w'
    go_simp
    with_reducible rfl
  rotate_left
  · simp only [Act.put, List.setIfInBounds_toArray, List.set_cons_zero, List.set_cons_succ, i64_w, i32_w]
    rfl
  refine pure_ (i := 3) (N := some 111) (v := ?_) (a' := ?_) #[true, true, true, true, false, false, false, false, false, false, false, false, false, false, false, false, false, false, false, false, false, false] rfl rfl (any_of HT_.out (by kernel_rfl)) (fun _ _ _ h => h) (Or.inl ⟨by rfl, ?_⟩) ?_ ?_
  rotate_left
  · intro w'
    go_simp
    with_reducible rfl
  rotate_left
  · simp only [Act.put, List.setIfInBounds_toArray, List.set_cons_zero, List.set_cons_succ, i64_w, i32_w]
    rfl
  refine pure_ (i := 4) (N := some 112) (v := ?_) (a' := ?_) #[true, true, true, true, true, false, false, false, false, false, false, false, false, false, false, false, false, false, false, false, false, false] rfl rfl (any_of HT_.out (by kernel_rfl)) (fun _ _ _ h => h) (Or.inl ⟨by rfl, ?_⟩) ?_ ?_
  rotate_left
  · intro w'
    go_simp
    with_reducible rfl
  rotate_left
  · simp only [Act.put, List.setIfInBounds_toArray, List.set_cons_zero, List.set_cons_succ, i64_w, i32_w]
    rfl
  refine pure_ (i := 5) (N := some 113) (v := ?_) (a' := ?_) #[true, true, true, true, true, true, false, false, false, false, false, false, false, false, false, false, false, false, false, false, false, false] rfl rfl (any_of HT_.out (by kernel_rfl)) (fun _ _ _ h => h) (Or.inl ⟨by rfl, ?_⟩) ?_ ?_
  rotate_left
  · intro w'
    go_simp
    with_reducible rfl
  rotate_left
  · simp only [Act.put, List.setIfInBounds_toArray, List.set_cons_zero, List.set_cons_succ, i64_w, i32_w]
    rfl
  refine pure_ (i := 6) (N := some 114) (v := ?_) (a' := ?_) #[true, true, true, true, true, true, true, false, false, false, false, false, false, false, false, false, false, false, false, false, false, false] rfl rfl (any_of HT_.out (by kernel_rfl)) (fun _ _ _ h => h) (Or.inl ⟨by rfl, ?_⟩) ?_ ?_
  rotate_left
  · intro w'
    go_simp
    with_reducible rfl
  rotate_left
  · simp only [Act.put, List.setIfInBounds_toArray, List.set_cons_zero, List.set_cons_succ, i64_w, i32_w]
    rfl
  refine pure_ (i := 7) (N := some 115) (v := ?_) (a' := ?_) #[true, true, true, true, true, true, true, true, false, false, false, false, false, false, false, false, false, false, false, false, false, false] rfl rfl (any_of HT_.out (by kernel_rfl)) (fun _ _ _ h => h) (Or.inl ⟨by rfl, ?_⟩) ?_ ?_
  rotate_left
  · intro w'
    go_simp
    with_reducible rfl
  rotate_left
  · simp only [Act.put, List.setIfInBounds_toArray, List.set_cons_zero, List.set_cons_succ, i64_w, i32_w]
    rfl
  refine pure_ (i := 8) (N := some 116) (v := ?_) (a' := ?_) #[true, true, true, true, true, true, true, true, true, false, false, false, false, false, false, false, false, false, false, false, false, false] rfl rfl (any_of HT_.out (by kernel_rfl)) (fun _ _ _ h => h) (Or.inl ⟨by rfl, ?_⟩) ?_ ?_
  rotate_left
  · intro w'
    go_simp
    with_reducible rfl
  rotate_left
  · simp only [Act.put, List.setIfInBounds_toArray, List.set_cons_zero, List.set_cons_succ, i64_w, i32_w]
    rfl
  refine pure_ (i := 9) (N := some 117) (v := ?_) (a' := ?_) #[true, true, true, true, true, true, true, true, true, true, false, false, false, false, false, false, false, false, false, false, false, false] rfl rfl (any_of HT_.out (by kernel_rfl)) (fun _ _ _ h => h) (Or.inl ⟨by rfl, ?_⟩) ?_ ?_
  rotate_left
  · intro w'
    go_simp
    with_reducible rfl
  rotate_left
  · simp only [Act.put, List.setIfInBounds_toArray, List.set_cons_zero, List.set_cons_succ, i64_w, i32_w]
    rfl
  refine pure_ (i := 10) (N := some 118) (v := ?_) (a' := ?_) #[true, true, true, true, true, true, true, true, true, true, true, false, false, false, false, false, false, false, false, false, false, false] rfl rfl (any_of HT_.out (by kernel_rfl)) (fun _ _ _ h => h) (Or.inl ⟨by rfl, ?_⟩) ?_ ?_
  rotate_left
  · intro w'
    go_simp
    with_reducible rfl
  rotate_left
  · simp only [Act.put, List.setIfInBounds_toArray, List.set_cons_zero, List.set_cons_succ, i64_w, i32_w]
    rfl
  refine pure_ (i := 11) (N := some 119) (v := ?_) (a' := ?_) #[true, true, true, true, true, true, true, true, true, true, true, true, false, false, false, false, false, false, false, false, false, false] rfl rfl (any_of HT_.out (by kernel_rfl)) (fun _ _ _ h => h) (Or.inl ⟨by rfl, ?_⟩) ?_ ?_
  rotate_left
  · intro w'
    go_simp
    with_reducible rfl
  rotate_left
  · simp only [Act.put, List.setIfInBounds_toArray, List.set_cons_zero, List.set_cons_succ, i64_w, i32_w]
    rfl
  refine pure_ (i := 12) (N := some 120) (v := ?_) (a' := ?_) #[true, true, true, true, true, true, true, true, true, true, true, true, true, false, false, false, false, false, false, false, false, false] rfl rfl (any_of HT_.out (by kernel_rfl)) (fun _ _ _ h => h) (Or.inl ⟨by rfl, ?_⟩) ?_ ?_
  rotate_left
  · intro w'
    go_simp
    with_reducible rfl
  rotate_left
  · simp only [Act.put, List.setIfInBounds_toArray, List.set_cons_zero, List.set_cons_succ, i64_w, i32_w]
    rfl
  refine pure_ (i := 15) (N := some 123) (v := ?_) (a' := ?_) #[true, true, true, true, true, true, true, true, true, true, true, true, true, false, false, true, false, false, false, false, false, false] rfl rfl (any_of HT_.out (by kernel_rfl)) (fun _ _ _ h => h) (Or.inl ⟨by rfl, ?_⟩) ?_ ?_
  rotate_left
  · intro w'
    go_simp
    with_reducible rfl
  rotate_left
  · simp only [Act.put, List.setIfInBounds_toArray, List.set_cons_zero, List.set_cons_succ, i64_w, i32_w]
    rfl
  refine pure_ (i := 16) (N := some 124) (v := ?_) (a' := ?_) #[true, true, true, true, true, true, true, true, true, true, true, true, true, false, false, true, true, false, false, false, false, false] rfl rfl (any_of HT_.out (by kernel_rfl)) (fun _ _ _ h => h) (Or.inl ⟨by rfl, ?_⟩) ?_ ?_
  rotate_left
  · intro w'
    go_simp
    with_reducible rfl
  rotate_left
  · simp only [Act.put, List.setIfInBounds_toArray, List.set_cons_zero, List.set_cons_succ, i64_w, i32_w]
    rfl
  refine pure_ (i := 17) (N := some 125) (v := ?_) (a' := ?_) #[true, true, true, true, true, true, true, true, true, true, true, true, true, false, false, true, true, true, false, false, false, false] rfl rfl (any_of HT_.out (by kernel_rfl)) (fun _ _ _ h => h) (Or.inl ⟨by rfl, ?_⟩) ?_ ?_
  rotate_left
  · intro w'
    go_simp
    with_reducible rfl
  rotate_left
  · simp only [Act.put, List.setIfInBounds_toArray, List.set_cons_zero, List.set_cons_succ, i64_w, i32_w]
    rfl
  refine take_ (i := 18) (N := some 126) (v := ?_) (a' := ?_) #[true, true, true, true, true, true, true, true, true, true, true, true, true, false, false, true, true, true, true, false, false, false] rfl rfl (take_ofW HT_.out HW_.out (by kernel_rfl)) (fun _ _ _ h => h) (Or.inl ⟨by rfl, ?_⟩) hHeld ?_ ?_
  rotate_left
  · intro w' s0
    go_simp
    with_reducible rfl
  rotate_left
  · simp only [Act.put, List.setIfInBounds_toArray, List.set_cons_zero, List.set_cons_succ, i64_w, i32_w]
    rfl
  refine one_ (i := 13) (N := some 121) #[true, true, true, true, true, true, true, true, true, true, true, true, true, true, false, true, true, true, true, false, false, false] rfl rfl (one_of HT_.out (by kernel_rfl)) (by decide) (fun K hK => ?_)
  refine goes_ Try.func18 (by kernel_rfl) rfl #[.slice A6 xs.length c6] (by rfl) rfl rfl (by (try simp only [List.map_toArray, List.map_cons, List.map_nil]); first | done | rfl) ?_
  with_reducible refine (put_yes_n A6 c6 xs.length k xs G rfl hx1 hx2 HF3.out HK3.out _ hc6 R6d.out).mono ?_
  rintro e w7 ⟨g7, c7, rfl, hc7, hg7, hl7, O7, R7, B7⟩
  refine ⟨_, rfl, ?_⟩
  have D7 := Aside0.mk (below_then D6d.out D6d.out.size B7.out)
  have q5 := R7.out.str c7 k HGl.out HS3.out
  have q7 := ((HR2.out.below D7.out).take k hk2).str c2 k HTK.out HS4.out
  refine hK.out _ _ q7 (fun hHeld => ?_)
  clear hK K
  refine norm_ (a' := ?_) ?_ ?_
  rotate_left
  · show Act.put _ (some 121) _ = _
    simp only [Act.put, List.setIfInBounds_toArray, List.set_cons_zero, List.set_cons_succ, i64_w, i32_w]
    rfl
  refine one_ (i := 14) (N := some 122) #[true, true, true, true, true, true, true, true, true, true, true, true, true, true, true, true, true, true, true, false, false, false] rfl rfl (one_of HT_.out (by kernel_rfl)) (by decide) (fun K hK => ?_)
  refine value_ (w1 := ?_) (v := ?_) (by rfl) rfl ?_ ?_
  rotate_left 2
  · go_simp
    constructor
    · rfl
    · rfl
  refine hK.out _ _ q7 (fun hHeld => ?_)
  clear hK K
  refine norm_ (a' := ?_) ?_ ?_
  rotate_left
  · show Act.put _ (some 122) _ = _
    simp only [Act.put, List.setIfInBounds_toArray, List.set_cons_zero, List.set_cons_succ, i64_w, i32_w]
    rfl
  refine pure_ (i := 19) (N := some 127) (v := ?_) (a' := ?_) #[true, true, true, true, true, true, true, true, true, true, true, true, true, true, true, true, true, true, true, true, false, false] rfl rfl (any_of HT_.out (by kernel_rfl)) (fun _ _ _ h => h) (Or.inl ⟨by rfl, ?_⟩) ?_ ?_
  rotate_left
  · intro w'
    go_simp
    with_reducible rfl
  rotate_left
  · simp only [Act.put, List.setIfInBounds_toArray, List.set_cons_zero, List.set_cons_succ, i64_w, i32_w]
    rfl
  refine pure_ (i := 20) (N := some 128) (v := ?_) (a' := ?_) #[true, true, true, true, true, true, true, true, true, true, true, true, true, true, true, true, true, true, true, true, true, false] rfl rfl (any_of HT_.out (by kernel_rfl)) (fun _ _ _ h => h) (Or.inl ⟨by rfl, ?_⟩) ?_ ?_
  rotate_left
  · intro w'
    go_simp
    with_reducible rfl
  rotate_left
  · simp only [Act.put, List.setIfInBounds_toArray, List.set_cons_zero, List.set_cons_succ, i64_w, i32_w]
    rfl
  refine pure_ (i := 21) (N := some 6) (v := ?_) (a' := ?_) #[true, true, true, true, true, true, true, true, true, true, true, true, true, true, true, true, true, true, true, true, true, true] rfl rfl (any_of HT_.out (by kernel_rfl)) (fun _ _ _ h => h) (Or.inl ⟨by rfl, ?_⟩) ?_ ?_
  rotate_left
  · intro w'
    go_simp
    with_reducible rfl
  rotate_left
  · simp only [Act.put, List.setIfInBounds_toArray, List.set_cons_zero, List.set_cons_succ, i64_w, i32_w]
    rfl
  refine done_ (done_of HT_.out (by kernel_rfl)) ?_
  try go_wp2
  go_ret
  exact ⟨rfl, D7.out⟩

set_option maxHeartbeats 8000000 in
set_option maxRecDepth 100000 in
theorem back_much_short (A0 A1 A2 : Option Addr) (c0 c1 c2 : Nat) (l more cc : List Int) (w : World) (hB0 : IsBytes l) (hB1 : IsBytes more) (hB2 : IsBytes cc) (hc0 : l.length ≤ c0) (hc1 : more.length ≤ c1) (hc2 : cc.length ≤ c2)
    (hl0 : l.length ≤ 140737488351232) (hl1 : more.length ≤ 140737488351232) (hl2 : cc.length ≤ 140737488351232) (HR0 : Aside0 (Rd w A0 l)) (HR1 : Aside0 (Rd w A1 more)) (HR2 : Aside0 (Rd w A2 cc))
    (hbg : l.length + more.length + cc.length ≤ 30000) (d1 : decide (30000 < (l.length : Int) + (more.length : Int) + (cc.length : Int)) = false)  (HG : Aside0 (firstL cc = ([], 0, 21)))
    (hno : l.length < 1 ∨ 8192 < l.length) (hz : 8192 < l.length) :
    Calls Try.prog 4 #[.slice A0 l.length c0, .slice A1 more.length c1, .slice A2 cc.length c2] w fun e w' => e = .returned (.bool true) ∧ Below w.heap.size w w' := by
  have hs := Aside0.mk (sizeI_no (l.length : Int) (by omega))
  have e1 : decide (1 ≤ (l.length : Int)) = true := decide_eq_true (by omega)
  have e1' : decide (1 ≤ l.length) = true := decide_eq_true (by omega)
  have e2 : decide ((l.length : Int) ≤ 8192) = false := decide_eq_false (by omega)
  have e2' : decide (l.length ≤ 8192) = false := decide_eq_false (by omega)
  clear hz
  go_enter Try.func4, Try.ntmps4
  go_wp2_with (first
    | (go_at_call 15; (with_reducible refine (head_n _).mono ?_); rintro e w1 ⟨rfl, B1⟩)
    | (go_at_call 18; (with_reducible refine (put_no_n A0 c0 l.length l rfl hno _ hc0 (HR0.out.below B1.out)).mono ?_); rintro e w2 ⟨A3, c3, rfl, O2, B2⟩; have D2 := Aside0.mk (below_then B1.out B1.out.size B2.out))
    | (go_at_call 20; (with_reducible refine (size_n _ 0 hs.out _).mono ?_); rintro e w3 ⟨rfl, rfl⟩)
    | (go_at_call 16; (with_reducible refine (first_n A2 c2 cc.length cc [] 0 21 HG.out rfl hB2 _ hc2 (HR2.out.below D2.out)).mono ?_); rintro e w6 ⟨A6, c6, rfl, hc6, O6, R6, B6⟩; have D6 := Aside0.mk (below_then D2.out D2.out.size B6.out)))
  go_ret
  exact ⟨rfl, D6.out⟩

set_option maxHeartbeats 8000000 in
set_option maxRecDepth 100000 in
theorem back_much_bad (A0 A1 A2 : Option Addr) (c0 c1 c2 : Nat) (l more cc : List Int) (w : World) (hB0 : IsBytes l) (hB1 : IsBytes more) (hB2 : IsBytes cc) (hc0 : l.length ≤ c0) (hc1 : more.length ≤ c1) (hc2 : cc.length ≤ c2)
    (hl0 : l.length ≤ 140737488351232) (hl1 : more.length ≤ 140737488351232) (hl2 : cc.length ≤ 140737488351232) (HR0 : Aside0 (Rd w A0 l)) (HR1 : Aside0 (Rd w A1 more)) (HR2 : Aside0 (Rd w A2 cc))
    (hbg : l.length + more.length + cc.length ≤ 30000) (d1 : decide (30000 < (l.length : Int) + (more.length : Int) + (cc.length : Int)) = false)  (HG : Aside0 (firstL cc = ([], 0, 22)))
    (hno : l.length < 1 ∨ 8192 < l.length) (hz : 8192 < l.length) :
    Calls Try.prog 4 #[.slice A0 l.length c0, .slice A1 more.length c1, .slice A2 cc.length c2] w fun e w' => e = .returned (.bool true) ∧ Below w.heap.size w w' := by
  have hs := Aside0.mk (sizeI_no (l.length : Int) (by omega))
  have e1 : decide (1 ≤ (l.length : Int)) = true := decide_eq_true (by omega)
  have e1' : decide (1 ≤ l.length) = true := decide_eq_true (by omega)
  have e2 : decide ((l.length : Int) ≤ 8192) = false := decide_eq_false (by omega)
  have e2' : decide (l.length ≤ 8192) = false := decide_eq_false (by omega)
  clear hz
  go_enter Try.func4, Try.ntmps4
  go_wp2_with (first
    | (go_at_call 15; (with_reducible refine (head_n _).mono ?_); rintro e w1 ⟨rfl, B1⟩)
    | (go_at_call 18; (with_reducible refine (put_no_n A0 c0 l.length l rfl hno _ hc0 (HR0.out.below B1.out)).mono ?_); rintro e w2 ⟨A3, c3, rfl, O2, B2⟩; have D2 := Aside0.mk (below_then B1.out B1.out.size B2.out))
    | (go_at_call 20; (with_reducible refine (size_n _ 0 hs.out _).mono ?_); rintro e w3 ⟨rfl, rfl⟩)
    | (go_at_call 16; (with_reducible refine (first_n A2 c2 cc.length cc [] 0 22 HG.out rfl hB2 _ hc2 (HR2.out.below D2.out)).mono ?_); rintro e w6 ⟨A6, c6, rfl, hc6, O6, R6, B6⟩; have D6 := Aside0.mk (below_then D2.out D2.out.size B6.out)))
  go_ret
  exact ⟨rfl, D6.out⟩

set_option maxHeartbeats 8000000 in
set_option maxRecDepth 100000 in
theorem back_much_spoilt (A0 A1 A2 : Option Addr) (c0 c1 c2 : Nat) (l more cc : List Int) (w : World) (hB0 : IsBytes l) (hB1 : IsBytes more) (hB2 : IsBytes cc) (hc0 : l.length ≤ c0) (hc1 : more.length ≤ c1) (hc2 : cc.length ≤ c2)
    (hl0 : l.length ≤ 140737488351232) (hl1 : more.length ≤ 140737488351232) (hl2 : cc.length ≤ 140737488351232) (HR0 : Aside0 (Rd w A0 l)) (HR1 : Aside0 (Rd w A1 more)) (HR2 : Aside0 (Rd w A2 cc))
    (hbg : l.length + more.length + cc.length ≤ 30000) (d1 : decide (30000 < (l.length : Int) + (more.length : Int) + (cc.length : Int)) = false) (k : Nat) (hk1 : 9 ≤ k) (hk2 : k ≤ cc.length) (HG : Aside0 (firstL cc = ([], (k : Int), 22)))
    (hno : l.length < 1 ∨ 8192 < l.length) (hz : 8192 < l.length) :
    Calls Try.prog 4 #[.slice A0 l.length c0, .slice A1 more.length c1, .slice A2 cc.length c2] w fun e w' => e = .returned (.bool true) ∧ Below w.heap.size w w' := by
  have hs := Aside0.mk (sizeI_no (l.length : Int) (by omega))
  have e1 : decide (1 ≤ (l.length : Int)) = true := decide_eq_true (by omega)
  have e1' : decide (1 ≤ l.length) = true := decide_eq_true (by omega)
  have e2 : decide ((l.length : Int) ≤ 8192) = false := decide_eq_false (by omega)
  have e2' : decide (l.length ≤ 8192) = false := decide_eq_false (by omega)
  clear hz
  have k0 : ((k : Int) == 0) = false := beq_eq_false_iff_ne.mpr (by omega)
  have k1 : decide (9 ≤ (k : Int)) = true := decide_eq_true (by omega)
  have k1' : decide (9 ≤ k) = true := decide_eq_true hk1
  have k2 : decide ((k : Int) ≤ (cc.length : Int)) = true := decide_eq_true (by omega)
  have k2' : decide (k ≤ cc.length) = true := decide_eq_true hk2
  go_enter Try.func4, Try.ntmps4
  go_wp2_with (first
    | (go_at_call 15; (with_reducible refine (head_n _).mono ?_); rintro e w1 ⟨rfl, B1⟩)
    | (go_at_call 18; (with_reducible refine (put_no_n A0 c0 l.length l rfl hno _ hc0 (HR0.out.below B1.out)).mono ?_); rintro e w2 ⟨A3, c3, rfl, O2, B2⟩; have D2 := Aside0.mk (below_then B1.out B1.out.size B2.out))
    | (go_at_call 20; (with_reducible refine (size_n _ 0 hs.out _).mono ?_); rintro e w3 ⟨rfl, rfl⟩)
    | (go_at_call 16; (with_reducible refine (first_n A2 c2 cc.length cc [] _ 22 HG.out rfl hB2 _ hc2 (HR2.out.below D2.out)).mono ?_); rintro e w6 ⟨A6, c6, rfl, hc6, O6, R6, B6⟩; have D6 := Aside0.mk (below_then D2.out D2.out.size B6.out)))
  go_ret
  exact ⟨rfl, D6.out⟩

set_option maxHeartbeats 8000000 in
set_option maxRecDepth 100000 in
theorem back_much_fine (A0 A1 A2 : Option Addr) (c0 c1 c2 : Nat) (l more cc : List Int) (w : World) (hB0 : IsBytes l) (hB1 : IsBytes more) (hB2 : IsBytes cc) (hc0 : l.length ≤ c0) (hc1 : more.length ≤ c1) (hc2 : cc.length ≤ c2)
    (hl0 : l.length ≤ 140737488351232) (hl1 : more.length ≤ 140737488351232) (hl2 : cc.length ≤ 140737488351232) (HR0 : Aside0 (Rd w A0 l)) (HR1 : Aside0 (Rd w A1 more)) (HR2 : Aside0 (Rd w A2 cc))
    (hbg : l.length + more.length + cc.length ≤ 30000) (d1 : decide (30000 < (l.length : Int) + (more.length : Int) + (cc.length : Int)) = false) (xs G : List Int) (k : Nat) (hk1 : 9 ≤ k) (hk2 : k ≤ cc.length) (hx1 : 1 ≤ xs.length) (hx2 : xs.length ≤ 8192) (hF3 : frameOf xs = G) (hk3 : xs.length + 8 = k) (hF4 : cc.take k = G) (hxB : IsBytes xs) (HG : Aside0 (firstL cc = (xs, (k : Int), 0)))
    (hno : l.length < 1 ∨ 8192 < l.length) (hz : 8192 < l.length) :
    Calls Try.prog 4 #[.slice A0 l.length c0, .slice A1 more.length c1, .slice A2 cc.length c2] w fun e w' => e = .returned (.bool true) ∧ Below w.heap.size w w' := by
  have hs := Aside0.mk (sizeI_no (l.length : Int) (by omega))
  have e1 : decide (1 ≤ (l.length : Int)) = true := decide_eq_true (by omega)
  have e1' : decide (1 ≤ l.length) = true := decide_eq_true (by omega)
  have e2 : decide ((l.length : Int) ≤ 8192) = false := decide_eq_false (by omega)
  have e2' : decide (l.length ≤ 8192) = false := decide_eq_false (by omega)
  clear hz
  have k1 : decide (9 ≤ (k : Int)) = true := decide_eq_true (by omega)
  have k1' : decide (9 ≤ k) = true := decide_eq_true hk1
  have k2 : decide ((k : Int) ≤ (cc.length : Int)) = true := decide_eq_true (by omega)
  have k2' : decide (k ≤ cc.length) = true := decide_eq_true hk2
  obtain ⟨s3, HS3⟩ : ∃ s, Aside0 (strOfNums G = s) := ⟨_, ⟨rfl⟩⟩
  have HS4 := Aside0.mk (show strOfNums (cc.take k) = s3 by rw [hF4]; exact HS3.out)
  have hsl := take_run A2 c2 cc k hk2 hc2
  have HTK := Aside0.mk (show (cc.take k).length = k by rw [List.length_take]; omega)
  have HGl := Aside0.mk (show G.length = k by rw [← hF4]; exact HTK.out)
  have HF4 := Aside0.mk hF4
  have HF3 := Aside0.mk hF3
  have HK3 := Aside0.mk hk3
  clear hF4 hF3 hk3
  go_enter Try.func4, Try.ntmps4
  go_wp2_with (first
    | (go_at_call 15; (with_reducible refine (head_n _).mono ?_); rintro e w1 ⟨rfl, B1⟩)
    | (go_at_call 18; (with_reducible refine (put_no_n A0 c0 l.length l rfl hno _ hc0 (HR0.out.below B1.out)).mono ?_); rintro e w2 ⟨A3, c3, rfl, O2, B2⟩; have D2 := Aside0.mk (below_then B1.out B1.out.size B2.out))
    | (go_at_call 20; (with_reducible refine (size_n _ 0 hs.out _).mono ?_); rintro e w3 ⟨rfl, rfl⟩)
    | (go_at_call 16; (with_reducible refine (first_n A2 c2 cc.length cc xs _ 0 HG.out rfl hB2 _ hc2 (HR2.out.below D2.out)).mono ?_); rintro e w6 ⟨A6, c6, rfl, hc6, O6, R6, B6⟩; have D6 := Aside0.mk (below_then D2.out D2.out.size B6.out); have q6 := ((HR2.out.below D6.out).take k hk2).str c2 k HTK.out HS4.out))
  have D6d := Aside0.mk (below_drew1 D6.out)
  have R6d : Aside0 (Rd w6.drew A6 xs) := ⟨Kd.C_drew R6.out⟩
  clear D6 R6 q6
  have BIT : waitsOk back_T.2 back_B = true := by kernel_rfl
  refine start_ (n := 22) (S := fun w' => (convert 22 9 (.slice A2 k c2)).run Try.prog w' = .ok (.string s3) w') (ds := []) #[false, false, false, false, false, false, false, false, false, false, false, false, false, false, false, false, false, false, false, false, false, false] (by kernel_rfl) rfl rfl (((HR2.out.below D6d.out).take k hk2).str c2 k HTK.out HS4.out) (fun hHeld => ?_); refine with_tabW back_tab BIT (fun HT_ HW_ => ?_)
  generalize w6.drew = w6d at D6d R6d hHeld ⊢
  have q6 := hHeld
  refine pure_ (i := 0) (N := some 108) (v := ?_) (a' := ?_) #[true, false, false, false, false, false, false, false, false, false, false, false, false, false, false, false, false, false, false, false, false, false] rfl rfl (any_of HT_.out (by kernel_rfl)) (fun _ _ _ h => h) (Or.inl ⟨by rfl, ?_⟩) ?_ ?_
  rotate_left
  · intro w'
    go_simp
    with_reducible rfl
  rotate_left
  · simp only [Act.put, List.setIfInBounds_toArray, List.set_cons_zero, List.set_cons_succ, i64_w, i32_w]
    rfl
  refine pure_ (i := 1) (N := some 109) (v := ?_) (a' := ?_) #[true, true, false, false, false, false, false, false, false, false, false, false, false, false, false, false, false, false, false, false, false, false] rfl rfl (any_of HT_.out (by kernel_rfl)) (fun _ _ _ h => h) (Or.inl ⟨by rfl, ?_⟩) ?_ ?_
  rotate_left
  · intro w'
    go_simp
    with_reducible rfl
  rotate_left
  · simp only [Act.put, List.setIfInBounds_toArray, List.set_cons_zero, List.set_cons_succ, i64_w, i32_w]
    rfl
  refine pure_ (i := 2) (N := some 110) (v := ?_) (a' := ?_) #[true, true, true, false, false, false, false, false, false, false, false, false, false, false, false, false, false, false, false, false, false, false] rfl rfl (any_of HT_.out (by kernel_rfl)) (fun _ _ _ h => h) (Or.inl ⟨by rfl, ?_⟩) ?_ ?_
  rotate_left
  · intro w'
    go_simp
    with_reducible rfl
  rotate_left
  · simp only [Act.put, List.setIfInBounds_toArray, List.set_cons_zero, List.set_cons_succ, i64_w, i32_w]
    rfl
  refine pure_ (i := 3) (N := some 111) (v := ?_) (a' := ?_) #[true, true, true, true, false, false, false, false, false, false, false, false, false, false, false, false, false, false, false, false, false, false] rfl rfl (any_of HT_.out (by kernel_rfl)) (fun _ _ _ h => h) (Or.inl ⟨by rfl, ?_⟩) ?_ ?_
  rotate_left
  · intro w'
    go_simp
    with_reducible rfl
  rotate_left
  · simp only [Act.put, List.setIfInBounds_toArray, List.set_cons_zero, List.set_cons_succ, i64_w, i32_w]
    rfl
  refine pure_ (i := 4) (N := some 112) (v := ?_) (a' := ?_) #[true, true, true, true, true, false, false, false, false, false, false, false, false, false, false, false, false, false, false, false, false, false] rfl rfl (any_of HT_.out (by kernel_rfl)) (fun _ _ _ h => h) (Or.inl ⟨by rfl, ?_⟩) ?_ ?_
  rotate_left
  · intro w'
    go_simp
    with_reducible rfl
  rotate_left
  · simp only [Act.put, List.setIfInBounds_toArray, List.set_cons_zero, List.set_cons_succ, i64_w, i32_w]
    rfl
  refine pure_ (i := 5) (N := some 113) (v := ?_) (a' := ?_) #[true, true, true, true, true, true, false, false, false, false, false, false, false, false, false, false, false, false, false, false, false, false] rfl rfl (any_of HT_.out (by kernel_rfl)) (fun _ _ _ h => h) (Or.inl ⟨by rfl, ?_⟩) ?_ ?_
  rotate_left
  · intro w'
    go_simp
    with_reducible rfl
  rotate_left
  · simp only [Act.put, List.setIfInBounds_toArray, List.set_cons_zero, List.set_cons_succ, i64_w, i32_w]
    rfl
  refine pure_ (i := 6) (N := some 114) (v := ?_) (a' := ?_) #[true, true, true, true, true, true, true, false, false, false, false, false, false, false, false, false, false, false, false, false, false, false] rfl rfl (any_of HT_.out (by kernel_rfl)) (fun _ _ _ h => h) (Or.inl ⟨by rfl, ?_⟩) ?_ ?_
  rotate_left
  · intro w'
    go_simp
    with_reducible rfl
  rotate_left
  · simp only [Act.put, List.setIfInBounds_toArray, List.set_cons_zero, List.set_cons_succ, i64_w, i32_w]
    rfl
  refine pure_ (i := 7) (N := some 115) (v := ?_) (a' := ?_) #[true, true, true, true, true, true, true, true, false, false, false, false, false, false, false, false, false, false, false, false, false, false] rfl rfl (any_of HT_.out (by kernel_rfl)) (fun _ _ _ h => h) (Or.inl ⟨by rfl, ?_⟩) ?_ ?_
  rotate_left
  · intro w'
    go_simp
    with_reducible rfl
  rotate_left
  · simp only [Act.put, List.setIfInBounds_toArray, List.set_cons_zero, List.set_cons_succ, i64_w, i32_w]
    rfl
  refine pure_ (i := 8) (N := some 116) (v := ?_) (a' := ?_) #[true, true, true, true, true, true, true, true, true, false, false, false, false, false, false, false, false, false, false, false, false, false] rfl rfl (any_of HT_.out (by kernel_rfl)) (fun _ _ _ h => h) (Or.inl ⟨by rfl, ?_⟩) ?_ ?_
  rotate_left
  · intro w'
    go_simp
    with_reducible rfl
  rotate_left
  · simp only [Act.put, List.setIfInBounds_toArray, List.set_cons_zero, List.set_cons_succ, i64_w, i32_w]
    rfl
  refine pure_ (i := 9) (N := some 117) (v := ?_) (a' := ?_) #[true, true, true, true, true, true, true, true, true, true, false, false, false, false, false, false, false, false, false, false, false, false] rfl rfl (any_of HT_.out (by kernel_rfl)) (fun _ _ _ h => h) (Or.inl ⟨by rfl, ?_⟩) ?_ ?_
  rotate_left
  · intro w'
    go_simp
    with_reducible rfl
  rotate_left
  · simp only [Act.put, List.setIfInBounds_toArray, List.set_cons_zero, List.set_cons_succ, i64_w, i32_w]
    rfl
  refine pure_ (i := 10) (N := some 118) (v := ?_) (a' := ?_) #[true, true, true, true, true, true, true, true, true, true, true, false, false, false, false, false, false, false, false, false, false, false] rfl rfl (any_of HT_.out (by kernel_rfl)) (fun _ _ _ h => h) (Or.inl ⟨by rfl, ?_⟩) ?_ ?_
  rotate_left
  · intro w'
    go_simp
    with_reducible rfl
  rotate_left
  · simp only [Act.put, List.setIfInBounds_toArray, List.set_cons_zero, List.set_cons_succ, i64_w, i32_w]
    rfl
  refine pure_ (i := 11) (N := some 119) (v := ?_) (a' := ?_) #[true, true, true, true, true, true, true, true, true, true, true, true, false, false, false, false, false, false, false, false, false, false] rfl rfl (any_of HT_.out (by kernel_rfl)) (fun _ _ _ h => h) (Or.inl ⟨by rfl, ?_⟩) ?_ ?_
  rotate_left
  · intro w'
    go_simp
    with_reducible rfl
  rotate_left
  · simp only [Act.put, List.setIfInBounds_toArray, List.set_cons_zero, List.set_cons_succ, i64_w, i32_w]
    rfl
  refine pure_ (i := 12) (N := some 120) (v := ?_) (a' := ?_) #[true, true, true, true, true, true, true, true, true, true, true, true, true, false, false, false, false, false, false, false, false, false] rfl rfl (any_of HT_.out (by kernel_rfl)) (fun _ _ _ h => h) (Or.inl ⟨by rfl, ?_⟩) ?_ ?_
  rotate_left
  · intro w'
    go_simp
    with_reducible rfl
  rotate_left
  · simp only [Act.put, List.setIfInBounds_toArray, List.set_cons_zero, List.set_cons_succ, i64_w, i32_w]
    rfl
  refine pure_ (i := 15) (N := some 123) (v := ?_) (a' := ?_) #[true, true, true, true, true, true, true, true, true, true, true, true, true, false, false, true, false, false, false, false, false, false] rfl rfl (any_of HT_.out (by kernel_rfl)) (fun _ _ _ h => h) (Or.inl ⟨by rfl, ?_⟩) ?_ ?_
  rotate_left
  · intro w'
    go_simp
    with_reducible rfl
  rotate_left
  · simp only [Act.put, List.setIfInBounds_toArray, List.set_cons_zero, List.set_cons_succ, i64_w, i32_w]
    rfl
  refine pure_ (i := 16) (N := some 124) (v := ?_) (a' := ?_) #[true, true, true, true, true, true, true, true, true, true, true, true, true, false, false, true, true, false, false, false, false, false] rfl rfl (any_of HT_.out (by kernel_rfl)) (fun _ _ _ h => h) (Or.inl ⟨by rfl, ?_⟩) ?_ ?_
  rotate_left
  · intro w'
    go_simp
    with_reducible rfl
  rotate_left
  · simp only [Act.put, List.setIfInBounds_toArray, List.set_cons_zero, List.set_cons_succ, i64_w, i32_w]
    rfl
  refine pure_ (i := 17) (N := some 125) (v := ?_) (a' := ?_) #[true, true, true, true, true, true, true, true, true, true, true, true, true, false, false, true, true, true, false, false, false, false] rfl rfl (any_of HT_.out (by kernel_rfl)) (fun _ _ _ h => h) (Or.inl ⟨by rfl, ?_⟩) ?_ ?_
  rotate_left
  · intro w'
    go_simp
    with_reducible rfl
  rotate_left
  · simp only [Act.put, List.setIfInBounds_toArray, List.set_cons_zero, List.set_cons_succ, i64_w, i32_w]
    rfl
  refine take_ (i := 18) (N := some 126) (v := ?_) (a' := ?_) #[true, true, true, true, true, true, true, true, true, true, true, true, true, false, false, true, true, true, true, false, false, false] rfl rfl (take_ofW HT_.out HW_.out (by kernel_rfl)) (fun _ _ _ h => h) (Or.inl ⟨by rfl, ?_⟩) hHeld ?_ ?_
  rotate_left
  · intro w' s0
    go_simp
    with_reducible rfl
  rotate_left
  · simp only [Act.put, List.setIfInBounds_toArray, List.set_cons_zero, List.set_cons_succ, i64_w, i32_w]
    rfl
  refine one_ (i := 13) (N := some 121) #[true, true, true, true, true, true, true, true, true, true, true, true, true, true, false, true, true, true, true, false, false, false] rfl rfl (one_of HT_.out (by kernel_rfl)) (by decide) (fun K hK => ?_)
  refine goes_ Try.func18 (by kernel_rfl) rfl #[.slice A6 xs.length c6] (by rfl) rfl rfl (by (try simp only [List.map_toArray, List.map_cons, List.map_nil]); first | done | rfl) ?_
  with_reducible refine (put_yes_n A6 c6 xs.length k xs G rfl hx1 hx2 HF3.out HK3.out _ hc6 R6d.out).mono ?_
  rintro e w7 ⟨g7, c7, rfl, hc7, hg7, hl7, O7, R7, B7⟩
  refine ⟨_, rfl, ?_⟩
  have D7 := Aside0.mk (below_then D6d.out D6d.out.size B7.out)
  have q5 := R7.out.str c7 k HGl.out HS3.out
  have q7 := ((HR2.out.below D7.out).take k hk2).str c2 k HTK.out HS4.out
  refine hK.out _ _ q7 (fun hHeld => ?_)
  clear hK K
  refine norm_ (a' := ?_) ?_ ?_
  rotate_left
  · show Act.put _ (some 121) _ = _
    simp only [Act.put, List.setIfInBounds_toArray, List.set_cons_zero, List.set_cons_succ, i64_w, i32_w]
    rfl
  refine one_ (i := 14) (N := some 122) #[true, true, true, true, true, true, true, true, true, true, true, true, true, true, true, true, true, true, true, false, false, false] rfl rfl (one_of HT_.out (by kernel_rfl)) (by decide) (fun K hK => ?_)
  refine value_ (w1 := ?_) (v := ?_) (by rfl) rfl ?_ ?_
  rotate_left 2
  · go_simp
    constructor
    · rfl
    · rfl
  refine hK.out _ _ q7 (fun hHeld => ?_)
  clear hK K
  refine norm_ (a' := ?_) ?_ ?_
  rotate_left
  · show Act.put _ (some 122) _ = _
    simp only [Act.put, List.setIfInBounds_toArray, List.set_cons_zero, List.set_cons_succ, i64_w, i32_w]
    rfl
  refine pure_ (i := 19) (N := some 127) (v := ?_) (a' := ?_) #[true, true, true, true, true, true, true, true, true, true, true, true, true, true, true, true, true, true, true, true, false, false] rfl rfl (any_of HT_.out (by kernel_rfl)) (fun _ _ _ h => h) (Or.inl ⟨by rfl, ?_⟩) ?_ ?_
  rotate_left
  · intro w'
    go_simp
    with_reducible rfl
  rotate_left
  · simp only [Act.put, List.setIfInBounds_toArray, List.set_cons_zero, List.set_cons_succ, i64_w, i32_w]
    rfl
  refine pure_ (i := 20) (N := some 128) (v := ?_) (a' := ?_) #[true, true, true, true, true, true, true, true, true, true, true, true, true, true, true, true, true, true, true, true, true, false] rfl rfl (any_of HT_.out (by kernel_rfl)) (fun _ _ _ h => h) (Or.inl ⟨by rfl, ?_⟩) ?_ ?_
  rotate_left
  · intro w'
    go_simp
    with_reducible rfl
  rotate_left
  · simp only [Act.put, List.setIfInBounds_toArray, List.set_cons_zero, List.set_cons_succ, i64_w, i32_w]
    rfl
  refine pure_ (i := 21) (N := some 6) (v := ?_) (a' := ?_) #[true, true, true, true, true, true, true, true, true, true, true, true, true, true, true, true, true, true, true, true, true, true] rfl rfl (any_of HT_.out (by kernel_rfl)) (fun _ _ _ h => h) (Or.inl ⟨by rfl, ?_⟩) ?_ ?_
  rotate_left
  · intro w'
    go_simp
    with_reducible rfl
  rotate_left
  · simp only [Act.put, List.setIfInBounds_toArray, List.set_cons_zero, List.set_cons_succ, i64_w, i32_w]
    rfl
  refine done_ (done_of HT_.out (by kernel_rfl)) ?_
  try go_wp2
  go_ret
  exact ⟨rfl, D7.out⟩

set_option maxHeartbeats 8000000 in
set_option maxRecDepth 100000 in
theorem back_ok_short (A0 A1 A2 : Option Addr) (c0 c1 c2 : Nat) (l more cc : List Int) (w : World) (hB0 : IsBytes l) (hB1 : IsBytes more) (hB2 : IsBytes cc) (hc0 : l.length ≤ c0) (hc1 : more.length ≤ c1) (hc2 : cc.length ≤ c2)
    (hl0 : l.length ≤ 140737488351232) (hl1 : more.length ≤ 140737488351232) (hl2 : cc.length ≤ 140737488351232) (HR0 : Aside0 (Rd w A0 l)) (HR1 : Aside0 (Rd w A1 more)) (HR2 : Aside0 (Rd w A2 cc))
    (hbg : l.length + more.length + cc.length ≤ 30000) (d1 : decide (30000 < (l.length : Int) + (more.length : Int) + (cc.length : Int)) = false)  (HG : Aside0 (firstL cc = ([], 0, 21)))
    (hno : 1 ≤ l.length) (hn2 : l.length ≤ 8192) :
    Calls Try.prog 4 #[.slice A0 l.length c0, .slice A1 more.length c1, .slice A2 cc.length c2] w fun e w' => e = .returned (.bool true) ∧ Below w.heap.size w w' := by
  obtain ⟨F, HF⟩ : ∃ F, Aside0 (frameOf l = F) := ⟨_, ⟨rfl⟩⟩
  obtain ⟨m, HM⟩ : ∃ m, Aside0 (l.length + 8 = m) := ⟨_, ⟨rfl⟩⟩
  obtain ⟨m2, HM2⟩ : ∃ m2, Aside0 ((F ++ more).length = m2) := ⟨_, ⟨rfl⟩⟩
  have h1 : 1 ≤ l.length := hno
  have h2 : l.length ≤ 8192 := hn2
  have hm1 : 9 ≤ m := by have := HM.out; omega
  have hm2 : m ≤ 8200 := by have := HM.out; omega
  have hm0 : decide (0 < (m : Int)) = true := decide_eq_true (by omega)
  have hm0' : decide (0 < m) = true := decide_eq_true (by omega)
  have hFl : F.length = m := by rw [← HF.out, frame_len]; exact HM.out
  have hm3 : m2 = m + more.length := by rw [← HM2.out, List.length_append, hFl]
  have hm4 : 9 ≤ m2 := by omega
  have HFl := Aside0.mk hFl
  have hk8 : ((l.length : Int) + 8 == (m : Int)) = true := beq_iff_eq.mpr (by have := HM.out; omega)
  have hk9 : ((l.length : Int) + 8 != (m : Int)) = false := bne_eq_false_iff_eq.mpr (by have := HM.out; omega)
  have HFB1 := Aside0.mk (show IsBytes (F ++ more) by rw [← HF.out]; exact (frame_bytes l hB0 h2).append hB1)
  have HG1 := Aside0.mk (show firstL (F ++ more) = (l, (l.length : Int) + 8, 0) by rw [← HF.out]; exact first_frame l more h1 h2)
  obtain ⟨s1, HS1⟩ : ∃ s, Aside0 (strOfNums l = s) := ⟨_, ⟨rfl⟩⟩
  have hs := Aside0.mk (show sizeI (l.length : Int) = (m : Int) by rw [sizeI_of _ (by omega) (by omega)]; have := HM.out; omega)
  have e1 : decide (1 ≤ (l.length : Int)) = true := decide_eq_true (by omega)
  have e1' : decide (1 ≤ l.length) = true := decide_eq_true (by omega)
  have e2 : decide ((l.length : Int) ≤ 8192) = true := decide_eq_true (by omega)
  have e2' : decide (l.length ≤ 8192) = true := decide_eq_true h2
  clear hFl hm3
  go_enter Try.func4, Try.ntmps4
  go_wp2_with (first
    | (go_at_call 15; (with_reducible refine (head_n _).mono ?_); rintro e w1 ⟨rfl, B1⟩)
    | (go_at_call 18; (with_reducible refine (put_yes_n A0 c0 l.length m l F rfl h1 h2 HF.out HM.out _ hc0 (HR0.out.below B1.out)).mono ?_); rintro e w2 ⟨g2, cp, rfl, hcp, hg2, hl2', O2, R2, B2⟩; have D2 := Aside0.mk (below_then B1.out B1.out.size B2.out); have R2' := Aside0.mk (row_len R2.out HFl.out))
    | (go_at_call 20; (with_reducible refine (size_n _ (m : Int) hs.out _).mono ?_); rintro e w3 ⟨rfl, rfl⟩)
    | (at_builtin; refine print_append_row (w0 := w) w.heap.size rfl (.tmp 52) (.tmp 53) 22 5 .u8 1 rfl Try.underlying22 info_u8 (by omega) (.slice (some ⟨w2.heap.size, 0, none⟩) 0 0) [] F _ m cp rfl rfl (own_lit w2 w.heap.size 5 .u8 [] D2.out.size (by simp)) (ints_of_C (Kd.C_alloc R2'.out _)) (below_alloc D2.out _) (below_alloc D2.out _).size (by simp; omega) ?_; intro v3 w3 hv3 hb3 hg3 ha3; rw [List.nil_append] at hv3; have O3 := Aside0.mk hv3; have D3 := Aside0.mk hb3; clear hv3 hb3 hg3 ha3)
    | (at_builtin; refine print_append_row (w0 := w) w.heap.size rfl (.tmp 54) (.tmp 55) 22 5 .u8 1 rfl Try.underlying22 info_u8 (by omega) v3 F more A1 more.length c1 rfl rfl O3.out (ints_of_C (HR1.out.below D3.out)) D3.out D3.out.size (by rw [HFl.out]; omega) ?_; intro v4 w4 hv4 hb4 hg4 ha4; obtain ⟨g4, c4, rfl, hc4, hg4a, hg4b, hC4⟩ := own_form m2 hv4 HM2.out (by omega); have R4 : Aside0 (Rd w4 (some ⟨g4, 0, none⟩) (F ++ more)) := ⟨hC4⟩; have D4 := Aside0.mk hb4; clear hv4 hb4 hg4 ha4 hC4)
    | (go_at_call 16; (with_reducible refine (first_n _ c4 m2 (F ++ more) l _ 0 HG1.out HM2.out HFB1.out _ hc4 R4.out).mono ?_); rintro e w5 ⟨A5, c5, rfl, hc5, O5, R5, B5⟩; have D5 := Aside0.mk (below_then D4.out D4.out.size B5.out); have q1 := R5.out.str c5 l.length rfl HS1.out; have q2 := (HR0.out.below D5.out).str c0 l.length rfl HS1.out)
    | (go_at_call 16; (with_reducible refine (first_n A2 c2 cc.length cc [] 0 21 HG.out rfl hB2 _ hc2 (HR2.out.below D5.out)).mono ?_); rintro e w6 ⟨A6, c6, rfl, hc6, O6, R6, B6⟩; have D6 := Aside0.mk (below_then D5.out D5.out.size B6.out)))
  go_ret
  exact ⟨rfl, D6.out⟩

set_option maxHeartbeats 8000000 in
set_option maxRecDepth 100000 in
theorem back_ok_bad (A0 A1 A2 : Option Addr) (c0 c1 c2 : Nat) (l more cc : List Int) (w : World) (hB0 : IsBytes l) (hB1 : IsBytes more) (hB2 : IsBytes cc) (hc0 : l.length ≤ c0) (hc1 : more.length ≤ c1) (hc2 : cc.length ≤ c2)
    (hl0 : l.length ≤ 140737488351232) (hl1 : more.length ≤ 140737488351232) (hl2 : cc.length ≤ 140737488351232) (HR0 : Aside0 (Rd w A0 l)) (HR1 : Aside0 (Rd w A1 more)) (HR2 : Aside0 (Rd w A2 cc))
    (hbg : l.length + more.length + cc.length ≤ 30000) (d1 : decide (30000 < (l.length : Int) + (more.length : Int) + (cc.length : Int)) = false)  (HG : Aside0 (firstL cc = ([], 0, 22)))
    (hno : 1 ≤ l.length) (hn2 : l.length ≤ 8192) :
    Calls Try.prog 4 #[.slice A0 l.length c0, .slice A1 more.length c1, .slice A2 cc.length c2] w fun e w' => e = .returned (.bool true) ∧ Below w.heap.size w w' := by
  obtain ⟨F, HF⟩ : ∃ F, Aside0 (frameOf l = F) := ⟨_, ⟨rfl⟩⟩
  obtain ⟨m, HM⟩ : ∃ m, Aside0 (l.length + 8 = m) := ⟨_, ⟨rfl⟩⟩
  obtain ⟨m2, HM2⟩ : ∃ m2, Aside0 ((F ++ more).length = m2) := ⟨_, ⟨rfl⟩⟩
  have h1 : 1 ≤ l.length := hno
  have h2 : l.length ≤ 8192 := hn2
  have hm1 : 9 ≤ m := by have := HM.out; omega
  have hm2 : m ≤ 8200 := by have := HM.out; omega
  have hm0 : decide (0 < (m : Int)) = true := decide_eq_true (by omega)
  have hm0' : decide (0 < m) = true := decide_eq_true (by omega)
  have hFl : F.length = m := by rw [← HF.out, frame_len]; exact HM.out
  have hm3 : m2 = m + more.length := by rw [← HM2.out, List.length_append, hFl]
  have hm4 : 9 ≤ m2 := by omega
  have HFl := Aside0.mk hFl
  have hk8 : ((l.length : Int) + 8 == (m : Int)) = true := beq_iff_eq.mpr (by have := HM.out; omega)
  have hk9 : ((l.length : Int) + 8 != (m : Int)) = false := bne_eq_false_iff_eq.mpr (by have := HM.out; omega)
  have HFB1 := Aside0.mk (show IsBytes (F ++ more) by rw [← HF.out]; exact (frame_bytes l hB0 h2).append hB1)
  have HG1 := Aside0.mk (show firstL (F ++ more) = (l, (l.length : Int) + 8, 0) by rw [← HF.out]; exact first_frame l more h1 h2)
  obtain ⟨s1, HS1⟩ : ∃ s, Aside0 (strOfNums l = s) := ⟨_, ⟨rfl⟩⟩
  have hs := Aside0.mk (show sizeI (l.length : Int) = (m : Int) by rw [sizeI_of _ (by omega) (by omega)]; have := HM.out; omega)
  have e1 : decide (1 ≤ (l.length : Int)) = true := decide_eq_true (by omega)
  have e1' : decide (1 ≤ l.length) = true := decide_eq_true (by omega)
  have e2 : decide ((l.length : Int) ≤ 8192) = true := decide_eq_true (by omega)
  have e2' : decide (l.length ≤ 8192) = true := decide_eq_true h2
  clear hFl hm3
  go_enter Try.func4, Try.ntmps4
  go_wp2_with (first
    | (go_at_call 15; (with_reducible refine (head_n _).mono ?_); rintro e w1 ⟨rfl, B1⟩)
    | (go_at_call 18; (with_reducible refine (put_yes_n A0 c0 l.length m l F rfl h1 h2 HF.out HM.out _ hc0 (HR0.out.below B1.out)).mono ?_); rintro e w2 ⟨g2, cp, rfl, hcp, hg2, hl2', O2, R2, B2⟩; have D2 := Aside0.mk (below_then B1.out B1.out.size B2.out); have R2' := Aside0.mk (row_len R2.out HFl.out))
    | (go_at_call 20; (with_reducible refine (size_n _ (m : Int) hs.out _).mono ?_); rintro e w3 ⟨rfl, rfl⟩)
    | (at_builtin; refine print_append_row (w0 := w) w.heap.size rfl (.tmp 52) (.tmp 53) 22 5 .u8 1 rfl Try.underlying22 info_u8 (by omega) (.slice (some ⟨w2.heap.size, 0, none⟩) 0 0) [] F _ m cp rfl rfl (own_lit w2 w.heap.size 5 .u8 [] D2.out.size (by simp)) (ints_of_C (Kd.C_alloc R2'.out _)) (below_alloc D2.out _) (below_alloc D2.out _).size (by simp; omega) ?_; intro v3 w3 hv3 hb3 hg3 ha3; rw [List.nil_append] at hv3; have O3 := Aside0.mk hv3; have D3 := Aside0.mk hb3; clear hv3 hb3 hg3 ha3)
    | (at_builtin; refine print_append_row (w0 := w) w.heap.size rfl (.tmp 54) (.tmp 55) 22 5 .u8 1 rfl Try.underlying22 info_u8 (by omega) v3 F more A1 more.length c1 rfl rfl O3.out (ints_of_C (HR1.out.below D3.out)) D3.out D3.out.size (by rw [HFl.out]; omega) ?_; intro v4 w4 hv4 hb4 hg4 ha4; obtain ⟨g4, c4, rfl, hc4, hg4a, hg4b, hC4⟩ := own_form m2 hv4 HM2.out (by omega); have R4 : Aside0 (Rd w4 (some ⟨g4, 0, none⟩) (F ++ more)) := ⟨hC4⟩; have D4 := Aside0.mk hb4; clear hv4 hb4 hg4 ha4 hC4)
    | (go_at_call 16; (with_reducible refine (first_n _ c4 m2 (F ++ more) l _ 0 HG1.out HM2.out HFB1.out _ hc4 R4.out).mono ?_); rintro e w5 ⟨A5, c5, rfl, hc5, O5, R5, B5⟩; have D5 := Aside0.mk (below_then D4.out D4.out.size B5.out); have q1 := R5.out.str c5 l.length rfl HS1.out; have q2 := (HR0.out.below D5.out).str c0 l.length rfl HS1.out)
    | (go_at_call 16; (with_reducible refine (first_n A2 c2 cc.length cc [] 0 22 HG.out rfl hB2 _ hc2 (HR2.out.below D5.out)).mono ?_); rintro e w6 ⟨A6, c6, rfl, hc6, O6, R6, B6⟩; have D6 := Aside0.mk (below_then D5.out D5.out.size B6.out)))
  go_ret
  exact ⟨rfl, D6.out⟩

set_option maxHeartbeats 8000000 in
set_option maxRecDepth 100000 in
theorem back_ok_spoilt (A0 A1 A2 : Option Addr) (c0 c1 c2 : Nat) (l more cc : List Int) (w : World) (hB0 : IsBytes l) (hB1 : IsBytes more) (hB2 : IsBytes cc) (hc0 : l.length ≤ c0) (hc1 : more.length ≤ c1) (hc2 : cc.length ≤ c2)
    (hl0 : l.length ≤ 140737488351232) (hl1 : more.length ≤ 140737488351232) (hl2 : cc.length ≤ 140737488351232) (HR0 : Aside0 (Rd w A0 l)) (HR1 : Aside0 (Rd w A1 more)) (HR2 : Aside0 (Rd w A2 cc))
    (hbg : l.length + more.length + cc.length ≤ 30000) (d1 : decide (30000 < (l.length : Int) + (more.length : Int) + (cc.length : Int)) = false) (k : Nat) (hk1 : 9 ≤ k) (hk2 : k ≤ cc.length) (HG : Aside0 (firstL cc = ([], (k : Int), 22)))
    (hno : 1 ≤ l.length) (hn2 : l.length ≤ 8192) :
    Calls Try.prog 4 #[.slice A0 l.length c0, .slice A1 more.length c1, .slice A2 cc.length c2] w fun e w' => e = .returned (.bool true) ∧ Below w.heap.size w w' := by
  obtain ⟨F, HF⟩ : ∃ F, Aside0 (frameOf l = F) := ⟨_, ⟨rfl⟩⟩
  obtain ⟨m, HM⟩ : ∃ m, Aside0 (l.length + 8 = m) := ⟨_, ⟨rfl⟩⟩
  obtain ⟨m2, HM2⟩ : ∃ m2, Aside0 ((F ++ more).length = m2) := ⟨_, ⟨rfl⟩⟩
  have h1 : 1 ≤ l.length := hno
  have h2 : l.length ≤ 8192 := hn2
  have hm1 : 9 ≤ m := by have := HM.out; omega
  have hm2 : m ≤ 8200 := by have := HM.out; omega
  have hm0 : decide (0 < (m : Int)) = true := decide_eq_true (by omega)
  have hm0' : decide (0 < m) = true := decide_eq_true (by omega)
  have hFl : F.length = m := by rw [← HF.out, frame_len]; exact HM.out
  have hm3 : m2 = m + more.length := by rw [← HM2.out, List.length_append, hFl]
  have hm4 : 9 ≤ m2 := by omega
  have HFl := Aside0.mk hFl
  have hk8 : ((l.length : Int) + 8 == (m : Int)) = true := beq_iff_eq.mpr (by have := HM.out; omega)
  have hk9 : ((l.length : Int) + 8 != (m : Int)) = false := bne_eq_false_iff_eq.mpr (by have := HM.out; omega)
  have HFB1 := Aside0.mk (show IsBytes (F ++ more) by rw [← HF.out]; exact (frame_bytes l hB0 h2).append hB1)
  have HG1 := Aside0.mk (show firstL (F ++ more) = (l, (l.length : Int) + 8, 0) by rw [← HF.out]; exact first_frame l more h1 h2)
  obtain ⟨s1, HS1⟩ : ∃ s, Aside0 (strOfNums l = s) := ⟨_, ⟨rfl⟩⟩
  have hs := Aside0.mk (show sizeI (l.length : Int) = (m : Int) by rw [sizeI_of _ (by omega) (by omega)]; have := HM.out; omega)
  have e1 : decide (1 ≤ (l.length : Int)) = true := decide_eq_true (by omega)
  have e1' : decide (1 ≤ l.length) = true := decide_eq_true (by omega)
  have e2 : decide ((l.length : Int) ≤ 8192) = true := decide_eq_true (by omega)
  have e2' : decide (l.length ≤ 8192) = true := decide_eq_true h2
  clear hFl hm3
  have k0 : ((k : Int) == 0) = false := beq_eq_false_iff_ne.mpr (by omega)
  have k1 : decide (9 ≤ (k : Int)) = true := decide_eq_true (by omega)
  have k1' : decide (9 ≤ k) = true := decide_eq_true hk1
  have k2 : decide ((k : Int) ≤ (cc.length : Int)) = true := decide_eq_true (by omega)
  have k2' : decide (k ≤ cc.length) = true := decide_eq_true hk2
  go_enter Try.func4, Try.ntmps4
  go_wp2_with (first
    | (go_at_call 15; (with_reducible refine (head_n _).mono ?_); rintro e w1 ⟨rfl, B1⟩)
    | (go_at_call 18; (with_reducible refine (put_yes_n A0 c0 l.length m l F rfl h1 h2 HF.out HM.out _ hc0 (HR0.out.below B1.out)).mono ?_); rintro e w2 ⟨g2, cp, rfl, hcp, hg2, hl2', O2, R2, B2⟩; have D2 := Aside0.mk (below_then B1.out B1.out.size B2.out); have R2' := Aside0.mk (row_len R2.out HFl.out))
    | (go_at_call 20; (with_reducible refine (size_n _ (m : Int) hs.out _).mono ?_); rintro e w3 ⟨rfl, rfl⟩)
    | (at_builtin; refine print_append_row (w0 := w) w.heap.size rfl (.tmp 52) (.tmp 53) 22 5 .u8 1 rfl Try.underlying22 info_u8 (by omega) (.slice (some ⟨w2.heap.size, 0, none⟩) 0 0) [] F _ m cp rfl rfl (own_lit w2 w.heap.size 5 .u8 [] D2.out.size (by simp)) (ints_of_C (Kd.C_alloc R2'.out _)) (below_alloc D2.out _) (below_alloc D2.out _).size (by simp; omega) ?_; intro v3 w3 hv3 hb3 hg3 ha3; rw [List.nil_append] at hv3; have O3 := Aside0.mk hv3; have D3 := Aside0.mk hb3; clear hv3 hb3 hg3 ha3)
    | (at_builtin; refine print_append_row (w0 := w) w.heap.size rfl (.tmp 54) (.tmp 55) 22 5 .u8 1 rfl Try.underlying22 info_u8 (by omega) v3 F more A1 more.length c1 rfl rfl O3.out (ints_of_C (HR1.out.below D3.out)) D3.out D3.out.size (by rw [HFl.out]; omega) ?_; intro v4 w4 hv4 hb4 hg4 ha4; obtain ⟨g4, c4, rfl, hc4, hg4a, hg4b, hC4⟩ := own_form m2 hv4 HM2.out (by omega); have R4 : Aside0 (Rd w4 (some ⟨g4, 0, none⟩) (F ++ more)) := ⟨hC4⟩; have D4 := Aside0.mk hb4; clear hv4 hb4 hg4 ha4 hC4)
    | (go_at_call 16; (with_reducible refine (first_n _ c4 m2 (F ++ more) l _ 0 HG1.out HM2.out HFB1.out _ hc4 R4.out).mono ?_); rintro e w5 ⟨A5, c5, rfl, hc5, O5, R5, B5⟩; have D5 := Aside0.mk (below_then D4.out D4.out.size B5.out); have q1 := R5.out.str c5 l.length rfl HS1.out; have q2 := (HR0.out.below D5.out).str c0 l.length rfl HS1.out)
    | (go_at_call 16; (with_reducible refine (first_n A2 c2 cc.length cc [] _ 22 HG.out rfl hB2 _ hc2 (HR2.out.below D5.out)).mono ?_); rintro e w6 ⟨A6, c6, rfl, hc6, O6, R6, B6⟩; have D6 := Aside0.mk (below_then D5.out D5.out.size B6.out)))
  go_ret
  exact ⟨rfl, D6.out⟩

set_option maxHeartbeats 8000000 in
set_option maxRecDepth 100000 in
theorem back_ok_fine (A0 A1 A2 : Option Addr) (c0 c1 c2 : Nat) (l more cc : List Int) (w : World) (hB0 : IsBytes l) (hB1 : IsBytes more) (hB2 : IsBytes cc) (hc0 : l.length ≤ c0) (hc1 : more.length ≤ c1) (hc2 : cc.length ≤ c2)
    (hl0 : l.length ≤ 140737488351232) (hl1 : more.length ≤ 140737488351232) (hl2 : cc.length ≤ 140737488351232) (HR0 : Aside0 (Rd w A0 l)) (HR1 : Aside0 (Rd w A1 more)) (HR2 : Aside0 (Rd w A2 cc))
    (hbg : l.length + more.length + cc.length ≤ 30000) (d1 : decide (30000 < (l.length : Int) + (more.length : Int) + (cc.length : Int)) = false) (xs G : List Int) (k : Nat) (hk1 : 9 ≤ k) (hk2 : k ≤ cc.length) (hx1 : 1 ≤ xs.length) (hx2 : xs.length ≤ 8192) (hF3 : frameOf xs = G) (hk3 : xs.length + 8 = k) (hF4 : cc.take k = G) (hxB : IsBytes xs) (HG : Aside0 (firstL cc = (xs, (k : Int), 0)))
    (hno : 1 ≤ l.length) (hn2 : l.length ≤ 8192) :
    Calls Try.prog 4 #[.slice A0 l.length c0, .slice A1 more.length c1, .slice A2 cc.length c2] w fun e w' => e = .returned (.bool true) ∧ Below w.heap.size w w' := by
  obtain ⟨F, HF⟩ : ∃ F, Aside0 (frameOf l = F) := ⟨_, ⟨rfl⟩⟩
  obtain ⟨m, HM⟩ : ∃ m, Aside0 (l.length + 8 = m) := ⟨_, ⟨rfl⟩⟩
  obtain ⟨m2, HM2⟩ : ∃ m2, Aside0 ((F ++ more).length = m2) := ⟨_, ⟨rfl⟩⟩
  have h1 : 1 ≤ l.length := hno
  have h2 : l.length ≤ 8192 := hn2
  have hm1 : 9 ≤ m := by have := HM.out; omega
  have hm2 : m ≤ 8200 := by have := HM.out; omega
  have hm0 : decide (0 < (m : Int)) = true := decide_eq_true (by omega)
  have hm0' : decide (0 < m) = true := decide_eq_true (by omega)
  have hFl : F.length = m := by rw [← HF.out, frame_len]; exact HM.out
  have hm3 : m2 = m + more.length := by rw [← HM2.out, List.length_append, hFl]
  have hm4 : 9 ≤ m2 := by omega
  have HFl := Aside0.mk hFl
  have hk8 : ((l.length : Int) + 8 == (m : Int)) = true := beq_iff_eq.mpr (by have := HM.out; omega)
  have hk9 : ((l.length : Int) + 8 != (m : Int)) = false := bne_eq_false_iff_eq.mpr (by have := HM.out; omega)
  have HFB1 := Aside0.mk (show IsBytes (F ++ more) by rw [← HF.out]; exact (frame_bytes l hB0 h2).append hB1)
  have HG1 := Aside0.mk (show firstL (F ++ more) = (l, (l.length : Int) + 8, 0) by rw [← HF.out]; exact first_frame l more h1 h2)
  obtain ⟨s1, HS1⟩ : ∃ s, Aside0 (strOfNums l = s) := ⟨_, ⟨rfl⟩⟩
  have hs := Aside0.mk (show sizeI (l.length : Int) = (m : Int) by rw [sizeI_of _ (by omega) (by omega)]; have := HM.out; omega)
  have e1 : decide (1 ≤ (l.length : Int)) = true := decide_eq_true (by omega)
  have e1' : decide (1 ≤ l.length) = true := decide_eq_true (by omega)
  have e2 : decide ((l.length : Int) ≤ 8192) = true := decide_eq_true (by omega)
  have e2' : decide (l.length ≤ 8192) = true := decide_eq_true h2
  clear hFl hm3
  have k1 : decide (9 ≤ (k : Int)) = true := decide_eq_true (by omega)
  have k1' : decide (9 ≤ k) = true := decide_eq_true hk1
  have k2 : decide ((k : Int) ≤ (cc.length : Int)) = true := decide_eq_true (by omega)
  have k2' : decide (k ≤ cc.length) = true := decide_eq_true hk2
  obtain ⟨s3, HS3⟩ : ∃ s, Aside0 (strOfNums G = s) := ⟨_, ⟨rfl⟩⟩
  have HS4 := Aside0.mk (show strOfNums (cc.take k) = s3 by rw [hF4]; exact HS3.out)
  have hsl := take_run A2 c2 cc k hk2 hc2
  have HTK := Aside0.mk (show (cc.take k).length = k by rw [List.length_take]; omega)
  have HGl := Aside0.mk (show G.length = k by rw [← hF4]; exact HTK.out)
  have HF4 := Aside0.mk hF4
  have HF3 := Aside0.mk hF3
  have HK3 := Aside0.mk hk3
  clear hF4 hF3 hk3
  go_enter Try.func4, Try.ntmps4
  go_wp2_with (first
    | (go_at_call 15; (with_reducible refine (head_n _).mono ?_); rintro e w1 ⟨rfl, B1⟩)
    | (go_at_call 18; (with_reducible refine (put_yes_n A0 c0 l.length m l F rfl h1 h2 HF.out HM.out _ hc0 (HR0.out.below B1.out)).mono ?_); rintro e w2 ⟨g2, cp, rfl, hcp, hg2, hl2', O2, R2, B2⟩; have D2 := Aside0.mk (below_then B1.out B1.out.size B2.out); have R2' := Aside0.mk (row_len R2.out HFl.out))
    | (go_at_call 20; (with_reducible refine (size_n _ (m : Int) hs.out _).mono ?_); rintro e w3 ⟨rfl, rfl⟩)
    | (at_builtin; refine print_append_row (w0 := w) w.heap.size rfl (.tmp 52) (.tmp 53) 22 5 .u8 1 rfl Try.underlying22 info_u8 (by omega) (.slice (some ⟨w2.heap.size, 0, none⟩) 0 0) [] F _ m cp rfl rfl (own_lit w2 w.heap.size 5 .u8 [] D2.out.size (by simp)) (ints_of_C (Kd.C_alloc R2'.out _)) (below_alloc D2.out _) (below_alloc D2.out _).size (by simp; omega) ?_; intro v3 w3 hv3 hb3 hg3 ha3; rw [List.nil_append] at hv3; have O3 := Aside0.mk hv3; have D3 := Aside0.mk hb3; clear hv3 hb3 hg3 ha3)
    | (at_builtin; refine print_append_row (w0 := w) w.heap.size rfl (.tmp 54) (.tmp 55) 22 5 .u8 1 rfl Try.underlying22 info_u8 (by omega) v3 F more A1 more.length c1 rfl rfl O3.out (ints_of_C (HR1.out.below D3.out)) D3.out D3.out.size (by rw [HFl.out]; omega) ?_; intro v4 w4 hv4 hb4 hg4 ha4; obtain ⟨g4, c4, rfl, hc4, hg4a, hg4b, hC4⟩ := own_form m2 hv4 HM2.out (by omega); have R4 : Aside0 (Rd w4 (some ⟨g4, 0, none⟩) (F ++ more)) := ⟨hC4⟩; have D4 := Aside0.mk hb4; clear hv4 hb4 hg4 ha4 hC4)
    | (go_at_call 16; (with_reducible refine (first_n _ c4 m2 (F ++ more) l _ 0 HG1.out HM2.out HFB1.out _ hc4 R4.out).mono ?_); rintro e w5 ⟨A5, c5, rfl, hc5, O5, R5, B5⟩; have D5 := Aside0.mk (below_then D4.out D4.out.size B5.out); have q1 := R5.out.str c5 l.length rfl HS1.out; have q2 := (HR0.out.below D5.out).str c0 l.length rfl HS1.out)
    | (go_at_call 16; (with_reducible refine (first_n A2 c2 cc.length cc xs _ 0 HG.out rfl hB2 _ hc2 (HR2.out.below D5.out)).mono ?_); rintro e w6 ⟨A6, c6, rfl, hc6, O6, R6, B6⟩; have D6 := Aside0.mk (below_then D5.out D5.out.size B6.out); have q6 := ((HR2.out.below D6.out).take k hk2).str c2 k HTK.out HS4.out))
  have D6d := Aside0.mk (below_drew1 D6.out)
  have R6d : Aside0 (Rd w6.drew A6 xs) := ⟨Kd.C_drew R6.out⟩
  clear D6 R6 q6
  have BIT : waitsOk back_T.2 back_B = true := by kernel_rfl
  refine start_ (n := 22) (S := fun w' => (convert 22 9 (.slice A2 k c2)).run Try.prog w' = .ok (.string s3) w') (ds := []) #[false, false, false, false, false, false, false, false, false, false, false, false, false, false, false, false, false, false, false, false, false, false] (by kernel_rfl) rfl rfl (((HR2.out.below D6d.out).take k hk2).str c2 k HTK.out HS4.out) (fun hHeld => ?_); refine with_tabW back_tab BIT (fun HT_ HW_ => ?_)
  generalize w6.drew = w6d at D6d R6d hHeld ⊢
  have q6 := hHeld
  refine pure_ (i := 0) (N := some 108) (v := ?_) (a' := ?_) #[true, false, false, false, false, false, false, false, false, false, false, false, false, false, false, false, false, false, false, false, false, false] rfl rfl (any_of HT_.out (by kernel_rfl)) (fun _ _ _ h => h) (Or.inl ⟨by rfl, ?_⟩) ?_ ?_
  rotate_left
  · intro w'
    go_simp
    with_reducible rfl
  rotate_left
  · simp only [Act.put, List.setIfInBounds_toArray, List.set_cons_zero, List.set_cons_succ, i64_w, i32_w]
    rfl
  refine pure_ (i := 1) (N := some 109) (v := ?_) (a' := ?_) #[true, true, false, false, false, false, false, false, false, false, false, false, false, false, false, false, false, false, false, false, false, false] rfl rfl (any_of HT_.out (by kernel_rfl)) (fun _ _ _ h => h) (Or.inl ⟨by rfl, ?_⟩) ?_ ?_
  rotate_left
  · intro w'
    go_simp
    with_reducible rfl
  rotate_left
  · simp only [Act.put, List.setIfInBounds_toArray, List.set_cons_zero, List.set_cons_succ, i64_w, i32_w]
    rfl
  refine pure_ (i := 2) (N := some 110) (v := ?_) (a' := ?_) #[true, true, true, false, false, false, false, false, false, false, false, false, false, false, false, false, false, false, false, false, false, false] rfl rfl (any_of HT_.out (by kernel_rfl)) (fun _ _ _ h => h) (Or.inl ⟨by rfl, ?_⟩) ?_ ?_
  rotate_left
  · intro w'
    go_simp
    with_reducible rfl
  rotate_left
  · simp only [Act.put, List.setIfInBounds_toArray, List.set_cons_zero, List.set_cons_succ, i64_w, i32_w]
    rfl
  refine pure_ (i := 3) (N := some 111) (v := ?_) (a' := ?_) #[true, true, true, true, false, false, false, false, false, false, false, false, false, false, false, false, false, false, false, false, false, false] rfl rfl (any_of HT_.out (by kernel_rfl)) (fun _ _ _ h => h) (Or.inl ⟨by rfl, ?_⟩) ?_ ?_
  rotate_left
  · intro w'
    go_simp
    with_reducible rfl
  rotate_left
  · simp only [Act.put, List.setIfInBounds_toArray, List.set_cons_zero, List.set_cons_succ, i64_w, i32_w]
    rfl
  refine pure_ (i := 4) (N := some 112) (v := ?_) (a' := ?_) #[true, true, true, true, true, false, false, false, false, false, false, false, false, false, false, false, false, false, false, false, false, false] rfl rfl (any_of HT_.out (by kernel_rfl)) (fun _ _ _ h => h) (Or.inl ⟨by rfl, ?_⟩) ?_ ?_
  rotate_left
  · intro w'
    go_simp
    with_reducible rfl
  rotate_left
  · simp only [Act.put, List.setIfInBounds_toArray, List.set_cons_zero, List.set_cons_succ, i64_w, i32_w]
    rfl
  refine pure_ (i := 5) (N := some 113) (v := ?_) (a' := ?_) #[true, true, true, true, true, true, false, false, false, false, false, false, false, false, false, false, false, false, false, false, false, false] rfl rfl (any_of HT_.out (by kernel_rfl)) (fun _ _ _ h => h) (Or.inl ⟨by rfl, ?_⟩) ?_ ?_
  rotate_left
  · intro w'
    go_simp
    with_reducible rfl
  rotate_left
  · simp only [Act.put, List.setIfInBounds_toArray, List.set_cons_zero, List.set_cons_succ, i64_w, i32_w]
    rfl
  refine pure_ (i := 6) (N := some 114) (v := ?_) (a' := ?_) #[true, true, true, true, true, true, true, false, false, false, false, false, false, false, false, false, false, false, false, false, false, false] rfl rfl (any_of HT_.out (by kernel_rfl)) (fun _ _ _ h => h) (Or.inl ⟨by rfl, ?_⟩) ?_ ?_
  rotate_left
  · intro w'
    go_simp
    with_reducible rfl
  rotate_left
  · simp only [Act.put, List.setIfInBounds_toArray, List.set_cons_zero, List.set_cons_succ, i64_w, i32_w]
    rfl
  refine pure_ (i := 7) (N := some 115) (v := ?_) (a' := ?_) #[true, true, true, true, true, true, true, true, false, false, false, false, false, false, false, false, false, false, false, false, false, false] rfl rfl (any_of HT_.out (by kernel_rfl)) (fun _ _ _ h => h) (Or.inl ⟨by rfl, ?_⟩) ?_ ?_
  rotate_left
  · intro w'
    go_simp
    with_reducible rfl
  rotate_left
  · simp only [Act.put, List.setIfInBounds_toArray, List.set_cons_zero, List.set_cons_succ, i64_w, i32_w]
    rfl
  refine pure_ (i := 8) (N := some 116) (v := ?_) (a' := ?_) #[true, true, true, true, true, true, true, true, true, false, false, false, false, false, false, false, false, false, false, false, false, false] rfl rfl (any_of HT_.out (by kernel_rfl)) (fun _ _ _ h => h) (Or.inl ⟨by rfl, ?_⟩) ?_ ?_
  rotate_left
  · intro w'
    go_simp
    with_reducible rfl
  rotate_left
  · simp only [Act.put, List.setIfInBounds_toArray, List.set_cons_zero, List.set_cons_succ, i64_w, i32_w]
    rfl
  refine pure_ (i := 9) (N := some 117) (v := ?_) (a' := ?_) #[true, true, true, true, true, true, true, true, true, true, false, false, false, false, false, false, false, false, false, false, false, false] rfl rfl (any_of HT_.out (by kernel_rfl)) (fun _ _ _ h => h) (Or.inl ⟨by rfl, ?_⟩) ?_ ?_
  rotate_left
  · intro w'
    go_simp
    with_reducible rfl
  rotate_left
  · simp only [Act.put, List.setIfInBounds_toArray, List.set_cons_zero, List.set_cons_succ, i64_w, i32_w]
    rfl
  refine pure_ (i := 10) (N := some 118) (v := ?_) (a' := ?_) #[true, true, true, true, true, true, true, true, true, true, true, false, false, false, false, false, false, false, false, false, false, false] rfl rfl (any_of HT_.out (by kernel_rfl)) (fun _ _ _ h => h) (Or.inl ⟨by rfl, ?_⟩) ?_ ?_
  rotate_left
  · intro w'
    go_simp
    with_reducible rfl
  rotate_left
  · simp only [Act.put, List.setIfInBounds_toArray, List.set_cons_zero, List.set_cons_succ, i64_w, i32_w]
    rfl
  refine pure_ (i := 11) (N := some 119) (v := ?_) (a' := ?_) #[true, true, true, true, true, true, true, true, true, true, true, true, false, false, false, false, false, false, false, false, false, false] rfl rfl (any_of HT_.out (by kernel_rfl)) (fun _ _ _ h => h) (Or.inl ⟨by rfl, ?_⟩) ?_ ?_
  rotate_left
  · intro w'
    go_simp
    with_reducible rfl
  rotate_left
  · simp only [Act.put, List.setIfInBounds_toArray, List.set_cons_zero, List.set_cons_succ, i64_w, i32_w]
    rfl
  refine pure_ (i := 12) (N := some 120) (v := ?_) (a' := ?_) #[true, true, true, true, true, true, true, true, true, true, true, true, true, false, false, false, false, false, false, false, false, false] rfl rfl (any_of HT_.out (by kernel_rfl)) (fun _ _ _ h => h) (Or.inl ⟨by rfl, ?_⟩) ?_ ?_
  rotate_left
  · intro w'
    go_simp
    with_reducible rfl
  rotate_left
  · simp only [Act.put, List.setIfInBounds_toArray, List.set_cons_zero, List.set_cons_succ, i64_w, i32_w]
    rfl
  refine pure_ (i := 15) (N := some 123) (v := ?_) (a' := ?_) #[true, true, true, true, true, true, true, true, true, true, true, true, true, false, false, true, false, false, false, false, false, false] rfl rfl (any_of HT_.out (by kernel_rfl)) (fun _ _ _ h => h) (Or.inl ⟨by rfl, ?_⟩) ?_ ?_
  rotate_left
  · intro w'
    go_simp
    with_reducible rfl
  rotate_left
  · simp only [Act.put, List.setIfInBounds_toArray, List.set_cons_zero, List.set_cons_succ, i64_w, i32_w]
    rfl
  refine pure_ (i := 16) (N := some 124) (v := ?_) (a' := ?_) #[true, true, true, true, true, true, true, true, true, true, true, true, true, false, false, true, true, false, false, false, false, false] rfl rfl (any_of HT_.out (by kernel_rfl)) (fun _ _ _ h => h) (Or.inl ⟨by rfl, ?_⟩) ?_ ?_
  rotate_left
  · intro w'
    go_simp
    with_reducible rfl
  rotate_left
  · simp only [Act.put, List.setIfInBounds_toArray, List.set_cons_zero, List.set_cons_succ, i64_w, i32_w]
    rfl
  refine pure_ (i := 17) (N := some 125) (v := ?_) (a' := ?_) #[true, true, true, true, true, true, true, true, true, true, true, true, true, false, false, true, true, true, false, false, false, false] rfl rfl (any_of HT_.out (by kernel_rfl)) (fun _ _ _ h => h) (Or.inl ⟨by rfl, ?_⟩) ?_ ?_
  rotate_left
  · intro w'
    go_simp
    with_reducible rfl
  rotate_left
  · simp only [Act.put, List.setIfInBounds_toArray, List.set_cons_zero, List.set_cons_succ, i64_w, i32_w]
    rfl
  refine take_ (i := 18) (N := some 126) (v := ?_) (a' := ?_) #[true, true, true, true, true, true, true, true, true, true, true, true, true, false, false, true, true, true, true, false, false, false] rfl rfl (take_ofW HT_.out HW_.out (by kernel_rfl)) (fun _ _ _ h => h) (Or.inl ⟨by rfl, ?_⟩) hHeld ?_ ?_
  rotate_left
  · intro w' s0
    go_simp
    with_reducible rfl
  rotate_left
  · simp only [Act.put, List.setIfInBounds_toArray, List.set_cons_zero, List.set_cons_succ, i64_w, i32_w]
    rfl
  refine one_ (i := 13) (N := some 121) #[true, true, true, true, true, true, true, true, true, true, true, true, true, true, false, true, true, true, true, false, false, false] rfl rfl (one_of HT_.out (by kernel_rfl)) (by decide) (fun K hK => ?_)
  refine goes_ Try.func18 (by kernel_rfl) rfl #[.slice A6 xs.length c6] (by rfl) rfl rfl (by (try simp only [List.map_toArray, List.map_cons, List.map_nil]); first | done | rfl) ?_
  with_reducible refine (put_yes_n A6 c6 xs.length k xs G rfl hx1 hx2 HF3.out HK3.out _ hc6 R6d.out).mono ?_
  rintro e w7 ⟨g7, c7, rfl, hc7, hg7, hl7, O7, R7, B7⟩
  refine ⟨_, rfl, ?_⟩
  have D7 := Aside0.mk (below_then D6d.out D6d.out.size B7.out)
  have q5 := R7.out.str c7 k HGl.out HS3.out
  have q7 := ((HR2.out.below D7.out).take k hk2).str c2 k HTK.out HS4.out
  refine hK.out _ _ q7 (fun hHeld => ?_)
  clear hK K
  refine norm_ (a' := ?_) ?_ ?_
  rotate_left
  · show Act.put _ (some 121) _ = _
    simp only [Act.put, List.setIfInBounds_toArray, List.set_cons_zero, List.set_cons_succ, i64_w, i32_w]
    rfl
  refine one_ (i := 14) (N := some 122) #[true, true, true, true, true, true, true, true, true, true, true, true, true, true, true, true, true, true, true, false, false, false] rfl rfl (one_of HT_.out (by kernel_rfl)) (by decide) (fun K hK => ?_)
  refine value_ (w1 := ?_) (v := ?_) (by rfl) rfl ?_ ?_
  rotate_left 2
  · go_simp
    constructor
    · rfl
    · rfl
  refine hK.out _ _ q7 (fun hHeld => ?_)
  clear hK K
  refine norm_ (a' := ?_) ?_ ?_
  rotate_left
  · show Act.put _ (some 122) _ = _
    simp only [Act.put, List.setIfInBounds_toArray, List.set_cons_zero, List.set_cons_succ, i64_w, i32_w]
    rfl
  refine pure_ (i := 19) (N := some 127) (v := ?_) (a' := ?_) #[true, true, true, true, true, true, true, true, true, true, true, true, true, true, true, true, true, true, true, true, false, false] rfl rfl (any_of HT_.out (by kernel_rfl)) (fun _ _ _ h => h) (Or.inl ⟨by rfl, ?_⟩) ?_ ?_
  rotate_left
  · intro w'
    go_simp
    with_reducible rfl
  rotate_left
  · simp only [Act.put, List.setIfInBounds_toArray, List.set_cons_zero, List.set_cons_succ, i64_w, i32_w]
    rfl
  refine pure_ (i := 20) (N := some 128) (v := ?_) (a' := ?_) #[true, true, true, true, true, true, true, true, true, true, true, true, true, true, true, true, true, true, true, true, true, false] rfl rfl (any_of HT_.out (by kernel_rfl)) (fun _ _ _ h => h) (Or.inl ⟨by rfl, ?_⟩) ?_ ?_
  rotate_left
  · intro w'
    go_simp
    with_reducible rfl
  rotate_left
  · simp only [Act.put, List.setIfInBounds_toArray, List.set_cons_zero, List.set_cons_succ, i64_w, i32_w]
    rfl
  refine pure_ (i := 21) (N := some 6) (v := ?_) (a' := ?_) #[true, true, true, true, true, true, true, true, true, true, true, true, true, true, true, true, true, true, true, true, true, true] rfl rfl (any_of HT_.out (by kernel_rfl)) (fun _ _ _ h => h) (Or.inl ⟨by rfl, ?_⟩) ?_ ?_
  rotate_left
  · intro w'
    go_simp
    with_reducible rfl
  rotate_left
  · simp only [Act.put, List.setIfInBounds_toArray, List.set_cons_zero, List.set_cons_succ, i64_w, i32_w]
    rfl
  refine done_ (done_of HT_.out (by kernel_rfl)) ?_
  try go_wp2
  go_ret
  exact ⟨rfl, D7.out⟩

set_option maxHeartbeats 8000000 in
set_option maxRecDepth 100000 in
theorem back_calls (A0 A1 A2 : Option Addr) (c0 c1 c2 : Nat) (l more cc : List Int) (w : World) (hB0 : IsBytes l) (hB1 : IsBytes more) (hB2 : IsBytes cc) (hc0 : l.length ≤ c0) (hc1 : more.length ≤ c1) (hc2 : cc.length ≤ c2)
    (hl0 : l.length ≤ 140737488351232) (hl1 : more.length ≤ 140737488351232) (hl2 : cc.length ≤ 140737488351232) (hr0 : Rd w A0 l) (hr1 : Rd w A1 more) (hr2 : Rd w A2 cc) :
    Calls Try.prog 4 #[.slice A0 l.length c0, .slice A1 more.length c1, .slice A2 cc.length c2] w fun e w' => e = .returned (.bool true) ∧ Below w.heap.size w w' := by
  have HR0 := Aside0.mk hr0
  have HR1 := Aside0.mk hr1
  have HR2 := Aside0.mk hr2
  clear hr0 hr1 hr2
  by_cases hbig : 30000 < l.length + more.length + cc.length
  · have d1 : decide (30000 < (l.length : Int) + (more.length : Int) + (cc.length : Int)) = true := decide_eq_true (by omega)
    go_enter Try.func4, Try.ntmps4
    go_wp2_with (go_at_call 15; (with_reducible refine (head_n _).mono ?_); rintro e w1 ⟨rfl, B1⟩)
    go_ret
    exact ⟨rfl, B1.out⟩
  have d1 : decide (30000 < (l.length : Int) + (more.length : Int) + (cc.length : Int)) = false := decide_eq_false (by omega)
  obtain ⟨xs, k, f, hg, G⟩ := got_of cc hB2
  have HG := Aside0.mk hg
  by_cases hz : l.length ≤ 0
  · have hno : l.length < 1 ∨ 8192 < l.length := by omega
    cases G with
    | short => exact back_zero_short A0 A1 A2 c0 c1 c2 l more cc w hB0 hB1 hB2 hc0 hc1 hc2 hl0 hl1 hl2 HR0 HR1 HR2 (by omega) d1 HG hno hz
    | bad => exact back_zero_bad A0 A1 A2 c0 c1 c2 l more cc w hB0 hB1 hB2 hc0 hc1 hc2 hl0 hl1 hl2 HR0 HR1 HR2 (by omega) d1 HG hno hz
    | spoilt k p1 p2 => exact back_zero_spoilt A0 A1 A2 c0 c1 c2 l more cc w hB0 hB1 hB2 hc0 hc1 hc2 hl0 hl1 hl2 HR0 HR1 HR2 (by omega) d1 k p1 p2 HG hno hz
    | fine xs G k p1 p2 p3 p4 p5 p6 p7 p8 => exact back_zero_fine A0 A1 A2 c0 c1 c2 l more cc w hB0 hB1 hB2 hc0 hc1 hc2 hl0 hl1 hl2 HR0 HR1 HR2 (by omega) d1 xs G k p1 p2 p3 p4 p5 p6 p7 p8 HG hno hz
  by_cases hm : 8192 < l.length
  · have hno : l.length < 1 ∨ 8192 < l.length := by omega
    cases G with
    | short => exact back_much_short A0 A1 A2 c0 c1 c2 l more cc w hB0 hB1 hB2 hc0 hc1 hc2 hl0 hl1 hl2 HR0 HR1 HR2 (by omega) d1 HG hno hm
    | bad => exact back_much_bad A0 A1 A2 c0 c1 c2 l more cc w hB0 hB1 hB2 hc0 hc1 hc2 hl0 hl1 hl2 HR0 HR1 HR2 (by omega) d1 HG hno hm
    | spoilt k p1 p2 => exact back_much_spoilt A0 A1 A2 c0 c1 c2 l more cc w hB0 hB1 hB2 hc0 hc1 hc2 hl0 hl1 hl2 HR0 HR1 HR2 (by omega) d1 k p1 p2 HG hno hm
    | fine xs G k p1 p2 p3 p4 p5 p6 p7 p8 => exact back_much_fine A0 A1 A2 c0 c1 c2 l more cc w hB0 hB1 hB2 hc0 hc1 hc2 hl0 hl1 hl2 HR0 HR1 HR2 (by omega) d1 xs G k p1 p2 p3 p4 p5 p6 p7 p8 HG hno hm
  cases G with
  | short => exact back_ok_short A0 A1 A2 c0 c1 c2 l more cc w hB0 hB1 hB2 hc0 hc1 hc2 hl0 hl1 hl2 HR0 HR1 HR2 (by omega) d1 HG (by omega) (by omega)
  | bad => exact back_ok_bad A0 A1 A2 c0 c1 c2 l more cc w hB0 hB1 hB2 hc0 hc1 hc2 hl0 hl1 hl2 HR0 HR1 HR2 (by omega) d1 HG (by omega) (by omega)
  | spoilt k p1 p2 => exact back_ok_spoilt A0 A1 A2 c0 c1 c2 l more cc w hB0 hB1 hB2 hc0 hc1 hc2 hl0 hl1 hl2 HR0 HR1 HR2 (by omega) d1 k p1 p2 HG (by omega) (by omega)
  | fine xs G k p1 p2 p3 p4 p5 p6 p7 p8 => exact back_ok_fine A0 A1 A2 c0 c1 c2 l more cc w hB0 hB1 hB2 hc0 hc1 hc2 hl0 hl1 hl2 HR0 HR1 HR2 (by omega) d1 xs G k p1 p2 p3 p4 p5 p6 p7 p8 HG (by omega) (by omega)

theorem back_walk (a0 : Option Addr) (len0 cap0 : Nat) (z0 : List Int) (a1 : Option Addr) (len1 cap1 : Nat) (z1 : List Int) (a2 : Option Addr) (len2 cap2 : Nat) (z2 : List Int) (w : World)
    (w0 : Row8 w a0 len0 cap0 z0) (y0 : len0 * 1 ≤ 140737488351232) (w1 : Row8 w a1 len1 cap1 z1) (y1 : len1 * 1 ≤ 140737488351232) (w2 : Row8 w a2 len2 cap2 z2) (y2 : len2 * 1 ≤ 140737488351232) :
    Calls Try.prog 4 #[.slice a0 len0 cap0, .slice a1 len1 cap1, .slice a2 len2 cap2] w fun e w' => e = .returned (.bool true) ∧ Below w.heap.size w w' := by
  obtain ⟨l0, rfl, hr0, hb0, hc0⟩ := row8_of w0
  obtain ⟨l1, rfl, hr1, hb1, hc1⟩ := row8_of w1
  obtain ⟨l2, rfl, hr2, hb2, hc2⟩ := row8_of w2
  exact back_calls a0 a1 a2 cap0 cap1 cap2 l0 l1 l2 w hb0 hb1 hb2 hc0 hc1 hc2 (by omega) (by omega) (by omega) hr0 hr1 hr2
end Go.Proofs.Ytjednkbgdbalnaa.Lw
