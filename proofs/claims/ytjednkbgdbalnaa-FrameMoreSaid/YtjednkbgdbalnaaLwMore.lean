/- A body's length is told twice, frames of one length begin alike: the walk. -/
import Derived.Test.YtjednkbgdbalnaaLwBack
namespace Go.Proofs.Ytjednkbgdbalnaa.Lw
open Go.RowKit Go.Proofs.YtjednkbgdbalnaaW.PrintWords Go.Proofs.YtjednkbgdbalnaaW.PrintMore Go.Proofs.Ytjednkbgdbalnaa.Fr Go.Proofs.Ytjednkbgdbalnaa.Ext Go.Proofs.Ytjednkbgdbalnaa.Pure
attribute [local go_sem] min2_int min_two
set_option linter.unusedVariables false
set_option linter.unusedSimpArgs false

theorem str_eq {l m : List Int} (h : IsBytes l) (h' : IsBytes m) : strOfNums l = strOfNums m ↔ l = m := by
  constructor
  · intro e
    have e2 := congrArg (fun s : ByteArray => s.data.toList) e
    simp only [strOfNums_data] at e2
    have g : ∀ (l : List Int), IsBytes l → (l.map fun n => UInt8.ofNat n.toNat).map (fun b => (b.toNat : Int)) = l := by
      intro l h
      rw [List.map_map]
      conv => rhs; rw [← List.map_id l]
      refine List.map_congr_left fun x hx => ?_
      have := h x hx
      simp only [Function.comp, UInt8.toNat_ofNat', id]
      omega
    rw [← g l h, ← g m h', e2]
  · rintro rfl
    rfl
theorem Rd.cell {w : World} {g : Nat} {F : List Int} (h : Rd w (some ⟨g, 0, none⟩) F) (i : Nat) (v : Int) (hi : i < F.length) (e : rd F i = v) : w.cell? ⟨g, i, none⟩ = some (.int .u8 v) := by
  obtain ⟨ad, e1, c1⟩ := Kd.at_int h (i : Int) (by omega) (by omega)
  obtain rfl : (⟨g, 0, none⟩ : Addr) = ad := by injection e1
  rw [Int.toNat_natCast, e] at c1
  rcases Nat.eq_zero_or_pos i with rfl | h0
  · simpa [Go.Addr.add] using c1
  · simpa [Go.Addr.add, Nat.ne_of_gt h0] using c1
theorem Rd.drewN {w : World} {A : Option Addr} {l : List Int} (h : Rd w A l) (n : Nat) : Rd (w.drewN n) A l := Kd.C_drewN h n
theorem list_loop (s : ByteArray) (i : Nat) (r : List UInt8) : ByteArray.toList.loop s i r = r.reverse ++ s.data.toList.drop i := by
  unfold ByteArray.toList.loop
  split
  · rename_i h
    rw [list_loop s (i + 1)]
    have h' : i < s.data.toList.length := by simpa using h
    rw [List.drop_eq_getElem_cons h', List.reverse_cons, List.append_assoc]
    simp [ByteArray.get!, h]
  · rename_i h
    rw [List.drop_eq_nil_of_le (by simpa using h), List.append_nil]
termination_by s.size - i
theorem str_list {s t : ByteArray} (h : s.toList = t.toList) : s = t := by
  unfold ByteArray.toList at h
  rw [list_loop, list_loop] at h
  simp only [List.reverse_nil, List.nil_append, List.drop_zero] at h
  cases s
  cases t
  exact congrArg ByteArray.mk (Array.toList_inj.mp h)
theorem xor_255 (a : Int) (h0 : 0 ≤ a) (h1 : a < 256) : bits .xor .u8 a (255 - a) = 255 := by
  obtain ⟨n, rfl⟩ := Int.eq_ofNat_of_zero_le h0
  have : ∀ n : Fin 256, bits .xor .u8 ((n.val : Nat) : Int) (255 - ((n.val : Nat) : Int)) = 255 := by decide +kernel
  exact this ⟨n, by omega⟩
theorem frame_at (l : List Int) : rd (frameOf l) 0 = (l.length : Int) / 256 ∧ rd (frameOf l) 1 = (l.length : Int) % 256 ∧ rd (frameOf l) 2 = 255 - (l.length : Int) / 256 ∧ rd (frameOf l) 3 = 255 - (l.length : Int) % 256 := ⟨rfl, rfl, rfl, rfl⟩
theorem frame_take4 (l : List Int) : (frameOf l).take 4 = hdr l.length := rfl
theorem frame_inj (l m : List Int) (h1 : 1 ≤ l.length) (h2 : l.length ≤ 8192) (h3 : 1 ≤ m.length) (h4 : m.length ≤ 8192) : frameOf l = frameOf m ↔ l = m := by
  constructor
  · intro h
    have a := first_frame l [] h1 h2
    have b := first_frame m [] h3 h4
    rw [h, b] at a
    simp only [Prod.mk.injEq] at a
    exact a.1.symm
  · rintro rfl
    rfl

set_option maxHeartbeats 8000000 in
set_option maxRecDepth 100000 in
theorem more_no (A0 A1 : Option Addr) (c0 c1 n : Nat) (a b : List Int) (w : World) (hB0 : IsBytes a) (hB1 : IsBytes b) (hc0 : a.length ≤ c0) (hc1 : b.length ≤ c1) (hr0 : Rd w A0 a) (hr1 : Rd w A1 b)
    (hn : min a.length b.length = n) (hno : n < 1 ∨ 8192 < n) :
    Calls Try.prog 8 #[.slice A0 a.length c0, .slice A1 b.length c1] w fun e w' => e = .returned (.bool true) ∧ Below w.heap.size w w' := by
  have hm' : (if b.length < a.length then (b.length : Int) else (a.length : Int)) = (n : Int) := by split <;> omega
  have hm : (if (b.length : Int) < (a.length : Int) then (b.length : Int) else (a.length : Int)) = (n : Int) := by split <;> omega
  have hs0 := take_run A0 c0 a n (by omega) hc0
  have hs1 := take_run A1 c1 b n (by omega) hc1
  have HR0 := Aside0.mk (hr0.take n (by omega))
  have HR1 := Aside0.mk (hr1.take n (by omega))
  have HL0 := Aside0.mk (show (a.take n).length = n by rw [List.length_take]; omega)
  have HL1 := Aside0.mk (show (b.take n).length = n by rw [List.length_take]; omega)
  have hc0' : n ≤ c0 := by omega
  have hc1' : n ≤ c1 := by omega
  have hno0 : (a.take n).length < 1 ∨ 8192 < (a.take n).length := by rw [HL0.out]; exact hno
  have hno1 : (b.take n).length < 1 ∨ 8192 < (b.take n).length := by rw [HL1.out]; exact hno
  have e : decide (n = 0) = !(decide (8192 < n)) := by
    by_cases h : n = 0
    · rw [decide_eq_true h, decide_eq_false (by omega)]; rfl
    · rw [decide_eq_false h, decide_eq_true (by omega)]; rfl
  clear hr0 hr1 hn
  rcases Nat.eq_zero_or_pos n with h0 | h0
  · subst h0
    go_enter Try.func8, Try.ntmps8
    go_wp2_with (first
      | (go_at_call 15; (with_reducible refine (head_n _).mono ?_); rintro e w1 ⟨rfl, B1⟩)
      | (go_at_call 18; (with_reducible refine (put_no_n A0 c0 0 (a.take 0) HL0.out hno0 _ hc0' (HR0.out.below B1.out)).mono ?_); rintro e w2 ⟨A2, c2, rfl, O2, B2⟩; have D2 := Aside0.mk (below_then B1.out B1.out.size B2.out); clear B1)
      | (go_at_call 18; (with_reducible refine (put_no_n A1 c1 0 (b.take 0) HL1.out hno1 _ hc1' (HR1.out.below D2.out)).mono ?_); rintro e w3 ⟨A3, c3, rfl, O3, B3⟩; have D3 := Aside0.mk (below_then D2.out D2.out.size B3.out)))
    go_ret
    exact ⟨rfl, D3.out⟩
  · have h8 : 8192 < n := by omega
    have e0 : decide (n = 0) = false := decide_eq_false (by omega)
    have e0' : ((n : Int) == 0) = false := beq_eq_false_iff_ne.mpr (by omega)
    have e8 : decide (8192 < n) = true := decide_eq_true h8
    have e8' : decide (8192 < (n : Int)) = true := decide_eq_true (by omega)
    clear e
    go_enter Try.func8, Try.ntmps8
    go_wp2_with (first
      | (go_at_call 15; (with_reducible refine (head_n _).mono ?_); rintro e w1 ⟨rfl, B1⟩)
      | (go_at_call 18; (with_reducible refine (put_no_n A0 c0 n (a.take n) HL0.out hno0 _ hc0' (HR0.out.below B1.out)).mono ?_); rintro e w2 ⟨A2, c2, rfl, O2, B2⟩; have D2 := Aside0.mk (below_then B1.out B1.out.size B2.out); clear B1)
      | (go_at_call 18; (with_reducible refine (put_no_n A1 c1 n (b.take n) HL1.out hno1 _ hc1' (HR1.out.below D2.out)).mono ?_); rintro e w3 ⟨A3, c3, rfl, O3, B3⟩; have D3 := Aside0.mk (below_then D2.out D2.out.size B3.out)))
    go_ret
    exact ⟨rfl, D3.out⟩

set_option maxHeartbeats 8000000 in
set_option maxRecDepth 100000 in
theorem more_yes (A0 A1 : Option Addr) (c0 c1 n m : Nat) (a b x y F G : List Int) (w : World) (hB0 : IsBytes a) (hB1 : IsBytes b) (hc0 : a.length ≤ c0) (hc1 : b.length ≤ c1) (hr0 : Rd w A0 a) (hr1 : Rd w A1 b)
    (hn : min a.length b.length = n) (h1 : 1 ≤ n) (h2 : n ≤ 8192) (hm : n + 8 = m) (HX : Aside0 (a.take n = x)) (HY : Aside0 (b.take n = y)) (HF : Aside0 (frameOf x = F)) (HG : Aside0 (frameOf y = G)) :
    Calls Try.prog 8 #[.slice A0 a.length c0, .slice A1 b.length c1] w fun e w' => e = .returned (.bool true) ∧ Below w.heap.size w w' := by
  have hmin' : (if b.length < a.length then (b.length : Int) else (a.length : Int)) = (n : Int) := by split <;> omega
  have hmin : (if (b.length : Int) < (a.length : Int) then (b.length : Int) else (a.length : Int)) = (n : Int) := by split <;> omega
  have hs0 := take_run A0 c0 a n (by omega) hc0
  have hs1 := take_run A1 c1 b n (by omega) hc1
  have HR0 : Aside0 (Rd w A0 x) := ⟨HX.out ▸ hr0.take n (by omega)⟩
  have HR1 : Aside0 (Rd w A1 y) := ⟨HY.out ▸ hr1.take n (by omega)⟩
  have HL0 := Aside0.mk (show x.length = n by rw [← HX.out, List.length_take]; omega)
  have HL1 := Aside0.mk (show y.length = n by rw [← HY.out, List.length_take]; omega)
  have hx1 : 1 ≤ x.length := by rw [HL0.out]; exact h1
  have hx2 : x.length ≤ 8192 := by rw [HL0.out]; exact h2
  have hy1 : 1 ≤ y.length := by rw [HL1.out]; exact h1
  have hy2 : y.length ≤ 8192 := by rw [HL1.out]; exact h2
  have hc0' : n ≤ c0 := by omega
  have hc1' : n ≤ c1 := by omega
  have HFl := Aside0.mk (show F.length = m by rw [← HF.out, frame_len, HL0.out]; exact hm)
  have HGl := Aside0.mk (show G.length = m by rw [← HG.out, frame_len, HL1.out]; exact hm)
  obtain ⟨s1, HS1⟩ : ∃ s, Aside0 (strOfNums x = s) := ⟨_, ⟨rfl⟩⟩
  obtain ⟨s2, HS2⟩ : ∃ s, Aside0 (strOfNums y = s) := ⟨_, ⟨rfl⟩⟩
  obtain ⟨s3, HS3⟩ : ∃ s, Aside0 (strOfNums F = s) := ⟨_, ⟨rfl⟩⟩
  obtain ⟨s4, HS4⟩ : ∃ s, Aside0 (strOfNums G = s) := ⟨_, ⟨rfl⟩⟩
  obtain ⟨s5, HS5⟩ : ∃ s, Aside0 (strOfNums (F.take 4) = s) := ⟨_, ⟨rfl⟩⟩
  have HS6 := Aside0.mk (show strOfNums (G.take 4) = s5 by rw [← HS5.out, ← HF.out, ← HG.out, frame_take4, frame_take4, HL0.out, HL1.out])
  have HTF := Aside0.mk (show (F.take 4).length = 4 by rw [List.length_take, HFl.out]; omega)
  have HTG := Aside0.mk (show (G.take 4).length = 4 by rw [List.length_take, HGl.out]; omega)
  have hf := frame_at x
  rw [HF.out, HL0.out] at hf
  obtain ⟨f0, f1, f2, f3⟩ := hf
  have HI : (s3 = s4) ↔ (s1 = s2) := by
    have hxB : IsBytes x := HX.out ▸ hB0.take n
    have hyB : IsBytes y := HY.out ▸ hB1.take n
    have hFB : IsBytes F := HF.out ▸ frame_bytes x hxB hx2
    have hGB : IsBytes G := HG.out ▸ frame_bytes y hyB hy2
    rw [← HS3.out, ← HS4.out, ← HS1.out, ← HS2.out, str_eq hFB hGB, str_eq hxB hyB, ← HF.out, ← HG.out]
    exact frame_inj x y hx1 hx2 hy1 hy2
  have e0 : decide (n = 0) = false := decide_eq_false (by omega)
  have e0' : ((n : Int) == 0) = false := beq_eq_false_iff_ne.mpr (by omega)
  have e8 : decide (8192 < n) = false := decide_eq_false (by omega)
  have e8' : decide (8192 < (n : Int)) = false := decide_eq_false (by omega)
  have m8 : ((m : Int) == (n : Int) + 8) = true := beq_iff_eq.mpr (by omega)
  have x0 := xor_255 ((n : Int) / 256) (by omega) (by omega)
  have x1 := xor_255 ((n : Int) % 256) (by omega) (by omega)
  clear hr0 hr1 hn
  go_enter Try.func8, Try.ntmps8
  go_wp2_with (first
      | (go_at_call 15; (with_reducible refine (head_n _).mono ?_); rintro e w1 ⟨rfl, B1⟩)
      | (go_at_call 18; (with_reducible refine (put_yes_n A0 c0 n m x F HL0.out hx1 hx2 HF.out hm _ hc0' (HR0.out.below B1.out)).mono ?_); rintro e w2 ⟨g2, c2, rfl, hc2, hg2, hl2, O2, R2, B2⟩; have D2 := Aside0.mk (below_then B1.out B1.out.size B2.out); clear B1)
      | (go_at_call 18; (with_reducible refine (put_yes_n A1 c1 n m y G HL1.out hy1 hy2 HG.out hm _ hc1' (HR1.out.below D2.out)).mono ?_); rintro e w3 ⟨g3, c3, rfl, hc3, hg3, hl3, O3, R3, B3⟩; have D3 := Aside0.mk (below_then D2.out D2.out.size B3.out); have q1 := fun nq => ((HR0.out.below D3.out).drewN nq).str c0 n HL0.out HS1.out; have q2 := fun nq => ((HR1.out.below D3.out).drewN nq).str c1 n HL1.out HS2.out; have RF := Aside0.mk (R2.out.below B3.out); have q3 := fun nq => (RF.out.drewN nq).str c2 m HFl.out HS3.out; have q4 := fun nq => (R3.out.drewN nq).str c3 m HGl.out HS4.out; have q5 := fun nq => ((RF.out.take 4 (by have := HFl.out; omega)).drewN nq).str c2 4 HTF.out HS5.out; have q6 := fun nq => ((R3.out.take 4 (by have := HGl.out; omega)).drewN nq).str c3 4 HTG.out HS6.out; have t5 := take_run (some ⟨g2, 0, none⟩) c2 F 4 (by have := HFl.out; omega) (by have := HFl.out; omega); have t6 := take_run (some ⟨g3, 0, none⟩) c3 G 4 (by have := HGl.out; omega) (by have := HGl.out; omega); rw [HFl.out] at t5; rw [HGl.out] at t6; have k0 := RF.out.cell 0 _ (by have := HFl.out; omega) f0; have k1 := RF.out.cell 1 _ (by have := HFl.out; omega) f1; have k2 := RF.out.cell 2 _ (by have := HFl.out; omega) f2; have k3 := RF.out.cell 3 _ (by have := HFl.out; omega) f3))
  dsimp only [List.append]
  have z0 : 256 * ((n : Int) / 256) + (n : Int) % 256 = (n : Int) := by omega
  have z1 : IntKind.i64.wrap ((n : Int) / 256) = (n : Int) / 256 := IntWalk.i64_in _ (by omega)
  have z2 : IntKind.i64.wrap ((n : Int) % 256) = (n : Int) % 256 := IntWalk.i64_in _ (by omega)
  have z3 : IntKind.i64.wrap (256 * ((n : Int) / 256)) = 256 * ((n : Int) / 256) := IntWalk.i64_in _ (by omega)
  have z4 : IntKind.i64.wrap (256 * ((n : Int) / 256) + (n : Int) % 256) = (n : Int) := by rw [z0]; exact IntWalk.i64_in _ (by omega)
  by_cases he : s1 = s2
  · obtain rfl := HI.mpr he
    subst he
    go_quiet (fail)
    go_wp2
    go_ret
    exact ⟨rfl, below_then D3.out D3.out.size (pw_below_drewN (Below.refl _ _) _)⟩
  · have hf := fun h => he (HI.mp h)
    have y2 : (s1.toList == s2.toList) = false := beq_eq_false_iff_ne.mpr (fun h => he (str_list h))
    have y3 : (s3.toList == s4.toList) = false := beq_eq_false_iff_ne.mpr (fun h => hf (str_list h))
    have y4 : (s1.toList = s2.toList) = False := eq_false (fun h => he (str_list h))
    have y5 : (s3.toList = s4.toList) = False := eq_false (fun h => hf (str_list h))
    go_quiet (fail)
    go_wp2
    go_ret
    exact ⟨rfl, below_then D3.out D3.out.size (pw_below_drewN (Below.refl _ _) _)⟩

theorem more_walk (a0 : Option Addr) (len0 cap0 : Nat) (z0 : List Int) (a1 : Option Addr) (len1 cap1 : Nat) (z1 : List Int) (w : World)
    (w0 : Row8 w a0 len0 cap0 z0) (y0 : len0 * 1 ≤ 140737488351232) (w1 : Row8 w a1 len1 cap1 z1) (y1 : len1 * 1 ≤ 140737488351232) :
    Calls Try.prog 8 #[.slice a0 len0 cap0, .slice a1 len1 cap1] w fun e w' => e = .returned (.bool true) ∧ Below w.heap.size w w' := by
  obtain ⟨l0, rfl, hr0, hb0, hc0⟩ := row8_of w0
  obtain ⟨l1, rfl, hr1, hb1, hc1⟩ := row8_of w1
  obtain ⟨n, hn⟩ : ∃ n, min l0.length l1.length = n := ⟨_, rfl⟩
  by_cases h : n < 1 ∨ 8192 < n
  · exact more_no a0 a1 cap0 cap1 n l0 l1 w hb0 hb1 hc0 hc1 hr0 hr1 hn h
  · exact more_yes a0 a1 cap0 cap1 n _ l0 l1 _ _ _ _ w hb0 hb1 hc0 hc1 hr0 hr1 hn (by omega) (by omega) rfl ⟨rfl⟩ ⟨rfl⟩ ⟨rfl⟩ ⟨rfl⟩
end Go.Proofs.Ytjednkbgdbalnaa.Lw
