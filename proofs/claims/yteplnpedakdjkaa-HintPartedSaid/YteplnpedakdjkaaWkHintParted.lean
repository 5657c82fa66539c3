/- The law HintParted, walked by hand. -/
import Derived.Test.YteplnpedakdjkaaHuL
import Derived.Test.YteplnpedakdjkaaHuF
import Derived.Test.YteplnpedakdjkaaHuT
import Derived.Test.YteplnpedakdjkaaGe
namespace Go.Proofs.Yteplnpedakdjkaa.Hu
set_option linter.unusedVariables false
set_option linter.unusedSimpArgs false
open Go.RowKit Go.Maps Go.Shelf Go.Lib Go.Proofs.Yteplnpedakdjkaa.Pt Go.Proofs.YteplnpedakdjkaaW.PrintWords Go.Proofs.YteplnpedakdjkaaW.PrintLast Go.Proofs.YteplnpedakdjkaaW.PrintMore Go.Proofs.Yteplnpedakdjkaa.Fr Go.Proofs.Yteplnpedakdjkaa.Ext Go.Proofs.Yteplnpedakdjkaa.Hn Go.Proofs.Yteplnpedakdjkaa.Lw Go.Proofs.Yteplnpedakdjkaa.Pure Go.Proofs.Yteplnpedakdjkaa.HrA

theorem key_same {x y : ByteArray} : (x.toList == y.toList) = decide (keyL x = keyL y) := by
  rw [list_key, list_key]
  by_cases h : keyL x = keyL y
  · rw [decide_eq_true h, h]; simp
  · rw [decide_eq_false h]; exact beq_eq_false_iff_ne.mpr h
theorem key_less {x y : ByteArray} : Op.bytesLess x.toList y.toList = decide (keyL x < keyL y) := by
  rw [list_key, list_key, bytesLess_eq]
theorem of_f2 (l : List Fo) (hm : l.length ≤ 1000) (hs : ∀ x ∈ l, x.f2.f1.size ≤ maxLen) : hint_Of.f l = some (ofL l) := by
  unfold hint_Of.f
  rw [if_pos ⟨by omega, List.all_eq_true.2 fun x hx => decide_eq_true (hs x hx)⟩]

def eqH (g h : Hi) : Bool := (g.f0 == h.f0) && ((g.f1.toList == h.f1.toList) && ((g.f2 == h.f2) && (g.f3 == h.f3)))
theorem eqH_refl (h : Hi) : eqH h h = true := by simp [eqH]
theorem any_step {l : List Hi} {p : Hi → Bool} {i : Nat} {h : Hi} (hi : l[i]? = some h) : (l.take (i + 1)).any p = ((l.take i).any p || p h) := by
  rw [List.take_add_one, hi, List.any_append]
  simp
set_option maxHeartbeats 8000000 in
set_option maxRecDepth 100000 in
theorem HintParted.walk (a0 : Option Addr) (n0 c0 : Nat) (z0 : List Fo) (a1 : Option Addr) (n1 c1 : Nat) (z1 : List Fo) (w : World)
    (h0 : z0.length = n0 ∧ n0 ≤ c0 ∧ c0 ≤ maxLen ∧ Kd.C k39 w a0 n0 z0 ∧ ∀ y ∈ z0, OkF y) (h1 : z1.length = n1 ∧ n1 ≤ c1 ∧ c1 ≤ maxLen ∧ Kd.C k39 w a1 n1 z1 ∧ ∀ y ∈ z1, OkF y) :
    Calls Try.prog 6 #[.slice a0 n0 c0, .slice a1 n1 c1] w fun e w' => e = .returned (.bool true) ∧ Below w.heap.size w w' := by
  obtain ⟨rfl, p0, m0, q0, r0⟩ := h0
  obtain ⟨rfl, p1, m1, q1, r1⟩ := h1
  obtain ⟨g0, hg0, hgf0⟩ := great_ex z0 (by omega)
  obtain ⟨g1, hg1, hgf1⟩ := great_ex z1 (by omega)
  have HG0 := Aside0.mk (hg0 (z0.length + 1) (Nat.le_refl _))
  have HG1 := Aside0.mk (hg1 (z1.length + 1) (Nat.le_refl _))
  have HR0 := Aside0.mk q0
  have HC0 := Aside0.mk p0
  have HR1 := Aside0.mk q1
  have HC1 := Aside0.mk p1
  have HOK0 := Aside0.mk r0
  have HOK1 := Aside0.mk r1
  have HGF0 := Aside0.mk hgf0
  have HGF1 := Aside0.mk hgf1
  have hu41 := Try.underlying41
  have HB := Aside0.mk (RowKit.Below.refl w.heap.size w)
  clear hg0 hg1 hgf0 hgf1 q0 p0 r0 q1 p1 r1
  go_enter Try.func6, Try.ntmps6
  go_upto_region 2 with (go_at_call 9; refine (souterrainlaw11_head.calls true _ rfl).mono ?_; rintro e w1 ⟨rfl, hb⟩; have n0_ := Aside0.mk (below_then HB.out HB.out.size hb); clear hb HB; have HB := n0_; clear n0_)
  cases g0 with
  | true =>
    go_wp2_with (go_at_call 11; (with_reducible refine (souterrainlaw11_great.calls _ a0 c0 z0 true _ (Kd.C_below HR0.out HB.out) HC0.out HG0.out).mono ?_); rintro e w2 ⟨rfl, hb⟩; have n0_ := Aside0.mk (below_then HB.out HB.out.size hb); clear hb HB; have HB := n0_; clear n0_)
    go_ret
    exact ⟨rfl, HB.out⟩
  | false =>
  have HL0 := Aside0.mk (HGF0.out rfl)
  cases g1 with
  | true =>
    go_wp2_with (first | (go_at_call 11; (with_reducible refine (souterrainlaw11_great.calls _ a1 c1 z1 true _ (Kd.C_below HR1.out HB.out) HC1.out HG1.out).mono ?_); rintro e w2 ⟨rfl, hb⟩; have n0_ := Aside0.mk (below_then HB.out HB.out.size hb); clear hb HB; have HB := n0_; clear n0_) | (go_at_call 11; (with_reducible refine (souterrainlaw11_great.calls _ a0 c0 z0 false _ (Kd.C_below HR0.out HB.out) HC0.out HG0.out).mono ?_); rintro e w2 ⟨rfl, hb⟩; have n0_ := Aside0.mk (below_then HB.out HB.out.size hb); clear hb HB; have HB := n0_; clear n0_))
    go_ret
    exact ⟨rfl, HB.out⟩
  | false =>
  have HL1 := Aside0.mk (HGF1.out rfl)
  have HO0 := Aside0.mk (of_f2 z0 (by have := HL0.out; omega) (fun y hy => (HOK0.out y hy).2.2.2.1))
  have HO1 := Aside0.mk (of_f2 z1 (by have := HL1.out; omega) (fun y hy => (HOK1.out y hy).2.2.2.1))
  have HO2 := Aside0.mk (of_f2 (z0 ++ z1) (by have := HL0.out; have := HL1.out; rw [List.length_append]; omega) (fun y hy => by
    rcases List.mem_append.1 hy with hy | hy
    · exact (HOK0.out y hy).2.2.2.1
    · exact (HOK1.out y hy).2.2.2.1))
  have HX0 := Aside0.mk (Nat.le_trans (ofL_len z0) HL0.out)
  have HX1 := Aside0.mk (Nat.le_trans (ofL_len z1) HL1.out)
  have HPO := Aside0.mk (parted_old z0 z1)
  have HPN := Aside0.mk (parted_new z0 z1)
  have HPM := Aside0.mk (parted_most z0 z1)
  have HPL := Aside0.mk (parted_least z0 z1)
  have HRX := Aside0.mk (ofL_rises z0)
  have HRA := Aside0.mk (ofL_rises (z0 ++ z1))
  generalize ofL (z0 ++ z1) = A at *
  generalize ofL z0 = X at *
  generalize ofL z1 = Y at *
  go_upto_region 4 with (first | (go_at_call 11; (with_reducible refine (souterrainlaw11_great.calls _ a1 c1 z1 false _ (Kd.C_below HR1.out HB.out) HC1.out HG1.out).mono ?_); rintro e w2 ⟨rfl, hb⟩; have n0_ := Aside0.mk (below_then HB.out HB.out.size hb); clear hb HB; have HB := n0_; clear n0_) | (go_at_call 11; (with_reducible refine (souterrainlaw11_great.calls _ a0 c0 z0 false _ (Kd.C_below HR0.out HB.out) HC0.out HG0.out).mono ?_); rintro e w2 ⟨rfl, hb⟩; have n0_ := Aside0.mk (below_then HB.out HB.out.size hb); clear hb HB; have HB := n0_; clear n0_))
  have HBY := Aside0.mk (show (z0.length + z1.length) * 112 ≤ 140737488355328 by have := HL0.out; have := HL1.out; omega)
  have HBY0 := Aside0.mk (show (0 + z0.length) * 112 ≤ 140737488355328 by have := HL0.out; omega)
  clear HGF0 HGF1 HG0 HG1 HOK0 HOK1
  go_upto_region 5 with (first | (go_at_call 19; have hz := hint_Of.calls A4 c4 (z0 ++ z1) A _ (kf_reads HB.out HR4.out.2.2) HR4.out.2.1 HO2.out; rw [List.length_append] at hz; (with_reducible refine hz.mono ?_); clear hz; rintro e w5 ⟨v5, rfl, hR, hb⟩; obtain ⟨A5, c5, rfl⟩ := Kd.R_slice hR; have HA := Aside0.mk (Kd.R_reads' hR); have n0_ := Aside0.mk (below_then HB.out HB.out.size hb); clear hR hb HB; have HB := n0_; clear n0_) | (at_builtin; refine Kd.R_append_rows (kf w) (w0 := w) w.heap.size rfl (.tmp 26) (.tmp 27) 24 39 (.agg #[(.int .i64 0), (.int .i64 0), (.int .i64 0), (.string ⟨#[]⟩), (.int .i64 0), (.int .i64 0), (.int .i64 0), (.slice none 0 0), (.slice none 0 0)]) 112 rfl Try.underlying24 info39 rfl (Nat.succ_pos 8) (by omega) v3 z0 z1 a1 z1.length c1 (fun _ => True) (fun _ => False) rfl rfl HR3.out (Kd.C_below (kf_of HR1.out) HB.out) (fun _ _ h => h) (fun _ h => h.elim) (fun _ _ => trivial) HB.out HB.out.size HBY.out ?_; intro v4 w4 hR hb _ _; obtain ⟨A4, c4, rfl⟩ := Kd.R_slice hR; have HR4 := Aside0.mk (Kd.R_reads' hR); clear HB HR3; have HB := Aside0.mk hb; clear hR hb) | (at_builtin; refine Kd.R_append_rows (kf w) (w0 := w) w.heap.size rfl (.tmp 24) (.tmp 25) 24 39 (.agg #[(.int .i64 0), (.int .i64 0), (.int .i64 0), (.string ⟨#[]⟩), (.int .i64 0), (.int .i64 0), (.int .i64 0), (.slice none 0 0), (.slice none 0 0)]) 112 rfl Try.underlying24 info39 rfl (Nat.succ_pos 8) (by omega) (.slice (some ⟨w2.heap.size, 0, none⟩) 0 0) [] z0 a0 z0.length c0 (fun _ => True) (fun _ => False) rfl rfl (lit_none HB.out) (Kd.C_below (kf_of HR0.out) (below_alloc HB.out _)) (fun _ _ h => h) (fun _ h => h.elim) (fun _ _ => trivial) (below_alloc HB.out _) (below_alloc HB.out _).size HBY0.out ?_; intro v3 w3 hR hb _ _; have HR3 := Aside0.mk hR; clear HB; have HB := Aside0.mk hb; clear hR hb))
  clear HR4 HO2
  have HD := Aside0.mk (RowKit.Below.refl w5.heap.size w5)
  go_upto_region 7 with (first | (go_at_call 19; (with_reducible refine (hint_Of.calls a1 c1 z1 Y _ (Kd.C_below HR1.out HB.out) HC1.out HO1.out).mono ?_); rintro e w7 ⟨v7, rfl, hR, hb⟩; obtain ⟨A7, c7, rfl⟩ := Kd.R_slice hR; have HY := Aside0.mk (Kd.R_reads' hR).2.2; have n0_ := Aside0.mk (below_then HB.out HB.out.size hb); have n1_ := Aside0.mk (below_then HD.out HD.out.size hb); have n2_ := Aside0.mk (Kd.C_below HX.out hb); clear hR hb HB HD HX; have HB := n0_; have HD := n1_; have HX := n2_; clear n0_ n1_ n2_) | (go_at_call 19; (with_reducible refine (hint_Of.calls a0 c0 z0 X _ (Kd.C_below HR0.out HB.out) HC0.out HO0.out).mono ?_); rintro e w6 ⟨v6, rfl, hR, hb⟩; obtain ⟨A6, c6, rfl⟩ := Kd.R_slice hR; have HX := Aside0.mk (Kd.R_reads' hR).2.2; have n0_ := Aside0.mk (below_then HB.out HB.out.size hb); have n1_ := Aside0.mk (below_then HD.out HD.out.size hb); clear hR hb HB HD; have HB := n0_; have HD := n1_; clear n0_ n1_))
  have HA7 := Aside0.mk (Kd.C_below HA.out.2.2 HD.out)
  clear HA HD HR0 HR1 HC0 HC1 HO0 HO1 HBY HBY0 HL0 HL1
  have hX := HX0.out
  have hY := HX1.out
  have hA := HPM.out
  go_wp2
  go_loopg [9, 10] X.length (fun kq v9 v10 wr => ∃ (at_ i : Nat), v9 = .int .i64 at_ ∧ v10 = .int .i64 i ∧ Aside0 (i + kq = X.length) ∧ Aside0 (∀ (q i' : Nat) (g h : Hi), q < at_ → i ≤ i' → A[q]? = some g → X[i']? = some h → keyL g.f1 < keyL h.f1) ∧ Aside0 (at_ ≤ A.length) ∧ Aside0 (RowKit.Below w7.heap.size w7 wr))
  case atStart => exact ⟨0, 0, rfl, rfl, ⟨by omega⟩, ⟨fun q _ _ _ h => absurd h (Nat.not_lt_zero q)⟩, ⟨Nat.zero_le _⟩, ⟨RowKit.Below.refl _ _⟩⟩
  case round =>
    obtain ⟨at_, i, rfl, rfl, HI, HQ, HAT, HD⟩ := hrel
    cases gk with
    | zero =>
      obtain rfl : i = X.length := by have := HI.out; omega
      have hk : decide ((X.length : Int) < (X.length : Int)) = false := decide_eq_false (by omega)
      clear HQ HAT HI
      go_wp2
      go_loopg [13] Y.length (fun kq v13 wr => ∃ (k : Nat), v13 = .int .i64 k ∧ Aside0 (k + kq = Y.length) ∧ Aside0 (RowKit.Below w7.heap.size w7 wr))
      case atStart => exact ⟨0, rfl, ⟨by omega⟩, HD⟩
      case round =>
        clear HD
        obtain ⟨k, rfl, HK, HD⟩ := hrel
        cases gk with
        | zero =>
          obtain rfl : k = Y.length := by have := HK.out; omega
          have hk2 : decide ((Y.length : Int) < (Y.length : Int)) = false := decide_eq_false (by omega)
          have hp := HPL.out
          have w1 : wrap64 ((X.length : Int) + (Y.length : Int)) = (X.length : Int) + (Y.length : Int) := w64 _ (by omega) (by omega)
          have f1 : decide ((A.length : Int) ≤ (X.length : Int) + (Y.length : Int)) = true := decide_eq_true (by omega)
          have f2 : decide ((A.length : Int) ≥ (Y.length : Int)) = true := decide_eq_true (by omega)
          have f3 : decide ((Y.length : Int) ≤ (A.length : Int)) = true := decide_eq_true (by omega)
          go_wp2_with (fail)
          go_ret
          exact ⟨by first | rfl | (simp; done) | (simp [*]; done), below_then HB.out HB.out.size (by repeat (first | (with_reducible first | exact HD.out | apply below_alloc | apply pw_below_drewN | apply below_drew1) | exact HD.out))⟩
        | succ ko =>
          have hk0 : k < Y.length := by have := HK.out; omega
          have hk2 : decide ((k : Int) < (Y.length : Int)) = true := decide_eq_true (by omega)
          have hk3 : decide (k < Y.length) = true := decide_eq_true hk0
          have hk4 : (k < Y.length) = True := eq_true hk0
          obtain ⟨y, hy⟩ : ∃ y, Y[k]? = some y := ⟨_, List.getElem?_eq_getElem hk0⟩
          obtain ⟨ad, e0, y0, y1, y2, y3⟩ := at_H HY.out k y hy
          cases e0
          have HYM := Aside0.mk (HPN.out y (List.mem_of_getElem? hy))
          have Y0 := Aside0.mk y0
          have Y1 := Aside0.mk y1
          have Y2 := Aside0.mk y2
          have Y3 := Aside0.mk y3
          clear y0 y1 y2 y3
          go_wp2
          go_loopg [14, 15] A.length (fun kq v14 v15 wr => ∃ (i : Nat) (b : Bool), v14 = .bool b ∧ v15 = .int .i64 i ∧ Aside0 (i + kq = A.length) ∧ Aside0 (b = (A.take i).any (fun h => eqH h y)) ∧ Aside0 (RowKit.Below w7.heap.size w7 wr))
          case atStart => exact ⟨0, false, rfl, rfl, ⟨by omega⟩, ⟨by simp⟩, HD⟩
          case round =>
            clear HD
            obtain ⟨i, b, rfl, rfl, HI, Hb, HD⟩ := hrel
            cases gk with
            | zero =>
              obtain rfl : i = A.length := by have := HI.out; omega
              have hk5 : decide ((A.length : Int) < (A.length : Int)) = false := decide_eq_false (by omega)
              obtain rfl : b = true := by
                rw [Hb.out, List.take_length]
                exact List.any_eq_true.2 ⟨y, HYM.out, eqH_refl y⟩
              go_wp2_with (fail)
              go_roundg ko
              case measure => omega
              case rel => exact ⟨k + 1, by go_num, ⟨by have := HK.out; omega⟩, ⟨by repeat (first | (with_reducible first | exact HD.out | apply below_alloc | apply pw_below_drewN | apply below_drew1) | exact HD.out)⟩⟩
            | succ gk =>
              have hi0 : i < A.length := by have := HI.out; omega
              have hk5 : decide ((i : Int) < (A.length : Int)) = true := decide_eq_true (by omega)
              have hk6 : decide (i < A.length) = true := decide_eq_true hi0
              have hk7 : (i < A.length) = True := eq_true hi0
              obtain ⟨h, hh⟩ : ∃ h, A[i]? = some h := ⟨_, List.getElem?_eq_getElem hi0⟩
              have hst := any_step (p := fun h => eqH h y) hh
              rw [← Hb.out] at hst
              cases b with
              | true =>
                go_wp2
                repeat (go_quiet (fail); try go_wp2)
                go_roundg gk
                case measure => omega
                case rel => exact ⟨i + 1, true, rfl, by go_num, ⟨by have := HI.out; omega⟩, ⟨by rw [hst]; rfl⟩, ⟨by repeat (first | (with_reducible first | exact HD.out | apply below_alloc | apply pw_below_drewN | apply below_drew1) | exact HD.out)⟩⟩
              | false =>
                obtain ⟨ad2, e0, x0, x1, x2, x3⟩ := at_H HA7.out i h hh
                cases e0
                replace x0 := cell_on HD.out x0
                replace x1 := cell_on HD.out x1
                replace x2 := cell_on HD.out x2
                replace x3 := cell_on HD.out x3
                have y0 := cell_on HD.out Y0.out
                have y1 := cell_on HD.out Y1.out
                have y2 := cell_on HD.out Y2.out
                have y3 := cell_on HD.out Y3.out
                obtain ⟨b0, q0⟩ : ∃ b, (h.f0 == y.f0) = b := ⟨_, rfl⟩
                obtain ⟨b1, q1⟩ : ∃ b, (h.f1.toList == y.f1.toList) = b := ⟨_, rfl⟩
                obtain ⟨b2, q2⟩ : ∃ b, (h.f2 == y.f2) = b := ⟨_, rfl⟩
                obtain ⟨b3, q3⟩ : ∃ b, (h.f3 == y.f3) = b := ⟨_, rfl⟩
                have he : eqH h y = (b0 && (b1 && (b2 && b3))) := by rw [eqH, q0, q1, q2, q3]
                rw [he] at hst
                have HST := Aside0.mk hst
                clear hst he
                cases b0 <;> cases b1 <;> cases b2 <;> cases b3
                all_goals
                  go_wp2
                  repeat (go_quiet (fail); try go_wp2)
                  go_roundg gk
                  case measure => omega
                  case rel => exact ⟨i + 1, _, rfl, by go_num, ⟨by have := HI.out; omega⟩, ⟨by rw [HST.out]; rfl⟩, ⟨by repeat (first | (with_reducible first | exact HD.out | apply below_alloc | apply pw_below_drewN | apply below_drew1) | exact HD.out)⟩⟩
    | succ go_ =>
      have hi0 : i < X.length := by have := HI.out; omega
      have hk : decide ((i : Int) < (X.length : Int)) = true := decide_eq_true (by omega)
      have hk1 : decide (i < X.length) = true := decide_eq_true hi0
      have hk2 : (i < X.length) = True := eq_true hi0
      obtain ⟨x, hx⟩ : ∃ x, X[i]? = some x := ⟨_, List.getElem?_eq_getElem hi0⟩
      have HXX := Aside0.mk hx
      obtain ⟨ad, e0, x0, x1, x2, x3⟩ := at_H HX.out i x hx
      cases e0
      have X0 := Aside0.mk x0
      have X1 := Aside0.mk x1
      have X2 := Aside0.mk x2
      have X3 := Aside0.mk x3
      clear x0 x1 x2 x3 hx
      go_wp2
      go_loopg [11, 12] Y.length (fun kq v11 v12 wr => ∃ (k : Nat) (b : Bool), v11 = .bool b ∧ v12 = .int .i64 k ∧ Aside0 (k + kq = Y.length) ∧ Aside0 (b = (Y.take k).any (fun y => decide (keyL y.f1 = keyL x.f1))) ∧ Aside0 (RowKit.Below w7.heap.size w7 wr))
      case atStart => exact ⟨0, false, rfl, rfl, ⟨by omega⟩, ⟨by simp⟩, HD⟩
      case round =>
        clear HD
        obtain ⟨k, b, rfl, rfl, HK, Hb, HD⟩ := hrel
        cases gk with
        | zero =>
          obtain rfl : k = Y.length := by have := HK.out; omega
          have hk5 : decide ((Y.length : Int) < (Y.length : Int)) = false := decide_eq_false (by omega)
          have hb := Hb.out
          rw [List.take_length] at hb
          have Hb2 := Aside0.mk hb
          clear Hb hb
          cases b with
          | true =>
            go_wp2
            go_roundg go_
            case measure => omega
            case rel => exact ⟨at_, i + 1, rfl, by go_num, ⟨by have := HI.out; omega⟩, ⟨fun q i' g h hq hi' hA hX => HQ.out q i' g h hq (by omega) hA hX⟩, HAT, ⟨by repeat (first | (with_reducible first | exact HD.out | apply below_alloc | apply pw_below_drewN | apply below_drew1) | exact HD.out)⟩⟩
          | false =>
            have hxA : x ∈ A := HPO.out x (List.mem_of_getElem? HXX.out) (fun y hy e => by
              have := List.any_eq_false.1 Hb2.out.symm y hy
              exact this (decide_eq_true e))
            obtain ⟨p, hp⟩ := List.mem_iff_getElem?.1 hxA
            have hpA : p < A.length := (List.getElem?_eq_some_iff.1 hp).1
            have hap : at_ ≤ p := by
              rcases Nat.lt_or_ge p at_ with h | h
              · exact absurd (HQ.out p i x x h (Nat.le_refl _) hp HXX.out) (List.lt_irrefl _)
              · exact h
            have HP := Aside0.mk hp
            clear hxA Hb2 hp
            go_wp2
            go_loopg [9] (p - at_) (fun kq v9 wr => ∃ (j : Nat), v9 = .int .i64 j ∧ Aside0 (j + kq = p) ∧ Aside0 (RowKit.Below w7.heap.size w7 wr))
            case atStart => exact ⟨at_, rfl, ⟨by omega⟩, HD⟩
            case round =>
              clear HD
              obtain ⟨j, rfl, HJ, HD⟩ := hrel
              have x0 := cell_on HD.out X0.out
              have x1 := cell_on HD.out X1.out
              have x2 := cell_on HD.out X2.out
              have x3 := cell_on HD.out X3.out
              cases gk with
              | zero =>
                obtain rfl : j = p := by have := HJ.out; omega
                obtain ⟨ad2, e0, y0, y1, y2, y3⟩ := at_H HA7.out j x HP.out
                cases e0
                replace y0 := cell_on HD.out y0
                replace y1 := cell_on HD.out y1
                replace y2 := cell_on HD.out y2
                replace y3 := cell_on HD.out y3
                have j0 : decide ((j : Int) < (A.length : Int)) = true := decide_eq_true (by omega)
                have j1 : decide (j < A.length) = true := decide_eq_true hpA
                have j2 : (j < A.length) = True := eq_true hpA
                have j3 : ((j : Int) == (A.length : Int)) = false := beq_eq_false_iff_ne.mpr (by omega)
                have j4 : (j == A.length) = false := beq_eq_false_iff_ne.mpr (by omega)
                have e1 : Op.bytesLess x.f1.toList x.f1.toList = false := by rw [key_less]; exact decide_eq_false (List.lt_irrefl _)
                go_wp2
                repeat (go_quiet (fail); try go_wp2)
                go_roundg go_
                case measure => omega
                case rel => exact ⟨j, i + 1, rfl, by go_num, ⟨by have := HI.out; omega⟩, ⟨fun q i' g h hq hi' hA hX => List.lt_trans (rises_at HRA.out hA HP.out hq) (rises_at HRX.out HXX.out hX (by omega))⟩, ⟨by omega⟩, ⟨by repeat (first | (with_reducible first | exact HD.out | apply below_alloc | apply pw_below_drewN | apply below_drew1) | exact HD.out)⟩⟩
              | succ gk =>
                have hjp : j < p := by have := HJ.out; omega
                have hjA : j < A.length := by omega
                obtain ⟨g, hg⟩ : ∃ g, A[j]? = some g := ⟨_, List.getElem?_eq_getElem hjA⟩
                obtain ⟨ad2, e0, y0, y1, y2, y3⟩ := at_H HA7.out j g hg
                cases e0
                replace y0 := cell_on HD.out y0
                replace y1 := cell_on HD.out y1
                replace y2 := cell_on HD.out y2
                replace y3 := cell_on HD.out y3
                have j0 : decide ((j : Int) < (A.length : Int)) = true := decide_eq_true (by omega)
                have j1 : decide (j < A.length) = true := decide_eq_true hjA
                have j2 : (j < A.length) = True := eq_true hjA
                have e1 : Op.bytesLess g.f1.toList x.f1.toList = true := by rw [key_less]; exact decide_eq_true (rises_at HRA.out hg HP.out hjp)
                go_wp2
                repeat (go_quiet (fail); try go_wp2)
                go_roundg gk
                case measure => omega
                case rel => exact ⟨j + 1, by go_num, ⟨by have := HJ.out; omega⟩, ⟨by repeat (first | (with_reducible first | exact HD.out | apply below_alloc | apply pw_below_drewN | apply below_drew1) | exact HD.out)⟩⟩
        | succ gk =>
          have hk0 : k < Y.length := by have := HK.out; omega
          have hk5 : decide ((k : Int) < (Y.length : Int)) = true := decide_eq_true (by omega)
          have hk6 : decide (k < Y.length) = true := decide_eq_true hk0
          have hk7 : (k < Y.length) = True := eq_true hk0
          obtain ⟨y, hy⟩ : ∃ y, Y[k]? = some y := ⟨_, List.getElem?_eq_getElem hk0⟩
          have hst := any_step (p := fun y => decide (keyL y.f1 = keyL x.f1)) hy
          rw [← Hb.out, ← key_same] at hst
          have x0 := cell_on HD.out X0.out
          have x1 := cell_on HD.out X1.out
          have x2 := cell_on HD.out X2.out
          have x3 := cell_on HD.out X3.out
          obtain ⟨ad2, e0, y0, y1, y2, y3⟩ := at_H HY.out k y hy
          cases e0
          replace y0 := cell_on HD.out y0
          replace y1 := cell_on HD.out y1
          replace y2 := cell_on HD.out y2
          replace y3 := cell_on HD.out y3
          obtain ⟨d, hd⟩ : ∃ d, (y.f1.toList == x.f1.toList) = d := ⟨_, rfl⟩
          rw [hd] at hst
          have HST := Aside0.mk hst
          clear hst
          cases b with
          | true =>
            go_wp2
            repeat (go_quiet (fail); try go_wp2)
            go_roundg gk
            case measure => omega
            case rel => exact ⟨k + 1, true, rfl, by go_num, ⟨by have := HK.out; omega⟩, ⟨by rw [HST.out]; rfl⟩, ⟨by repeat (first | (with_reducible first | exact HD.out | apply below_alloc | apply pw_below_drewN | apply below_drew1) | exact HD.out)⟩⟩
          | false =>
            go_wp2
            repeat (go_quiet (fail); try go_wp2)
            go_roundg gk
            case measure => omega
            case rel => exact ⟨k + 1, d, rfl, by go_num, ⟨by have := HK.out; omega⟩, ⟨by rw [HST.out]; rfl⟩, ⟨by repeat (first | (with_reducible first | exact HD.out | apply below_alloc | apply pw_below_drewN | apply below_drew1) | exact HD.out)⟩⟩
end Go.Proofs.Yteplnpedakdjkaa.Hu
