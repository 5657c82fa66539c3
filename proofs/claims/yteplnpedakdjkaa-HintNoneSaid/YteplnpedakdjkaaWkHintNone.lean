/- The law HintNone, walked by hand. -/
import Derived.Test.YteplnpedakdjkaaHuL
import Derived.Test.YteplnpedakdjkaaHuF
import Derived.Test.YteplnpedakdjkaaGe
namespace Go.Proofs.Yteplnpedakdjkaa.Hu
set_option linter.unusedVariables false
set_option linter.unusedSimpArgs false
open Go.RowKit Go.Maps Go.Shelf Go.Lib Go.Proofs.Yteplnpedakdjkaa.Pt Go.Proofs.YteplnpedakdjkaaW.PrintWords Go.Proofs.YteplnpedakdjkaaW.PrintLast Go.Proofs.YteplnpedakdjkaaW.PrintMore Go.Proofs.Yteplnpedakdjkaa.Fr Go.Proofs.Yteplnpedakdjkaa.Ext Go.Proofs.Yteplnpedakdjkaa.Hn Go.Proofs.Yteplnpedakdjkaa.Lw Go.Proofs.Yteplnpedakdjkaa.Pure Go.Proofs.Yteplnpedakdjkaa.HrA

theorem none_of (xs : List Fo) (hp : ∀ y ∈ xs, y.f2.f0 = 1) : ofL xs = [] := by
  induction xs using snoc_ind with
  | nil => rfl
  | snoc f x ih =>
    rw [ofL_snoc, if_neg (by have := hp x (by simp); simp [tellsF, this]), ih (fun y hy => hp y (by simp [hy]))]
theorem none_right : rightL [] = true := rfl
theorem none_put (a : Int) (h0 : 0 ≤ a) (h1 : a ≤ 1073741824) : hint_Put.f 2 [] a = some (putH [] a) ∧ (putH [] a).length = 21 := by
  constructor
  · rw [put_f [] a (by simp) 2 (by simp), putAll, if_pos ⟨none_right, h0, h1⟩]
  · have := (put_end (cat (recs [])) ((([] : List Hi).length : Nat) : Int) a).2
    rw [putH, List.length_append, this]
    rfl
theorem none_get (a b : Int) (h0 : 0 ≤ a) (h1 : a ≤ 1073741824) : hint_Get.f (putH [] a) b = some ([], decide (b = a)) := by
  rw [get_put [] a b none_right h0 h1 (by simp)]
  by_cases h : b = a
  · rw [if_pos h, decide_eq_true h]
  · rw [if_neg h, decide_eq_false h]

set_option maxHeartbeats 4000000 in
set_option maxRecDepth 100000 in
theorem HintNone.walk (a0 : Option Addr) (n0 c0 : Nat) (z0 : List Fo) (a1 a2 : Int) (w : World)
    (h0 : z0.length = n0 ∧ n0 ≤ c0 ∧ c0 ≤ maxLen ∧ Kd.C k39 w a0 n0 z0 ∧ ∀ y ∈ z0, OkF y) (g1 : (Lit.int .u16 a1).wf = true) (g2 : (Lit.int .u16 a2).wf = true) :
    Calls Try.prog 8 #[.slice a0 n0 c0, .int .u16 a1, .int .u16 a2] w fun e w' => e = .returned (.bool true) ∧ Below w.heap.size w w' := by
  obtain ⟨rfl, p0, m0, q0, r0⟩ := h0
  have b1 : 0 ≤ a1 ∧ a1 ≤ 65535 := by simpa [Lit.wf, IntKind.min, IntKind.max, IntKind.bits, IntKind.signed] using g1
  have b2 : 0 ≤ a2 ∧ a2 ≤ 65535 := by simpa [Lit.wf, IntKind.min, IntKind.max, IntKind.bits, IntKind.signed] using g2
  obtain ⟨g, hg, hgf⟩ := great_ex z0 (by omega)
  have HG := Aside0.mk (hg (z0.length + 1) (Nat.le_refl _))
  have HGF := Aside0.mk hgf
  have HR := Aside0.mk q0
  have HC := Aside0.mk p0
  have HOK := Aside0.mk r0
  obtain ⟨t1, t2⟩ := none_put a1 b1.1 (by omega)
  have HP1 := Aside0.mk t1
  have HP2 := Aside0.mk t2
  have HGE := Aside0.mk (none_get a1 a2 b1.1 (by omega))
  have HB := Aside0.mk (RowKit.Below.refl w.heap.size w)
  clear hg hgf q0 p0 r0 t1 t2 g1 g2
  go_enter Try.func8, Try.ntmps8
  go_upto_region 2 with (go_at_call 9; refine (souterrainlaw11_head.calls true _ rfl).mono ?_; rintro e w1 ⟨rfl, hb⟩; have n0_ := Aside0.mk (below_then HB.out HB.out.size hb); clear hb HB; have HB := n0_; clear n0_)
  cases g with
  | true =>
    go_wp2_with (go_at_call 11; refine (souterrainlaw11_great.calls _ a0 c0 z0 true _ (Kd.C_below HR.out HB.out) HC.out HG.out).mono ?_; rintro e w2 ⟨rfl, hb⟩; have n0_ := Aside0.mk (below_then HB.out HB.out.size hb); clear hb HB; have HB := n0_; clear n0_)
    go_ret
    exact ⟨rfl, HB.out⟩
  | false =>
    have HL := Aside0.mk (HGF.out rfl)
    go_wp2_with (go_at_call 11; refine (souterrainlaw11_great.calls _ a0 c0 z0 false _ (Kd.C_below HR.out HB.out) HC.out HG.out).mono ?_; rintro e w2 ⟨rfl, hb⟩; have n0_ := Aside0.mk (below_then HB.out HB.out.size hb); clear hb HB; have HB := n0_; clear n0_)
    go_loopg [8, 9] z0.length (fun kq v8 v9 wr => ∃ (k : Nat) (xs : List Fo), v9 = .int .i64 k ∧ Aside0 (k + kq = z0.length) ∧ Aside0 (xs.length ≤ k) ∧ Aside0 (∀ y ∈ xs, y.f2.f0 = 1 ∧ y ∈ z0) ∧ Aside0 (Kd.R (kf w) 39 wr w.heap.size (fun _ => True) v8 xs) ∧ Aside0 (RowKit.Below w.heap.size w wr))
    case atStart => exact ⟨0, [], rfl, ⟨by omega⟩, ⟨by simp⟩, ⟨by simp⟩, ⟨Kd.R_nil _ _ _ _ _⟩, HB⟩
    case round =>
      clear HB
      obtain ⟨k, xs, rfl, HK, HX, HP, HRx, HB⟩ := hrel
      cases gk with
      | zero =>
        obtain rfl : k = z0.length := by have := HK.out; omega
        have hk : decide ((z0.length : Int) < (z0.length : Int)) = false := decide_eq_false (by omega)
        have HOF := Aside0.mk (show hint_Of.f xs = some [] by
          rw [of_f xs (by have := HX.out; have := HL.out; omega) (fun y hy => (HOK.out y (HP.out y hy).2).2.2.2.1), none_of xs (fun y hy => (HP.out y hy).1)])
        obtain ⟨Ax, cx, rfl⟩ := Kd.R_slice HRx.out
        have HPx := Aside0.mk (Kd.R_reads' HRx.out)
        obtain ⟨d, hd⟩ : ∃ d, decide (a2 = a1) = d := ⟨_, rfl⟩
        have hge := HGE.out
        rw [hd] at hge
        have HGd := Aside0.mk hge
        have d1 : decide (a1 = a2) = d := by rw [← hd]; exact decide_eq_decide.mpr ⟨Eq.symm, Eq.symm⟩
        have d2 : (a1 == a2) = d := d1
        have w1 : wrap64 a1 = a1 := w64 _ (by omega) (by omega)
        have w2 : wrap64 a2 = a2 := w64 _ (by omega) (by omega)
        have v1 : IntKind.i64.wrap a1 = a1 := (i64_w a1).trans w1
        have v2 : IntKind.i64.wrap a2 = a2 := (i64_w a2).trans w2
        have e21 : (((putH [] a1).length : Int) == 21) = true := by rw [HP2.out]; rfl
        have HD := Aside0.mk (RowKit.Below.refl wr.heap.size wr)
        clear HRx HGE hge hd HG HGF HK HP HX HR HC HOK
        go_upto_region 11 with (first | (go_at_call 12; refine (hint_Get.calls A3 c3 (putH [] a1) a2 [] d _ HC3.out HL3.out HGd.out).mono ?_; rintro e w4 ⟨v4, rfl, hR, hb⟩; obtain ⟨A4, c4, rfl⟩ := Kd.R_slice hR; have n0_ := Aside0.mk (below_then HB.out HB.out.size hb); have n1_ := Aside0.mk (below_then HD.out HD.out.size hb); clear hR hb HB HD HC3 HL3; have HB := n0_; have HD := n1_; clear n0_ n1_) | (go_at_call 16; refine (hint_Put.calls 2 none 0 [] a1 (putH [] a1) _ (Kd.C_nil _ _) (Nat.le_refl 0) HP1.out).mono ?_; rintro e w3 ⟨v3, rfl, hP, hb⟩; obtain ⟨A3, c3, rfl, hle3, hC3⟩ := Kd.R_reads hP; have HC3 := Aside0.mk hC3; have HL3 := Aside0.mk hle3; have n0_ := Aside0.mk (below_then HB.out HB.out.size hb); have n1_ := Aside0.mk (below_then HD.out HD.out.size hb); clear hP hb hC3 hle3 HB HD; have HB := n0_; have HD := n1_; clear n0_ n1_))
        go_wp2_with (first | (go_at_call 16; refine (hint_Put.calls 2 none 0 [] a1 (putH [] a1) _ (Kd.C_nil _ _) (Nat.le_refl 0) HP1.out).mono ?_; rintro e w7 ⟨v7, rfl, hP, hb⟩; obtain ⟨A7, c7, rfl⟩ := Kd.R_slice hP; have n0_ := Aside0.mk (below_then HB.out HB.out.size hb); clear hP hb HB; have HB := n0_; clear n0_) | (go_at_call 14; refine (hint_Right.calls none 0 [] true _ (Kd.C_nil _ _) (Nat.le_refl 0) rfl).mono ?_; rintro e w6 ⟨rfl, hb⟩; have n0_ := Aside0.mk (below_then HB.out HB.out.size hb); clear hb HB; have HB := n0_; clear n0_) | (go_at_call 19; refine (hint_Of.calls Ax cx xs [] _ (kf_reads HB.out (Kd.C_below HPx.out.2.2 HD.out)) HPx.out.2.1 HOF.out).mono ?_; rintro e w5 ⟨v5, rfl, hR, hb⟩; obtain ⟨A5, c5, rfl⟩ := Kd.R_slice hR; have n0_ := Aside0.mk (below_then HB.out HB.out.size hb); clear hR hb HB HD; have HB := n0_; clear n0_))
        go_ret
        exact ⟨rfl, HB.out⟩
      | succ gk =>
        have hz := HL.out
        have hk0 : k < z0.length := by have := HK.out; omega
        have hk : decide ((k : Int) < (z0.length : Int)) = true := decide_eq_true (by omega)
        have hk' : decide (k < z0.length) = true := decide_eq_true hk0
        have hk1 : (k < z0.length) = True := eq_true hk0
        obtain ⟨ad, A7, c7, A8, c8, e0, x0, x1, x2, x3, x4, x5, x6, x7, x8, hK⟩ := at_F HR.out k hk0
        cases e0
        have hm : rd_T39 z0 k ∈ z0 := by rw [rdF_at z0 k hk0]; exact List.getElem_mem hk0
        replace x0 := (HB.out.cell (World.block_lt_of_cell? w _ x0)).trans x0
        replace x1 := (HB.out.cell (World.block_lt_of_cell? w _ x1)).trans x1
        replace x2 := (HB.out.cell (World.block_lt_of_cell? w _ x2)).trans x2
        replace x3 := (HB.out.cell (World.block_lt_of_cell? w _ x3)).trans x3
        replace x4 := (HB.out.cell (World.block_lt_of_cell? w _ x4)).trans x4
        replace x5 := (HB.out.cell (World.block_lt_of_cell? w _ x5)).trans x5
        replace x6 := (HB.out.cell (World.block_lt_of_cell? w _ x6)).trans x6
        replace x7 := (HB.out.cell (World.block_lt_of_cell? w _ x7)).trans x7
        replace x8 := (HB.out.cell (World.block_lt_of_cell? w _ x8)).trans x8
        generalize rd_T39 z0 k = x at x0 x1 x2 x3 x4 x5 x6 x7 x8 hK hm
        have HKx := Aside0.mk hK
        have HM := Aside0.mk hm
        clear hK hm
        by_cases h1 : x.f2.f0 = 1
        · have HH := Aside0.mk h1
          have e1 : (x.f2.f0 == 1) = true := beq_iff_eq.mpr h1
          have HBY := Aside0.mk (show (xs.length + 1) * 112 ≤ 140737488355328 by have := HX.out; have := HL.out; omega)
          clear h1
          go_wp2_with (at_builtin; refine Kd.R_append (kf w) (w0 := w) w.heap.size rfl (.tmp 29) (.tmp 34) 24 39 (.agg #[(.int .i64 0), (.int .i64 0), (.int .i64 0), (.string ⟨#[]⟩), (.int .i64 0), (.int .i64 0), (.int .i64 0), (.slice none 0 0), (.slice none 0 0)]) 112 rfl Try.underlying24 info39 rfl (Nat.succ_pos 8) (by omega) u8 xs x [.int .i64 x.f0, .int .i64 x.f1, .int .i64 x.f2.f0, .string x.f2.f1, .int .i64 x.f2.f2, .int .i64 x.f2.f3, .int .i64 x.f2.f4, .slice A7 x.f2.f5.length c7, .slice A8 x.f2.f6.length c8] (fun _ => True) (fun _ => False) rfl rfl HKx.out (fun _ h => h.elim) (fun _ _ => trivial) HRx.out HB.out HB.out.size HBY.out ?_; intro v6 w6 hR6 hB6 hg6 _; have HR6 := Aside0.mk hR6; have HB6 := Aside0.mk hB6; clear hR6 hB6 hg6)
          go_roundg gk
          case measure => omega
          case rel =>
            refine ⟨k + 1, xs ++ [x], by go_num, ⟨by have := HK.out; omega⟩, ⟨by rw [List.length_append]; have := HX.out; simp; omega⟩, ⟨?_⟩, HR6, HB6⟩
            intro y hy
            rcases List.mem_append.1 hy with hy | hy
            · exact HP.out y hy
            · simp at hy; subst hy; exact ⟨HH.out, HM.out⟩
        · have e1 : (x.f2.f0 == 1) = false := beq_eq_false_iff_ne.mpr h1
          clear h1
          go_wp2_with (fail)
          go_roundg gk
          case measure => omega
          case rel => exact ⟨k + 1, xs, by go_num, ⟨by have := HK.out; omega⟩, ⟨by have := HX.out; omega⟩, HP, HRx, HB⟩
end Go.Proofs.Yteplnpedakdjkaa.Hu
