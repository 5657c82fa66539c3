/- What is handed to frame.Put is as it was, and what frame.First hands out is new memory: the walk. -/
import Derived.Test.YtjednkbgdbalnaaLw
namespace Go.Proofs.Ytjednkbgdbalnaa.Lw
open Go.RowKit Go.Proofs.YtjednkbgdbalnaaW.PrintWords Go.Proofs.YtjednkbgdbalnaaW.PrintMore Go.Proofs.Ytjednkbgdbalnaa.Fr Go.Proofs.Ytjednkbgdbalnaa.Ext Go.Proofs.Ytjednkbgdbalnaa.Pure
set_option linter.unusedVariables false
set_option linter.unusedSimpArgs false

set_option maxHeartbeats 8000000 in
set_option maxRecDepth 100000 in
theorem still_calls (A : Option Addr) (c : Nat) (l : List Int) (w : World) (hB : IsBytes l) (hc : l.length ≤ c) (hr : Rd w A l) :
    Calls Try.prog 7 #[.slice A l.length c] w fun e w' => e = .returned (.bool true) ∧ Below w.heap.size w w' := by
  have HR := Aside0.mk hr
  clear hr
  by_cases hno : l.length < 1 ∨ 8192 < l.length
  · go_enter Try.func7, Try.ntmps7
    go_wp2_with (first
      | (go_at_call 15; (with_reducible refine (head_n _).mono ?_); rintro e w1 ⟨rfl, B1⟩)
      | (go_at_call 18; (with_reducible refine (put_no_n A c l.length l rfl hno _ hc (HR.out.below B1.out)).mono ?_); rintro e w2 ⟨A2, c2, rfl, O2, B2⟩))
    go_ret
    exact ⟨rfl, below_then B1.out B1.out.size B2.out⟩
  · obtain ⟨F, HF⟩ : ∃ F, Aside0 (frameOf l = F) := ⟨_, ⟨rfl⟩⟩
    obtain ⟨m, HM⟩ : ∃ m, Aside0 (l.length + 8 = m) := ⟨_, ⟨rfl⟩⟩
    have h1 : 1 ≤ l.length := by omega
    have h2 : l.length ≤ 8192 := by omega
    have hm0 : ((m : Int) == 0) = false := beq_eq_false_iff_ne.mpr (by have := HM.out; omega)
    have hFl : F.length = m := by rw [← HF.out, frame_len]; exact HM.out
    have HFl := Aside0.mk hFl
    have HFB := Aside0.mk (show IsBytes F by rw [← HF.out]; exact frame_bytes l hB h2)
    have HG := Aside0.mk (show firstL F = (l, (l.length : Int) + 8, 0) by
      have := first_frame l [] h1 h2
      rw [List.append_nil, HF.out] at this
      exact this)
    obtain ⟨s1, HS1⟩ : ∃ s, Aside0 (strOfNums l = s) := ⟨_, ⟨rfl⟩⟩
    obtain ⟨s2, HS2⟩ : ∃ s, Aside0 (strOfNums F = s) := ⟨_, ⟨rfl⟩⟩
    clear hFl hno
    go_enter Try.func7, Try.ntmps7
    go_wp2_with (first
      | (go_at_call 15; (with_reducible refine (head_n _).mono ?_); rintro e w1 ⟨rfl, B1⟩)
      | (go_at_call 18; (with_reducible refine (put_yes_n A c l.length m l F rfl h1 h2 HF.out HM.out _ hc (HR.out.below B1.out)).mono ?_); rintro e w2 ⟨g2, c2, rfl, hc2, hg2, hl2, O2, R2, B2⟩; have D2 := Aside0.mk (below_then B1.out B1.out.size B2.out); have q1 := (HR.out.below D2.out).str c l.length rfl HS1.out; have q2 := R2.out.str c2 m HFl.out HS2.out; clear B1 B2)
      | (go_at_call 16; (with_reducible refine (first_n _ c2 m F l _ 0 HG.out HFl.out HFB.out _ hc2 R2.out).mono ?_); rintro e w3 ⟨A3, c3, rfl, hc3, O3, R3, B3⟩))
    obtain ⟨g3, c3', e3, hc3', hg3, hl3, _⟩ := own_form l.length O3.out rfl (by omega)
    injection e3 with e3 _ e4
    subst e3 e4
    have hm := Kd.C_max HR.out
    go_loopg [10] l.length (fun kq v10 wr => ∃ (k : Nat) (ys : List Int), v10 = .int .i64 k ∧ Aside0 (k + kq = l.length) ∧ Aside0 (ys.length = l.length) ∧ Aside0 (wr.ownsRow w2.heap.size 5 1 (.slice (some ⟨g3, 0, none⟩) l.length c3) l.length (nums .u8 ys)) ∧ Aside0 (Below w2.heap.size w2 wr))
    case atStart => exact ⟨0, l, rfl, ⟨by omega⟩, ⟨rfl⟩, O3, B3⟩
    case round =>
      clear O3 R3 B3 hl3
      obtain ⟨k, ys, rfl, HK, HY, O3, B3⟩ := hrel
      cases gk with
      | zero =>
        have d1 : decide ((k : Int) < (l.length : Int)) = false := decide_eq_false (by have := HK.out; omega)
        have d2 : decide (k < l.length) = false := decide_eq_false (by have := HK.out; omega)
        have q1 := (HR.out.below (below_then D2.out D2.out.size B3.out)).str c l.length rfl HS1.out
        have q2 := (R2.out.below B3.out).str c2 m HFl.out HS2.out
        go_wp2_with (go_at_call 16; (with_reducible refine (first_n _ c2 m F l _ 0 HG.out HFl.out HFB.out _ hc2 (R2.out.below B3.out)).mono ?_); rintro e w4 ⟨A4, c4, rfl, hc4, O4, R4, B4⟩; have B5 := Aside0.mk (below_then B3.out B3.out.size B4.out); have q3 := (HR.out.below (below_then D2.out D2.out.size B5.out)).str c l.length rfl HS1.out; have q4 := (R2.out.below B5.out).str c2 m HFl.out HS2.out; have q5 := R4.out.str c4 l.length rfl HS1.out)
        go_ret
        exact ⟨rfl, below_then D2.out D2.out.size B5.out⟩
      | succ gk =>
        have hk0 : k < l.length := by have := HK.out; omega
        have d1 : decide ((k : Int) < (l.length : Int)) = true := decide_eq_true (by omega)
        have d2 : decide (k < l.length) = true := decide_eq_true hk0
        have hk1 : (k < l.length) = True := eq_true hk0
        have h0 : 0 ≤ (k : Int) := by omega
        obtain ⟨hcell, hfz⟩ := own_at O3.out (k : Int) h0 (by omega)
        rw [Int.toNat_natCast] at hcell hfz
        have HO := Aside0.mk (own_store O3.out (k : Int) ((rd ys k + 1) % 256)).1
        rw [Int.toNat_natCast] at HO
        go_wp2
        go_roundg gk
        case measure => have := HK.out; omega
        case rel => exact ⟨k + 1, _, by go_num, ⟨by have := HK.out; omega⟩, ⟨by rw [List.length_set]; exact HY.out⟩, HO, ⟨B3.out.setCell hg3 _⟩⟩

theorem still_walk (a0 : Option Addr) (len0 cap0 : Nat) (z0 : List Int) (w : World) (w0 : Row8 w a0 len0 cap0 z0) (y0 : len0 * 1 ≤ 140737488351232) :
    Calls Try.prog 7 #[.slice a0 len0 cap0] w fun e w' => e = .returned (.bool true) ∧ Below w.heap.size w w' := by
  obtain ⟨l0, rfl, hr0, hb0, hc0⟩ := row8_of w0
  exact still_calls a0 cap0 l0 w hb0 hc0 hr0
end Go.Proofs.Ytjednkbgdbalnaa.Lw
