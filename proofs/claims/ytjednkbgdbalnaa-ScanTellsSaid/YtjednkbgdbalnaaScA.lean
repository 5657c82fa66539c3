/- The iterator of package scan, for whatever rounds. -/
import Derived.Test.YtjednkbgdbalnaaFrY
import Derived.Test.YtjednkbgdbalnaaScP
import Derived.Test.YtjednkbgdbalnaaLw
import Derived.RangeFuncNested
import Derived.RangeFuncBound
import Derived.RangeFuncCalls
import Derived.RangeFuncLeaves
import Derived.Shelf.Abstract
import Derived.Shelf.RegionOpen
import Derived.OwnWalkIn
import Derived.TacticsInMore
import Derived.LoopNIn
import Derived.LoopIn
namespace Go.Proofs.Ytjednkbgdbalnaa.Sc
open Go.RowKit Go.Shelf Go.Proofs.YtjednkbgdbalnaaW.PrintWords Go.Proofs.YtjednkbgdbalnaaW.PrintLast Go.Proofs.YtjednkbgdbalnaaW.PrintMore Go.Proofs.Ytjednkbgdbalnaa.Fr Go.Proofs.Ytjednkbgdbalnaa.Ext Go.Proofs.Ytjednkbgdbalnaa.Pure Go.Proofs.Ytjednkbgdbalnaa.Lw
attribute [local go_sem] Oper.semAt_some
set_option linter.unusedVariables false
set_option linter.unusedSimpArgs false

/-- The iterator's maker: its two arguments are boxed. -/
theorem items_calls (A : Option Addr) (n c g : Nat) (w : World) :
    Calls Try.prog 36 #[.slice A n c, .pointer (some ⟨g, 0, none⟩)] w fun e w' => e = .returned (.func (.func 41) #[] #[.pointer (some ⟨w.heap.size + 1, 0, none⟩), .pointer (some ⟨w.heap.size, 0, none⟩)]) ∧
      w' = (w.alloc (.cells #[.slice A n c] 22)).alloc (.cells #[.pointer (some ⟨g, 0, none⟩)] 63) := by
  go_enter Try.func36, Try.ntmps36
  go_wp2
  go_ret
  exact ⟨by simp, rfl⟩
/-- What the iterator finds: its caller's state, its two boxes, the bytes. -/
structure Hd (w0 W : World) (sb b1 b2 : Nat) (A : Option Addr) (c : Nat) (l : List Int) (at_ bad : Nat) (e : Int) : Prop where
  st : W.heap[sb]? = some (.cells #[.int .i64 (at_ : Int), .int .i64 (bad : Int), .int .i64 e] 59 (0, 0))
  x1 : W.heap[b1]? = some (.cells #[.slice A l.length c] 22 (0, 0))
  x2 : W.heap[b2]? = some (.cells #[.pointer (some ⟨sb, 0, none⟩)] 63 (0, 0))
  bel : Below w0.heap.size w0 W
theorem Hd.below {w0 W W' : World} {sb b1 b2 : Nat} {A : Option Addr} {c : Nat} {l : List Int} {at_ bad : Nat} {e : Int} (h : Hd w0 W sb b1 b2 A c l at_ bad e) (hb : Below W.heap.size W W') : Hd w0 W' sb b1 b2 A c l at_ bad e :=
  ⟨(hb.block _ (blk_lt h.st)).trans h.st, (hb.block _ (blk_lt h.x1)).trans h.x1, (hb.block _ (blk_lt h.x2)).trans h.x2, below_then h.bel h.bel.size hb⟩
theorem Hd.cells {w0 W : World} {sb b1 b2 : Nat} {A : Option Addr} {c : Nat} {l : List Int} {at_ bad : Nat} {e : Int} (h : Hd w0 W sb b1 b2 A c l at_ bad e) : W.cell? ⟨b1, 0, none⟩ = some (.slice A l.length c) ∧ W.cell? ⟨b2, 0, none⟩ = some (.pointer (some ⟨sb, 0, none⟩)) ∧ W.cell? ⟨sb, 0, none⟩ = some (.int .i64 (at_ : Int)) :=
  ⟨(blk_cell h.x1 0).trans rfl, (blk_cell h.x2 0).trans rfl, (blk_cell h.st 0).trans rfl⟩
theorem Hd.setE {w0 W : World} {sb b1 b2 : Nat} {A : Option Addr} {c : Nat} {l : List Int} {at_ bad : Nat} {e : Int} (h : Hd w0 W sb b1 b2 A c l at_ bad e) (h1 : b1 ≠ sb) (h2 : b2 ≠ sb) (hs : w0.heap.size ≤ sb) (e' : Int) : Hd w0 (W.setCell ⟨sb, 2, none⟩ (.int .i64 e')) sb b1 b2 A c l at_ bad e' :=
  ⟨blk_put (cs := #[.int .i64 (at_ : Int), .int .i64 (bad : Int), .int .i64 e]) h.st 2 _ rfl, blk_far h.x1 h1 _, blk_far h.x2 h2 _, h.bel.setCell hs _⟩
theorem Hd.setBad {w0 W : World} {sb b1 b2 : Nat} {A : Option Addr} {c : Nat} {l : List Int} {at_ bad : Nat} {e : Int} (h : Hd w0 W sb b1 b2 A c l at_ bad e) (h1 : b1 ≠ sb) (h2 : b2 ≠ sb) (hs : w0.heap.size ≤ sb) (bad' : Nat) (v : Int) (hv : v = (bad' : Int)) : Hd w0 (W.setCell ⟨sb, 1, none⟩ (.int .i64 v)) sb b1 b2 A c l at_ bad' e := by
  subst hv
  exact ⟨blk_put (cs := #[.int .i64 (at_ : Int), .int .i64 (bad : Int), .int .i64 e]) h.st 1 _ rfl, blk_far h.x1 h1 _, blk_far h.x2 h2 _, h.bel.setCell hs _⟩
theorem Hd.setAt {w0 W : World} {sb b1 b2 : Nat} {A : Option Addr} {c : Nat} {l : List Int} {at_ bad : Nat} {e : Int} (h : Hd w0 W sb b1 b2 A c l at_ bad e) (h1 : b1 ≠ sb) (h2 : b2 ≠ sb) (hs : w0.heap.size ≤ sb) (at' : Nat) (v : Int) (hv : v = (at' : Int)) : Hd w0 (W.setCell ⟨sb, 0, none⟩ (.int .i64 v)) sb b1 b2 A c l at' bad e := by
  subst hv
  exact ⟨blk_put (cs := #[.int .i64 (at_ : Int), .int .i64 (bad : Int), .int .i64 e]) h.st 0 _ rfl, blk_far h.x1 h1 _, blk_far h.x2 h2 _, h.bel.setCell hs _⟩
theorem drop_run (A : Option Addr) (c : Nat) (l : List Int) (k : Nat) (hk : k ≤ l.length) (hc : l.length ≤ c) : ∃ A' : Option Addr, (∀ W : World, (Instr.slice 22 (.slice A l.length c) (some (.int .i64 (k : Int))) none none).run Try.prog W = .ok (.slice A' (l.length - k) (c - k)) W) ∧ ∀ w, Rd w A l → Rd w A' (l.drop k) := by
  obtain ⟨i0, hi, hz0, hz1, hz2⟩ := info_parts info_u8
  obtain ⟨A', h1, h2⟩ := print_cut (P := Try.prog) 22 5 .i64 Try.underlying22 hi hz1 A l.length c k hk
  refine ⟨A', h1, fun w h => ?_⟩
  have := h2 w .u8 l hc (ints_of_C h)
  have e : (l.drop k).length = l.length - k := List.length_drop
  unfold Rd
  rw [e]
  exact C_of_ints this

set_option maxHeartbeats 8000000 in
set_option maxRecDepth 100000 in
theorem items1_calls (w0 : World) (lb : Nat) (A : Option Addr) (c : Nat) (xs : List Int) (sb b1 b2 : Nat) (hne1 : b1 ≠ sb) (hne2 : b2 ≠ sb) (hsb : w0.heap.size ≤ sb) (J : List Itm → Nat → World → Prop) (Jx : World → Prop) (R : List Itm × Nat × Nat × Int) (W : World) (k N0 : Nat)
    (hr0 : Rd w0 A xs) (hB : IsBytes xs) (hc : xs.length ≤ c) (hm : xs.length ≤ 140737488351232)
    (hJ0 : ∀ pre N N' W, J pre N W → N ≤ N' → J pre N' W)
    (hJ1 : ∀ pre N W W', J pre N W → N ≤ W.heap.size → Below W.heap.size W W' → J pre N W')
    (hJ2 : ∀ pre N W p v, p.block = sb → J pre N W → J pre N (W.setCell p v))
    (hY : ∀ pre N at_ bad n ys A' c' k W1, J pre N W1 → N ≤ W1.heap.size → Hd w0 W1 sb b1 b2 A c xs (at_ + n) bad 0 → at_ + n ≤ xs.length → pre.length ≤ at_ → Lw.Own W1 N (.slice A' ys.length c') ys → scanGo k xs (at_ + n) bad (pre ++ [(at_, n, ys)]) = R →
      YieldAt Fence.wide 0 Try.prog lb #[.agg #[.int .i64 (at_ : Int), .int .i64 (n : Int), .slice A' ys.length c']] W1 fun e W' => (e = .returned (.bool true) ∧ (∃ N', N' ≤ W'.heap.size ∧ J (pre ++ [(at_, n, ys)]) N' W') ∧ Hd w0 W' sb b1 b2 A c xs (at_ + n) bad 0) ∨ (e = .returned (.bool false) ∧ Jx W'))
    (at0 bad0 : Nat) (hat : at0 ≤ xs.length) (hbad : bad0 ≤ at0) (h0 : J [] N0 W) (hN0 : N0 ≤ W.heap.size) (hH : Hd w0 W sb b1 b2 A c xs at0 bad0 0) (hk : xs.length < at0 + k) (hR : scanGo k xs at0 bad0 [] = R) :
    Calls Try.prog 41 #[.func (.yield lb) #[] #[], .pointer (some ⟨b2, 0, none⟩), .pointer (some ⟨b1, 0, none⟩)] W fun e W' => (∃ v, e = .returned v) ∧
      ((∃ N, N ≤ W'.heap.size ∧ J R.1 N W' ∧ Hd w0 W' sb b1 b2 A c xs R.2.2.1 R.2.1 R.2.2.2) ∨ Jx W') := by
  have HJ := Aside0.mk h0
  have HH := Aside0.mk hH
  have HR := Aside0.mk hR
  clear h0 hH hR
  go_enter Try.func41, Try.ntmps41
  go_wp2
  go_loopg [] k (fun kq wr => ∃ at_ bad pre N, Aside0 (J pre N wr) ∧ Aside0 (N ≤ wr.heap.size) ∧ Aside0 (Hd w0 wr sb b1 b2 A c xs at_ bad 0) ∧ Aside0 (xs.length < at_ + kq) ∧ Aside0 (scanGo kq xs at_ bad pre = R) ∧ Aside0 (at_ ≤ xs.length) ∧ Aside0 (bad ≤ at_) ∧ Aside0 (pre.length ≤ at_))
  case atStart => exact ⟨at0, bad0, [], N0, HJ, ⟨hN0⟩, HH, ⟨hk⟩, HR, ⟨hat⟩, ⟨hbad⟩, ⟨Nat.zero_le _⟩⟩
  case round =>
    clear HJ HH HR hk
    obtain ⟨at_, bad, pre, N, HJ, HN, HH, HK, HR, HA, HD, HP⟩ := hrel
    cases gk with
    | zero => exact absurd HK.out (by have := HA.out; omega)
    | succ gk =>
      have s0 := (blk_cell HH.out.st 0).trans rfl
      have s1 := (blk_cell HH.out.st 1).trans rfl
      have s2 := (blk_cell HH.out.st 2).trans rfl
      have x1 := (blk_cell HH.out.x1 0).trans rfl
      have x2 := (blk_cell HH.out.x2 0).trans rfl
      by_cases hlt : at_ < xs.length
      · have d1 : decide ((at_ : Int) < (xs.length : Int)) = true := decide_eq_true (by omega)
        have d2 : decide (at_ < xs.length) = true := decide_eq_true hlt
        obtain ⟨A1, hdr1, hdr2⟩ := drop_run A c xs at_ (by omega) hc
        go_wp2
        go_quiet (fail)
        have HB0 := Aside0.mk (pw_below_drewN (Below.refl wr.heap.size wr) nq)
        have HH1 := Aside0.mk (HH.out.below HB0.out)
        have HJ1 := Aside0.mk (hJ0 _ _ _ _ (hJ1 _ _ _ _ HJ.out HN.out HB0.out) HN.out)
        obtain ⟨Nn, HNn⟩ : ∃ n, Aside0 (wr.heap.size = n) := ⟨_, ⟨rfl⟩⟩
        have hNsb := Aside0.mk (show sb < Nn by rw [← HNn.out]; exact blk_lt HH.out.st)
        have HNw := Aside0.mk (show Nn ≤ (wr.drewN nq).heap.size by rw [← HNn.out]; exact HB0.out.size)
        rw [HNn.out] at HJ1
        clear HJ HN HH HB0 s0 s1 s2 x1 x2 HNn
        generalize wr.drewN nq = wa at HH1 HJ1 HNw ⊢
        have s0 := (blk_cell HH1.out.st 0).trans rfl
        have s1 := (blk_cell HH1.out.st 1).trans rfl
        have s2 := (blk_cell HH1.out.st 2).trans rfl
        have x1 := (blk_cell HH1.out.x1 0).trans rfl
        have x2 := (blk_cell HH1.out.x2 0).trans rfl
        obtain ⟨ys, kk, ee, hf, hkinds⟩ := first_kinds (xs.drop at_) (hB.drop at_)
        have HF := Aside0.mk hf
        clear hf
        go_wp2
        go_region_held3 (fun w' => w'.cell? ⟨b1, 0, none⟩ = some (.slice A xs.length c) ∧ w'.cell? ⟨b2, 0, none⟩ = some (.pointer (some ⟨sb, 0, none⟩)) ∧ w'.cell? ⟨sb, 0, none⟩ = some (.int .i64 (at_ : Int)))
          (first | go_keep | exact ((HH1.out.below (below_drew1 (Below.refl _ _))).below B2.out).cells | fail)
          ((go_at_call 16; (with_reducible refine (first_n A1 (c - at_) (xs.length - at_) (xs.drop at_) ys kk ee HF.out List.length_drop (hB.drop at_) _ (by omega) (hdr2 _ (hr0.below (HH1.out.below (below_drew1 (Below.refl _ _))).bel))).mono ?_); rintro e w1 ⟨A2, c2, rfl, hc2, O2, R2, B2⟩))
        all_goals
          have HH2 := Aside0.mk ((HH1.out.below (below_drew1 (Below.refl _ _))).below B2.out)
          have HJ2 := Aside0.mk (hJ1 _ _ _ _ (hJ1 _ _ _ _ HJ1.out HNw.out (below_drew1 (Below.refl _ _))) HNw.out B2.out)
          have HN2 := Aside0.mk (Nat.le_trans HNw.out (Nat.le_trans (below_drew1 (Below.refl wa.heap.size wa)).size B2.out.size))
          have HO2 := Aside0.mk (own_weaken O2.out HNw.out)
          clear HH1 HJ1 HNw O2 R2 B2 s0 s1 s2 x1 x2 hdr1 hdr2
          have s0 := (blk_cell HH2.out.st 0).trans rfl
          have s1 := (blk_cell HH2.out.st 1).trans rfl
          have s2 := (blk_cell HH2.out.st 2).trans rfl
          have z0 := blk_frozen HH2.out.st 0
          have z1 := blk_frozen HH2.out.st 1
          have z2 := blk_frozen HH2.out.st 2
          have x1 := (blk_cell HH2.out.x1 0).trans rfl
          have x2 := (blk_cell HH2.out.x2 0).trans rfl
          rcases hkinds with ⟨rfl, rfl, he⟩ | ⟨n, rfl, hn9, hnl, ⟨rfl, rfl⟩ | ⟨rfl, hyl, hy1, hy2, hyf, hyB⟩⟩
          · clear hY
            have hR' : R = (pre, bad, at_, ee) := by
              rw [← HR.out, scanGo, if_pos hlt, HF.out]
              rfl
            go_wp2
            refine bodyPost_ret (results_none rfl _ _ _) rfl ?_
            refine ⟨⟨_, rfl⟩, .inl ⟨Nn, ?_, ?_, ?_⟩⟩
            · exact Nat.le_trans HN2.out (KeepsWalks.setCell _ _ _).size
            · rw [hR']
              exact hJ2 _ _ _ _ _ rfl HJ2.out
            · rw [hR']
              exact HH2.out.setE hne1 hne2 hsb ee
          · have hn2 : at_ + n ≤ xs.length := by rw [List.length_drop] at hnl; omega
            have hb2 : bad ≤ at_ := HD.out
            have hR' : scanGo gk xs (at_ + n) (bad + 1) pre = R := by
              rw [← HR.out, scanGo, if_pos hlt, HF.out]
              simp only [Int.toNat_natCast]
              rw [if_neg (by omega), if_neg (by decide)]
            have HR' := Aside0.mk hR'
            have k0 : ((n : Int) == 0) = false := beq_eq_false_iff_ne.mpr (by omega)
            have k1 : (n == 0) = false := beq_eq_false_iff_ne.mpr (by omega)
            have k2 : decide (n = 0) = false := decide_eq_false (by omega)
            clear hR' HR hY
            go_wp2
            go_roundg gk
            case measure => omega
            case rel =>
              refine ⟨at_ + n, bad + 1, pre, Nn, ⟨hJ2 _ _ _ _ _ rfl (hJ2 _ _ _ _ _ rfl HJ2.out)⟩, ⟨Nat.le_trans HN2.out (Nat.le_trans (KeepsWalks.setCell _ _ _).size (KeepsWalks.setCell _ _ _).size)⟩, ⟨?_⟩, ⟨by have := HK.out; omega⟩, HR', ⟨?_⟩, ⟨?_⟩, ⟨by have := HP.out; omega⟩⟩
              · refine (HH2.out.setBad hne1 hne2 hsb (bad + 1) _ ?_).setAt hne1 hne2 hsb (at_ + n) _ ?_
                · omega
                · omega
              · exact hn2
              · omega
          · have hn2 : at_ + n ≤ xs.length := by rw [List.length_drop] at hnl; omega
            have hR' : scanGo gk xs (at_ + n) bad (pre ++ [(at_, n, ys)]) = R := by
              rw [← HR.out, scanGo, if_pos hlt, HF.out]
              simp only [Int.toNat_natCast]
              rw [if_neg (by omega), if_pos trivial]
            have HR' := Aside0.mk hR'
            have k0 : ((n : Int) == 0) = false := beq_eq_false_iff_ne.mpr (by omega)
            have k1 : (n == 0) = false := beq_eq_false_iff_ne.mpr (by omega)
            have k2 : decide (n = 0) = false := decide_eq_false (by omega)
            clear hR' HR
            go_upto_region 8 with (fail)
            have HB3 := Aside0.mk (below_alloc (Below.refl w1.heap.size w1) (.cells #[.int .i64 (at_ : Int), .int .i64 (n : Int), .slice A2 ys.length c2] 41))
            have HH3 := Aside0.mk (HH2.out.below HB3.out)
            have HJ3 := Aside0.mk (hJ1 _ _ _ _ HJ2.out HN2.out HB3.out)
            have HO3 := Aside0.mk (own_move HO2.out (fun k hk => HB3.out.block k (own_lt HO2.out k hk)))
            have HN3 := Aside0.mk (Nat.le_trans HN2.out HB3.out.size)
            have BK3 := Aside0.mk (heap_alloc_new w1 (.cells #[.int .i64 (at_ : Int), .int .i64 (n : Int), .slice A2 ys.length c2] 41))
            have HS3 := Aside0.mk (show w1.heap.size ≠ sb from fun e => by have := blk_lt HH2.out.st; omega)
            have HSO := Aside0.mk (show (Value.slice A2 ys.length c2).ownBlock ≠ some sb from fun e => by have := own_base HO2.out sb e; have := hNsb.out; omega)
            clear HH2 HJ2 HO2 HN2 HB3 s0 s1 s2 z0 z1 z2 x1 x2
            generalize w1.heap.size = g3 at BK3 HS3 ⊢
            generalize w1.alloc (.cells #[.int .i64 (at_ : Int), .int .i64 (n : Int), .slice A2 ys.length c2] 41) = w3 at HH3 HJ3 HO3 HN3 BK3 ⊢
            have s0 := (blk_cell HH3.out.st 0).trans rfl
            have z0 := blk_frozen HH3.out.st 0
            have x2 := (blk_cell HH3.out.x2 0).trans rfl
            go_upto_region 9 with (fail)
            have HJ4 := Aside0.mk (hJ2 _ _ _ ⟨sb, 0, none⟩ (.int .i64 ((at_ : Int) + (n : Int))) rfl HJ3.out)
            have HH4 := Aside0.mk (HH3.out.setAt hne1 hne2 hsb (at_ + n) ((at_ : Int) + (n : Int)) (by omega))
            have HO4 := Aside0.mk (own_setCell HO3.out (p := ⟨sb, 0, none⟩) (fun e => HSO.out e.symm) (.int .i64 ((at_ : Int) + (n : Int))))
            have HN4 := Aside0.mk (Nat.le_trans HN3.out (KeepsWalks.setCell w3 ⟨sb, 0, none⟩ (.int .i64 ((at_ : Int) + (n : Int)))).size)
            have BK4 := Aside0.mk (blk_far BK3.out (p := ⟨sb, 0, none⟩) HS3.out (.int .i64 ((at_ : Int) + (n : Int))))
            clear HJ3 HH3 HO3 HN3 BK3 s0 z0 x2
            generalize w3.setCell ⟨sb, 0, none⟩ (.int .i64 ((at_ : Int) + (n : Int))) = w4 at HJ4 HH4 HO4 HN4 BK4 ⊢
            have y0 := (blk_cell BK4.out 0).trans rfl
            have y1 := (blk_cell BK4.out 1).trans rfl
            have y2 := (blk_cell BK4.out 2).trans rfl
            obtain ⟨fn, tmps, assign, body, hy, hR5⟩ := hY pre Nn at_ bad n ys A2 c2 gk w4 HJ4.out HN4.out HH4.out hn2 HP.out HO4.out HR'.out
            refine (wpIn_wide (n := 1)).1 ?_
            gi_wp2
            refine hR5.mono ?_
            clear HJ4 HH4 HO4 HN4 BK4 y0 y1 y2 hy hR5 hY
            rintro e W' (⟨rfl, ⟨N', hN', hJ'⟩, hH'⟩ | ⟨rfl, hX⟩)
            · gi_wp2
              go_wp2
              go_roundg gk
              case measure => omega
              case rel => exact ⟨at_ + n, bad, pre ++ [(at_, n, ys)], N', ⟨hJ'⟩, ⟨hN'⟩, ⟨hH'⟩, ⟨by have := HK.out; omega⟩, HR', ⟨hn2⟩, ⟨by have := HD.out; omega⟩, ⟨by have := HP.out; rw [List.length_append, List.length_singleton]; omega⟩⟩
            · gi_wp2
              go_wp2
              refine bodyPost_ret (results_none rfl _ _ _) rfl ?_
              exact ⟨⟨_, rfl⟩, .inr hX⟩
      · have d1 : decide ((at_ : Int) < (xs.length : Int)) = false := decide_eq_false (by omega)
        have d2 : decide (at_ < xs.length) = false := decide_eq_false hlt
        have hR' : R = (pre, bad, at_, 0) := by
          rw [← HR.out, scanGo, if_neg hlt]
        go_wp2
        go_quiet (fail)
        have HB0 := Aside0.mk (pw_below_drewN (Below.refl wr.heap.size wr) nq)
        have HH1 := Aside0.mk (HH.out.below HB0.out)
        have HJ1 := Aside0.mk (hJ1 _ _ _ _ HJ.out HN.out HB0.out)
        go_wp2
        go_end0
        refine ⟨⟨_, rfl⟩, .inl ⟨N, Nat.le_trans HN.out HB0.out.size, ?_, ?_⟩⟩
        · rw [hR']
          exact HJ1.out
        · rw [hR']
          exact HH1.out
end Go.Proofs.Ytjednkbgdbalnaa.Sc
