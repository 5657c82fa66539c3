/- Texts of this claim, joined: ScA, ScB, ScAll, HnA, HnT, HnM, HnO, HnX, ScXA. -/
import Derived.Test.YteplnpedakdjkaaZGa
import Derived.Test.YteplnpedakdjkaaZGb
import Derived.RangeFuncNested
import Derived.RangeFuncBound
import Derived.RangeFuncCalls
import Derived.RangeFuncLeaves
import Derived.Shelf.Abstract
import Derived.Shelf.RegionOpen
import Derived.OwnWalkIn
import Derived.TacticsInMore
import Derived.LoopNIn
import Derived.LoopIn
import Derived.Test.YteplnpedakdjkaaZWApart
import Derived.Test.YteplnpedakdjkaaZPtx0
section
/- The iterator of package scan, for whatever rounds. -/
namespace Go.Proofs.Yteplnpedakdjkaa.Sc
open Go.RowKit Go.Shelf Go.Proofs.YteplnpedakdjkaaW.PrintWords Go.Proofs.YteplnpedakdjkaaW.PrintLast Go.Proofs.YteplnpedakdjkaaW.PrintMore Go.Proofs.Yteplnpedakdjkaa.Fr Go.Proofs.Yteplnpedakdjkaa.Ext Go.Proofs.Yteplnpedakdjkaa.Pure Go.Proofs.Yteplnpedakdjkaa.Lw
attribute [local go_sem] Oper.semAt_some
set_option linter.unusedVariables false
set_option linter.unusedSimpArgs false

/-- The iterator's maker: its two arguments are boxed. -/
theorem items_calls (A : Option Addr) (n c g : Nat) (w : World) :
    Calls Try.prog 42 #[.slice A n c, .pointer (some ⟨g, 0, none⟩)] w fun e w' => e = .returned (.func (.func 58) #[] #[.pointer (some ⟨w.heap.size + 1, 0, none⟩), .pointer (some ⟨w.heap.size, 0, none⟩)]) ∧
      w' = (w.alloc (.cells #[.slice A n c] 23)).alloc (.cells #[.pointer (some ⟨g, 0, none⟩)] 79) := by
  go_enter Try.func42, Try.ntmps42
  go_wp2
  go_ret
  exact ⟨by simp, rfl⟩
/-- What the iterator finds: its caller's state, its two boxes, the bytes. -/
structure Hd (w0 W : World) (sb b1 b2 : Nat) (A : Option Addr) (c : Nat) (l : List Int) (at_ bad : Nat) (e : Int) : Prop where
  st : W.heap[sb]? = some (.cells #[.int .i64 (at_ : Int), .int .i64 (bad : Int), .int .i64 e] 75 (0, 0))
  x1 : W.heap[b1]? = some (.cells #[.slice A l.length c] 23 (0, 0))
  x2 : W.heap[b2]? = some (.cells #[.pointer (some ⟨sb, 0, none⟩)] 79 (0, 0))
  bel : Below w0.heap.size w0 W
theorem Hd.below {w0 W W' : World} {sb b1 b2 : Nat} {A : Option Addr} {c : Nat} {l : List Int} {at_ bad : Nat} {e : Int} (h : Hd w0 W sb b1 b2 A c l at_ bad e) (hb : Below W.heap.size W W') : Hd w0 W' sb b1 b2 A c l at_ bad e :=
  ⟨(hb.block _ (blk_lt h.st)).trans h.st, (hb.block _ (blk_lt h.x1)).trans h.x1, (hb.block _ (blk_lt h.x2)).trans h.x2, below_then h.bel h.bel.size hb⟩
theorem Hd.cells {w0 W : World} {sb b1 b2 : Nat} {A : Option Addr} {c : Nat} {l : List Int} {at_ bad : Nat} {e : Int} (h : Hd w0 W sb b1 b2 A c l at_ bad e) : W.cell? ⟨b1, 0, none⟩ = some (.slice A l.length c) ∧ W.cell? ⟨b2, 0, none⟩ = some (.pointer (some ⟨sb, 0, none⟩)) ∧ W.cell? ⟨sb, 0, none⟩ = some (.int .i64 (at_ : Int)) :=
  ⟨(blk_cell h.x1 0).trans rfl, (blk_cell h.x2 0).trans rfl, (blk_cell h.st 0).trans rfl⟩
theorem Hd.setE {w0 W : World} {sb b1 b2 : Nat} {A : Option Addr} {c : Nat} {l : List Int} {at_ bad : Nat} {e : Int} (h : Hd w0 W sb b1 b2 A c l at_ bad e) (h1 : b1 ≠ sb) (h2 : b2 ≠ sb) (hs : w0.heap.size ≤ sb) (e' : Int) : Hd w0 (W.setCell ⟨sb, 2, none⟩ (.int .i64 e')) sb b1 b2 A c l at_ bad e' :=
  ⟨blk_put (cs := #[.int .i64 (at_ : Int), .int .i64 (bad : Int), .int .i64 e]) h.st 2 _ rfl, blk_far h.x1 h1 _, blk_far h.x2 h2 _, h.bel.setCell hs _⟩
theorem Hd.setBad {w0 W : World} {sb b1 b2 : Nat} {A : Option Addr} {c : Nat} {l : List Int} {at_ bad : Nat} {e : Int} (h : Hd w0 W sb b1 b2 A c l at_ bad e) (h1 : b1 ≠ sb) (h2 : b2 ≠ sb) (hs : w0.heap.size ≤ sb) (bad' : Nat) (v : Int) (hv : v = (bad' : Int)) : Hd w0 (W.setCell ⟨sb, 1, none⟩ (.int .i64 v)) sb b1 b2 A c l at_ bad' e := by
  subst hv
  exact ⟨blk_put (cs := #[.int .i64 (at_ : Int), .int .i64 (bad : Int), .int .i64 e]) h.st 1 _ rfl, blk_far h.x1 h1 _, blk_far h.x2 h2 _, h.bel.setCell hs _⟩
theorem Hd.setAt {w0 W : World} {sb b1 b2 : Nat} {A : Option Addr} {c : Nat} {l : List Int} {at_ bad : Nat} {e : Int} (h : Hd w0 W sb b1 b2 A c l at_ bad e) (h1 : b1 ≠ sb) (h2 : b2 ≠ sb) (hs : w0.heap.size ≤ sb) (at' : Nat) (v : Int) (hv : v = (at' : Int)) : Hd w0 (W.setCell ⟨sb, 0, none⟩ (.int .i64 v)) sb b1 b2 A c l at' bad e := by
  subst hv
  exact ⟨blk_put (cs := #[.int .i64 (at_ : Int), .int .i64 (bad : Int), .int .i64 e]) h.st 0 _ rfl, blk_far h.x1 h1 _, blk_far h.x2 h2 _, h.bel.setCell hs _⟩
theorem drop_run (A : Option Addr) (c : Nat) (l : List Int) (k : Nat) (hk : k ≤ l.length) (hc : l.length ≤ c) : ∃ A' : Option Addr, (∀ W : World, (Instr.slice 23 (.slice A l.length c) (some (.int .i64 (k : Int))) none none).run Try.prog W = .ok (.slice A' (l.length - k) (c - k)) W) ∧ ∀ w, Rd w A l → Rd w A' (l.drop k) := by
  obtain ⟨i0, hi, hz0, hz1, hz2⟩ := info_parts info_u8
  obtain ⟨A', h1, h2⟩ := print_cut (P := Try.prog) 23 5 .i64 Try.underlying23 hi hz1 A l.length c k hk
  refine ⟨A', h1, fun w h => ?_⟩
  have := h2 w .u8 l hc (ints_of_C h)
  have e : (l.drop k).length = l.length - k := List.length_drop
  unfold Rd
  rw [e]
  exact C_of_ints this

set_option maxHeartbeats 8000000 in
set_option maxRecDepth 100000 in
theorem items1_calls (w0 : World) (lb : Nat) (A : Option Addr) (c : Nat) (xs : List Int) (sb b1 b2 : Nat) (hne1 : b1 ≠ sb) (hne2 : b2 ≠ sb) (hsb : w0.heap.size ≤ sb) (J : List Itm → Nat → World → Prop) (Jx : World → Prop) (R : List Itm × Nat × Nat × Int) (W : World) (k N0 : Nat)
    (hr0 : Rd w0 A xs) (hB : IsBytes xs) (hc : xs.length ≤ c) (hm : xs.length ≤ 140737488351232)
    (hJ0 : ∀ pre N N' W, J pre N W → N ≤ N' → J pre N' W)
    (hJ1 : ∀ pre N W W', J pre N W → N ≤ W.heap.size → Below W.heap.size W W' → J pre N W')
    (hJ2 : ∀ pre N W p v, p.block = sb → J pre N W → J pre N (W.setCell p v))
    (hY : ∀ pre N at_ bad n ys A' c' k W1, J pre N W1 → N ≤ W1.heap.size → Hd w0 W1 sb b1 b2 A c xs (at_ + n) bad 0 → at_ + n ≤ xs.length → pre.length ≤ at_ → Lw.Own W1 N (.slice A' ys.length c') ys → scanGo k xs (at_ + n) bad (pre ++ [(at_, n, ys)]) = R →
      YieldAt Fence.wide 0 Try.prog lb #[.agg #[.int .i64 (at_ : Int), .int .i64 (n : Int), .slice A' ys.length c']] W1 fun e W' => (e = .returned (.bool true) ∧ (∃ N', N' ≤ W'.heap.size ∧ J (pre ++ [(at_, n, ys)]) N' W') ∧ Hd w0 W' sb b1 b2 A c xs (at_ + n) bad 0) ∨ (e = .returned (.bool false) ∧ Jx W'))
    (at0 bad0 : Nat) (hat : at0 ≤ xs.length) (hbad : bad0 ≤ at0) (h0 : J [] N0 W) (hN0 : N0 ≤ W.heap.size) (hH : Hd w0 W sb b1 b2 A c xs at0 bad0 0) (hk : xs.length < at0 + k) (hR : scanGo k xs at0 bad0 [] = R) :
    Calls Try.prog 58 #[.func (.yield lb) #[] #[], .pointer (some ⟨b2, 0, none⟩), .pointer (some ⟨b1, 0, none⟩)] W fun e W' => (∃ v, e = .returned v) ∧
      ((∃ N, N ≤ W'.heap.size ∧ J R.1 N W' ∧ Hd w0 W' sb b1 b2 A c xs R.2.2.1 R.2.1 R.2.2.2) ∨ Jx W') := by
  have HJ := Aside0.mk h0
  have HH := Aside0.mk hH
  have HR := Aside0.mk hR
  clear h0 hH hR
  go_enter Try.func58, Try.ntmps58
  go_wp2
  go_loopg [] k (fun kq wr => ∃ at_ bad pre N, Aside0 (J pre N wr) ∧ Aside0 (N ≤ wr.heap.size) ∧ Aside0 (Hd w0 wr sb b1 b2 A c xs at_ bad 0) ∧ Aside0 (xs.length < at_ + kq) ∧ Aside0 (scanGo kq xs at_ bad pre = R) ∧ Aside0 (at_ ≤ xs.length) ∧ Aside0 (bad ≤ at_) ∧ Aside0 (pre.length ≤ at_))
  case atStart => exact ⟨at0, bad0, [], N0, HJ, ⟨hN0⟩, HH, ⟨hk⟩, HR, ⟨hat⟩, ⟨hbad⟩, ⟨Nat.zero_le _⟩⟩
  case round =>
    clear HJ HH HR hk
    obtain ⟨at_, bad, pre, N, HJ, HN, HH, HK, HR, HA, HD, HP⟩ := hrel
    cases gk with
    | zero => exact absurd HK.out (by have := HA.out; omega)
    | succ gk =>
      have s0 := (blk_cell HH.out.st 0).trans rfl
      have s1 := (blk_cell HH.out.st 1).trans rfl
      have s2 := (blk_cell HH.out.st 2).trans rfl
      have x1 := (blk_cell HH.out.x1 0).trans rfl
      have x2 := (blk_cell HH.out.x2 0).trans rfl
      by_cases hlt : at_ < xs.length
      · have d1 : decide ((at_ : Int) < (xs.length : Int)) = true := decide_eq_true (by omega)
        have d2 : decide (at_ < xs.length) = true := decide_eq_true hlt
        obtain ⟨A1, hdr1, hdr2⟩ := drop_run A c xs at_ (by omega) hc
        go_wp2
        go_quiet (fail)
        have HB0 := Aside0.mk (pw_below_drewN (Below.refl wr.heap.size wr) nq)
        have HH1 := Aside0.mk (HH.out.below HB0.out)
        have HJ1 := Aside0.mk (hJ0 _ _ _ _ (hJ1 _ _ _ _ HJ.out HN.out HB0.out) HN.out)
        obtain ⟨Nn, HNn⟩ : ∃ n, Aside0 (wr.heap.size = n) := ⟨_, ⟨rfl⟩⟩
        have hNsb := Aside0.mk (show sb < Nn by rw [← HNn.out]; exact blk_lt HH.out.st)
        have HNw := Aside0.mk (show Nn ≤ (wr.drewN nq).heap.size by rw [← HNn.out]; exact HB0.out.size)
        rw [HNn.out] at HJ1
        clear HJ HN HH HB0 s0 s1 s2 x1 x2 HNn
        generalize wr.drewN nq = wa at HH1 HJ1 HNw ⊢
        have s0 := (blk_cell HH1.out.st 0).trans rfl
        have s1 := (blk_cell HH1.out.st 1).trans rfl
        have s2 := (blk_cell HH1.out.st 2).trans rfl
        have x1 := (blk_cell HH1.out.x1 0).trans rfl
        have x2 := (blk_cell HH1.out.x2 0).trans rfl
        obtain ⟨ys, kk, ee, hf, hkinds⟩ := first_kinds (xs.drop at_) (hB.drop at_)
        have HF := Aside0.mk hf
        clear hf
        go_wp2
        go_region_held3 (fun w' => w'.cell? ⟨b1, 0, none⟩ = some (.slice A xs.length c) ∧ w'.cell? ⟨b2, 0, none⟩ = some (.pointer (some ⟨sb, 0, none⟩)) ∧ w'.cell? ⟨sb, 0, none⟩ = some (.int .i64 (at_ : Int)))
          (first | go_keep | exact ((HH1.out.below (below_drew1 (Below.refl _ _))).below B2.out).cells | fail)
          ((go_at_call 59; (with_reducible refine (first_n A1 (c - at_) (xs.length - at_) (xs.drop at_) ys kk ee HF.out List.length_drop (hB.drop at_) _ (by omega) (hdr2 _ (hr0.below (HH1.out.below (below_drew1 (Below.refl _ _))).bel))).mono ?_); rintro e w1 ⟨A2, c2, rfl, hc2, O2, R2, B2⟩))
        all_goals
          have HH2 := Aside0.mk ((HH1.out.below (below_drew1 (Below.refl _ _))).below B2.out)
          have HJ2 := Aside0.mk (hJ1 _ _ _ _ (hJ1 _ _ _ _ HJ1.out HNw.out (below_drew1 (Below.refl _ _))) HNw.out B2.out)
          have HN2 := Aside0.mk (Nat.le_trans HNw.out (Nat.le_trans (below_drew1 (Below.refl wa.heap.size wa)).size B2.out.size))
          have HO2 := Aside0.mk (own_weaken O2.out HNw.out)
          clear HH1 HJ1 HNw O2 R2 B2 s0 s1 s2 x1 x2 hdr1 hdr2
          have s0 := (blk_cell HH2.out.st 0).trans rfl
          have s1 := (blk_cell HH2.out.st 1).trans rfl
          have s2 := (blk_cell HH2.out.st 2).trans rfl
          have z0 := blk_frozen HH2.out.st 0
          have z1 := blk_frozen HH2.out.st 1
          have z2 := blk_frozen HH2.out.st 2
          have x1 := (blk_cell HH2.out.x1 0).trans rfl
          have x2 := (blk_cell HH2.out.x2 0).trans rfl
          rcases hkinds with ⟨rfl, rfl, he⟩ | ⟨n, rfl, hn9, hnl, ⟨rfl, rfl⟩ | ⟨rfl, hyl, hy1, hy2, hyf, hyB⟩⟩
          · clear hY
            have hR' : R = (pre, bad, at_, ee) := by
              rw [← HR.out, scanGo, if_pos hlt, HF.out]
              rfl
            go_wp2
            refine bodyPost_ret (results_none rfl _ _ _) rfl ?_
            refine ⟨⟨_, rfl⟩, .inl ⟨Nn, ?_, ?_, ?_⟩⟩
            · exact Nat.le_trans HN2.out (KeepsWalks.setCell _ _ _).size
            · rw [hR']
              exact hJ2 _ _ _ _ _ rfl HJ2.out
            · rw [hR']
              exact HH2.out.setE hne1 hne2 hsb ee
          · have hn2 : at_ + n ≤ xs.length := by rw [List.length_drop] at hnl; omega
            have hb2 : bad ≤ at_ := HD.out
            have hR' : scanGo gk xs (at_ + n) (bad + 1) pre = R := by
              rw [← HR.out, scanGo, if_pos hlt, HF.out]
              simp only [Int.toNat_natCast]
              rw [if_neg (by omega), if_neg (by decide)]
            have HR' := Aside0.mk hR'
            have k0 : ((n : Int) == 0) = false := beq_eq_false_iff_ne.mpr (by omega)
            have k1 : (n == 0) = false := beq_eq_false_iff_ne.mpr (by omega)
            have k2 : decide (n = 0) = false := decide_eq_false (by omega)
            clear hR' HR hY
            go_wp2
            go_roundg gk
            case measure => omega
            case rel =>
              refine ⟨at_ + n, bad + 1, pre, Nn, ⟨hJ2 _ _ _ _ _ rfl (hJ2 _ _ _ _ _ rfl HJ2.out)⟩, ⟨Nat.le_trans HN2.out (Nat.le_trans (KeepsWalks.setCell _ _ _).size (KeepsWalks.setCell _ _ _).size)⟩, ⟨?_⟩, ⟨by have := HK.out; omega⟩, HR', ⟨?_⟩, ⟨?_⟩, ⟨by have := HP.out; omega⟩⟩
              · refine (HH2.out.setBad hne1 hne2 hsb (bad + 1) _ ?_).setAt hne1 hne2 hsb (at_ + n) _ ?_
                · omega
                · omega
              · exact hn2
              · omega
          · have hn2 : at_ + n ≤ xs.length := by rw [List.length_drop] at hnl; omega
            have hR' : scanGo gk xs (at_ + n) bad (pre ++ [(at_, n, ys)]) = R := by
              rw [← HR.out, scanGo, if_pos hlt, HF.out]
              simp only [Int.toNat_natCast]
              rw [if_neg (by omega), if_pos trivial]
            have HR' := Aside0.mk hR'
            have k0 : ((n : Int) == 0) = false := beq_eq_false_iff_ne.mpr (by omega)
            have k1 : (n == 0) = false := beq_eq_false_iff_ne.mpr (by omega)
            have k2 : decide (n = 0) = false := decide_eq_false (by omega)
            clear hR' HR
            go_upto_region 8 with (fail)
            have HB3 := Aside0.mk (below_alloc (Below.refl w1.heap.size w1) (.cells #[.int .i64 (at_ : Int), .int .i64 (n : Int), .slice A2 ys.length c2] 53))
            have HH3 := Aside0.mk (HH2.out.below HB3.out)
            have HJ3 := Aside0.mk (hJ1 _ _ _ _ HJ2.out HN2.out HB3.out)
            have HO3 := Aside0.mk (own_move HO2.out (fun k hk => HB3.out.block k (own_lt HO2.out k hk)))
            have HN3 := Aside0.mk (Nat.le_trans HN2.out HB3.out.size)
            have BK3 := Aside0.mk (heap_alloc_new w1 (.cells #[.int .i64 (at_ : Int), .int .i64 (n : Int), .slice A2 ys.length c2] 53))
            have HS3 := Aside0.mk (show w1.heap.size ≠ sb from fun e => by have := blk_lt HH2.out.st; omega)
            have HSO := Aside0.mk (show (Value.slice A2 ys.length c2).ownBlock ≠ some sb from fun e => by have := own_base HO2.out sb e; have := hNsb.out; omega)
            clear HH2 HJ2 HO2 HN2 HB3 s0 s1 s2 z0 z1 z2 x1 x2
            generalize w1.heap.size = g3 at BK3 HS3 ⊢
            generalize w1.alloc (.cells #[.int .i64 (at_ : Int), .int .i64 (n : Int), .slice A2 ys.length c2] 53) = w3 at HH3 HJ3 HO3 HN3 BK3 ⊢
            have s0 := (blk_cell HH3.out.st 0).trans rfl
            have z0 := blk_frozen HH3.out.st 0
            have x2 := (blk_cell HH3.out.x2 0).trans rfl
            go_upto_region 9 with (fail)
            have HJ4 := Aside0.mk (hJ2 _ _ _ ⟨sb, 0, none⟩ (.int .i64 ((at_ : Int) + (n : Int))) rfl HJ3.out)
            have HH4 := Aside0.mk (HH3.out.setAt hne1 hne2 hsb (at_ + n) ((at_ : Int) + (n : Int)) (by omega))
            have HO4 := Aside0.mk (own_setCell HO3.out (p := ⟨sb, 0, none⟩) (fun e => HSO.out e.symm) (.int .i64 ((at_ : Int) + (n : Int))))
            have HN4 := Aside0.mk (Nat.le_trans HN3.out (KeepsWalks.setCell w3 ⟨sb, 0, none⟩ (.int .i64 ((at_ : Int) + (n : Int)))).size)
            have BK4 := Aside0.mk (blk_far BK3.out (p := ⟨sb, 0, none⟩) HS3.out (.int .i64 ((at_ : Int) + (n : Int))))
            clear HJ3 HH3 HO3 HN3 BK3 s0 z0 x2
            generalize w3.setCell ⟨sb, 0, none⟩ (.int .i64 ((at_ : Int) + (n : Int))) = w4 at HJ4 HH4 HO4 HN4 BK4 ⊢
            have y0 := (blk_cell BK4.out 0).trans rfl
            have y1 := (blk_cell BK4.out 1).trans rfl
            have y2 := (blk_cell BK4.out 2).trans rfl
            obtain ⟨fn, tmps, assign, body, hy, hR5⟩ := hY pre Nn at_ bad n ys A2 c2 gk w4 HJ4.out HN4.out HH4.out hn2 HP.out HO4.out HR'.out
            refine (wpIn_wide (n := 1)).1 ?_
            gi_wp2
            refine hR5.mono ?_
            clear HJ4 HH4 HO4 HN4 BK4 y0 y1 y2 hy hR5 hY
            rintro e W' (⟨rfl, ⟨N', hN', hJ'⟩, hH'⟩ | ⟨rfl, hX⟩)
            · gi_wp2
              go_wp2
              go_roundg gk
              case measure => omega
              case rel => exact ⟨at_ + n, bad, pre ++ [(at_, n, ys)], N', ⟨hJ'⟩, ⟨hN'⟩, ⟨hH'⟩, ⟨by have := HK.out; omega⟩, HR', ⟨hn2⟩, ⟨by have := HD.out; omega⟩, ⟨by have := HP.out; rw [List.length_append, List.length_singleton]; omega⟩⟩
            · gi_wp2
              go_wp2
              refine bodyPost_ret (results_none rfl _ _ _) rfl ?_
              exact ⟨⟨_, rfl⟩, .inr hX⟩
      · have d1 : decide ((at_ : Int) < (xs.length : Int)) = false := decide_eq_false (by omega)
        have d2 : decide (at_ < xs.length) = false := decide_eq_false hlt
        have hR' : R = (pre, bad, at_, 0) := by
          rw [← HR.out, scanGo, if_neg hlt]
        go_wp2
        go_quiet (fail)
        have HB0 := Aside0.mk (pw_below_drewN (Below.refl wr.heap.size wr) nq)
        have HH1 := Aside0.mk (HH.out.below HB0.out)
        have HJ1 := Aside0.mk (hJ1 _ _ _ _ HJ.out HN.out HB0.out)
        go_wp2
        go_end0
        refine ⟨⟨_, rfl⟩, .inl ⟨N, Nat.le_trans HN.out HB0.out.size, ?_, ?_⟩⟩
        · rw [hR']
          exact HJ1.out
        · rw [hR']
          exact HH1.out
end Go.Proofs.Yteplnpedakdjkaa.Sc
end

section
/- A range over a function by hand: the statement, a round's call, and an append in a round. -/
namespace Go.Proofs.Yteplnpedakdjkaa.Sc
open Go.RowKit Go.Shelf Go.Proofs.YteplnpedakdjkaaW.PrintWords Go.Proofs.YteplnpedakdjkaaW.PrintLast Go.Proofs.YteplnpedakdjkaaW.PrintMore Go.Proofs.Yteplnpedakdjkaa.Fr Go.Proofs.Yteplnpedakdjkaa.Ext Go.Proofs.Yteplnpedakdjkaa.Pure Go.Proofs.Yteplnpedakdjkaa.Lw
set_option linter.unusedVariables false
set_option linter.unusedSimpArgs false

/-- The statement, no fence: its record is the block behind the one for the rounds' deferred calls. -/
theorem range_wide {P : Program} {g : Operand} {ps : Array Tmp} {assign body : Code} {Q : Exit → Act → World → Prop} {a : Act} {W : World} {gf : Nat} {lb : Array Value}
    (hg : a.eval g = .func (.func gf) #[] lb) (eg : ∀ args w, (callFunc gf args).run P w = .ok (.enter gf args) w)
    (h : ∀ (fn : FuncId) (rec : LoopState → Option Code → Loop), (∀ st pe, rec st pe = { state := st, pending := pe, fn, tmps := a.tmps, params := ps, assign, body, defers := W.heap.size }) →
      Calls P gf (#[.func (.yield (W.heap.size + 1)) #[] #[]] ++ lb) ((W.alloc (.deferred (some []))).alloc (.loop (rec .ready none))) fun e W2 => (∃ v, e = .returned v) ∧
        ∃ st pe, st ≠ LoopState.busy ∧ W2.heap[W.heap.size + 1]? = some (.loop (rec st pe)) ∧
          (match pe with
           | none => Q .normal { a with defers := { target := .collected W.heap.size, args := #[] } :: a.defers } (W2.putObj (W.heap.size + 1) (.loop (rec .exhausted pe)))
           | some c => c.wp P Q { a with defers := { target := .collected W.heap.size, args := #[] } :: a.defers } (W2.putObj (W.heap.size + 1) (.loop (rec .exhausted pe))))) :
    (Code.rangeFunc g ps assign body).wp P Q a W := by
  refine (wpIn_wide (n := 3)).1 ?_
  refine wpIn_rangeFunc ?_
  intro fn _
  obtain ⟨rec, hrec⟩ : ∃ rec : LoopState → Option Code → Loop, ∀ st pe, rec st pe = { state := st, pending := pe, fn, tmps := a.tmps, params := ps, assign, body, defers := W.heap.size } := ⟨_, fun _ _ => rfl⟩
  obtain ⟨W1, hW1⟩ : ∃ W1, (W.alloc (.deferred (some []))).alloc (.loop (rec .ready none)) = W1 := ⟨_, rfl⟩
  have hcall := h fn rec hrec
  rw [hW1] at hcall
  refine ⟨W.heap.size + 1, [{ target := .collected W.heap.size, args := #[] }], W1, { target := .fn (.func gf) lb, args := #[.func (.yield (W.heap.size + 1)) #[] #[]] }, W1, gf,
    #[.func (.yield (W.heap.size + 1)) #[] #[]] ++ lb, W1, ?_, ?_, ?_, ?_, ?_, ?_⟩
  · rw [← hW1, hrec]
    exact run_enterLoop_outer _ _ _ _ _
  · simp only [resolve, hg]
    simp [go_sem]
  · intro _ _
    trivial
  · simp [invoke, go_sem, eg]
  · intro _
    omega
  · refine callsIn_wide.2 (hcall.mono ?_)
    rintro e W2 ⟨⟨v, rfl⟩, st, pe, hb, hl, hq⟩
    have hend : (Instr.endLoop (W.heap.size + 1)).run P W2 = .ok pe (W2.putObj (W.heap.size + 1) (.loop (rec .exhausted pe))) := by
      rw [hrec] at hl
      rw [hrec]
      exact run_endLoop (P := P) hl hb
    refine ⟨pe, _, hend, ?_⟩
    cases pe with
    | none => exact hq
    | some c => exact wpIn_wide.2 hq

/-- A call of yield: the record is ready; the assignment and the body, walked. -/
theorem yield_wide {P : Program} {l : Nat} {fn : FuncId} {tmps : Array Value} {ps : Array Tmp} {assign body : Code} {D : Nat} {args : Array Value} {W : World} {R : Ending → World → Prop}
    (hl : W.heap[l]? = some (.loop { state := .ready, pending := none, fn, tmps, params := ps, assign, body, defers := D })) (hs : args.size = ps.size)
    (h : assign.wpIn (Fence.wide.inRound l) 0 P (Exit.then (fun a₁ w₁ => ∃ w₂, (Instr.beginRound l).run P w₁ = .ok () w₂ ∧ body.wpIn (Fence.wide.inRound l) 0 P (roundPost P l R) a₁ w₂) (fun _ _ _ => False))
      { tmps := (ps.zip args).foldl (fun t (p, v) => t.setIfInBounds p v) tmps, defers := [] } W) :
    YieldAt Fence.wide 0 P l args W R :=
  ⟨fn, _, assign, body, run_yield hl hs, roundIn_of_wpIn trivial h⟩

/-- append(v, x) in a round: x's blocks are okp, none of them v's. -/
theorem append_in {F : Fence} {n : Nat} {P : Program} {α : Type} {ops : Array Oper} {rest : List Oper} {o : Oper} {a : Act} {Q : Exit → Act → World → Prop} (d : Kd α) {w0 W : World} (base : Nat) (hgd : o.guard = none) (s x : Operand) (t e : TypeId) (z : Value) (bytes : Nat)
    (ho : o.op = .call { callee := .builtin .append, args := #[s, x], argTypes := #[t, t] })
    (ht : P.underlying t = some (.slice e)) (hinfo : (P.info? e).map (fun i => (i.zero, i.size, i.bytes)) = some (some z, d.sz, bytes)) (hz : z.cells.size = d.sz) (hs0 : 0 < d.sz) (hb0 : 0 < bytes)
    (v : Value) (xs : List α) (p : α) (cs : List Value) (ok okp : Nat → Prop) (hs : a.eval s = v) (hx : a.eval x = .slice (some ⟨W.heap.size, 0, none⟩) 1 1) (hp : d.M W base okp p cs) (hokp : ∀ k, okp k → ok k ∧ some k ≠ v.ownBlock) (hfresh : ∀ k, W.heap.size ≤ k → ok k)
    (HO : Kd.S d e W base (fun k => ok k ∧ ¬ okp k) v xs) (HB : Below base w0 W) (hbase : base ≤ W.heap.size) (hl : (xs.length + 1) * bytes ≤ 140737488355328)
    (h : ∀ v1 w1, Kd.S d e w1 base ok v1 (xs ++ [p]) → Below base w0 w1 → W.grownBy w1 v.ownBlock → wpListIn F n P ops Q rest (a.put o.dst v1) w1) :
    wpListIn F n P ops Q (o :: rest) a (W.alloc (.cells cs.toArray e)) := by
  obtain ⟨f, hf, hR⟩ := Kd.S_tag HO xs.length okp (fun _ hk h2 => h2.2 hk)
  have hR' := Kd.R_mono (ok' := ok) hR (fun _ hk => hk.1)
  have hp' : (Kd.tag f d).M W base okp (p, xs.length) cs := d.M_mono (fun k hk => ⟨hk, hf k hk⟩) hp
  obtain ⟨h0, inner, hown, hr⟩ := hR'
  obtain ⟨i0, hi, hzz⟩ := Option.map_eq_some_iff.1 hinfo
  simp only [Prod.mk.injEq] at hzz
  obtain ⟨hz0, hz1, hz2⟩ := hzz
  have hlen0 : xs.zipIdx.length = xs.length := List.length_zipIdx
  have hlen : xs.length + 1 ≤ 140737488355328 := Nat.le_trans (Nat.le_mul_of_pos_right _ hb0) hl
  have hys : cs.length = d.sz := d.K_len (d.K_of_M hp)
  rw [hlen0] at hown
  obtain ⟨v', w', hrun, r1, r2, _, r4⟩ := run_append_own_at (P := P) (w := W.alloc (.cells cs.toArray e)) base t o.type e i0 z d.sz bytes ht hi hz0 hz1 hz2 hz hs0 v xs.length inner (hown.alloc _) ⟨W.heap.size, 0, none⟩ 1 1 cs (by rw [hys]; simp)
    (by simpa using World.news_of_block (cs := cs.toArray) (t := e) (fr := (0, 0)) (heap_alloc_new W (.cells cs.toArray e))) (d.K_one (d.K_of_M hp)) (by simp only [maxLen]; omega) hl (by simp; omega)
  have hg1 : W.grownBy w' v.ownBlock := World.grownBy.trans (World.grownBy_alloc W _ _) r2
  have hat : v'.ownBlock = v.ownBlock ∨ ∃ b, v'.ownBlock = some b ∧ W.heap.size ≤ b := by
    rcases r4 with r4 | r4
    · exact .inl r4
    · exact .inr ⟨_, r4, by simp⟩
  have hB1 : Below base w0 w' := (HB.alloc hbase _).grown r2 (by simp; omega) (own_base hown)
  have hS : Kd.S d e w' base ok v' (xs ++ [p]) := by
    refine ⟨f, ?_⟩
    rw [Kd.zip_snoc]
    exact Kd.R_appended h0 hr hp' hokp hfresh (by rw [hlen0]; exact r1) hg1 hat
  refine wpListIn_plain hgd fun K hK' => ?_
  unfold Oper.wpIn
  refine ⟨?_, ?_⟩
  · simp [Oper.about, ho, resolve, Target.leads, Sem.run_pure]
  · rw [Oper.semAt_plain F _ _ (by rw [ho]; intro c hc'; cases hc')]
    simp [execOp, ho, resolve, invoke, builtin, hs, hx, hrun, Result.andThen]
    exact hK' _ _ (h v' w' hS hB1 hg1)
end Go.Proofs.Yteplnpedakdjkaa.Sc
end

section
/- scan.All: all bodies that stand in bytes. -/
namespace Go.Proofs.Yteplnpedakdjkaa.Sc
open Go.RowKit Go.Shelf Go.Proofs.YteplnpedakdjkaaW.PrintWords Go.Proofs.YteplnpedakdjkaaW.PrintLast Go.Proofs.YteplnpedakdjkaaW.PrintMore Go.Proofs.Yteplnpedakdjkaa.Fr Go.Proofs.Yteplnpedakdjkaa.Ext Go.Proofs.Yteplnpedakdjkaa.Pure Go.Proofs.Yteplnpedakdjkaa.Lw Go.Proofs.Yteplnpedakdjkaa.Pt
attribute [local go_sem] Oper.semAt_some
set_option linter.unusedVariables false
set_option linter.unusedSimpArgs false

def toS (x : Itm) : S53 := ⟨(x.1 : Int), (x.2.1 : Int), x.2.2⟩
/-- What All's rounds lean on: their record, the block for deferred calls, the row that has come. -/
structure JA (base ob D L : Nat) (rec : LoopState → Option Code → Loop) (pre : List Itm) (N : Nat) (W : World) : Prop where
  dd : W.heap[D]? = some (.deferred (some []))
  ll : W.heap[L]? = some (.loop (rec .ready none))
  nn : L < N
  oo : ∃ v, W.heap[ob]? = some (.cells #[v] 47 (0, 0)) ∧ Kd.S k53 53 W base (fun k => L < k ∧ k < N) v (pre.map toS)

theorem blk_lt' {W : World} {k : Nat} {o : Obj} (h : W.heap[k]? = some o) : k < W.heap.size := (Array.getElem?_eq_some_iff.1 h).1
theorem four_new (w : World) (o1 o2 o3 o4 : Obj) : ((((w.alloc o1).alloc o2).alloc o3).alloc o4).heap[w.heap.size]? = some o1 ∧ ((((w.alloc o1).alloc o2).alloc o3).alloc o4).heap[w.heap.size + 1]? = some o2 ∧ ((((w.alloc o1).alloc o2).alloc o3).alloc o4).heap[w.heap.size + 2]? = some o3 ∧ ((((w.alloc o1).alloc o2).alloc o3).alloc o4).heap[w.heap.size + 3]? = some o4 ∧ ((((w.alloc o1).alloc o2).alloc o3).alloc o4).heap.size = w.heap.size + 4 ∧ Below w.heap.size w ((((w.alloc o1).alloc o2).alloc o3).alloc o4) := by
  refine ⟨?_, ?_, ?_, ?_, by simp, below_alloc (below_alloc (below_alloc (below_alloc (Below.refl _ _) _) _) _) _⟩
  · rw [Below.heap_alloc _ _ _ (by simp <;> omega), Below.heap_alloc _ _ _ (by simp <;> omega), Below.heap_alloc _ _ _ (by simp)]
    exact World.alloc_heap_new _ _
  · rw [Below.heap_alloc _ _ _ (by simp <;> omega), Below.heap_alloc _ _ _ (by simp)]
    have := World.alloc_heap_new (w.alloc o1) o2
    rwa [World.size_alloc] at this
  · rw [Below.heap_alloc _ _ _ (by simp)]
    have := World.alloc_heap_new ((w.alloc o1).alloc o2) o3
    simpa using this
  · have := World.alloc_heap_new (((w.alloc o1).alloc o2).alloc o3) o4
    simpa using this

set_option maxHeartbeats 8000000 in
set_option maxRecDepth 100000 in
theorem all_calls (A : Option Addr) (c : Nat) (xs : List Int) (w : World) (k : Nat) (R : List Itm × Nat × Nat × Int) (hB : IsBytes xs) (hc : xs.length ≤ c) (hm : xs.length ≤ 1000000000) (hr : Rd w A xs) (hk : xs.length < k) (hR : scanGo k xs 0 0 [] = R) :
    Calls Try.prog 22 #[.slice A xs.length c] w fun e w' => ∃ v, e = .returned (.tuple #[v, .int .i64 (R.2.1 : Int), .int .i64 (R.2.2.1 : Int), .int .i64 R.2.2.2]) ∧ Kd.S k53 53 w' w.heap.size (fun _ => True) v (R.1.map toS) ∧ Below w.heap.size w w' := by
  refine callsIn_wide.1 (callsIn_of_wp_marks (n := 3) Try.func22 rfl trivial ?_)
  refine wpIn_wide.2 ?_
  simp only [Try.ntmps22, List.size_toArray, List.length_cons, List.length_nil, Nat.reduceAdd, Nat.reduceSub, Array.replicate_succ, Array.replicate_zero, List.push_toArray, List.append_toArray, List.nil_append, List.cons_append]
  go_wp2_with (go_at_call 42; (with_reducible refine (items_calls A xs.length c _ _).mono ?_); rintro e w1 ⟨rfl, rfl⟩)
  obtain ⟨q0, q1, q2, q3, q4, q5⟩ := four_new w (.cells #[.slice none 0 0] 47) (.cells #[.int .i64 0, .int .i64 0, .int .i64 0] 75) (.cells #[.slice A xs.length c] 23) (.cells #[.pointer (some ⟨w.heap.size + 1, 0, none⟩)] 79)
  rw [show w.heap.size + 1 + 1 + 1 = w.heap.size + 3 from rfl, show w.heap.size + 1 + 1 = w.heap.size + 2 from rfl]
  generalize ((((w.alloc (.cells #[.slice none 0 0] 47)).alloc (.cells #[.int .i64 0, .int .i64 0, .int .i64 0] 75)).alloc (.cells #[.slice A xs.length c] 23)).alloc (.cells #[.pointer (some ⟨w.heap.size + 1, 0, none⟩)] 79)) = W0 at q0 q1 q2 q3 q4 q5 ⊢
  refine range_wide rfl (enters_of Try.func58 (by kernel_rfl) rfl) ?_
  intro fn rec hrec
  rw [q4]
  have HH1 : Hd w ((W0.alloc (.deferred (some []))).alloc (.loop (rec .ready none))) (w.heap.size + 1) (w.heap.size + 2) (w.heap.size + 3) A c xs 0 0 0 :=
    Hd.below (Hd.below ⟨q1, q2, q3, q5⟩ (below_alloc (Below.refl _ _) _)) (below_alloc (Below.refl _ _) _)
  have HJ1 : JA w.heap.size w.heap.size (w.heap.size + 4) (w.heap.size + 5) rec [] (w.heap.size + 6) ((W0.alloc (.deferred (some []))).alloc (.loop (rec .ready none))) := by
    have d1 := World.alloc_heap_new W0 (.deferred (some []))
    have d2 := World.alloc_heap_new (W0.alloc (.deferred (some []))) (.loop (rec .ready none))
    rw [World.size_alloc] at d2
    rw [q4] at d1 d2
    exact ⟨(Below.heap_alloc _ _ _ (by simp <;> omega)).trans d1, d2, by omega, _, (Below.heap_alloc _ _ _ (by simp <;> omega)).trans ((Below.heap_alloc _ _ _ (by omega)).trans q0), Kd.S_nil _ _ _ _ _⟩
  have hsz1 : ((W0.alloc (.deferred (some []))).alloc (.loop (rec .ready none))).heap.size = w.heap.size + 6 := by simp; omega
  generalize (W0.alloc (.deferred (some []))).alloc (.loop (rec .ready none)) = W1 at HH1 HJ1 hsz1 ⊢
  clear q0 q1 q2 q3 q4 q5
  refine (items1_calls w (w.heap.size + 5) A c xs (w.heap.size + 1) (w.heap.size + 2) (w.heap.size + 3) (by omega) (by omega) (by omega)
    (JA w.heap.size w.heap.size (w.heap.size + 4) (w.heap.size + 5) rec) (fun _ => False) R W1 k (w.heap.size + 6) hr hB hc (by omega) ?j0 ?j1 ?j2 ?yy 0 0 (Nat.zero_le _) (Nat.le_refl _) HJ1 (Nat.le_of_eq hsz1.symm) HH1 (by omega) hR).mono ?fin
  case j0 =>
    rintro pre N N' W ⟨h1, h2, hn, v, h3, h4⟩ hN
    exact ⟨h1, h2, by omega, v, h3, Kd.S_mono h4 (fun k hk => ⟨hk.1, by omega⟩)⟩
  case j1 =>
    rintro pre N W W' ⟨h1, h2, hn, v, h3, h4⟩ hN hb
    exact ⟨(hb.block _ (blk_lt' h1)).trans h1, (hb.block _ (blk_lt' h2)).trans h2, hn, v, (hb.block _ (blk_lt h3)).trans h3, Kd.S_below h4 hb⟩
  case j2 =>
    rintro pre N W p u hp ⟨h1, h2, hn, v, h3, h4⟩
    exact ⟨(Below.heap_setCell _ _ _ _ (by omega)).trans h1, (Below.heap_setCell _ _ _ _ (by omega)).trans h2, hn, v, blk_far h3 (by omega) _, Kd.S_far h4 (fun k hk => by omega) _⟩
  case yy =>
    rintro pre N at_ bad n ys A' c' k' W2 ⟨hd, hl, hn, v1, hv1, hS⟩ hN hH hle hpre hO hgo
    have hl' := hl
    rw [hrec] at hl
    refine yield_wide hl rfl ?_
    gi_wp2
    have hg3 := World.alloc_heap_new W2 (.cells #[.int .i64 (at_ : Int), .int .i64 (n : Int), .slice A' ys.length c'] 53)
    have hB3 := below_alloc (Below.refl W2.heap.size W2) (.cells #[.int .i64 (at_ : Int), .int .i64 (n : Int), .slice A' ys.length c'] 53)
    have hsz : w.heap.size + 5 < W2.heap.size := blk_lt' hl'
    generalize hg0 : W2.heap.size = g at hg3 hsz hN hB3 ⊢
    have hs3 : (W2.alloc (.cells #[.int .i64 (at_ : Int), .int .i64 (n : Int), .slice A' ys.length c'] 53)).heap.size = g + 1 := by simp [hg0]
    generalize W2.alloc (.cells #[.int .i64 (at_ : Int), .int .i64 (n : Int), .slice A' ys.length c'] 53) = W3 at hg3 hB3 hs3 ⊢
    rw [← hg0] at hB3
    have hl3 : W3.heap[w.heap.size + 5]? = some (.loop (rec .ready none)) := (hB3.block _ (blk_lt' hl')).trans hl'
    have hbr : (Instr.beginRound (w.heap.size + 5)).run Try.prog W3 = .ok () (W3.putObj (w.heap.size + 5) (.loop (rec .busy none))) := by
      rw [hrec] at hl3
      rw [hrec]
      exact run_beginRound hl3 rfl
    refine ⟨_, hbr, ?_⟩
    have e0 : ∀ i, i ≠ w.heap.size + 5 → (W3.putObj (w.heap.size + 5) (.loop (rec .busy none))).heap[i]? = W3.heap[i]? := fun i hi => World.putObj_heap_other hi
    have e1 : ∀ i, i < W2.heap.size → i ≠ w.heap.size + 5 → (W3.putObj (w.heap.size + 5) (.loop (rec .busy none))).heap[i]? = W2.heap[i]? := fun i hi hne => (e0 i hne).trans (hB3.block i hi)
    have HL := Aside0.mk (show (W3.putObj (w.heap.size + 5) (.loop (rec .busy none))).heap[w.heap.size + 5]? = some (.loop (rec .busy none)) from World.putObj_heap_same (blk_lt' hl3))
    have HD := Aside0.mk ((e1 (w.heap.size + 4) (by omega) (by omega)).trans hd)
    have HO := Aside0.mk ((e1 w.heap.size (by omega) (by omega)).trans hv1)
    have HX := Aside0.mk ((e0 g (by omega)).trans hg3)
    have HS := Aside0.mk (show Kd.S k53 53 (W3.putObj (w.heap.size + 5) (.loop (rec .busy none))) w.heap.size (fun k => w.heap.size + 5 < k ∧ k < N) v1 (pre.map toS) from Kd.S_step hS (fun k hk hlt => e1 k hlt (by omega)))
    have HYs := Aside0.mk (own_move (w1 := W3.putObj (w.heap.size + 5) (.loop (rec .busy none))) hO (fun k hk => e1 k (own_lt hO k hk) (by have := own_base hO k hk; omega)))
    have HSZ := Aside0.mk (show (W3.putObj (w.heap.size + 5) (.loop (rec .busy none))).heap.size = g + 1 by simp [hs3])
    have HHd : Aside0 (Hd w (W3.putObj (w.heap.size + 5) (.loop (rec .busy none))) (w.heap.size + 1) (w.heap.size + 2) (w.heap.size + 3) A c xs (at_ + n) bad 0) :=
      ⟨⟨(e1 _ (by omega) (by omega)).trans hH.st, (e1 _ (by omega) (by omega)).trans hH.x1, (e1 _ (by omega) (by omega)).trans hH.x2, (below_then hH.bel hH.bel.size hB3).grown (grownBy_putObj' W3 (w.heap.size + 5) (.loop (rec .busy none))) (by omega) (fun k e => by cases e; omega)⟩⟩
    clear hl hd hv1 hS hO hH hg3 hB3 hl3 hbr e0 e1 hs3 hl' hg0
    generalize W3.putObj (w.heap.size + 5) (.loop (rec .busy none)) = W4 at HL HD HO HX HS HYs HSZ HHd ⊢
    have o0 := (blk_cell HO.out 0).trans rfl
    have z0 := blk_frozen HO.out 0
    have x0 := (blk_cell HX.out 0).trans rfl
    have x1 := (blk_cell HX.out 1).trans rfl
    have x2 := (blk_cell HX.out 2).trans rfl
    obtain ⟨Sv, hSv⟩ : ∃ f, Aside0 (∀ k, v1.ownBlock = some k → w.heap.size + 5 < k ∧ k < N) := ⟨(), ⟨(Kd.S_R HS.out).1⟩⟩
    have hbyte : (pre.length + 1) * 40 ≤ 140737488355328 := by omega
    have hlenm : (pre.map toS).length = pre.length := List.length_map _
    gi_wp2_with (gi_at_builtin; refine append_in k53 (w0 := w) w.heap.size rfl (.tmp 12) (.tmp 14) 47 53 (.agg #[.int .i64 0, .int .i64 0, .slice none 0 0]) 40 rfl Try.underlying47 info53 rfl (by decide) (by omega) v1 (pre.map toS) (toS (at_, n, ys)) [.int .i64 (at_ : Int), .int .i64 (n : Int), .slice A' ys.length c'] (fun k => w.heap.size + 5 < k) (fun k => some k = (Value.slice A' ys.length c').ownBlock) rfl rfl ?aP ?aK ?aF ?aO ?aB ?aS ?aL ?_; (case aP => exact k53_mkM _ _ _ (toS (at_, n, ys)) (Kd.R_of_own (own_weaken HYs.out (by omega)) (fun k hk => hk.symm))); (case aK => exact (fun k hk => ⟨by have := own_base HYs.out k hk.symm; omega, fun e => by have := own_base HYs.out k hk.symm; have := hSv.out k e.symm; omega⟩)); (case aF => exact (fun k hk => by have := HSZ.out; omega)); (case aO => exact Kd.S_mono HS.out (fun k hk => ⟨hk.1, fun e => by have := own_base HYs.out k e.symm; omega⟩)); (case aB => exact HHd.out.bel); (case aS => exact HHd.out.bel.size); (case aL => rw [hlenm]; exact hbyte); intro v5 w5 hS5 hB5 hg5; obtain ⟨A5, c5, rfl⟩ := Kd.S_slice hS5; have HS5 := Aside0.mk hS5; have HB5 := Aside0.mk hB5; have HG5 := Aside0.mk hg5; clear hS5 hB5 hg5; have HO5 := Aside0.mk (blk_grown HO.out HG5.out (fun e => by have := hSv.out _ e.symm; omega)); have o5 := (blk_cell HO5.out 0).trans rfl; have z5 := blk_frozen HO5.out 0)
    have hS5 := HS5.out
    have hlen5 : (pre.map toS ++ [toS (at_, n, ys)]).length = pre.length + 1 := by simp
    rw [hlen5] at hS5
    have hw4 := HSZ.out
    have f5 : ∀ i, i ≤ w.heap.size + 5 → w5.heap[i]? = W4.heap[i]? := fun i hi => HG5.out.block i (by omega) (fun e => by have := hSv.out i e.symm; omega)
    have f6 : ∀ i, i ≤ w.heap.size + 5 → i ≠ w.heap.size → (w5.setCell ⟨w.heap.size, 0, none⟩ (.slice A5 (pre.length + 1) c5)).heap[i]? = W4.heap[i]? := fun i hi hne => (Below.heap_setCell w5 _ _ i hne).trans (f5 i hi)
    have hz5 : W4.heap.size ≤ w5.heap.size := HG5.out.size
    have hO6 := blk_put (cs := #[v1]) HO5.out 0 (.slice A5 (pre.length + 1) c5) rfl
    have hS6 := Kd.S_far (p := ⟨w.heap.size, 0, none⟩) (Kd.S_bound hS5) (fun k hk => by have := hk.1; simp only; omega) (.slice A5 (pre.length + 1) c5)
    have hB6 := HB5.out.setCell (p := ⟨w.heap.size, 0, none⟩) (Nat.le_refl _) (.slice A5 (pre.length + 1) c5)
    have hz6 : w5.heap.size ≤ (w5.setCell ⟨w.heap.size, 0, none⟩ (.slice A5 (pre.length + 1) c5)).heap.size := (KeepsWalks.setCell _ _ _).size
    generalize w5.setCell ⟨w.heap.size, 0, none⟩ (.slice A5 (pre.length + 1) c5) = w6 at f6 hO6 hS6 hB6 hz6 ⊢
    have hl6 : w6.heap[w.heap.size + 5]? = some (.loop (rec .busy none)) := (f6 _ (by omega) (by omega)).trans HL.out
    have hend : (Instr.endRound (w.heap.size + 5) none).run Try.prog w6 = .ok (.bool true) (w6.putObj (w.heap.size + 5) (.loop (rec .ready none))) := by
      rw [hrec] at hl6
      rw [hrec]
      exact run_endRound none hl6
    have e7 : ∀ i, i ≠ w.heap.size + 5 → (w6.putObj (w.heap.size + 5) (.loop (rec .ready none))).heap[i]? = w6.heap[i]? := fun i hi => World.putObj_heap_other hi
    have hz7 : (w6.putObj (w.heap.size + 5) (.loop (rec .ready none))).heap.size = w6.heap.size := by simp
    refine ⟨_, _, hend, rfl, ⟨_, Nat.le_refl _, ?_⟩, ?_⟩
    · refine ⟨(e7 _ (by omega)).trans ((f6 _ (by omega) (by omega)).trans HD.out), World.putObj_heap_same (blk_lt' hl6), by omega, _, (e7 _ (by omega)).trans hO6, ?_⟩
      rw [List.map_append]
      exact Kd.S_mono (Kd.S_step hS6 (fun k hk _ => e7 k (by have := hk.1; omega))) (fun k hk => ⟨hk.1, by have := hk.2.2.1; omega⟩)
    · have hh := HHd.out
      exact ⟨(e7 _ (by omega)).trans ((f6 _ (by omega) (by omega)).trans hh.st), (e7 _ (by omega)).trans ((f6 _ (by omega) (by omega)).trans hh.x1), (e7 _ (by omega)).trans ((f6 _ (by omega) (by omega)).trans hh.x2), hB6.grown (grownBy_putObj' w6 (w.heap.size + 5) (.loop (rec .ready none))) hB6.size (fun k e => by cases e; omega)⟩
  case fin =>
    rintro e W' ⟨⟨v, rfl⟩, ⟨N, hN, hJ, hH⟩ | hf⟩
    case inr => exact hf.elim
    refine ⟨⟨v, rfl⟩, .ready, none, by simp, hJ.ll, ?_⟩
    obtain ⟨hd, hl, hn, v1, hv1, hS⟩ := hJ
    have e0 : ∀ i, i ≠ w.heap.size + 5 → (W'.putObj (w.heap.size + 5) (.loop (rec .exhausted none))).heap[i]? = W'.heap[i]? := fun i hi => World.putObj_heap_other hi
    have HS := Aside0.mk (show Kd.S k53 53 (W'.putObj (w.heap.size + 5) (.loop (rec .exhausted none))) w.heap.size (fun k => w.heap.size + 5 < k ∧ k < N) v1 (R.1.map toS) from Kd.S_step hS (fun k hk _ => e0 k (by omega)))
    have HD := Aside0.mk ((e0 (w.heap.size + 4) (by omega)).trans hd)
    have HO := Aside0.mk ((e0 w.heap.size (by omega)).trans hv1)
    have HST := Aside0.mk ((e0 (w.heap.size + 1) (by omega)).trans hH.st)
    have HB := Aside0.mk (hH.bel.grown (grownBy_putObj' W' (w.heap.size + 5) (.loop (rec .exhausted none))) hH.bel.size (fun k e => by cases e; omega))
    clear hd hl hv1 hS hH e0
    generalize W'.putObj (w.heap.size + 5) (.loop (rec .exhausted none)) = W3 at HS HD HO HST HB ⊢
    have s0 := (blk_cell HST.out 0).trans rfl
    have s1 := (blk_cell HST.out 1).trans rfl
    have s2 := (blk_cell HST.out 2).trans rfl
    have o0 := (blk_cell HO.out 0).trans rfl
    go_wp2
    go_quiet (fail)
    go_wp2
    have HD2 := Aside0.mk (blk_drewN HD.out nq)
    have HS2 := Aside0.mk (Kd.S_drewN HS.out nq)
    have HB2 := Aside0.mk (HB.out.trans (pw_below_drewN (Below.refl _ _) nq))
    clear HS HD HO HST HB s0 s1 s2 o0
    generalize W3.drewN nq = W4 at HD2 HS2 HB2 ⊢
    refine ⟨by simp, .inl ⟨_, _, rfl, run_takeDeferred HD2.out, ?_⟩⟩
    refine ⟨_, results_list (rs := [.tmp 2, .tmp 3, .tmp 4, .tmp 5]) rfl (by simp) (.tmp (.tmp (.tmp (.tmp .nil)))), ?_⟩
    refine ⟨v1, rfl, ?_, ?_⟩
    · exact Kd.S_mono (Kd.S_step HS2.out (fun k hk _ => World.putObj_heap_other (by omega))) (fun _ _ => trivial)
    · exact HB2.out.grown (grownBy_putObj' W4 (w.heap.size + 4) (.deferred none)) HB2.out.size (fun k e => by cases e; omega)
end Go.Proofs.Yteplnpedakdjkaa.Sc
end

section
/- slices.AppendSeq and slices.Collect over a map's hints. -/
namespace Go.Proofs.Yteplnpedakdjkaa.Hn
open Go.RowKit Go.Shelf Go.Proofs.Yteplnpedakdjkaa.Pure Go.Proofs.Yteplnpedakdjkaa.Pt Go.Proofs.YteplnpedakdjkaaW.PrintWords Go.Proofs.YteplnpedakdjkaaW.PrintLast Go.Proofs.YteplnpedakdjkaaW.PrintMore Go.Proofs.Yteplnpedakdjkaa.Fr Go.Proofs.Yteplnpedakdjkaa.Ext Go.Proofs.Yteplnpedakdjkaa.Lw Go.Proofs.Yteplnpedakdjkaa.Sc
attribute [local go_sem] Oper.semAt_some
set_option linter.unusedVariables false
set_option linter.unusedSimpArgs false

/-- append(v, x) in a round, of elements that lead to no rows. -/
theorem append_inR {F : Fence} {n : Nat} {P : Program} {α : Type} {ops : Array Oper} {rest : List Oper} {o : Oper} {a : Act} {Q : Exit → Act → World → Prop} (d : Kd α) {w0 W : World} (base : Nat) (hgd : o.guard = none) (s x : Operand) (t e : TypeId) (z : Value) (bytes : Nat)
    (ho : o.op = .call { callee := .builtin .append, args := #[s, x], argTypes := #[t, t] })
    (ht : P.underlying t = some (.slice e)) (hinfo : (P.info? e).map (fun i => (i.zero, i.size, i.bytes)) = some (some z, d.sz, bytes)) (hz : z.cells.size = d.sz) (hs0 : 0 < d.sz) (hb0 : 0 < bytes)
    (v : Value) (xs : List α) (p : α) (cs : List Value) (ok : Nat → Prop) (hs : a.eval s = v) (hx : a.eval x = .slice (some ⟨W.heap.size, 0, none⟩) 1 1) (hp : d.M W base (fun _ => False) p cs) (hfresh : ∀ k, W.heap.size ≤ k → ok k)
    (HO : d.R e W base ok v xs) (HB : Below base w0 W) (hbase : base ≤ W.heap.size) (hl : (xs.length + 1) * bytes ≤ 140737488355328)
    (h : ∀ v1 w1, d.R e w1 base ok v1 (xs ++ [p]) → Below base w0 w1 → W.grownBy w1 v.ownBlock → wpListIn F n P ops Q rest (a.put o.dst v1) w1) :
    wpListIn F n P ops Q (o :: rest) a (W.alloc (.cells cs.toArray e)) := by
  obtain ⟨h0, inner, hown, hr⟩ := HO
  obtain ⟨i0, hi, hzz⟩ := Option.map_eq_some_iff.1 hinfo
  simp only [Prod.mk.injEq] at hzz
  obtain ⟨hz0, hz1, hz2⟩ := hzz
  have hlen : xs.length + 1 ≤ 140737488355328 := Nat.le_trans (Nat.le_mul_of_pos_right _ hb0) hl
  have hys : cs.length = d.sz := d.K_len (d.K_of_M hp)
  obtain ⟨v', w', hrun, r1, r2, _, r4⟩ := run_append_own_at (P := P) (w := W.alloc (.cells cs.toArray e)) base t o.type e i0 z d.sz bytes ht hi hz0 hz1 hz2 hz hs0 v xs.length inner (hown.alloc _) ⟨W.heap.size, 0, none⟩ 1 1 cs (by rw [hys]; simp)
    (by simpa using World.news_of_block (cs := cs.toArray) (t := e) (fr := (0, 0)) (heap_alloc_new W (.cells cs.toArray e))) (d.K_one (d.K_of_M hp)) (by simp only [maxLen]; omega) hl (by simp; omega)
  have hg1 : W.grownBy w' v.ownBlock := World.grownBy.trans (World.grownBy_alloc W _ _) r2
  have hat : v'.ownBlock = v.ownBlock ∨ ∃ b, v'.ownBlock = some b ∧ W.heap.size ≤ b := by
    rcases r4 with r4 | r4
    · exact .inl r4
    · exact .inr ⟨_, r4, by simp⟩
  have hB1 : Below base w0 w' := (HB.alloc hbase _).grown r2 (by simp; omega) (own_base hown)
  have hR : d.R e w' base ok v' (xs ++ [p]) := Kd.R_appended h0 hr hp (fun _ hk => hk.elim) hfresh r1 hg1 hat
  refine wpListIn_plain hgd fun K hK' => ?_
  unfold Oper.wpIn
  refine ⟨?_, ?_⟩
  · simp [Oper.about, ho, resolve, Target.leads, Sem.run_pure]
  · rw [Oper.semAt_plain F _ _ (by rw [ho]; intro c hc'; cases hc')]
    simp [execOp, ho, resolve, invoke, builtin, hs, hx, hrun, Result.andThen]
    exact hK' _ _ (h v' w' hR hB1 hg1)

/-- What the rounds lean on: their record, the block for deferred calls, the row that has come. -/
structure JH (w : World) (ob D L : Nat) (rec : LoopState → Option Code → Loop) (pre : List Hi) (W : World) : Prop where
  dd : W.heap[D]? = some (.deferred (some []))
  ll : W.heap[L]? = some (.loop (rec .ready none))
  oo : ∃ v, W.heap[ob]? = some (.cells #[v] 22 (0, 0)) ∧ RowH W w.heap.size (fun k => L < k) v pre
  bb : Below w.heap.size w W
theorem JH.abides {w : World} {ob D L B : Nat} {rec : LoopState → Option Code → Loop} (hB : w.heap.size ≤ B) : AbidesFrom B (JH w ob D L rec) := by
  rintro pre W W' row ⟨h1, h2, ⟨v, h3, h4⟩, h5⟩ hg hr
  have key : ∀ (k : Nat) (o : Obj), W.heap[k]? = some o → o.isWalk = false → W'.heap[k]? = some o := by
    intro k o hk ho
    refine (hg.block k (blk_lt' hk) (fun e => ?_)).trans hk
    obtain ⟨_, o', ho', hw⟩ := hr k e.symm
    rw [hk] at ho'
    cases ho'
    rw [ho] at hw
    cases hw
  refine ⟨key _ _ h1 rfl, key _ _ h2 rfl, ⟨v, key _ _ h3 rfl, ?_⟩, h5.grown hg h5.size (fun k e => Nat.le_trans hB (hr k e).1)⟩
  refine Kd.R_mono (Kd.R_move (Kd.R_tight2 rfl h4) (fun k hk => ?_)) (fun k hk => hk.2)
  obtain ⟨inner, ho⟩ := Kd.R_own h4
  obtain ⟨cells, hc⟩ := own_typed ho k hk.1.symm
  rw [hc]
  exact key _ _ hc rfl

set_option maxHeartbeats 8000000 in
set_option maxRecDepth 100000 in
theorem appendSeq_calls (Bm b nn : Nat) (D0 : DataW Hi) (w : World) (hm : w.cell? ⟨Bm, 0, none⟩ = some (.map (some b))) (hown : w.ownsMap Try.prog 9 RH b nn D0) (hN : Maps.size D0 ≤ 1000000000) :
    Calls Try.prog 64 #[.slice none 0 0, .func (.func 57) #[] #[.pointer (some ⟨Bm, 0, none⟩)]] w fun e w' => ∃ v ps, e = .returned v ∧ AllOf D0 ps ∧ RowH w' w.heap.size (fun _ => True) v (ps.map (·.2)) ∧ Below w.heap.size w w' := by
  have hBm : Bm < w.heap.size := World.block_lt_of_cell? w _ hm
  refine callsIn_wide.1 (callsIn_of_wp_marks (n := 3) Try.func64 rfl trivial ?_)
  refine wpIn_wide.2 ?_
  simp only [Try.ntmps64, List.size_toArray, List.length_cons, List.length_nil, Nat.reduceAdd, Nat.reduceSub, Array.replicate_succ, Array.replicate_zero, List.push_toArray, List.append_toArray, List.nil_append, List.cons_append]
  go_wp2
  have q0 := World.alloc_heap_new w (.cells #[.slice none 0 0] 22)
  have q4 : (w.alloc (.cells #[.slice none 0 0] 22)).heap.size = w.heap.size + 1 := by simp
  have q5 := below_alloc (Below.refl w.heap.size w) (.cells #[.slice none 0 0] 22)
  generalize w.alloc (.cells #[.slice none 0 0] 22) = W0 at q0 q4 q5 ⊢
  refine range_wide rfl (enters_of Try.func57 (by kernel_rfl) rfl) ?_
  intro fn rec hrec
  rw [q4]
  have HB1 : Below w.heap.size w ((W0.alloc (.deferred (some []))).alloc (.loop (rec .ready none))) := below_alloc (below_alloc q5 _) _
  have HJ1 : JH w w.heap.size (w.heap.size + 1) (w.heap.size + 2) rec [] ((W0.alloc (.deferred (some []))).alloc (.loop (rec .ready none))) := by
    have d1 := World.alloc_heap_new W0 (.deferred (some []))
    have d2 := World.alloc_heap_new (W0.alloc (.deferred (some []))) (.loop (rec .ready none))
    rw [World.size_alloc] at d2
    rw [q4] at d1 d2
    exact ⟨(Below.heap_alloc _ _ _ (by simp <;> omega)).trans d1, d2, ⟨_, (Below.heap_alloc _ _ _ (by simp <;> omega)).trans ((Below.heap_alloc _ _ _ (by omega)).trans q0), Kd.R_nil _ _ _ _ _⟩, HB1⟩
  have hsz1 : ((W0.alloc (.deferred (some []))).alloc (.loop (rec .ready none))).heap.size = w.heap.size + 3 := by simp; omega
  generalize (W0.alloc (.deferred (some []))).alloc (.loop (rec .ready none)) = W1 at HB1 HJ1 hsz1 ⊢
  clear q0 q4 q5
  have hown1 : W1.ownsMap Try.prog 9 RH b nn D0 := by
    have hbl := hown.lt
    obtain ⟨es, clock, hb, Ft, hs, hD⟩ := hown
    exact ⟨es, clock, (HB1.block b hbl).trans hb, Ft, hs, hD⟩
  refine (callsIn_wide.1 (values1_in Fence.wide 1 trivial rfl (Nat.le_refl 1) (w.heap.size + 2) Bm b nn D0 (JH w w.heap.size (w.heap.size + 1) (w.heap.size + 2) rec) ?yy W1 (JH.abides (by omega)) ((HB1.cell (p := ⟨Bm, 0, none⟩) hBm).trans hm) hown1 HJ1)).mono ?fin
  case yy =>
    rintro pre x W2 ⟨hd, hl, ⟨v1, hv1, hS⟩, hbb⟩ hpre
    have hl' := hl
    rw [hrec] at hl
    refine yield_wide hl rfl ?_
    gi_wp2
    have hg3 := World.alloc_heap_new W2 (.cells #[.int .i64 x.f0, .string x.f1, .int .i64 x.f2, .int .i64 x.f3] 41)
    have hB3 := below_alloc (Below.refl W2.heap.size W2) (.cells #[.int .i64 x.f0, .string x.f1, .int .i64 x.f2, .int .i64 x.f3] 41)
    have hK3 := KeepsWalks.alloc W2 (.cells #[.int .i64 x.f0, .string x.f1, .int .i64 x.f2, .int .i64 x.f3] 41)
    have hsz : w.heap.size + 2 < W2.heap.size := blk_lt' hl'
    generalize hg0 : W2.heap.size = g at hg3 hsz hB3 ⊢
    have hs3 : (W2.alloc (.cells #[.int .i64 x.f0, .string x.f1, .int .i64 x.f2, .int .i64 x.f3] 41)).heap.size = g + 1 := by simp [hg0]
    generalize W2.alloc (.cells #[.int .i64 x.f0, .string x.f1, .int .i64 x.f2, .int .i64 x.f3] 41) = W3 at hg3 hB3 hs3 hK3 ⊢
    rw [← hg0] at hB3
    have hl3 : W3.heap[w.heap.size + 2]? = some (.loop (rec .ready none)) := (hB3.block _ (blk_lt' hl')).trans hl'
    have hbr : (Instr.beginRound (w.heap.size + 2)).run Try.prog W3 = .ok () (W3.putObj (w.heap.size + 2) (.loop (rec .busy none))) := by
      rw [hrec] at hl3
      rw [hrec]
      exact run_beginRound hl3 rfl
    refine ⟨_, hbr, ?_⟩
    have e0 : ∀ i, i ≠ w.heap.size + 2 → (W3.putObj (w.heap.size + 2) (.loop (rec .busy none))).heap[i]? = W3.heap[i]? := fun i hi => World.putObj_heap_other hi
    have e1 : ∀ i, i < W2.heap.size → i ≠ w.heap.size + 2 → (W3.putObj (w.heap.size + 2) (.loop (rec .busy none))).heap[i]? = W2.heap[i]? := fun i hi hne => (e0 i hne).trans (hB3.block i hi)
    have HL := Aside0.mk (show (W3.putObj (w.heap.size + 2) (.loop (rec .busy none))).heap[w.heap.size + 2]? = some (.loop (rec .busy none)) from World.putObj_heap_same (blk_lt' hl3))
    have HD := Aside0.mk ((e1 (w.heap.size + 1) (by omega) (by omega)).trans hd)
    have HO := Aside0.mk ((e1 w.heap.size (by omega) (by omega)).trans hv1)
    have HX := Aside0.mk ((e0 g (by omega)).trans hg3)
    have HS := Aside0.mk (show RowH (W3.putObj (w.heap.size + 2) (.loop (rec .busy none))) w.heap.size (fun k => w.heap.size + 2 < k) v1 pre from Kd.R_step hS (fun k hk hlt => e1 k hlt (by omega)))
    have HSZ := Aside0.mk (show (W3.putObj (w.heap.size + 2) (.loop (rec .busy none))).heap.size = g + 1 by simp [hs3])
    have HBB := Aside0.mk ((below_then hbb hbb.size hB3).grown (grownBy_putObj' W3 (w.heap.size + 2) (.loop (rec .busy none))) (by omega) (fun k e => by cases e; omega))
    have HKK := Aside0.mk (hK3.trans (KeepsWalks.putObj (.loop (rec .busy none)) hl3 rfl))
    clear hl hd hv1 hS hbb hg3 hB3 hK3 hl3 hbr e0 e1 hs3 hl' hg0
    generalize W3.putObj (w.heap.size + 2) (.loop (rec .busy none)) = W4 at HL HD HO HX HS HSZ HBB HKK ⊢
    have o0 := (blk_cell HO.out 0).trans rfl
    have z0 := blk_frozen HO.out 0
    have x0 := (blk_cell HX.out 0).trans rfl
    have x1 := (blk_cell HX.out 1).trans rfl
    have x2 := (blk_cell HX.out 2).trans rfl
    have x3 := (blk_cell HX.out 3).trans rfl
    have hbyte : (pre.length + 1) * 40 ≤ 140737488355328 := by omega
    gi_wp2_with (gi_at_builtin; refine append_inR k41 (w0 := w) w.heap.size rfl (.tmp 8) (.tmp 10) 22 41 (.agg #[.int .i64 0, .string ⟨#[]⟩, .int .i64 0, .int .i64 0]) 40 rfl Try.underlying22 info41 rfl (by decide) (by omega) v1 pre x [.int .i64 x.f0, .string x.f1, .int .i64 x.f2, .int .i64 x.f3] (fun k => w.heap.size + 2 < k) rfl rfl ?aP ?aF ?aO ?aB ?aS ?aL ?_; (case aP => exact k41_mkM _ _ _ x); (case aF => exact (fun k hk => by have := HSZ.out; omega)); (case aO => exact HS.out); (case aB => exact HBB.out); (case aS => exact HBB.out.size); (case aL => exact hbyte); intro v5 w5 hS5 hB5 hg5; obtain ⟨A5, c5, rfl⟩ := Kd.R_slice hS5; have HS5 := Aside0.mk hS5; have HB5 := Aside0.mk hB5; have HG5 := Aside0.mk hg5; clear hS5 hB5 hg5; have HO5 := Aside0.mk (blk_grown HO.out HG5.out (fun e => by have := HS.out.1 _ e.symm; omega)); have o5 := (blk_cell HO5.out 0).trans rfl; have z5 := blk_frozen HO5.out 0)
    have hS5 := HS5.out
    have hlen5 : (pre ++ [x]).length = pre.length + 1 := by simp
    rw [hlen5] at hS5
    have hw4 := HSZ.out
    have hv5 := HS.out.1
    have f5 : ∀ i, i ≤ w.heap.size + 2 → w5.heap[i]? = W4.heap[i]? := fun i hi => HG5.out.block i (by omega) (fun e => by have := hv5 i e.symm; omega)
    have f6 : ∀ i, i ≤ w.heap.size + 2 → i ≠ w.heap.size → (w5.setCell ⟨w.heap.size, 0, none⟩ (.slice A5 (pre.length + 1) c5)).heap[i]? = W4.heap[i]? := fun i hi hne => (Below.heap_setCell w5 _ _ i hne).trans (f5 i hi)
    have hO6 := blk_put (cs := #[v1]) HO5.out 0 (.slice A5 (pre.length + 1) c5) rfl
    have hS6 := Kd.R_far (p := ⟨w.heap.size, 0, none⟩) (Kd.R_bound hS5) (fun k hk => by have := hk.1; simp only; omega) (.slice A5 (pre.length + 1) c5)
    have hB6 := HB5.out.setCell (p := ⟨w.heap.size, 0, none⟩) (Nat.le_refl _) (.slice A5 (pre.length + 1) c5)
    have hK5 : KeepsWalks W4 w5 := KeepsWalks.of_grownBy HG5.out (fun j o hj ho => by
      obtain ⟨inner, hown'⟩ := Kd.R_own HS.out
      obtain ⟨cells, hc⟩ := own_typed hown' j hj
      rw [hc] at ho
      cases ho
      rfl)
    have hK6 := (HKK.out.trans hK5).trans (KeepsWalks.setCell w5 ⟨w.heap.size, 0, none⟩ (.slice A5 (pre.length + 1) c5))
    generalize w5.setCell ⟨w.heap.size, 0, none⟩ (.slice A5 (pre.length + 1) c5) = w6 at f6 hO6 hS6 hB6 hK6 ⊢
    have hl6 : w6.heap[w.heap.size + 2]? = some (.loop (rec .busy none)) := (f6 _ (by omega) (by omega)).trans HL.out
    have hend : (Instr.endRound (w.heap.size + 2) none).run Try.prog w6 = .ok (.bool true) (w6.putObj (w.heap.size + 2) (.loop (rec .ready none))) := by
      rw [hrec] at hl6
      rw [hrec]
      exact run_endRound none hl6
    have e7 : ∀ i, i ≠ w.heap.size + 2 → (w6.putObj (w.heap.size + 2) (.loop (rec .ready none))).heap[i]? = w6.heap[i]? := fun i hi => World.putObj_heap_other hi
    refine ⟨_, _, hend, rfl, ⟨?_, ?_, ⟨_, (e7 _ (by omega)).trans hO6, ?_⟩, ?_⟩, ?_⟩
    · exact (e7 _ (by omega)).trans ((f6 _ (by omega) (by omega)).trans HD.out)
    · exact World.putObj_heap_same (blk_lt' hl6)
    · exact Kd.R_mono (Kd.R_step hS6 (fun k hk _ => e7 k (by have := hk.1; omega))) (fun k hk => hk.1)
    · exact hB6.grown (grownBy_putObj' w6 (w.heap.size + 2) (.loop (rec .ready none))) hB6.size (fun k e => by cases e; omega)
    · exact hK6.trans (KeepsWalks.putObj (.loop (rec .ready none)) hl6 rfl)
  case fin =>
    rintro e W' ⟨⟨v, rfl⟩, ps, hall, hJ⟩
    refine ⟨⟨v, rfl⟩, .ready, none, by simp, hJ.ll, ?_⟩
    obtain ⟨hd, hl, ⟨v1, hv1, hS⟩, hbb⟩ := hJ
    have e0 : ∀ i, i ≠ w.heap.size + 2 → (W'.putObj (w.heap.size + 2) (.loop (rec .exhausted none))).heap[i]? = W'.heap[i]? := fun i hi => World.putObj_heap_other hi
    have HS := Aside0.mk (show RowH (W'.putObj (w.heap.size + 2) (.loop (rec .exhausted none))) w.heap.size (fun k => w.heap.size + 2 < k) v1 (ps.map (·.2)) from Kd.R_step hS (fun k hk _ => e0 k (by omega)))
    have HD := Aside0.mk ((e0 (w.heap.size + 1) (by omega)).trans hd)
    have HO := Aside0.mk ((e0 w.heap.size (by omega)).trans hv1)
    have HB := Aside0.mk (hbb.grown (grownBy_putObj' W' (w.heap.size + 2) (.loop (rec .exhausted none))) hbb.size (fun k e => by cases e; omega))
    clear hd hl hv1 hS hbb e0
    generalize W'.putObj (w.heap.size + 2) (.loop (rec .exhausted none)) = W3 at HS HD HO HB ⊢
    have o0 := (blk_cell HO.out 0).trans rfl
    go_wp2
    refine ⟨by simp, .inl ⟨_, _, rfl, run_takeDeferred HD.out, ?_⟩⟩
    refine ⟨_, results_single rfl (.tmp .nil), ?_⟩
    refine ⟨v1, ps, rfl, hall, ?_, ?_⟩
    · exact Kd.R_mono (Kd.R_step HS.out (fun k hk _ => World.putObj_heap_other (by omega))) (fun _ _ => trivial)
    · exact HB.out.grown (grownBy_putObj' W3 (w.heap.size + 1) (.deferred none)) HB.out.size (fun k e => by cases e; omega)

theorem collect_calls (Bm b nn : Nat) (D0 : DataW Hi) (w : World) (hm : w.cell? ⟨Bm, 0, none⟩ = some (.map (some b))) (hown : w.ownsMap Try.prog 9 RH b nn D0) (hN : Maps.size D0 ≤ 1000000000) :
    Calls Try.prog 55 #[.func (.func 57) #[] #[.pointer (some ⟨Bm, 0, none⟩)]] w fun e w' => ∃ v ps, e = .returned v ∧ AllOf D0 ps ∧ RowH w' w.heap.size (fun _ => True) v (ps.map (·.2)) ∧ Below w.heap.size w w' := by
  go_enter Try.func55, Try.ntmps55
  go_wp2_with (go_at_call 64; refine (appendSeq_calls Bm b nn D0 _ hm hown hN).mono ?_; rintro e w' ⟨v, ps, rfl, ha, hR, hB⟩)
  go_ret
  exact ⟨v, ps, rfl, ha, hR, hB⟩
end Go.Proofs.Yteplnpedakdjkaa.Hn
end

section
/- slices.SortedFunc over a map's hints. -/
namespace Go.Proofs.Yteplnpedakdjkaa.Hn
open Go.RowKit Go.Shelf Go.Lib Go.Sort Go.Proofs.Yteplnpedakdjkaa.Pure Go.Proofs.Yteplnpedakdjkaa.Pt Go.Proofs.YteplnpedakdjkaaW.PrintWords Go.Proofs.YteplnpedakdjkaaW.PrintLast Go.Proofs.YteplnpedakdjkaaW.PrintMore Go.Proofs.Yteplnpedakdjkaa.Fr Go.Proofs.Yteplnpedakdjkaa.Ext Go.Proofs.Yteplnpedakdjkaa.Lw Go.Proofs.Yteplnpedakdjkaa.Sc
set_option linter.unusedVariables false
set_option linter.unusedSimpArgs false

/-- The sort of no hints. -/
theorem sort_none (w : World) :
    Calls Try.prog 56 #[.slice none 0 0, .func (.func 32) #[] #[]] w fun e w' => e = .returned (.tuple #[]) ∧ w' = w := by
  have hcon := AnyF.slices_SortFunc_none sortH none 0 (.func (.func 32) #[] #[]) w
  exact hcon
/-- A row of hints, sorted in its place, however it lies. -/
theorem sortRow_calls (base : Nat) (v : Value) (l : List Hi) (w : World) (h : RowH w base (fun _ => True) v l) (hl : l.length ≤ 1000000000) :
    Calls Try.prog 56 #[v, .func (.func 32) #[] #[]] w fun e w' => e = .returned (.tuple #[]) ∧ ∃ d : List Hi, d.Perm l ∧ d.Pairwise (fun x y => ¬ keyL y.f1 < keyL x.f1) ∧ RowH w' base (fun _ => True) v d ∧ w.grownBy w' v.ownBlock := by
  obtain ⟨inner, hlen, hown⟩ := Kd.R_own h
  rcases hown with ⟨rfl, h0⟩ | ⟨g, cap, cur, rfl, hb, hh, hn, hm, hs, ht⟩
  · obtain rfl : l = [] := List.length_eq_zero_iff.1 h0
    refine (sort_none w).mono ?_
    rintro e w' ⟨rfl, rfl⟩
    exact ⟨rfl, [], List.Perm.refl _, List.Pairwise.nil, h, ⟨rfl, rfl, rfl, Nat.le_refl _, fun _ _ _ => rfl⟩⟩
  · have hg : g < w.heap.size := (Array.getElem?_eq_some_iff.1 hh).1
    have hcon := sort_calls g 0 cap l.toArray w (row_holds h) hg (by simp; omega)
    rw [List.size_toArray] at hcon
    refine hcon.mono ?_
    rintro e w' ⟨rfl, d', n, os, ⟨hps, _, hpp⟩, hsort, rfl⟩
    have hsz : d'.size = l.length := by simpa using hps
    have hex : d'.extract 0 l.length = d' := by rw [← hsz]; exact Array.extract_size
    have hex2 : l.toArray.extract 0 l.length = l.toArray := by simp
    rw [hex, hex2] at hpp
    obtain ⟨h1, h2⟩ := row_sorted h d'.toList (by simpa using hsz) n os
    have e1 : d'.toList.toArray = d' := by simp
    rw [e1] at h1 h2
    refine ⟨rfl, d'.toList, by simpa using hpp, ?_, h1, h2⟩
    rw [List.pairwise_iff_getElem]
    intro i j hi hj hij
    have hi' : i < d'.size := by simpa using hi
    have hj' : j < d'.size := by simpa using hj
    have h3 := hsort i j (Nat.zero_le _) hij (by omega)
    rw [ltH, getElem!_pos d' i hi', getElem!_pos d' j hj'] at h3
    simpa using of_decide_eq_false h3

set_option maxHeartbeats 8000000 in
set_option maxRecDepth 100000 in
theorem sorted_calls (Bm b nn : Nat) (D0 : DataW Hi) (w : World) (hm : w.cell? ⟨Bm, 0, none⟩ = some (.map (some b))) (hown : w.ownsMap Try.prog 9 RH b nn D0) (hN : Maps.size D0 ≤ 1000000000) (hP : ∀ ps, AllOf D0 ps → ps.length ≤ 1000000000) :
    Calls Try.prog 40 #[.func (.func 57) #[] #[.pointer (some ⟨Bm, 0, none⟩)], .func (.func 32) #[] #[]] w fun e w' => ∃ v ps d, e = .returned v ∧ AllOf D0 ps ∧ d.Perm (ps.map (·.2)) ∧ d.Pairwise (fun x y => ¬ keyL y.f1 < keyL x.f1) ∧ RowH w' w.heap.size (fun _ => True) v d ∧ RowKit.Below w.heap.size w w' := by
  go_enter Try.func40, Try.ntmps40
  go_wp2_with (first
    | (go_at_call 55; refine (collect_calls Bm b nn D0 _ hm hown hN).mono ?_; rintro e w1 ⟨v, ps, rfl, ha, hR, hB⟩; have HA := Aside0.mk ha; have HR := Aside0.mk hR; have HB := Aside0.mk hB; clear ha hR hB)
    | (go_at_call 56; refine (sortRow_calls w.heap.size v (ps.map (·.2)) w1 HR.out (by rw [List.length_map]; exact hP ps HA.out)).mono ?_; rintro e w2 ⟨rfl, d, hd, hs, hR2, hg⟩; have HD := Aside0.mk hd; have HS := Aside0.mk hs; have HR2 := Aside0.mk hR2; have HG := Aside0.mk hg; clear hd hs hR2 hg))
  go_ret
  obtain ⟨inner, ho⟩ := Kd.R_own HR.out
  exact ⟨v, ps, d, rfl, HA.out, HD.out, HS.out, HR2.out, HB.out.grown HG.out HB.out.size (own_base ho)⟩
end Go.Proofs.Yteplnpedakdjkaa.Hn
end

section
/- Hints kept in a map, and in order: over lists alone. -/
namespace Go.Proofs.Yteplnpedakdjkaa.Hn
set_option linter.unusedVariables false
set_option linter.unusedSimpArgs false
open Go.RowKit Go.Maps Go.Shelf Go.Lib Go.Proofs.Yteplnpedakdjkaa.Pure Go.Proofs.Yteplnpedakdjkaa.Pt Go.Proofs.YteplnpedakdjkaaW.PrintWords Go.Proofs.Yteplnpedakdjkaa.Fr Go.Proofs.Yteplnpedakdjkaa.Ext
set_option linter.unusedVariables false

def putF (D : DataW Hi) (x : Fo) : DataW Hi := if tellsF x then D.put (.string (keyL x.f2.f1)) (.held (hintF x)) else D
def mapGo : List Fo → DataW Hi → DataW Hi
  | [], D => D
  | x :: l, D => mapGo l (putF D x)
abbrev Rises (l : List Hi) : Prop := l.Pairwise fun a b => keyL a.f1 < keyL b.f1
theorem lt_tri (a b : List UInt8) : a < b ∨ a = b ∨ b < a := by
  by_cases h1 : a < b
  · exact .inl h1
  · by_cases h2 : b < a
    · exact .inr (.inr h2)
    · exact .inr (.inl (List.le_antisymm (List.not_lt.mp h2) (List.not_lt.mp h1)))
theorem ins_mem (h : Hi) : ∀ l : List Hi, Rises l → ∀ x, x ∈ insH h l ↔ x = h ∨ (x ∈ l ∧ keyL x.f1 ≠ keyL h.f1)
  | [], _, x => by simp [insH]
  | a :: l, hr, x => by
    have hr' := (List.pairwise_cons.1 hr).2
    have ha := (List.pairwise_cons.1 hr).1
    unfold insH
    by_cases h1 : keyL h.f1 < keyL a.f1
    · rw [if_pos h1]
      have hne : ∀ y ∈ a :: l, keyL y.f1 ≠ keyL h.f1 := by
        intro y hy e
        rcases List.mem_cons.1 hy with rfl | hy
        · rw [e] at h1; exact List.lt_irrefl _ h1
        · have := List.lt_trans h1 (ha y hy)
          rw [e] at this; exact List.lt_irrefl _ this
      constructor
      · intro hx
        rcases List.mem_cons.1 hx with rfl | hx
        · exact .inl rfl
        · exact .inr ⟨hx, hne x hx⟩
      · rintro (rfl | ⟨hx, _⟩)
        · exact List.mem_cons_self
        · exact List.mem_cons_of_mem _ hx
    · rw [if_neg h1]
      by_cases h2 : keyL h.f1 = keyL a.f1
      · rw [if_pos h2]
        have hne : ∀ y ∈ l, keyL y.f1 ≠ keyL h.f1 := by
          intro y hy e
          have := ha y hy
          rw [e, h2] at this; exact List.lt_irrefl _ this
        constructor
        · intro hx
          rcases List.mem_cons.1 hx with rfl | hx
          · exact .inl rfl
          · exact .inr ⟨List.mem_cons_of_mem _ hx, hne x hx⟩
        · rintro (rfl | ⟨hx, hk⟩)
          · exact List.mem_cons_self
          · rcases List.mem_cons.1 hx with rfl | hx
            · exact absurd h2.symm hk
            · exact List.mem_cons_of_mem _ hx
      · rw [if_neg h2]
        have ih := ins_mem h l hr' x
        constructor
        · intro hx
          rcases List.mem_cons.1 hx with rfl | hx
          · exact .inr ⟨List.mem_cons_self, fun e => h2 e.symm⟩
          · rcases ih.1 hx with rfl | ⟨h3, h4⟩
            · exact .inl rfl
            · exact .inr ⟨List.mem_cons_of_mem _ h3, h4⟩
        · rintro (rfl | ⟨hx, hk⟩)
          · exact List.mem_cons_of_mem _ (ih.2 (.inl rfl))
          · rcases List.mem_cons.1 hx with rfl | hx
            · exact List.mem_cons_self
            · exact List.mem_cons_of_mem _ (ih.2 (.inr ⟨hx, hk⟩))
theorem ins_rises (h : Hi) : ∀ l : List Hi, Rises l → Rises (insH h l)
  | [], _ => by simp [insH, Rises]
  | a :: l, hr => by
    have hr' := (List.pairwise_cons.1 hr).2
    have ha := (List.pairwise_cons.1 hr).1
    unfold insH
    by_cases h1 : keyL h.f1 < keyL a.f1
    · rw [if_pos h1]
      refine List.pairwise_cons.2 ⟨fun y hy => ?_, hr⟩
      rcases List.mem_cons.1 hy with rfl | hy
      · exact h1
      · exact List.lt_trans h1 (ha y hy)
    · rw [if_neg h1]
      by_cases h2 : keyL h.f1 = keyL a.f1
      · rw [if_pos h2]
        exact List.pairwise_cons.2 ⟨fun y hy => by rw [h2]; exact ha y hy, hr'⟩
      · rw [if_neg h2]
        refine List.pairwise_cons.2 ⟨fun y hy => ?_, ins_rises h l hr'⟩
        rcases (ins_mem h l hr' y).1 hy with rfl | ⟨hy, _⟩
        · rcases lt_tri (keyL y.f1) (keyL a.f1) with h3 | h3 | h3
          · exact absurd h3 h1
          · exact absurd h3 h2
          · exact h3
        · exact ha y hy
theorem ins_len (h : Hi) : ∀ l : List Hi, (insH h l).length ≤ l.length + 1
  | [] => Nat.le_refl _
  | a :: l => by
    have := ins_len h l
    unfold insH
    split
    · simp
    · split
      · simp
      · simp only [List.length_cons]; omega
/-- A map and hints in order that tell the same. -/
structure Ties (D : DataW Hi) (acc : List Hi) : Prop where
  isMap : IsMap D
  rises : Rises acc
  has_ : ∀ kb, has D (.string kb) = true ↔ ∃ h ∈ acc, keyL h.f1 = kb
  at_ : ∀ h ∈ acc, ∀ zd, D.atKey (.string (keyL h.f1)) zd = .held h
theorem Ties.empty : Ties (.map []) [] := ⟨isMap_empty, List.Pairwise.nil, fun kb => by simp [Go.Maps.has], fun h hh => by cases hh⟩
theorem put_isMap {D : DataW Hi} (h : IsMap D) (k : Lit) (d : DataW Hi) : IsMap (D.put k d) := by
  obtain ⟨es, rfl⟩ := h
  exact ⟨_, DataW.put_eq es k d⟩
theorem Ties.put {D : DataW Hi} {acc : List Hi} (t : Ties D acc) (h : Hi) : Ties (D.put (.string (keyL h.f1)) (.held h)) (insH h acc) := by
  have hm := ins_mem h acc t.rises
  refine ⟨put_isMap t.isMap _ _, ins_rises h acc t.rises, fun kb => ?_, fun x hx zd => ?_⟩
  · by_cases e : kb = keyL h.f1
    · subst e
      rw [has_put_same t.isMap (show WideAt.IsKeyLit (.string (keyL h.f1)) from trivial)]
      exact ⟨fun _ => ⟨h, (hm h).2 (.inl rfl), rfl⟩, fun _ => rfl⟩
    · rw [has_put_other (by intro e2; injection e2 with e2; exact e e2), t.has_]
      constructor
      · rintro ⟨x, hx, hk⟩
        exact ⟨x, (hm x).2 (.inr ⟨hx, by rw [hk]; exact e⟩), hk⟩
      · rintro ⟨x, hx, hk⟩
        rcases (hm x).1 hx with rfl | ⟨hx, _⟩
        · exact absurd hk.symm e
        · exact ⟨x, hx, hk⟩
  · rcases (hm x).1 hx with rfl | ⟨hx, hk⟩
    · exact atKey_put_same t.isMap (show WideAt.IsKeyLit (.string (keyL x.f1)) from trivial) _ _
    · rw [atKey_put_other (by intro e2; injection e2 with e2; exact hk e2)]
      exact t.at_ x hx zd
theorem ties_go (l : List Fo) : ∀ (D : DataW Hi) (acc : List Hi), Ties D acc → Ties (mapGo l D) (ofGo l acc) := by
  induction l with
  | nil => intro D acc t; exact t
  | cons x l ih =>
    intro D acc t
    simp only [mapGo, ofGo, putF]
    by_cases h : tellsF x = true
    · rw [if_pos h, if_pos h]
      exact ih _ _ (t.put (hintF x))
    · rw [if_neg h, if_neg h]
      exact ih _ _ t
theorem of_len (l : List Fo) : ∀ acc, (ofGo l acc).length ≤ acc.length + l.length := by
  induction l with
  | nil => intro acc; exact Nat.le_refl _
  | cons x l ih =>
    intro acc
    simp only [ofGo]
    split
    · have := ih (insH (hintF x) acc); have := ins_len (hintF x) acc; simp only [List.length_cons]; omega
    · have := ih acc; simp only [List.length_cons]; omega
theorem rises_inj {l : List Hi} (h : Rises l) {a b : Hi} (ha : a ∈ l) (hb : b ∈ l) (e : keyL a.f1 = keyL b.f1) : a = b := by
  induction l with
  | nil => cases ha
  | cons x l ih =>
    have h1 := (List.pairwise_cons.1 h).1
    have h2 := (List.pairwise_cons.1 h).2
    rcases List.mem_cons.1 ha with ea | ha'
    · rcases List.mem_cons.1 hb with eb | hb'
      · rw [ea, eb]
      · have := h1 b hb'; rw [← ea, e] at this; exact absurd this (List.lt_irrefl _)
    · rcases List.mem_cons.1 hb with eb | hb'
      · have := h1 a ha'; rw [← eb, e] at this; exact absurd this (List.lt_irrefl _)
      · exact ih h2 ha' hb'
theorem rises_nodup {l : List Hi} (h : Rises l) : l.Nodup := List.Pairwise.imp (fun hab e => by rw [e] at hab; exact List.lt_irrefl _ hab) h
theorem all_mem {D : DataW Hi} {acc : List Hi} (t : Ties D acc) {ps : List (List UInt8 × Hi)} (ha : AllOf D ps) {p : List UInt8 × Hi} (hp : p ∈ ps) : p.2 ∈ acc ∧ keyL p.2.f1 = p.1 := by
  obtain ⟨h1, h2, h3⟩ := ha
  obtain ⟨h, hh, hk⟩ := (t.has_ p.1).1 ((h2 p.1).1 (List.mem_map.2 ⟨p, hp, rfl⟩))
  have e1 := t.at_ h hh .nil
  have e2 := h3 p hp .nil
  rw [hk, e2] at e1
  injection e1 with e1
  rw [e1]
  exact ⟨hh, hk⟩
theorem all_perm {D : DataW Hi} {acc : List Hi} (t : Ties D acc) {ps : List (List UInt8 × Hi)} (ha : AllOf D ps) : (ps.map (·.2)).Perm acc := by
  have hn : (ps.map (·.2)).Nodup := by
    have h1 := ha.1
    unfold List.Nodup at h1 ⊢
    rw [List.pairwise_map] at h1 ⊢
    refine List.Pairwise.imp_of_mem (fun {a b} hma hmb hab e => hab ?_) h1
    rw [← (all_mem t ha hma).2, ← (all_mem t ha hmb).2, e]
  rw [List.perm_ext_iff_of_nodup hn (rises_nodup t.rises)]
  intro x
  constructor
  · intro hx
    obtain ⟨p, hp, rfl⟩ := List.mem_map.1 hx
    exact (all_mem t ha hp).1
  · intro hx
    obtain ⟨p, hp, hk⟩ := List.mem_map.1 ((ha.2.1 (keyL x.f1)).2 ((t.has_ _).2 ⟨x, hx, rfl⟩))
    obtain ⟨h1, h2⟩ := all_mem t ha hp
    exact List.mem_map.2 ⟨p, hp, rises_inj t.rises h1 hx (h2.trans hk)⟩
theorem sorted_is {D : DataW Hi} {acc : List Hi} (t : Ties D acc) {ps : List (List UInt8 × Hi)} (ha : AllOf D ps) {d : List Hi} (hd : d.Perm (ps.map (·.2))) (hs : d.Pairwise fun x y => ¬ keyL y.f1 < keyL x.f1) : d = acc := by
  have hp := hd.trans (all_perm t ha)
  refine List.Perm.eq_of_pairwise (le := fun x y : Hi => ¬ keyL y.f1 < keyL x.f1) (fun a b hma hmb h1 h2 => ?_) hs (List.Pairwise.imp (fun {a b} hab h => List.lt_irrefl _ (List.lt_trans hab h)) t.rises) hp
  refine rises_inj t.rises (hp.mem_iff.1 hma) hmb ?_
  exact List.le_antisymm (List.not_lt.mp h1) (List.not_lt.mp h2)
end Go.Proofs.Yteplnpedakdjkaa.Hn
end

section
/- hint.Of: its walk. -/
namespace Go.Proofs.Yteplnpedakdjkaa.Hn
open Go.RowKit Go.Maps Go.Shelf Go.Lib Go.Proofs.Yteplnpedakdjkaa.Pure Go.Proofs.Yteplnpedakdjkaa.Pt Go.Proofs.YteplnpedakdjkaaW.PrintWords Go.Proofs.YteplnpedakdjkaaW.PrintLast Go.Proofs.YteplnpedakdjkaaW.PrintMore Go.Proofs.Yteplnpedakdjkaa.Fr Go.Proofs.Yteplnpedakdjkaa.Ext Go.Proofs.Yteplnpedakdjkaa.Lw Go.Proofs.Yteplnpedakdjkaa.Sc
set_option linter.unusedVariables false
set_option linter.unusedSimpArgs false

theorem mapGo_snoc (l : List Fo) (x : Fo) : ∀ D, mapGo (l ++ [x]) D = putF (mapGo l D) x := by
  induction l with
  | nil => intro D; rfl
  | cons y l ih => intro D; simp only [List.cons_append, mapGo, ih]
theorem tells_f (x : Fo) : Pk.hint_tells.f x.f2.f0 = some (tellsF x) := by
  unfold Pk.hint_tells.f Pk.hint_within.f tellsF
  by_cases h0 : x.f2.f0 ≥ 2
  · by_cases h1 : x.f2.f0 ≤ 4 <;> simp [h0, h1]
  · simp [h0]

theorem owns_below {w w' : World} {b n : Nat} {D : DataW Hi} (h : w.ownsMap Try.prog 9 RH b n D) (hb : RowKit.Below w.heap.size w w') : w'.ownsMap Try.prog 9 RH b n D := by
  have hlt := h.lt
  obtain ⟨es, clock, h1, Ft, hs, hD⟩ := h
  exact ⟨es, clock, (hb.block b hlt).trans h1, Ft, hs, hD⟩
/-- maps.Values: the map is boxed. -/
theorem values_calls (b : Nat) (w : World) :
    Calls Try.prog 41 #[.map (some b)] w fun e w' => e = .returned (.func (.func 57) #[] #[.pointer (some ⟨w.heap.size, 0, none⟩)]) ∧ w' = w.alloc (.cells #[.map (some b)] 69) := by
  go_enter Try.func41, Try.ntmps41
  go_wp2
  go_ret
  exact ⟨rfl, rfl⟩

set_option maxHeartbeats 8000000 in
set_option maxRecDepth 100000 in
theorem of_calls (A : Option Addr) (c : Nat) (l : List Fo) (w : World) (hl : l.length ≤ 1000000000) (hk : ∀ x ∈ l, x.f2.f1.size ≤ maxLen) (hr : Kd.C k39 w A l.length l) :
    Calls Try.prog 19 #[.slice A l.length c] w fun e w' => ∃ v, e = .returned v ∧ RowH w' w.heap.size (fun _ => True) v (ofL l) ∧ RowKit.Below w.heap.size w w' := by
  have HR := Aside0.mk hr
  have HKK := Aside0.mk hk
  clear hr hk
  have hmm := @run_makeMap Try.prog
  go_enter Try.func19, Try.ntmps19
  go_wp2
  have HM0 := Aside0.mk (World.ownsMap_made w Try.prog 9 RH)
  have HB0 := Aside0.mk (below_alloc (RowKit.Below.refl w.heap.size w) (.map #[] 0))
  go_loopg [9] l.length (fun kq v9 wr => ∃ k : Nat, v9 = .int .i64 k ∧ Aside0 (k + kq = l.length) ∧ Aside0 (wr.ownsMap Try.prog 9 RH w.heap.size k (mapGo (l.take k) (.map []))) ∧ Aside0 (RowKit.Below w.heap.size w wr))
  case atStart => exact ⟨0, rfl, ⟨by omega⟩, HM0, HB0⟩
  case round =>
    clear HM0 HB0
    obtain ⟨k, rfl, HK, HM, HB⟩ := hrel
    cases gk with
    | zero =>
      have hk : decide ((k : Int) < (l.length : Int)) = false := decide_eq_false (by have := HK.out; omega)
      have hk' : decide (k < l.length) = false := decide_eq_false (by have := HK.out; omega)
      have hkl : k = l.length := by have := HK.out; omega
      have HMM := Aside0.mk (show wr.ownsMap Try.prog 9 RH w.heap.size l.length (mapGo l (.map [])) by have := HM.out; rw [hkl, List.take_of_length_le (Nat.le_refl _)] at this; exact this)
      have HT := Aside0.mk (ties_go l (.map []) [] Ties.empty)
      clear hkl
      go_wp2_with (first
        | (go_at_call 41; refine (values_calls _ _).mono ?_; rintro e w1 ⟨rfl, rfl⟩)
        | (go_at_call 40; go_loud (refine (sorted_calls wr.heap.size w.heap.size l.length (mapGo l (.map [])) _ ?cm1 ?co1 ?cs1 ?cp1).mono ?_; (case cm1 => exact (blk_cell (heap_alloc_new wr (.cells #[.map (some w.heap.size)] 69)) 0).trans rfl); (case co1 => exact HMM.out.alloc _); (case cs1 => exact Nat.le_trans HMM.out.size_le hl); (case cp1 => exact (fun ps ha => by have h1 := (all_perm HT.out ha).length_eq; have h2 := of_len l []; rw [List.length_map] at h1; rw [List.length_nil] at h2; omega)); rintro e w2 ⟨v, ps, d, rfl, ha, hd, hs, hR, hB⟩; have HE := Aside0.mk (sorted_is HT.out ha hd hs); have HR2 := Aside0.mk hR; have HB2 := Aside0.mk hB; clear ha hd hs hR hB)))
      go_ret
      refine ⟨v, rfl, ?_, below_then (below_alloc HB.out _) (below_alloc HB.out _).size HB2.out⟩
      have h1 := HR2.out
      rw [HE.out] at h1
      exact Kd.R_lower h1 (below_alloc HB.out _).size
    | succ gk =>
      have hk0 : k < l.length := by have := HK.out; omega
      have hk : decide ((k : Int) < (l.length : Int)) = true := decide_eq_true (by omega)
      have hk' : decide (k < l.length) = true := decide_eq_true hk0
      have hk1 : (k < l.length) = True := eq_true hk0
      obtain ⟨ad, A7, c7, A8, c8, e0, x0, x1, x2, x3, x4, x5, x6, x7, x8, _⟩ := at_T39 (Kd.C_below HR.out HB.out) (k : Int) (by omega) (by omega)
      cases e0
      rw [Int.toNat_natCast] at x0 x1 x2 x3 x4 x5 x6 x7 x8
      obtain ⟨x, hx⟩ : ∃ x, rd_T39 l (k : Int) = x := ⟨_, rfl⟩
      have hget : l[k]'hk0 = x := by
        unfold rd_T39 at hx
        rw [Int.toNat_natCast, List.getD_eq_getElem?_getD, List.getElem?_eq_getElem hk0] at hx
        exact hx
      have HST := Aside0.mk (show l.take (k + 1) = l.take k ++ [x] by rw [List.take_add_one, List.getElem?_eq_getElem hk0, hget]; rfl)
      have hsz : x.f2.f1.size ≤ maxLen := HKK.out x (hget ▸ List.getElem_mem hk0)
      rw [hx] at x0 x1 x2 x3 x4 x5 x6 x7 x8
      clear hx hget
      go_upto_region 5 with (fail)
      have BK1 := Aside0.mk (heap_alloc_new wr (.cells #[.int .i64 x.f0, .int .i64 x.f1, .int .i64 x.f2.f0, .string x.f2.f1, .int .i64 x.f2.f2, .int .i64 x.f2.f3, .int .i64 x.f2.f4, .slice A7 x.f2.f5.length c7, .slice A8 x.f2.f6.length c8] 39))
      have HM1 := Aside0.mk (HM.out.alloc (.cells #[.int .i64 x.f0, .int .i64 x.f1, .int .i64 x.f2.f0, .string x.f2.f1, .int .i64 x.f2.f2, .int .i64 x.f2.f3, .int .i64 x.f2.f4, .slice A7 x.f2.f5.length c7, .slice A8 x.f2.f6.length c8] 39))
      have HB1 := Aside0.mk (below_alloc HB.out (.cells #[.int .i64 x.f0, .int .i64 x.f1, .int .i64 x.f2.f0, .string x.f2.f1, .int .i64 x.f2.f2, .int .i64 x.f2.f3, .int .i64 x.f2.f4, .slice A7 x.f2.f5.length c7, .slice A8 x.f2.f6.length c8] 39))
      clear x0 x1 x2 x3 x4 x5 x6 x7 x8 HM HB
      generalize wr.alloc (.cells #[.int .i64 x.f0, .int .i64 x.f1, .int .i64 x.f2.f0, .string x.f2.f1, .int .i64 x.f2.f2, .int .i64 x.f2.f3, .int .i64 x.f2.f4, .slice A7 x.f2.f5.length c7, .slice A8 x.f2.f6.length c8] 39) = w1 at BK1 HM1 HB1 ⊢
      generalize wr.heap.size = g at BK1 ⊢
      have y0 := (blk_cell BK1.out 0).trans rfl
      have y1 := (blk_cell BK1.out 1).trans rfl
      have y2 := (blk_cell BK1.out 2).trans rfl
      have y3 := (blk_cell BK1.out 3).trans rfl
      cases hb : tellsF x with
      | false =>
        have hcon := fun W => Pk.hint_tells.calls x.f2.f0 false W ((tells_f x).trans (congrArg some hb))
        have HC := Aside0.mk hcon
        have HTF := Aside0.mk hb
        clear hcon hb
        go_wp2_with (go_at_call 30; refine (HC.out _).mono ?_; rintro e w2 ⟨rfl, ⟨nd, rfl⟩⟩)
        go_roundg gk
        case measure => omega
        case rel =>
          refine ⟨k + 1, by go_num, ⟨by have := HK.out; omega⟩, ⟨?_⟩, ⟨pw_below_drewN HB1.out nd⟩⟩
          rw [HST.out, mapGo_snoc, putF, HTF.out, if_neg (by decide)]
          exact owns_below (HM1.out.mono (Nat.le_succ k)) (pw_below_drewN (RowKit.Below.refl _ _) nd)
      | true =>
        have hcon := fun W => Pk.hint_tells.calls x.f2.f0 true W ((tells_f x).trans (congrArg some hb))
        have HC := Aside0.mk hcon
        have HTF := Aside0.mk hb
        clear hcon hb
        go_wp2_with (first
          | (go_at_call 30; refine (HC.out _).mono ?_; rintro e w2 ⟨rfl, ⟨nd, rfl⟩⟩)
          | (at_mapUpdate; go_loud (refine wpList_mapUpdate_own _ rfl _ _ _ 69 rfl 9 41 (string_keyed Try.underlying9) Try.underlying69 RH w.heap.size k _ rfl (owns_below HM1.out (pw_below_drewN (RowKit.Below.refl _ _) nd)) (by unfold maxLen; omega) _ _ _ rfl rfl (Go.WideMaps.keyOf_string_mk Try.underlying9 hsz) _ [] (RH_enc (hintF x)) ?_; intro w3 hown3 hgrow3; have HM3 := Aside0.mk hown3; have HB3 := Aside0.mk ((pw_below_drewN HB1.out nd).grown hgrow3 (pw_below_drewN HB1.out nd).size (fun k e => by cases e; exact Nat.le_refl _)); clear hown3 hgrow3)))
        go_roundg gk
        case measure => omega
        case rel =>
          refine ⟨k + 1, by go_num, ⟨by have := HK.out; omega⟩, ⟨?_⟩, HB3⟩
          rw [HST.out, mapGo_snoc, putF, HTF.out, if_pos rfl]
          exact HM3.out
end Go.Proofs.Yteplnpedakdjkaa.Hn
end

section
/- Contracts of package hint in the printed form. -/
namespace Go.Proofs.Yteplnpedakdjkaa.Ext
set_option linter.unusedVariables false
set_option linter.unusedSimpArgs false
open Go.RowKit Go.Proofs.Yteplnpedakdjkaa.Pt Go.Proofs.YteplnpedakdjkaaW.PrintWords Go.Proofs.Yteplnpedakdjkaa.Fr Go.Proofs.Yteplnpedakdjkaa.Hn
set_option linter.unusedVariables false
def hint_Of.f (l : List Fo) : Option (List Hi) := if l.length ≤ 1000000000 ∧ (l.all fun x => decide (x.f2.f1.size ≤ maxLen)) = true then some (ofL l) else none
def hint_Right.f (l : List Hi) : Option Bool := some (rightL l)
def hint_end.f (l : List Int) (a1 a2 : Int) : Option (List Int) := some (endL l a1 a2)
theorem hint_Of.calls (A0 : Option Addr) (c0 : Nat) (l0 : List Fo) (r : List Hi) (w : World) (hr0 : Kd.C k39 w A0 l0.length l0) (hc0 : l0.length ≤ c0) (h : hint_Of.f l0 = some r) :
    Calls Try.prog 19 #[.slice A0 l0.length c0] w fun e w' => ∃ v0_ : Value, e = .returned v0_ ∧ Kd.R k41 41 w' w.heap.size (fun _ => True) v0_ r ∧ Below w.heap.size w w' := by
  unfold hint_Of.f at h
  split at h
  case isFalse => cases h
  case isTrue hh =>
    obtain rfl := Option.some.inj h
    exact Hn.of_calls A0 c0 l0 w hh.1 (fun x hx => of_decide_eq_true (List.all_eq_true.1 hh.2 x hx)) hr0
theorem hint_Right.calls (A0 : Option Addr) (c0 : Nat) (l0 : List Hi) (r : Bool) (w : World) (hr0 : Kd.C k41 w A0 l0.length l0) (hc0 : l0.length ≤ c0) (h : hint_Right.f l0 = some r) :
    Calls Try.prog 14 #[.slice A0 l0.length c0] w fun e w' => e = .returned (.bool r) ∧ Below w.heap.size w w' := by
  obtain rfl := Option.some.inj h
  exact right_calls A0 c0 l0 w hc0 hr0
theorem hint_end.calls (A0 : Option Addr) (c0 : Nat) (l0 : List Int) (a1 a2 : Int) (r : List Int) (w : World) (hr0 : Kd.C (Kd.int .u8) w A0 l0.length l0) (hc0 : l0.length ≤ c0) (h : hint_end.f l0 a1 a2 = some r) :
    Calls Try.prog 26 #[.slice A0 l0.length c0, .int .i64 a1, .int .i64 a2] w fun e w' => ∃ v0_ : Value, e = .returned v0_ ∧ Kd.R (Kd.int .u8) 5 w' w.heap.size (fun _ => True) v0_ r ∧ Below w.heap.size w w' := by
  obtain rfl := Option.some.inj h
  refine (end_calls A0 c0 l0 a1 a2 w hr0).mono ?_
  rintro e w' ⟨v, rfl, ho, hb⟩
  exact ⟨v, rfl, R_ints ho, hb⟩
end Go.Proofs.Yteplnpedakdjkaa.Ext
end

section
/- The contract of scan.All in the printed form. -/
namespace Go.Proofs.Yteplnpedakdjkaa.Ext
open Go.RowKit Go.Proofs.YteplnpedakdjkaaW.PrintWords Go.Proofs.YteplnpedakdjkaaW.PrintLast Go.Proofs.YteplnpedakdjkaaW.PrintMore Go.Proofs.Yteplnpedakdjkaa.Fr Go.Proofs.Yteplnpedakdjkaa.Pure Go.Proofs.Yteplnpedakdjkaa.Lw Go.Proofs.Yteplnpedakdjkaa.Pt Go.Proofs.Yteplnpedakdjkaa.Sc
set_option linter.unusedVariables false

def scan_All.f (l : List Int) : Option (List S53 × Int × Int × Int) :=
  if bytesB l = true ∧ l.length ≤ 1000000000 then some ((scanGo (l.length + 1) l 0 0 []).1.map toS, ((scanGo (l.length + 1) l 0 0 []).2.1 : Int), ((scanGo (l.length + 1) l 0 0 []).2.2.1 : Int), (scanGo (l.length + 1) l 0 0 []).2.2.2) else none
theorem scan_All.calls (A0 : Option Addr) (c0 : Nat) (l0 : List Int) (r1 : List S53) (r2 r3 r4 : Int) (w : World) (hr0 : Kd.C (Kd.int .u8) w A0 l0.length l0) (hc0 : l0.length ≤ c0) (h : scan_All.f l0 = some (r1, r2, r3, r4)) :
    Calls Try.prog 22 #[.slice A0 l0.length c0] w fun e w' => ∃ v0_ : Value, e = .returned (.tuple #[v0_, .int .i64 r2, .int .i64 r3, .int .i64 r4]) ∧ Kd.S k53 53 w' w.heap.size (fun _ => True) v0_ r1 ∧ Below w.heap.size w w' := by
  unfold scan_All.f at h
  split at h
  case isFalse => cases h
  case isTrue hh =>
    simp only [Option.some.injEq, Prod.mk.injEq] at h
    obtain ⟨rfl, rfl, rfl, rfl⟩ := h
    exact all_calls A0 c0 l0 w (l0.length + 1) _ ((bytesB_iff l0).mp hh.1) hc0 hh.2 hr0 (Nat.lt_succ_self _) rfl
end Go.Proofs.Yteplnpedakdjkaa.Ext
end

