/- The live question of the statements on scans. -/
import Derived.Test.YtjednkbgdbalnaaScX
import Derived.Test.YtjednkbgdbalnaaPtx3
namespace Go.Proofs.Ytjednkbgdbalnaa.Ext
open Go.RowKit Go.Proofs.YtjednkbgdbalnaaW.PrintWords Go.Proofs.YtjednkbgdbalnaaW.PrintLast Go.Proofs.YtjednkbgdbalnaaW.PrintMore Go.Proofs.Ytjednkbgdbalnaa.Fr Go.Proofs.Ytjednkbgdbalnaa.Pure Go.Proofs.Ytjednkbgdbalnaa.Lw Go.Proofs.Ytjednkbgdbalnaa.Pt Go.Proofs.Ytjednkbgdbalnaa.Sc
set_option linter.unusedVariables false
set_option linter.unusedSimpArgs false

def fab : List Int := [0, 2, 255, 253, 97, 98, 209, 108, 162, 194]
def fc1 : List Int := [0, 1, 255, 254, 99, 71, 43, 229, 203]
def fd1 : List Int := [0, 1, 255, 254, 100, 172, 79, 47, 31]
def b24 : List Int := [0, 2, 255, 253, 97, 98, 209, 108, 162, 194, 0, 1, 255, 254, 99, 71, 43, 229, 203, 0, 1, 255, 254, 100]
set_option maxRecDepth 100000 in
theorem ref_ab : souterrainref02_Put.f 100 [97, 98] = some fab := by decide +kernel
set_option maxRecDepth 100000 in
theorem ref_c : souterrainref02_Put.f 100 [99] = some fc1 := by decide +kernel
set_option maxRecDepth 100000 in
theorem ref_d : souterrainref02_Put.f 100 [100] = some fd1 := by decide +kernel
set_option maxRecDepth 100000 in
theorem scan_b24 : scanGo 25 b24 0 0 [] = ([(0, 10, [97, 98]), (10, 9, [99])], 0, 19, 21) := by decide +kernel
set_option maxRecDepth 100000 in
theorem scan_b24a : scanGo 25 b24 10 0 [] = ([(10, 9, [99])], 0, 19, 21) := by decide +kernel
theorem bytes_b24 : bytesB b24 = true := by decide +kernel
def itm2 : List S41 := [⟨0, 10, [97, 98]⟩, ⟨10, 9, [99]⟩]
set_option maxRecDepth 100000 in
theorem same_itm : souterrainref03_Same.f 10 itm2 itm2 = some true := by decide +kernel
theorem all_b24 : scan_All.f b24 = some (itm2, 0, 19, 21) := by
  unfold scan_All.f
  rw [show b24.length + 1 = 25 from rfl, scan_b24, if_pos ⟨bytes_b24, by decide⟩]
  rfl
theorem next_b24a : scan_Next.f b24 10 = some (10, 9, [99], 19, 0) := by
  unfold scan_Next.f nextS
  rw [show b24.length + 1 = 25 from rfl, show (10 : Int).toNat = 10 from rfl, scan_b24a, if_pos ⟨bytes_b24, by decide⟩, if_neg (by decide)]
  rfl
theorem next_b24b : scan_Next.f b24 25 = some (0, 0, [], 25, 1) := by
  unfold scan_Next.f nextS
  rw [if_pos ⟨bytes_b24, by decide⟩, if_pos (by decide)]
theorem next_nil : scan_Next.f [] 0 = some (0, 0, [], 0, 0) := by decide +kernel

theorem putr_at (k : Nat) (A : Option Addr) (c n : Nat) (l r : List Int) (hr : souterrainref02_Put.f k l = some r) (hn : l.length = n) (w : World) (hc : n ≤ c) (hl : Kd.C (Kd.int .u8) w A l.length l) :
    Calls Try.prog 19 #[.slice A n c] w fun e w' => ∃ v, e = .returned v ∧ Aside0 (w'.ownsRow w.heap.size 5 1 v r.length (nums .u8 r)) ∧ Aside0 (Below w.heap.size w w') := by
  subst hn
  refine (souterrainref02_Put.calls k A c l r w hl hc hr).mono ?_
  rintro e w' ⟨v, rfl, h1, h2⟩
  exact ⟨v, rfl, ⟨Kd.own_of_R h1⟩, ⟨h2⟩⟩
theorem all_at (A : Option Addr) (c n : Nat) (l : List Int) (r1 : List S41) (r2 r3 r4 : Int) (h : scan_All.f l = some (r1, r2, r3, r4)) (hn : l.length = n) (w : World) (hc : n ≤ c) (hl : Kd.C (Kd.int .u8) w A l.length l) :
    Calls Try.prog 23 #[.slice A n c] w fun e w' => ∃ A' c', e = .returned (.tuple #[.slice A' r1.length c', .int .i64 r2, .int .i64 r3, .int .i64 r4]) ∧ r1.length ≤ c' ∧ Aside0 (Kd.C k41 w' A' r1.length r1) ∧ Aside0 (Below w.heap.size w w') := by
  subst hn
  refine (scan_All.calls A c l r1 r2 r3 r4 w hl hc h).mono ?_
  rintro e w' ⟨v, rfl, h1, h2⟩
  obtain ⟨A', c', rfl, h3, h4⟩ := Kd.S_reads h1
  exact ⟨A', c', rfl, h3, ⟨h4⟩, ⟨h2⟩⟩
theorem next_at (A : Option Addr) (c n : Nat) (l : List Int) (a r1 r2 : Int) (r3 : List Int) (r4 r5 : Int) (h : scan_Next.f l a = some (r1, r2, r3, r4, r5)) (hn : l.length = n) (w : World) (hc : n ≤ c) (hl : Kd.C (Kd.int .u8) w A l.length l) :
    Calls Try.prog 25 #[.slice A n c, .int .i64 a] w fun e w' => ∃ A' c', e = .returned (.tuple #[.agg #[.int .i64 r1, .int .i64 r2, .slice A' r3.length c'], .int .i64 r4, .int .i64 r5]) ∧ Aside0 (Below w.heap.size w w') := by
  subst hn
  refine (scan_Next.calls A c l a r1 r2 r3 r4 r5 w hl hc h).mono ?_
  rintro e w' ⟨v, rfl, h1, h2⟩
  obtain ⟨A', c', rfl⟩ := Kd.R_slice h1
  exact ⟨A', c', rfl, ⟨h2⟩⟩

theorem lit_items (W : World) (A1 A2 : Option Addr) (c1 c2 : Nat) (h1 : 2 ≤ c1) (h2 : 1 ≤ c2) (r1 : Kd.C (Kd.int .u8) W A1 2 [97, 98]) (r2 : Kd.C (Kd.int .u8) W A2 1 [99]) :
    Kd.C k41 (W.alloc (.cells #[.int .i64 0, .int .i64 10, .slice A1 2 c1, .int .i64 10, .int .i64 9, .slice A2 1 c2] 41)) (some ⟨W.heap.size, 0, none⟩) itm2.length itm2 := by
  have hb := heap_alloc_new W (.cells #[.int .i64 0, .int .i64 10, .slice A1 2 c1, .int .i64 10, .int .i64 9, .slice A2 1 c2] 41)
  refine ⟨rfl, by decide, fun _ => ⟨_, rfl, fun j p hj => ?_⟩⟩
  rcases j with _ | _ | j
  · obtain rfl : (⟨0, 10, [97, 98]⟩ : S41) = p := by simpa [itm2] using hj
    refine ⟨[.int .i64 0, .int .i64 10, .slice A1 2 c1], rfl, k41_mk _ (⟨0, 10, [97, 98]⟩ : S41) (A2 := A1) (c2 := c1) h1 (Kd.C_alloc r1 _), fun i u hu => ?_⟩
    rw [add_plain, blk_cell hb]
    rcases i with _ | _ | _ | i
    · exact hu
    · exact hu
    · exact hu
    · simp at hu
  · obtain rfl : (⟨10, 9, [99]⟩ : S41) = p := by simpa [itm2] using hj
    refine ⟨[.int .i64 10, .int .i64 9, .slice A2 1 c2], rfl, k41_mk _ (⟨10, 9, [99]⟩ : S41) (A2 := A2) (c2 := c2) h2 (Kd.C_alloc r2 _), fun i u hu => ?_⟩
    rw [add_plain, blk_cell hb]
    rcases i with _ | _ | _ | i
    · exact hu
    · exact hu
    · exact hu
    · simp at hu
  · simp [itm2] at hj

theorem same_at (A : Option Addr) (c n : Nat) (A' : Option Addr) (c' n' : Nat) (w : World) (hn : itm2.length = n) (hn' : itm2.length = n') (hc : n ≤ c) (hc' : n' ≤ c') (h : Kd.C k41 w A itm2.length itm2) (h' : Kd.C k41 w A' itm2.length itm2) :
    Calls Try.prog 27 #[.slice A n c, .slice A' n' c'] w fun e w' => e = .returned (.bool true) ∧ Aside0 (Below w.heap.size w w') := by
  subst hn hn'
  refine (souterrainref03_Same.calls 10 A c itm2 A' c' itm2 true w h hc h' hc' same_itm).mono ?_
  rintro e w' ⟨h1, h2⟩
  exact ⟨h1, ⟨by obtain ⟨n, rfl⟩ := h2; exact pw_below_drewN (Below.refl _ _) n⟩⟩

set_option maxHeartbeats 8000000 in
set_option maxRecDepth 100000 in
theorem head03 (w : World) :
    Calls Try.prog 22 #[] w fun e w' => e = .returned (.bool true) ∧ Below w.heap.size w w' := by
  have kc := fun (w : World) (C : Array Value) (n c : Nat) => Lib.run_convert_bytes_const (P := Try.prog) w 22 5 C n c Try.underlying22 Try.underlying5
  have HC0 : Aside0 (Kd.C (Kd.int .u8) (w.alloc (.cells #[.int .u8 97, .int .u8 98] 5 (2, 3))) (some ⟨w.heap.size, 0, none⟩) [97, 98].length [97, 98]) := ⟨const_reads w 5 .u8 (2, 3) [97, 98] (by decide)⟩
  have HC1 : ∀ w1 : World, Aside0 (Kd.C (Kd.int .u8) (w1.alloc (.cells #[.int .u8 99] 5 (1, 2))) (some ⟨w1.heap.size, 0, none⟩) [99].length [99]) := fun w1 => ⟨const_reads w1 5 .u8 (1, 2) [99] (by decide)⟩
  have HC2 : ∀ w1 : World, Aside0 (Kd.C (Kd.int .u8) (w1.alloc (.cells #[.int .u8 100] 5 (1, 2))) (some ⟨w1.heap.size, 0, none⟩) [100].length [100]) := fun w1 => ⟨const_reads w1 5 .u8 (1, 2) [100] (by decide)⟩
  go_enter Try.func22, Try.ntmps22
  go_wp2_with (first
    | (go_at_call 19; (with_reducible refine (putr_at 100 (some ⟨w.heap.size, 0, none⟩) 2 2 [97, 98] fab ref_ab rfl _ (by decide) HC0.out).mono ?_)))
  rintro e w1 ⟨v1, rfl, V1, B1⟩
  have D1 := Aside0.mk ((below_alloc (Below.refl w.heap.size w) (.cells #[.int .u8 97, .int .u8 98] 5 (2, 3))).trans (B1.out.mono (by simp)))
  have O1 := Aside0.mk (own_weaken (base' := w.heap.size) V1.out (by simp))
  clear V1 B1 HC0
  go_wp2_with (first
    | (go_at_call 19; (with_reducible refine (putr_at 100 (some ⟨w1.heap.size, 0, none⟩) 1 1 [99] fc1 ref_c rfl _ (by decide) (HC1 w1).out).mono ?_)))
  rintro e w2 ⟨v2, rfl, V2, B2⟩
  obtain ⟨g2, c2, rfl, hc2, hg2a, hg2b, r2⟩ := own_form 9 V2.out rfl (by decide)
  have B2' := Aside0.mk ((below_alloc (Below.refl w1.heap.size w1) (.cells #[.int .u8 99] 5 (1, 2))).trans (B2.out.mono (by simp)))
  have D2 := Aside0.mk (below_then D1.out D1.out.size B2'.out)
  have O2 := Aside0.mk (own_move O1.out (fun k hk => B2'.out.block k (own_lt O1.out k hk)))
  have R2 := Aside0.mk r2
  clear V2 B2 B2' O1 D1 r2 HC1 hg2a
  go_wp2_with (first
    | (at_builtin; refine print_append_row (w0 := w) w.heap.size rfl (.tmp 17) (.tmp 20) 22 5 .u8 1 rfl Try.underlying22 info_u8 (by omega) v1 fab fc1 (some ⟨g2, 0, none⟩) 9 c2 rfl rfl O2.out (ints_of_C R2.out) D2.out D2.out.size (by decide) ?_; intro v3 w3 hv3 hb3 hg3 ha3; have O3 := Aside0.mk hv3; have D3 := Aside0.mk hb3; clear hv3 hb3 hg3 ha3)
    | (go_at_call 19; (with_reducible refine (putr_at 100 (some ⟨w3.heap.size, 0, none⟩) 1 1 [100] fd1 ref_d rfl _ (by decide) (HC2 w3).out).mono ?_)))
  rintro e w4 ⟨v4, rfl, V4, B4⟩
  obtain ⟨g4, c4, rfl, hc4, hg4a, hg4b, r4⟩ := own_form 9 V4.out rfl (by decide)
  have B4' := Aside0.mk ((below_alloc (Below.refl w3.heap.size w3) (.cells #[.int .u8 100] 5 (1, 2))).trans (B4.out.mono (by simp)))
  have D4 := Aside0.mk (below_then D3.out D3.out.size B4'.out)
  have O4 := Aside0.mk (own_move O3.out (fun k hk => B4'.out.block k (own_lt O3.out k hk)))
  have R4 := Aside0.mk ((ints_of_C r4).take_ 5 (by decide))
  clear V4 B4 B4' O3 D3 r4 HC2 hg4a
  go_wp2_with (first
    | (at_builtin; refine print_append_row (w0 := w) w.heap.size rfl (.tmp 21) (.tmp 25) 22 5 .u8 1 rfl Try.underlying22 info_u8 (by omega) v3 (fab ++ fc1) (fd1.take 5) (some ⟨g4, 0, none⟩) 5 c4 rfl rfl O4.out R4.out D4.out D4.out.size (by decide) ?_; intro v5 w5 hv5 hb5 hg5 ha5; obtain ⟨g5, c5, rfl, hc5, _, _, r5⟩ := own_form 24 hv5 rfl (by decide); have R5 : Aside0 (Kd.C (Kd.int .u8) w5 (some ⟨g5, 0, none⟩) b24.length b24) := ⟨r5⟩; have D5 := Aside0.mk hb5; clear hv5 hb5 hg5 ha5 r5)
    | (go_at_call 23; (with_reducible refine (all_at _ c5 24 b24 itm2 0 19 21 all_b24 rfl _ hc5 R5.out).mono ?_)))
  rintro e w6 ⟨A6, c6, rfl, hc6, R6, B6⟩
  have D6 := Aside0.mk (below_then D5.out D5.out.size B6.out)
  have R5' := Aside0.mk (Kd.C_below R5.out B6.out)
  clear R5 B6 D5 O4 R4 D4 O2 R2 D2
  go_wp2_with (first
    | (go_at_call 25; (with_reducible refine (next_at _ c5 24 b24 10 10 9 [99] 19 0 next_b24a rfl _ hc5 R5'.out).mono ?_)))
  rintro e w7 ⟨A7, c7, rfl, B7⟩
  obtain ⟨gx, hgx⟩ : ∃ g, Aside0 (w7.heap.size = g) := ⟨_, ⟨rfl⟩⟩
  obtain ⟨w8, hw8⟩ : ∃ w8, Aside0 (w7.alloc (.cells #[.int .i64 10, .int .i64 9, .slice A7 [99].length c7] 41) = w8) := ⟨_, ⟨rfl⟩⟩
  have X8 := Aside0.mk (show w8.heap[gx]? = some (.cells #[.int .i64 10, .int .i64 9, .slice A7 [99].length c7] 41 (0, 0)) by rw [← hw8.out, ← hgx.out]; exact heap_alloc_new _ _)
  have B8 := Aside0.mk (show Below w6.heap.size w6 w8 by rw [← hw8.out]; exact below_alloc B7.out _)
  have D8 := Aside0.mk (below_then D6.out D6.out.size B8.out)
  have R8 := Aside0.mk (Kd.C_below R5'.out B8.out)
  have S8 := Aside0.mk (Kd.C_below R6.out B8.out)
  clear D6 R5' R6 B7 B8
  go_wp2_with (first
    | (go_at_call 25; rw [show w7.alloc (.cells #[.int .i64 10, .int .i64 9, .slice A7 1 c7] 41) = w8 from hw8.out]; (with_reducible refine (next_at _ c5 24 b24 25 0 0 [] 25 1 next_b24b rfl _ hc5 R8.out).mono ?_)))
  rintro e w9 ⟨A9, c9, rfl, B9⟩
  obtain ⟨w10, hw10⟩ : ∃ w10, Aside0 (w9.alloc (.cells #[.int .i64 0, .int .i64 0, .slice A9 ([] : List Int).length c9] 41) = w10) := ⟨_, ⟨rfl⟩⟩
  have B10 := Aside0.mk (show Below w8.heap.size w8 w10 by rw [← hw10.out]; exact below_alloc B9.out _)
  have D10 := Aside0.mk (below_then D8.out D8.out.size B10.out)
  have S10 := Aside0.mk (Kd.C_below S8.out B10.out)
  have X10 := Aside0.mk (blk_below X8.out B10.out)
  clear D8 R8 S8 X8 B9 B10
  go_wp2_with (first
    | (go_at_call 25; rw [show w9.alloc (.cells #[.int .i64 0, .int .i64 0, .slice A9 0 c9] 41) = w10 from hw10.out]; (with_reducible refine (next_at none 0 0 [] 0 0 0 [] 0 0 next_nil rfl _ (Nat.le_refl _) (nil_reads _)).mono ?_)))
  rintro e w11 ⟨A11, c11, rfl, B11⟩
  obtain ⟨w12, hw12⟩ : ∃ w12, Aside0 (w11.alloc (.cells #[.int .i64 0, .int .i64 0, .slice A11 ([] : List Int).length c11] 41) = w12) := ⟨_, ⟨rfl⟩⟩
  have B12 := Aside0.mk (show Below w10.heap.size w10 w12 by rw [← hw12.out]; exact below_alloc B11.out _)
  have D12 := Aside0.mk (below_then D10.out D10.out.size B12.out)
  have S12 := Aside0.mk (Kd.C_below S10.out B12.out)
  have X12 := Aside0.mk (blk_below X10.out B12.out)
  have L12 : Aside0 (Kd.C (Kd.int .u8) (w12.alloc (.cells #[.int .u8 97, .int .u8 98] 5 (2, 3))) (some ⟨w12.heap.size, 0, none⟩) 2 [97, 98]) := ⟨const_reads w12 5 .u8 (2, 3) [97, 98] (by decide)⟩
  clear D10 S10 X10 B11 B12
  go_upto_region 6 with (fail)
  rw [show w11.alloc (.cells #[.int .i64 0, .int .i64 0, .slice A11 0 c11] 41) = w12 from hw12.out]
  have kc2 := kc (w12.alloc (.cells #[.int .u8 97, .int .u8 98] 5 (2, 3))) #[.int .u8 99] 1 1
  rw [World.size_alloc] at kc2
  have kc3 : (convert 22 22 (.slice (some ⟨w12.heap.size + 1, 0, none⟩) 1 1)).run Try.prog ((w12.alloc (.cells #[.int .u8 97, .int .u8 98] 5 (2, 3))).alloc (.cells #[.int .u8 99] 5)) = .ok (.slice (some ⟨w12.heap.size + 1, 0, none⟩) 1 1) ((w12.alloc (.cells #[.int .u8 97, .int .u8 98] 5 (2, 3))).alloc (.cells #[.int .u8 99] 5 (1, 2))) := kc2
  clear kc2
  have L13 : Aside0 (Kd.C (Kd.int .u8) ((w12.alloc (.cells #[.int .u8 97, .int .u8 98] 5 (2, 3))).alloc (.cells #[.int .u8 99] 5 (1, 2))) (some ⟨w12.heap.size + 1, 0, none⟩) 1 [99]) := ⟨by have := const_reads (w12.alloc (.cells #[.int .u8 97, .int .u8 98] 5 (2, 3))) 5 .u8 (1, 2) [99] (by decide); rw [World.size_alloc] at this; exact this⟩
  have B14 := Aside0.mk (below_alloc (below_alloc (Below.refl w12.heap.size w12) (.cells #[.int .u8 97, .int .u8 98] 5 (2, 3))) (.cells #[.int .u8 99] 5 (1, 2)))
  have L14 := lit_items ((w12.alloc (.cells #[.int .u8 97, .int .u8 98] 5 (2, 3))).alloc (.cells #[.int .u8 99] 5 (1, 2))) (some ⟨w12.heap.size, 0, none⟩) (some ⟨w12.heap.size + 1, 0, none⟩) 2 1 (by decide) (by decide) (Kd.C_alloc L12.out _) L13.out
  rw [World.size_alloc, World.size_alloc] at L14
  have L14' := Aside0.mk L14
  have B14' := Aside0.mk (below_alloc B14.out (.cells #[.int .i64 0, .int .i64 10, .slice (some ⟨w12.heap.size, 0, none⟩) 2 2, .int .i64 10, .int .i64 9, .slice (some ⟨w12.heap.size + 1, 0, none⟩) 1 1] 41))
  have S14 := Aside0.mk (Kd.C_below S12.out B14'.out)
  have X12' := X12.out
  rw [← hgx.out] at X12'
  have X12'' := Aside0.mk X12'
  clear L14 L12 L13 B14 S12 X12'
  go_wp2_with (go_at_call 27; (with_reducible refine (same_at A6 c6 itm2.length (some ⟨w12.heap.size + 1 + 1, 0, none⟩) 2 2 _ rfl rfl hc6 (Nat.le_refl _) S14.out L14'.out).mono ?_); rintro e w15 ⟨rfl, B15⟩; have D15 := Aside0.mk (below_then B14'.out B14'.out.size B15.out); have x15 := (blk_cell (blk_below X12''.out D15.out) 0).trans rfl)
  go_ret
  exact ⟨rfl, below_then D12.out D12.out.size D15.out⟩

def souterrainlaw03_head.f : Option Bool := some true
theorem souterrainlaw03_head.calls (r : Bool) (w : World) (h : souterrainlaw03_head.f = some r) :
    Calls Try.prog 22 #[] w fun e w' => e = .returned (.bool r) ∧ Below w.heap.size w w' := by
  obtain rfl := Option.some.inj h
  exact head03 w
end Go.Proofs.Ytjednkbgdbalnaa.Ext
