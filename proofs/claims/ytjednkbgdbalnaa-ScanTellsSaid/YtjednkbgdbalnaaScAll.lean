/- scan.All: all bodies that stand in bytes. -/
import Derived.Test.YtjednkbgdbalnaaScB
import Derived.Test.YtjednkbgdbalnaaPtx0
namespace Go.Proofs.Ytjednkbgdbalnaa.Sc
open Go.RowKit Go.Shelf Go.Proofs.YtjednkbgdbalnaaW.PrintWords Go.Proofs.YtjednkbgdbalnaaW.PrintLast Go.Proofs.YtjednkbgdbalnaaW.PrintMore Go.Proofs.Ytjednkbgdbalnaa.Fr Go.Proofs.Ytjednkbgdbalnaa.Ext Go.Proofs.Ytjednkbgdbalnaa.Pure Go.Proofs.Ytjednkbgdbalnaa.Lw Go.Proofs.Ytjednkbgdbalnaa.Pt
attribute [local go_sem] Oper.semAt_some
set_option linter.unusedVariables false
set_option linter.unusedSimpArgs false

def toS (x : Itm) : S41 := ⟨(x.1 : Int), (x.2.1 : Int), x.2.2⟩
/-- What All's rounds lean on: their record, the block for deferred calls, the row that has come. -/
structure JA (base ob D L : Nat) (rec : LoopState → Option Code → Loop) (pre : List Itm) (N : Nat) (W : World) : Prop where
  dd : W.heap[D]? = some (.deferred (some []))
  ll : W.heap[L]? = some (.loop (rec .ready none))
  nn : L < N
  oo : ∃ v, W.heap[ob]? = some (.cells #[v] 37 (0, 0)) ∧ Kd.S k41 41 W base (fun k => L < k ∧ k < N) v (pre.map toS)

theorem blk_lt' {W : World} {k : Nat} {o : Obj} (h : W.heap[k]? = some o) : k < W.heap.size := (Array.getElem?_eq_some_iff.1 h).1
theorem four_new (w : World) (o1 o2 o3 o4 : Obj) : ((((w.alloc o1).alloc o2).alloc o3).alloc o4).heap[w.heap.size]? = some o1 ∧ ((((w.alloc o1).alloc o2).alloc o3).alloc o4).heap[w.heap.size + 1]? = some o2 ∧ ((((w.alloc o1).alloc o2).alloc o3).alloc o4).heap[w.heap.size + 2]? = some o3 ∧ ((((w.alloc o1).alloc o2).alloc o3).alloc o4).heap[w.heap.size + 3]? = some o4 ∧ ((((w.alloc o1).alloc o2).alloc o3).alloc o4).heap.size = w.heap.size + 4 ∧ Below w.heap.size w ((((w.alloc o1).alloc o2).alloc o3).alloc o4) := by
  refine ⟨?_, ?_, ?_, ?_, by simp, below_alloc (below_alloc (below_alloc (below_alloc (Below.refl _ _) _) _) _) _⟩
  · rw [Below.heap_alloc _ _ _ (by simp <;> omega), Below.heap_alloc _ _ _ (by simp <;> omega), Below.heap_alloc _ _ _ (by simp)]
    exact World.alloc_heap_new _ _
  · rw [Below.heap_alloc _ _ _ (by simp <;> omega), Below.heap_alloc _ _ _ (by simp)]
    have := World.alloc_heap_new (w.alloc o1) o2
    rwa [World.size_alloc] at this
  · rw [Below.heap_alloc _ _ _ (by simp)]
    have := World.alloc_heap_new ((w.alloc o1).alloc o2) o3
    simpa using this
  · have := World.alloc_heap_new (((w.alloc o1).alloc o2).alloc o3) o4
    simpa using this

set_option maxHeartbeats 8000000 in
set_option maxRecDepth 100000 in
theorem all_calls (A : Option Addr) (c : Nat) (xs : List Int) (w : World) (k : Nat) (R : List Itm × Nat × Nat × Int) (hB : IsBytes xs) (hc : xs.length ≤ c) (hm : xs.length ≤ 1000000000) (hr : Rd w A xs) (hk : xs.length < k) (hR : scanGo k xs 0 0 [] = R) :
    Calls Try.prog 23 #[.slice A xs.length c] w fun e w' => ∃ v, e = .returned (.tuple #[v, .int .i64 (R.2.1 : Int), .int .i64 (R.2.2.1 : Int), .int .i64 R.2.2.2]) ∧ Kd.S k41 41 w' w.heap.size (fun _ => True) v (R.1.map toS) ∧ Below w.heap.size w w' := by
  refine callsIn_wide.1 (callsIn_of_wp_marks (n := 3) Try.func23 rfl trivial ?_)
  refine wpIn_wide.2 ?_
  simp only [Try.ntmps23, List.size_toArray, List.length_cons, List.length_nil, Nat.reduceAdd, Nat.reduceSub, Array.replicate_succ, Array.replicate_zero, List.push_toArray, List.append_toArray, List.nil_append, List.cons_append]
  go_wp2_with (go_at_call 36; (with_reducible refine (items_calls A xs.length c _ _).mono ?_); rintro e w1 ⟨rfl, rfl⟩)
  obtain ⟨q0, q1, q2, q3, q4, q5⟩ := four_new w (.cells #[.slice none 0 0] 37) (.cells #[.int .i64 0, .int .i64 0, .int .i64 0] 59) (.cells #[.slice A xs.length c] 22) (.cells #[.pointer (some ⟨w.heap.size + 1, 0, none⟩)] 63)
  rw [show w.heap.size + 1 + 1 + 1 = w.heap.size + 3 from rfl, show w.heap.size + 1 + 1 = w.heap.size + 2 from rfl]
  generalize ((((w.alloc (.cells #[.slice none 0 0] 37)).alloc (.cells #[.int .i64 0, .int .i64 0, .int .i64 0] 59)).alloc (.cells #[.slice A xs.length c] 22)).alloc (.cells #[.pointer (some ⟨w.heap.size + 1, 0, none⟩)] 63)) = W0 at q0 q1 q2 q3 q4 q5 ⊢
  refine range_wide rfl (enters_of Try.func41 (by kernel_rfl) rfl) ?_
  intro fn rec hrec
  rw [q4]
  have HH1 : Hd w ((W0.alloc (.deferred (some []))).alloc (.loop (rec .ready none))) (w.heap.size + 1) (w.heap.size + 2) (w.heap.size + 3) A c xs 0 0 0 :=
    Hd.below (Hd.below ⟨q1, q2, q3, q5⟩ (below_alloc (Below.refl _ _) _)) (below_alloc (Below.refl _ _) _)
  have HJ1 : JA w.heap.size w.heap.size (w.heap.size + 4) (w.heap.size + 5) rec [] (w.heap.size + 6) ((W0.alloc (.deferred (some []))).alloc (.loop (rec .ready none))) := by
    have d1 := World.alloc_heap_new W0 (.deferred (some []))
    have d2 := World.alloc_heap_new (W0.alloc (.deferred (some []))) (.loop (rec .ready none))
    rw [World.size_alloc] at d2
    rw [q4] at d1 d2
    exact ⟨(Below.heap_alloc _ _ _ (by simp <;> omega)).trans d1, d2, by omega, _, (Below.heap_alloc _ _ _ (by simp <;> omega)).trans ((Below.heap_alloc _ _ _ (by omega)).trans q0), Kd.S_nil _ _ _ _ _⟩
  have hsz1 : ((W0.alloc (.deferred (some []))).alloc (.loop (rec .ready none))).heap.size = w.heap.size + 6 := by simp; omega
  generalize (W0.alloc (.deferred (some []))).alloc (.loop (rec .ready none)) = W1 at HH1 HJ1 hsz1 ⊢
  clear q0 q1 q2 q3 q4 q5
  refine (items1_calls w (w.heap.size + 5) A c xs (w.heap.size + 1) (w.heap.size + 2) (w.heap.size + 3) (by omega) (by omega) (by omega)
    (JA w.heap.size w.heap.size (w.heap.size + 4) (w.heap.size + 5) rec) (fun _ => False) R W1 k (w.heap.size + 6) hr hB hc (by omega) ?j0 ?j1 ?j2 ?yy 0 0 (Nat.zero_le _) (Nat.le_refl _) HJ1 (Nat.le_of_eq hsz1.symm) HH1 (by omega) hR).mono ?fin
  case j0 =>
    rintro pre N N' W ⟨h1, h2, hn, v, h3, h4⟩ hN
    exact ⟨h1, h2, by omega, v, h3, Kd.S_mono h4 (fun k hk => ⟨hk.1, by omega⟩)⟩
  case j1 =>
    rintro pre N W W' ⟨h1, h2, hn, v, h3, h4⟩ hN hb
    exact ⟨(hb.block _ (blk_lt' h1)).trans h1, (hb.block _ (blk_lt' h2)).trans h2, hn, v, (hb.block _ (blk_lt h3)).trans h3, Kd.S_below h4 hb⟩
  case j2 =>
    rintro pre N W p u hp ⟨h1, h2, hn, v, h3, h4⟩
    exact ⟨(Below.heap_setCell _ _ _ _ (by omega)).trans h1, (Below.heap_setCell _ _ _ _ (by omega)).trans h2, hn, v, blk_far h3 (by omega) _, Kd.S_far h4 (fun k hk => by omega) _⟩
  case yy =>
    rintro pre N at_ bad n ys A' c' k' W2 ⟨hd, hl, hn, v1, hv1, hS⟩ hN hH hle hpre hO hgo
    have hl' := hl
    rw [hrec] at hl
    refine yield_wide hl rfl ?_
    gi_wp2
    have hg3 := World.alloc_heap_new W2 (.cells #[.int .i64 (at_ : Int), .int .i64 (n : Int), .slice A' ys.length c'] 41)
    have hB3 := below_alloc (Below.refl W2.heap.size W2) (.cells #[.int .i64 (at_ : Int), .int .i64 (n : Int), .slice A' ys.length c'] 41)
    have hsz : w.heap.size + 5 < W2.heap.size := blk_lt' hl'
    generalize hg0 : W2.heap.size = g at hg3 hsz hN hB3 ⊢
    have hs3 : (W2.alloc (.cells #[.int .i64 (at_ : Int), .int .i64 (n : Int), .slice A' ys.length c'] 41)).heap.size = g + 1 := by simp [hg0]
    generalize W2.alloc (.cells #[.int .i64 (at_ : Int), .int .i64 (n : Int), .slice A' ys.length c'] 41) = W3 at hg3 hB3 hs3 ⊢
    rw [← hg0] at hB3
    have hl3 : W3.heap[w.heap.size + 5]? = some (.loop (rec .ready none)) := (hB3.block _ (blk_lt' hl')).trans hl'
    have hbr : (Instr.beginRound (w.heap.size + 5)).run Try.prog W3 = .ok () (W3.putObj (w.heap.size + 5) (.loop (rec .busy none))) := by
      rw [hrec] at hl3
      rw [hrec]
      exact run_beginRound hl3 rfl
    refine ⟨_, hbr, ?_⟩
    have e0 : ∀ i, i ≠ w.heap.size + 5 → (W3.putObj (w.heap.size + 5) (.loop (rec .busy none))).heap[i]? = W3.heap[i]? := fun i hi => World.putObj_heap_other hi
    have e1 : ∀ i, i < W2.heap.size → i ≠ w.heap.size + 5 → (W3.putObj (w.heap.size + 5) (.loop (rec .busy none))).heap[i]? = W2.heap[i]? := fun i hi hne => (e0 i hne).trans (hB3.block i hi)
    have HL := Aside0.mk (show (W3.putObj (w.heap.size + 5) (.loop (rec .busy none))).heap[w.heap.size + 5]? = some (.loop (rec .busy none)) from World.putObj_heap_same (blk_lt' hl3))
    have HD := Aside0.mk ((e1 (w.heap.size + 4) (by omega) (by omega)).trans hd)
    have HO := Aside0.mk ((e1 w.heap.size (by omega) (by omega)).trans hv1)
    have HX := Aside0.mk ((e0 g (by omega)).trans hg3)
    have HS := Aside0.mk (show Kd.S k41 41 (W3.putObj (w.heap.size + 5) (.loop (rec .busy none))) w.heap.size (fun k => w.heap.size + 5 < k ∧ k < N) v1 (pre.map toS) from Kd.S_step hS (fun k hk hlt => e1 k hlt (by omega)))
    have HYs := Aside0.mk (own_move (w1 := W3.putObj (w.heap.size + 5) (.loop (rec .busy none))) hO (fun k hk => e1 k (own_lt hO k hk) (by have := own_base hO k hk; omega)))
    have HSZ := Aside0.mk (show (W3.putObj (w.heap.size + 5) (.loop (rec .busy none))).heap.size = g + 1 by simp [hs3])
    have HHd : Aside0 (Hd w (W3.putObj (w.heap.size + 5) (.loop (rec .busy none))) (w.heap.size + 1) (w.heap.size + 2) (w.heap.size + 3) A c xs (at_ + n) bad 0) :=
      ⟨⟨(e1 _ (by omega) (by omega)).trans hH.st, (e1 _ (by omega) (by omega)).trans hH.x1, (e1 _ (by omega) (by omega)).trans hH.x2, (below_then hH.bel hH.bel.size hB3).grown (grownBy_putObj' W3 (w.heap.size + 5) (.loop (rec .busy none))) (by omega) (fun k e => by cases e; omega)⟩⟩
    clear hl hd hv1 hS hO hH hg3 hB3 hl3 hbr e0 e1 hs3 hl' hg0
    generalize W3.putObj (w.heap.size + 5) (.loop (rec .busy none)) = W4 at HL HD HO HX HS HYs HSZ HHd ⊢
    have o0 := (blk_cell HO.out 0).trans rfl
    have z0 := blk_frozen HO.out 0
    have x0 := (blk_cell HX.out 0).trans rfl
    have x1 := (blk_cell HX.out 1).trans rfl
    have x2 := (blk_cell HX.out 2).trans rfl
    obtain ⟨Sv, hSv⟩ : ∃ f, Aside0 (∀ k, v1.ownBlock = some k → w.heap.size + 5 < k ∧ k < N) := ⟨(), ⟨(Kd.S_R HS.out).1⟩⟩
    have hbyte : (pre.length + 1) * 40 ≤ 140737488355328 := by omega
    have hlenm : (pre.map toS).length = pre.length := List.length_map _
    gi_wp2_with (gi_at_builtin; refine append_in k41 (w0 := w) w.heap.size rfl (.tmp 12) (.tmp 14) 37 41 (.agg #[.int .i64 0, .int .i64 0, .slice none 0 0]) 40 rfl Try.underlying37 info41 rfl (by decide) (by omega) v1 (pre.map toS) (toS (at_, n, ys)) [.int .i64 (at_ : Int), .int .i64 (n : Int), .slice A' ys.length c'] (fun k => w.heap.size + 5 < k) (fun k => some k = (Value.slice A' ys.length c').ownBlock) rfl rfl ?aP ?aK ?aF ?aO ?aB ?aS ?aL ?_; (case aP => exact k41_mkM _ _ _ (toS (at_, n, ys)) (Kd.R_of_own (own_weaken HYs.out (by omega)) (fun k hk => hk.symm))); (case aK => exact (fun k hk => ⟨by have := own_base HYs.out k hk.symm; omega, fun e => by have := own_base HYs.out k hk.symm; have := hSv.out k e.symm; omega⟩)); (case aF => exact (fun k hk => by have := HSZ.out; omega)); (case aO => exact Kd.S_mono HS.out (fun k hk => ⟨hk.1, fun e => by have := own_base HYs.out k e.symm; omega⟩)); (case aB => exact HHd.out.bel); (case aS => exact HHd.out.bel.size); (case aL => rw [hlenm]; exact hbyte); intro v5 w5 hS5 hB5 hg5; obtain ⟨A5, c5, rfl⟩ := Kd.S_slice hS5; have HS5 := Aside0.mk hS5; have HB5 := Aside0.mk hB5; have HG5 := Aside0.mk hg5; clear hS5 hB5 hg5; have HO5 := Aside0.mk (blk_grown HO.out HG5.out (fun e => by have := hSv.out _ e.symm; omega)); have o5 := (blk_cell HO5.out 0).trans rfl; have z5 := blk_frozen HO5.out 0)
    have hS5 := HS5.out
    have hlen5 : (pre.map toS ++ [toS (at_, n, ys)]).length = pre.length + 1 := by simp
    rw [hlen5] at hS5
    have hw4 := HSZ.out
    have f5 : ∀ i, i ≤ w.heap.size + 5 → w5.heap[i]? = W4.heap[i]? := fun i hi => HG5.out.block i (by omega) (fun e => by have := hSv.out i e.symm; omega)
    have f6 : ∀ i, i ≤ w.heap.size + 5 → i ≠ w.heap.size → (w5.setCell ⟨w.heap.size, 0, none⟩ (.slice A5 (pre.length + 1) c5)).heap[i]? = W4.heap[i]? := fun i hi hne => (Below.heap_setCell w5 _ _ i hne).trans (f5 i hi)
    have hz5 : W4.heap.size ≤ w5.heap.size := HG5.out.size
    have hO6 := blk_put (cs := #[v1]) HO5.out 0 (.slice A5 (pre.length + 1) c5) rfl
    have hS6 := Kd.S_far (p := ⟨w.heap.size, 0, none⟩) (Kd.S_bound hS5) (fun k hk => by have := hk.1; simp only; omega) (.slice A5 (pre.length + 1) c5)
    have hB6 := HB5.out.setCell (p := ⟨w.heap.size, 0, none⟩) (Nat.le_refl _) (.slice A5 (pre.length + 1) c5)
    have hz6 : w5.heap.size ≤ (w5.setCell ⟨w.heap.size, 0, none⟩ (.slice A5 (pre.length + 1) c5)).heap.size := (KeepsWalks.setCell _ _ _).size
    generalize w5.setCell ⟨w.heap.size, 0, none⟩ (.slice A5 (pre.length + 1) c5) = w6 at f6 hO6 hS6 hB6 hz6 ⊢
    have hl6 : w6.heap[w.heap.size + 5]? = some (.loop (rec .busy none)) := (f6 _ (by omega) (by omega)).trans HL.out
    have hend : (Instr.endRound (w.heap.size + 5) none).run Try.prog w6 = .ok (.bool true) (w6.putObj (w.heap.size + 5) (.loop (rec .ready none))) := by
      rw [hrec] at hl6
      rw [hrec]
      exact run_endRound none hl6
    have e7 : ∀ i, i ≠ w.heap.size + 5 → (w6.putObj (w.heap.size + 5) (.loop (rec .ready none))).heap[i]? = w6.heap[i]? := fun i hi => World.putObj_heap_other hi
    have hz7 : (w6.putObj (w.heap.size + 5) (.loop (rec .ready none))).heap.size = w6.heap.size := by simp
    refine ⟨_, _, hend, rfl, ⟨_, Nat.le_refl _, ?_⟩, ?_⟩
    · refine ⟨(e7 _ (by omega)).trans ((f6 _ (by omega) (by omega)).trans HD.out), World.putObj_heap_same (blk_lt' hl6), by omega, _, (e7 _ (by omega)).trans hO6, ?_⟩
      rw [List.map_append]
      exact Kd.S_mono (Kd.S_step hS6 (fun k hk _ => e7 k (by have := hk.1; omega))) (fun k hk => ⟨hk.1, by have := hk.2.2.1; omega⟩)
    · have hh := HHd.out
      exact ⟨(e7 _ (by omega)).trans ((f6 _ (by omega) (by omega)).trans hh.st), (e7 _ (by omega)).trans ((f6 _ (by omega) (by omega)).trans hh.x1), (e7 _ (by omega)).trans ((f6 _ (by omega) (by omega)).trans hh.x2), hB6.grown (grownBy_putObj' w6 (w.heap.size + 5) (.loop (rec .ready none))) hB6.size (fun k e => by cases e; omega)⟩
  case fin =>
    rintro e W' ⟨⟨v, rfl⟩, ⟨N, hN, hJ, hH⟩ | hf⟩
    case inr => exact hf.elim
    refine ⟨⟨v, rfl⟩, .ready, none, by simp, hJ.ll, ?_⟩
    obtain ⟨hd, hl, hn, v1, hv1, hS⟩ := hJ
    have e0 : ∀ i, i ≠ w.heap.size + 5 → (W'.putObj (w.heap.size + 5) (.loop (rec .exhausted none))).heap[i]? = W'.heap[i]? := fun i hi => World.putObj_heap_other hi
    have HS := Aside0.mk (show Kd.S k41 41 (W'.putObj (w.heap.size + 5) (.loop (rec .exhausted none))) w.heap.size (fun k => w.heap.size + 5 < k ∧ k < N) v1 (R.1.map toS) from Kd.S_step hS (fun k hk _ => e0 k (by omega)))
    have HD := Aside0.mk ((e0 (w.heap.size + 4) (by omega)).trans hd)
    have HO := Aside0.mk ((e0 w.heap.size (by omega)).trans hv1)
    have HST := Aside0.mk ((e0 (w.heap.size + 1) (by omega)).trans hH.st)
    have HB := Aside0.mk (hH.bel.grown (grownBy_putObj' W' (w.heap.size + 5) (.loop (rec .exhausted none))) hH.bel.size (fun k e => by cases e; omega))
    clear hd hl hv1 hS hH e0
    generalize W'.putObj (w.heap.size + 5) (.loop (rec .exhausted none)) = W3 at HS HD HO HST HB ⊢
    have s0 := (blk_cell HST.out 0).trans rfl
    have s1 := (blk_cell HST.out 1).trans rfl
    have s2 := (blk_cell HST.out 2).trans rfl
    have o0 := (blk_cell HO.out 0).trans rfl
    go_wp2
    go_quiet (fail)
    go_wp2
    have HD2 := Aside0.mk (blk_drewN HD.out nq)
    have HS2 := Aside0.mk (Kd.S_drewN HS.out nq)
    have HB2 := Aside0.mk (HB.out.trans (pw_below_drewN (Below.refl _ _) nq))
    clear HS HD HO HST HB s0 s1 s2 o0
    generalize W3.drewN nq = W4 at HD2 HS2 HB2 ⊢
    refine ⟨by simp, .inl ⟨_, _, rfl, run_takeDeferred HD2.out, ?_⟩⟩
    refine ⟨_, results_list (rs := [.tmp 2, .tmp 3, .tmp 4, .tmp 5]) rfl (by simp) (.tmp (.tmp (.tmp (.tmp .nil)))), ?_⟩
    refine ⟨v1, rfl, ?_, ?_⟩
    · exact Kd.S_mono (Kd.S_step HS2.out (fun k hk _ => World.putObj_heap_other (by omega))) (fun _ _ => trivial)
    · exact HB2.out.grown (grownBy_putObj' W4 (w.heap.size + 4) (.deferred none)) HB2.out.size (fun k e => by cases e; omega)
end Go.Proofs.Ytjednkbgdbalnaa.Sc
