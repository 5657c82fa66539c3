/- scan.Next: the first body from a place on. -/
import Derived.Test.YtjednkbgdbalnaaScAll
namespace Go.Proofs.Ytjednkbgdbalnaa.Sc
open Go.RowKit Go.Shelf Go.Proofs.YtjednkbgdbalnaaW.PrintWords Go.Proofs.YtjednkbgdbalnaaW.PrintLast Go.Proofs.YtjednkbgdbalnaaW.PrintMore Go.Proofs.Ytjednkbgdbalnaa.Fr Go.Proofs.Ytjednkbgdbalnaa.Ext Go.Proofs.Ytjednkbgdbalnaa.Pure Go.Proofs.Ytjednkbgdbalnaa.Lw Go.Proofs.Ytjednkbgdbalnaa.Pt
attribute [local go_sem] Oper.semAt_some
set_option linter.unusedVariables false
set_option linter.unusedSimpArgs false

theorem scan_pre (l : List Int) : ∀ (k at_ bad : Nat) (pre : List Itm), ∃ rest, (scanGo k l at_ bad pre).1 = pre ++ rest := by
  intro k
  induction k with
  | zero => exact fun _ _ pre => ⟨[], (List.append_nil _).symm⟩
  | succ k ih =>
    intro at_ bad pre
    unfold scanGo
    split
    · split
      · exact ⟨[], (List.append_nil _).symm⟩
      · split
        · obtain ⟨rest, h⟩ := ih (at_ + (firstL (l.drop at_)).2.1.toNat) bad (pre ++ [(at_, (firstL (l.drop at_)).2.1.toNat, (firstL (l.drop at_)).1)])
          exact ⟨_, h.trans (List.append_assoc _ _ _)⟩
        · exact ih _ _ _
    · exact ⟨[], (List.append_nil _).symm⟩
theorem run_loadVar_one {P : Program} (w : World) (g : Nat) (t ty : TypeId) (v : Value) (k : IntKind) (hg : w.heap[g]? = some (.cells #[v] t (0, 0))) (hu : P.underlying ty = some (.int k)) : (loadVar ty ⟨g, 0, none⟩).run P w = .ok v w := by
  have hc : w.cell? ⟨g, 0, none⟩ = some v := by
    have := blk_cell hg 0
    simpa using this
  simp [loadVar, isAgg, underlying, go_sem, hu, hc]
theorem results_three {P : Program} {fn : Func} {p0 p1 p2 : Tmp} {t0 t1 t2 : TypeId} (h : fn.results = #[.cell p0 t0, .cell p1 t1, .cell p2 t2]) (tmps : Array Value) (w : World) (g : Nat) (u0 u1 u2 : TypeId) (cs : Array Value) (v1 v2 : Value) (fr0 : Nat × Nat) (d : TypeDesc) (k1 k2 : IntKind)
    (q0 : tmps.getD p0 undef = .pointer (some ⟨g, 0, none⟩)) (q1 : tmps.getD p1 undef = .pointer (some ⟨g + 1, 0, none⟩)) (q2 : tmps.getD p2 undef = .pointer (some ⟨g + 2, 0, none⟩))
    (h0 : w.heap[g]? = some (.cells cs u0 fr0)) (h1 : w.heap[g + 1]? = some (.cells #[v1] u1 (0, 0))) (h2 : w.heap[g + 2]? = some (.cells #[v2] u2 (0, 0)))
    (hu0 : P.underlying t0 = some d) (hd : (match d with | .struct _ | .array _ _ => true | _ => false) = true) (hi : (P.info? t0).map (·.size) = some cs.size) (hu1 : P.underlying t1 = some (.int k1)) (hu2 : P.underlying t2 = some (.int k2)) :
    (results fn tmps).run P w = .ok (.tuple #[.agg cs, v1, v2]) w := by
  rw [Array.getD_eq_getD_getElem?] at q0 q1 q2
  unfold results
  rw [h]
  have e1 := run_loadVar_one (P := P) w (g + 1) u1 t1 v1 k1 h1 hu1
  have e2 := run_loadVar_one (P := P) w (g + 2) u2 t2 v2 k2 h2 hu2
  have e0 := run_loadVar_row (P := P) w g u0 t0 cs fr0 d h0 hu0 hd hi
  simp only [show (#[ResultVar.cell p0 t0, ResultVar.cell p1 t1, ResultVar.cell p2 t2] : Array ResultVar) = [ResultVar.cell p0 t0, ResultVar.cell p1 t1, ResultVar.cell p2 t2].toArray from rfl, List.mapM_toArray]
  simp [Sem.run_bind, List.mapM_cons, q0, q1, q2, asAddr, e0, e1, e2]

/-- What Next tells. -/
def nextS (l : List Int) (a : Int) : (Int × Int × List Int) × Int × Int :=
  if a < 0 ∨ (l.length : Int) < a then ((0, 0, []), a, 1)
  else match scanGo (l.length + 1) l a.toNat 0 [] with
    | (x :: _, _) => (((x.1 : Int), (x.2.1 : Int), x.2.2), (x.1 : Int) + (x.2.1 : Int), 0)
    | ([], _, e, f) => ((0, 0, []), (e : Int), f)
theorem six_new (w : World) (o1 o2 o3 o4 o5 o6 : Obj) : ∃ W, W = ((((((w.alloc o1).alloc o2).alloc o3).alloc o4).alloc o5).alloc o6) ∧ W.heap[w.heap.size]? = some o1 ∧ W.heap[w.heap.size + 1]? = some o2 ∧ W.heap[w.heap.size + 2]? = some o3 ∧ W.heap[w.heap.size + 3]? = some o4 ∧ W.heap[w.heap.size + 4]? = some o5 ∧ W.heap[w.heap.size + 5]? = some o6 ∧ W.heap.size = w.heap.size + 6 ∧ Below w.heap.size w W := by
  obtain ⟨q0, q1, q2, q3, q4, q5⟩ := four_new w o1 o2 o3 o4
  refine ⟨_, rfl, ?_, ?_, ?_, ?_, ?_, ?_, by simp, below_alloc (below_alloc q5 _) _⟩
  · exact (Below.heap_alloc _ _ _ (by simp <;> omega)).trans ((Below.heap_alloc _ _ _ (by omega)).trans q0)
  · exact (Below.heap_alloc _ _ _ (by simp <;> omega)).trans ((Below.heap_alloc _ _ _ (by omega)).trans q1)
  · exact (Below.heap_alloc _ _ _ (by simp <;> omega)).trans ((Below.heap_alloc _ _ _ (by omega)).trans q2)
  · exact (Below.heap_alloc _ _ _ (by simp <;> omega)).trans ((Below.heap_alloc _ _ _ (by omega)).trans q3)
  · have := World.alloc_heap_new ((((w.alloc o1).alloc o2).alloc o3).alloc o4) o5
    rw [q4] at this
    exact (Below.heap_alloc _ _ _ (by simp <;> omega)).trans this
  · have := World.alloc_heap_new (((((w.alloc o1).alloc o2).alloc o3).alloc o4).alloc o5) o6
    rw [World.size_alloc, q4] at this
    exact this

/-- What Next's round leans on. -/
structure JN (n0 : Nat) (rec : LoopState → Option Code → Loop) (pre : List Itm) (N : Nat) (W : World) : Prop where
  nil : pre = []
  dd : W.heap[n0 + 6]? = some (.deferred (some []))
  ll : W.heap[n0 + 7]? = some (.loop (rec .ready none))
  nn : n0 + 7 < N
  r0 : W.heap[n0]? = some (.cells #[.int .i64 0, .int .i64 0, .slice none 0 0] 41 (0, 0))
  r1 : W.heap[n0 + 1]? = some (.cells #[.int .i64 0] 3 (0, 0))
  r2 : W.heap[n0 + 2]? = some (.cells #[.int .i64 0] 24 (0, 0))
/-- What it leaves when it stops. -/
structure JX (w : World) (n0 : Nat) (rec : LoopState → Option Code → Loop) (R : List Itm × Nat × Nat × Int) (W : World) : Prop where
  dd : W.heap[n0 + 6]? = some (.deferred (some []))
  ll : W.heap[n0 + 7]? = some (.loop (rec .done (some .ret)))
  bel : Below n0 w W
  it : ∃ (at_ n : Nat) (ys : List Int) (rest : List Itm) (A : Option Addr) (c N : Nat), R.1 = (at_, n, ys) :: rest ∧ n0 + 7 < N ∧ Lw.Own W N (.slice A ys.length c) ys ∧
    W.heap[n0]? = some (.cells #[.int .i64 (at_ : Int), .int .i64 (n : Int), .slice A ys.length c] 41 (0, 0)) ∧
    W.heap[n0 + 1]? = some (.cells #[.int .i64 ((at_ + n : Nat) : Int)] 3 (0, 0)) ∧ W.heap[n0 + 2]? = some (.cells #[.int .i64 0] 24 (0, 0))

/-- Five stores into three blocks that stand side by side, and a draw. -/
theorem five_set (W : World) (g : Nat) (t0 t1 t2 : TypeId) (v0 v1 v2 v3 v4 a0 a1 a2 b0 c1 : Value) (h0 : W.heap[g]? = some (.cells #[a0, a1, a2] t0 (0, 0))) (h1 : W.heap[g + 1]? = some (.cells #[b0] t1 (0, 0))) (h2 : W.heap[g + 2]? = some (.cells #[c1] t2 (0, 0))) :
    ∃ W5, W5 = (((((W.setCell ⟨g, 0, none⟩ v0).setCell ⟨g, 1, none⟩ v1).setCell ⟨g, 2, none⟩ v2).setCell ⟨g + 1, 0, none⟩ v3).setCell ⟨g + 2, 0, none⟩ v4).drew ∧ W5.heap[g]? = some (.cells #[v0, v1, v2] t0 (0, 0)) ∧ W5.heap[g + 1]? = some (.cells #[v3] t1 (0, 0)) ∧ W5.heap[g + 2]? = some (.cells #[v4] t2 (0, 0)) ∧
      (∀ i, i ≠ g → i ≠ g + 1 → i ≠ g + 2 → W5.heap[i]? = W.heap[i]?) ∧ ∀ (n : Nat) (w : World), n ≤ g → Below n w W → Below n w W5 := by
  obtain ⟨W1, e1⟩ : ∃ X, W.setCell ⟨g, 0, none⟩ v0 = X := ⟨_, rfl⟩
  have p1 := blk_put (cs := #[a0, a1, a2]) h0 0 v0 rfl
  have q1 := blk_far h1 (p := ⟨g, 0, none⟩) (by simp) v0
  have r1 := blk_far h2 (p := ⟨g, 0, none⟩) (by simp) v0
  have s1 := fun i (hi : i ≠ g) => Below.heap_setCell W ⟨g, 0, none⟩ v0 i hi
  have b1 := fun (n : Nat) (w : World) (hn : n ≤ g) (hb : Below n w W) => hb.setCell (p := ⟨g, 0, none⟩) hn v0
  rw [e1] at p1 q1 r1 s1 b1 ⊢
  obtain ⟨W2, e2⟩ : ∃ X, W1.setCell ⟨g, 1, none⟩ v1 = X := ⟨_, rfl⟩
  have p2 := blk_put (cs := #[v0, a1, a2]) p1 1 v1 rfl
  have q2 := blk_far q1 (p := ⟨g, 1, none⟩) (by simp) v1
  have r2 := blk_far r1 (p := ⟨g, 1, none⟩) (by simp) v1
  have s2 := fun i (hi : i ≠ g) => (Below.heap_setCell W1 ⟨g, 1, none⟩ v1 i hi).trans (s1 i hi)
  have b2 := fun (n : Nat) (w : World) (hn : n ≤ g) (hb : Below n w W) => (b1 n w hn hb).setCell (p := ⟨g, 1, none⟩) hn v1
  rw [e2] at p2 q2 r2 s2 b2 ⊢
  obtain ⟨W3, e3⟩ : ∃ X, W2.setCell ⟨g, 2, none⟩ v2 = X := ⟨_, rfl⟩
  have p3 := blk_put (cs := #[v0, v1, a2]) p2 2 v2 rfl
  have q3 := blk_far q2 (p := ⟨g, 2, none⟩) (by simp) v2
  have r3 := blk_far r2 (p := ⟨g, 2, none⟩) (by simp) v2
  have s3 := fun i (hi : i ≠ g) => (Below.heap_setCell W2 ⟨g, 2, none⟩ v2 i hi).trans (s2 i hi)
  have b3 := fun (n : Nat) (w : World) (hn : n ≤ g) (hb : Below n w W) => (b2 n w hn hb).setCell (p := ⟨g, 2, none⟩) hn v2
  rw [e3] at p3 q3 r3 s3 b3 ⊢
  obtain ⟨W4, e4⟩ : ∃ X, W3.setCell ⟨g + 1, 0, none⟩ v3 = X := ⟨_, rfl⟩
  have p4 := blk_far p3 (p := ⟨g + 1, 0, none⟩) (by simp) v3
  have q4 := blk_put (cs := #[b0]) q3 0 v3 rfl
  have r4 := blk_far r3 (p := ⟨g + 1, 0, none⟩) (by simp) v3
  have s4 := fun i (hi : i ≠ g) (hj : i ≠ g + 1) => (Below.heap_setCell W3 ⟨g + 1, 0, none⟩ v3 i hj).trans (s3 i hi)
  have b4 := fun (n : Nat) (w : World) (hn : n ≤ g) (hb : Below n w W) => (b3 n w hn hb).setCell (p := ⟨g + 1, 0, none⟩) (Nat.le_succ_of_le hn) v3
  rw [e4] at p4 q4 r4 s4 b4 ⊢
  obtain ⟨W5, e5⟩ : ∃ X, W4.setCell ⟨g + 2, 0, none⟩ v4 = X := ⟨_, rfl⟩
  have p5 := blk_far p4 (p := ⟨g + 2, 0, none⟩) (by simp) v4
  have q5 := blk_far q4 (p := ⟨g + 2, 0, none⟩) (by simp) v4
  have r5 := blk_put (cs := #[c1]) r4 0 v4 rfl
  have s5 := fun i (hi : i ≠ g) (hj : i ≠ g + 1) (hk : i ≠ g + 2) => (Below.heap_setCell W4 ⟨g + 2, 0, none⟩ v4 i hk).trans (s4 i hi hj)
  have b5 := fun (n : Nat) (w : World) (hn : n ≤ g) (hb : Below n w W) => (b4 n w hn hb).setCell (p := ⟨g + 2, 0, none⟩) (Nat.le_succ_of_le (Nat.le_succ_of_le hn)) v4
  rw [e5] at p5 q5 r5 s5 b5 ⊢
  exact ⟨_, rfl, blk_drew p5, blk_drew q5, blk_drew r5, s5, fun n w hn hb => below_drew1 (b5 n w hn hb)⟩

set_option maxHeartbeats 8000000 in
set_option maxRecDepth 100000 in
theorem next_calls (A : Option Addr) (c : Nat) (xs : List Int) (a : Nat) (w : World) (k : Nat) (R : List Itm × Nat × Nat × Int) (hB : IsBytes xs) (hc : xs.length ≤ c) (hm : xs.length ≤ 1000000000) (hr : Rd w A xs) (ha : a ≤ xs.length) (hk : xs.length < a + k) (hR : scanGo k xs a 0 [] = R) :
    Calls Try.prog 25 #[.slice A xs.length c, .int .i64 (a : Int)] w fun e w' => Below w.heap.size w w' ∧
      ((∃ at_ n ys rest A' c', R.1 = (at_, n, ys) :: rest ∧ e = .returned (.tuple #[.agg #[.int .i64 (at_ : Int), .int .i64 (n : Int), .slice A' ys.length c'], .int .i64 ((at_ + n : Nat) : Int), .int .i64 0]) ∧ Lw.Own w' w.heap.size (.slice A' ys.length c') ys) ∨
       (R.1 = [] ∧ e = .returned (.tuple #[.agg #[.int .i64 0, .int .i64 0, .slice none 0 0], .int .i64 (R.2.2.1 : Int), .int .i64 R.2.2.2]))) := by
  have d1 : decide ((a : Int) < 0) = false := decide_eq_false (by omega)
  have d2 : decide ((xs.length : Int) < (a : Int)) = false := decide_eq_false (by omega)
  have d3 : decide (xs.length < a) = false := decide_eq_false (by omega)
  refine callsIn_wide.1 (callsIn_of_wp_marks (n := 3) Try.func25 rfl trivial ?_)
  refine wpIn_wide.2 ?_
  simp only [Try.ntmps25, List.size_toArray, List.length_cons, List.length_nil, Nat.reduceAdd, Nat.reduceSub, Array.replicate_succ, Array.replicate_zero, List.push_toArray, List.append_toArray, List.nil_append, List.cons_append]
  go_wp2_with (go_at_call 36; (with_reducible refine (items_calls A xs.length c _ _).mono ?_); rintro e w1 ⟨rfl, rfl⟩)
  obtain ⟨W0, hW0, q0, q1, q2, q3, q4, q5, q6, q7⟩ := six_new w (.cells #[.int .i64 0, .int .i64 0, .slice none 0 0] 41) (.cells #[.int .i64 0] 3) (.cells #[.int .i64 0] 24) (.cells #[.int .i64 (a : Int), .int .i64 0, .int .i64 0] 59) (.cells #[.slice A xs.length c] 22) (.cells #[.pointer (some ⟨w.heap.size + 1 + 1 + 1, 0, none⟩)] 63)
  rw [← hW0]
  rw [show w.heap.size + 1 + 1 + 1 + 1 + 1 = w.heap.size + 5 from rfl, show w.heap.size + 1 + 1 + 1 + 1 = w.heap.size + 4 from rfl, show w.heap.size + 1 + 1 + 1 = w.heap.size + 3 from rfl, show w.heap.size + 1 + 1 = w.heap.size + 2 from rfl]
  rw [show w.heap.size + 1 + 1 + 1 = w.heap.size + 3 from rfl] at q5
  clear hW0
  refine range_wide rfl (enters_of Try.func41 (by kernel_rfl) rfl) ?_
  intro fn rec hrec
  rw [q6]
  have HH1 : Hd w ((W0.alloc (.deferred (some []))).alloc (.loop (rec .ready none))) (w.heap.size + 3) (w.heap.size + 4) (w.heap.size + 5) A c xs a 0 0 :=
    Hd.below (Hd.below ⟨q3, q4, q5, q7⟩ (below_alloc (Below.refl _ _) _)) (below_alloc (Below.refl _ _) _)
  have HJ1 : JN w.heap.size rec [] (w.heap.size + 8) ((W0.alloc (.deferred (some []))).alloc (.loop (rec .ready none))) := by
    have d1 := World.alloc_heap_new W0 (.deferred (some []))
    have d2 := World.alloc_heap_new (W0.alloc (.deferred (some []))) (.loop (rec .ready none))
    rw [World.size_alloc] at d2
    rw [q6] at d1 d2
    have e : ∀ i, i < W0.heap.size → ((W0.alloc (.deferred (some []))).alloc (.loop (rec .ready none))).heap[i]? = W0.heap[i]? := fun i hi => (Below.heap_alloc _ _ _ (by simp <;> omega)).trans (Below.heap_alloc _ _ _ hi)
    exact ⟨rfl, (Below.heap_alloc _ _ _ (by simp <;> omega)).trans d1, d2, by omega, (e _ (by omega)).trans q0, (e _ (by omega)).trans q1, (e _ (by omega)).trans q2⟩
  have hsz1 : ((W0.alloc (.deferred (some []))).alloc (.loop (rec .ready none))).heap.size = w.heap.size + 8 := by simp <;> omega
  generalize (W0.alloc (.deferred (some []))).alloc (.loop (rec .ready none)) = W1 at HH1 HJ1 hsz1 ⊢
  clear q0 q1 q2 q3 q4 q5 q6 q7
  refine (items1_calls w (w.heap.size + 7) A c xs (w.heap.size + 3) (w.heap.size + 4) (w.heap.size + 5) (by omega) (by omega) (by omega)
    (JN w.heap.size rec) (JX w w.heap.size rec R) R W1 k (w.heap.size + 8) hr hB hc (by omega) ?j0 ?j1 ?j2 ?yy a 0 ha (Nat.zero_le _) HJ1 (Nat.le_of_eq hsz1.symm) HH1 hk hR).mono ?fin
  case j0 =>
    rintro pre N N' W ⟨h0, h1, h2, hn, h3, h4, h5⟩ hN
    exact ⟨h0, h1, h2, by omega, h3, h4, h5⟩
  case j1 =>
    rintro pre N W W' ⟨h0, h1, h2, hn, h3, h4, h5⟩ hN hb
    exact ⟨h0, (hb.block _ (blk_lt' h1)).trans h1, (hb.block _ (blk_lt' h2)).trans h2, hn, (hb.block _ (blk_lt h3)).trans h3, (hb.block _ (blk_lt h4)).trans h4, (hb.block _ (blk_lt h5)).trans h5⟩
  case j2 =>
    rintro pre N W p u hp ⟨h0, h1, h2, hn, h3, h4, h5⟩
    exact ⟨h0, (Below.heap_setCell _ _ _ _ (by omega)).trans h1, (Below.heap_setCell _ _ _ _ (by omega)).trans h2, hn, blk_far h3 (by omega) _, blk_far h4 (by omega) _, blk_far h5 (by omega) _⟩
  case yy =>
    rintro pre N at_ bad n ys A' c' k' W2 ⟨rfl, hd, hl, hn, h0, h1, h2⟩ hN hH hle hpre hO hgo
    have hl' := hl
    rw [hrec] at hl
    refine yield_wide hl rfl ?_
    gi_wp2
    have hg3 := World.alloc_heap_new W2 (.cells #[.int .i64 (at_ : Int), .int .i64 (n : Int), .slice A' ys.length c'] 41)
    have hB3 := below_alloc (Below.refl W2.heap.size W2) (.cells #[.int .i64 (at_ : Int), .int .i64 (n : Int), .slice A' ys.length c'] 41)
    have hsz : w.heap.size + 7 < W2.heap.size := blk_lt' hl'
    generalize hg0 : W2.heap.size = g at hg3 hsz hN hB3 ⊢
    generalize W2.alloc (.cells #[.int .i64 (at_ : Int), .int .i64 (n : Int), .slice A' ys.length c'] 41) = W3 at hg3 hB3 ⊢
    rw [← hg0] at hB3
    have hl3 : W3.heap[w.heap.size + 7]? = some (.loop (rec .ready none)) := (hB3.block _ (blk_lt' hl')).trans hl'
    have hbr : (Instr.beginRound (w.heap.size + 7)).run Try.prog W3 = .ok () (W3.putObj (w.heap.size + 7) (.loop (rec .busy none))) := by
      rw [hrec] at hl3
      rw [hrec]
      exact run_beginRound hl3 rfl
    refine ⟨_, hbr, ?_⟩
    have e0 : ∀ i, i ≠ w.heap.size + 7 → (W3.putObj (w.heap.size + 7) (.loop (rec .busy none))).heap[i]? = W3.heap[i]? := fun i hi => World.putObj_heap_other hi
    have e1 : ∀ i, i < W2.heap.size → i ≠ w.heap.size + 7 → (W3.putObj (w.heap.size + 7) (.loop (rec .busy none))).heap[i]? = W2.heap[i]? := fun i hi hne => (e0 i hne).trans (hB3.block i hi)
    have HL := Aside0.mk (show (W3.putObj (w.heap.size + 7) (.loop (rec .busy none))).heap[w.heap.size + 7]? = some (.loop (rec .busy none)) from World.putObj_heap_same (blk_lt' hl3))
    have HD := Aside0.mk ((e1 (w.heap.size + 6) (by omega) (by omega)).trans hd)
    have HR0 := Aside0.mk ((e1 w.heap.size (by omega) (by omega)).trans h0)
    have HR1 := Aside0.mk ((e1 (w.heap.size + 1) (by omega) (by omega)).trans h1)
    have HR2 := Aside0.mk ((e1 (w.heap.size + 2) (by omega) (by omega)).trans h2)
    have HX := Aside0.mk ((e0 g (by omega)).trans hg3)
    have HYs := Aside0.mk (own_move (w1 := W3.putObj (w.heap.size + 7) (.loop (rec .busy none))) hO (fun k hk => e1 k (own_lt hO k hk) (by have := own_base hO k hk; omega)))
    have HHd : Aside0 (Hd w (W3.putObj (w.heap.size + 7) (.loop (rec .busy none))) (w.heap.size + 3) (w.heap.size + 4) (w.heap.size + 5) A c xs (at_ + n) bad 0) :=
      ⟨⟨(e1 _ (by omega) (by omega)).trans hH.st, (e1 _ (by omega) (by omega)).trans hH.x1, (e1 _ (by omega) (by omega)).trans hH.x2, (below_then hH.bel hH.bel.size hB3).grown (grownBy_putObj' W3 (w.heap.size + 7) (.loop (rec .busy none))) (by have := hH.bel.size; have := hB3.size; omega) (fun k e => by cases e; omega)⟩⟩
    clear hl hd h0 h1 h2 hO hH hg3 hB3 hl3 hbr e0 e1 hl' hg0
    generalize W3.putObj (w.heap.size + 7) (.loop (rec .busy none)) = W4 at HL HD HR0 HR1 HR2 HX HYs HHd ⊢
    have s0 := (blk_cell HHd.out.st 0).trans rfl
    have x0 := (blk_cell HX.out 0).trans rfl
    have x1 := (blk_cell HX.out 1).trans rfl
    have x2 := (blk_cell HX.out 2).trans rfl
    have z0 := blk_frozen HR0.out 0
    have z1 := blk_frozen HR0.out 1
    have z2 := blk_frozen HR0.out 2
    have z3 := blk_frozen HR1.out 0
    have z4 := blk_frozen HR2.out 0
    have c0 := (blk_cell HR0.out 0).trans rfl
    have c1 := (blk_cell HR0.out 1).trans rfl
    have c2 := (blk_cell HR0.out 2).trans rfl
    have c3 := (blk_cell HR1.out 0).trans rfl
    have c4 := (blk_cell HR2.out 0).trans rfl
    gi_wp2
    gi_region
    all_goals
      obtain ⟨W5, hW5, u0, u1, u2, ue, ub⟩ := five_set W4 w.heap.size _ _ _ (.int .i64 (at_ : Int)) (.int .i64 (n : Int)) (.slice A' ys.length c') (.int .i64 ((at_ : Int) + (n : Int))) (.int .i64 0) _ _ _ _ _ HR0.out HR1.out HR2.out
      rw [← hW5]
      gi_wp2
      have hl6 : W5.heap[w.heap.size + 7]? = some (.loop (rec .busy none)) := (ue _ (by omega) (by omega) (by omega)).trans HL.out
      have hend : (Instr.endRound (w.heap.size + 7) (some .ret)).run Try.prog W5 = .ok (.bool false) (W5.putObj (w.heap.size + 7) (.loop (rec .done (some .ret)))) := by
        rw [hrec] at hl6
        rw [hrec]
        exact run_endRound (some .ret) hl6
      have e7 : ∀ i, i ≠ w.heap.size + 7 → (W5.putObj (w.heap.size + 7) (.loop (rec .done (some .ret)))).heap[i]? = W5.heap[i]? := fun i hi => World.putObj_heap_other hi
      refine ⟨_, _, hend, .inr ⟨rfl, ?_⟩⟩
      obtain ⟨rest, hrest⟩ := scan_pre xs k' (at_ + n) bad ([] ++ [(at_, n, ys)])
      rw [hgo] at hrest
      have hb5 := ub _ w (Nat.le_refl _) HHd.out.bel
      refine ⟨(e7 _ (by omega)).trans ((ue _ (by omega) (by omega) (by omega)).trans HD.out), World.putObj_heap_same (blk_lt' hl6), hb5.grown (grownBy_putObj' W5 (w.heap.size + 7) (.loop (rec .done (some .ret)))) hb5.size (fun k e => by cases e; omega), at_, n, ys, rest, A', c', N, hrest, hn, ?_, (e7 _ (by omega)).trans u0, (e7 _ (by omega)).trans (by rw [u1]; simp), (e7 _ (by omega)).trans u2⟩
      exact own_move HYs.out (fun k hk => (e7 k (by have := own_base HYs.out k hk; omega)).trans (ue k (by have := own_base HYs.out k hk; omega) (by have := own_base HYs.out k hk; omega) (by have := own_base HYs.out k hk; omega)))
  case fin =>
    rintro e W' ⟨⟨v, rfl⟩, ⟨N, hN, hJ, hH⟩ | hX⟩
    · refine ⟨⟨v, rfl⟩, .ready, none, by simp, hJ.ll, ?_⟩
      obtain ⟨hnil, hd, hl, hn, h0, h1, h2⟩ := hJ
      have e0 : ∀ i, i ≠ w.heap.size + 7 → (W'.putObj (w.heap.size + 7) (.loop (rec .exhausted none))).heap[i]? = W'.heap[i]? := fun i hi => World.putObj_heap_other hi
      have HD := Aside0.mk ((e0 (w.heap.size + 6) (by omega)).trans hd)
      have HR0 := Aside0.mk ((e0 w.heap.size (by omega)).trans h0)
      have HR1 := Aside0.mk ((e0 (w.heap.size + 1) (by omega)).trans h1)
      have HR2 := Aside0.mk ((e0 (w.heap.size + 2) (by omega)).trans h2)
      have HST := Aside0.mk ((e0 (w.heap.size + 3) (by omega)).trans hH.st)
      have HB := Aside0.mk (hH.bel.grown (grownBy_putObj' W' (w.heap.size + 7) (.loop (rec .exhausted none))) hH.bel.size (fun k e => by cases e; omega))
      clear hd hl h0 h1 h2 hH e0
      generalize W'.putObj (w.heap.size + 7) (.loop (rec .exhausted none)) = W4 at HD HR0 HR1 HR2 HST HB ⊢
      have s0 := (blk_cell HST.out 0).trans rfl
      have s2 := (blk_cell HST.out 2).trans rfl
      have z0 := blk_frozen HR0.out 0
      have z1 := blk_frozen HR0.out 1
      have z2 := blk_frozen HR0.out 2
      have z3 := blk_frozen HR1.out 0
      have z4 := blk_frozen HR2.out 0
      have c0 := (blk_cell HR0.out 0).trans rfl
      have c1 := (blk_cell HR0.out 1).trans rfl
      have c2 := (blk_cell HR0.out 2).trans rfl
      have c3 := (blk_cell HR1.out 0).trans rfl
      have c4 := (blk_cell HR2.out 0).trans rfl
      go_wp2
      go_region
      all_goals
        obtain ⟨W5, hW5, u0, u1, u2, ue, ub⟩ := five_set W4 w.heap.size _ _ _ (.int .i64 0) (.int .i64 0) (.slice none 0 0) (.int .i64 (R.2.2.1 : Int)) (.int .i64 R.2.2.2) _ _ _ _ _ HR0.out HR1.out HR2.out
        rw [← hW5]
        go_wp2
        have hD5 := (ue (w.heap.size + 6) (by omega) (by omega) (by omega)).trans HD.out
        have hB5 := ub _ w (Nat.le_refl _) HB.out
        have e7 : ∀ i, i ≠ w.heap.size + 6 → (W5.putObj (w.heap.size + 6) (.deferred none)).heap[i]? = W5.heap[i]? := fun i hi => World.putObj_heap_other hi
        refine ⟨by simp, .inl ⟨_, _, rfl, run_takeDeferred hD5, ?_⟩⟩
        refine ⟨_, results_three rfl _ _ w.heap.size _ _ _ _ _ _ _ _ _ _ rfl rfl rfl ((e7 _ (by omega)).trans u0) ((e7 _ (by omega)).trans u1) ((e7 _ (by omega)).trans u2) Try.underlying41 rfl (by kernel_rfl) Try.underlying3 Try.underlying24, ?_⟩
        exact ⟨hB5.grown (grownBy_putObj' W5 (w.heap.size + 6) (.deferred none)) hB5.size (fun k e => by cases e; omega), .inr ⟨hnil, rfl⟩⟩
    · refine ⟨⟨v, rfl⟩, .done, some .ret, by simp, hX.ll, ?_⟩
      obtain ⟨hd, hl, hb, at_, n, ys, rest, A', c', N, hrest, hn, hO, u0, u1, u2⟩ := hX
      have e0 : ∀ i, i ≠ w.heap.size + 7 → (W'.putObj (w.heap.size + 7) (.loop (rec .exhausted (some .ret)))).heap[i]? = W'.heap[i]? := fun i hi => World.putObj_heap_other hi
      have hD5 := (e0 (w.heap.size + 6) (by omega)).trans hd
      have k0 := (e0 w.heap.size (by omega)).trans u0
      have k1 := (e0 (w.heap.size + 1) (by omega)).trans u1
      have k2 := (e0 (w.heap.size + 2) (by omega)).trans u2
      have hO5 := own_move (w1 := W'.putObj (w.heap.size + 7) (.loop (rec .exhausted (some .ret)))) hO (fun k hk => e0 k (by have := own_base hO k hk; omega))
      have hB5 := hb.grown (grownBy_putObj' W' (w.heap.size + 7) (.loop (rec .exhausted (some .ret)))) hb.size (fun k e => by cases e; omega)
      clear hd hl hb u0 u1 u2 hO e0
      generalize W'.putObj (w.heap.size + 7) (.loop (rec .exhausted (some .ret))) = W5 at hD5 k0 k1 k2 hO5 hB5 ⊢
      go_wp2
      have e7 : ∀ i, i ≠ w.heap.size + 6 → (W5.putObj (w.heap.size + 6) (.deferred none)).heap[i]? = W5.heap[i]? := fun i hi => World.putObj_heap_other hi
      refine ⟨by simp, .inl ⟨_, _, rfl, run_takeDeferred hD5, ?_⟩⟩
      refine ⟨_, results_three rfl _ _ w.heap.size _ _ _ _ _ _ _ _ _ _ rfl rfl rfl ((e7 _ (by omega)).trans k0) ((e7 _ (by omega)).trans k1) ((e7 _ (by omega)).trans k2) Try.underlying41 rfl (by kernel_rfl) Try.underlying3 Try.underlying24, ?_⟩
      refine ⟨hB5.grown (grownBy_putObj' W5 (w.heap.size + 6) (.deferred none)) hB5.size (fun k e => by cases e; omega), .inl ⟨at_, n, ys, rest, A', c', hrest, rfl, ?_⟩⟩
      exact own_weaken (own_move hO5 (fun k hk => e7 k (by have := own_base hO5 k hk; omega))) (by omega)
end Go.Proofs.Ytjednkbgdbalnaa.Sc
