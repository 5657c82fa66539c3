/- A range over a function by hand: the statement, a round's call, and an append in a round. -/
import Derived.Test.YtjednkbgdbalnaaScA
import Derived.Test.YtjednkbgdbalnaaWApart
namespace Go.Proofs.Ytjednkbgdbalnaa.Sc
open Go.RowKit Go.Shelf Go.Proofs.YtjednkbgdbalnaaW.PrintWords Go.Proofs.YtjednkbgdbalnaaW.PrintLast Go.Proofs.YtjednkbgdbalnaaW.PrintMore Go.Proofs.Ytjednkbgdbalnaa.Fr Go.Proofs.Ytjednkbgdbalnaa.Ext Go.Proofs.Ytjednkbgdbalnaa.Pure Go.Proofs.Ytjednkbgdbalnaa.Lw
set_option linter.unusedVariables false
set_option linter.unusedSimpArgs false

/-- The statement, no fence: its record is the block behind the one for the rounds' deferred calls. -/
theorem range_wide {P : Program} {g : Operand} {ps : Array Tmp} {assign body : Code} {Q : Exit → Act → World → Prop} {a : Act} {W : World} {gf : Nat} {lb : Array Value}
    (hg : a.eval g = .func (.func gf) #[] lb) (eg : ∀ args w, (callFunc gf args).run P w = .ok (.enter gf args) w)
    (h : ∀ (fn : FuncId) (rec : LoopState → Option Code → Loop), (∀ st pe, rec st pe = { state := st, pending := pe, fn, tmps := a.tmps, params := ps, assign, body, defers := W.heap.size }) →
      Calls P gf (#[.func (.yield (W.heap.size + 1)) #[] #[]] ++ lb) ((W.alloc (.deferred (some []))).alloc (.loop (rec .ready none))) fun e W2 => (∃ v, e = .returned v) ∧
        ∃ st pe, st ≠ LoopState.busy ∧ W2.heap[W.heap.size + 1]? = some (.loop (rec st pe)) ∧
          (match pe with
           | none => Q .normal { a with defers := { target := .collected W.heap.size, args := #[] } :: a.defers } (W2.putObj (W.heap.size + 1) (.loop (rec .exhausted pe)))
           | some c => c.wp P Q { a with defers := { target := .collected W.heap.size, args := #[] } :: a.defers } (W2.putObj (W.heap.size + 1) (.loop (rec .exhausted pe))))) :
    (Code.rangeFunc g ps assign body).wp P Q a W := by
  refine (wpIn_wide (n := 3)).1 ?_
  refine wpIn_rangeFunc ?_
  intro fn _
  obtain ⟨rec, hrec⟩ : ∃ rec : LoopState → Option Code → Loop, ∀ st pe, rec st pe = { state := st, pending := pe, fn, tmps := a.tmps, params := ps, assign, body, defers := W.heap.size } := ⟨_, fun _ _ => rfl⟩
  obtain ⟨W1, hW1⟩ : ∃ W1, (W.alloc (.deferred (some []))).alloc (.loop (rec .ready none)) = W1 := ⟨_, rfl⟩
  have hcall := h fn rec hrec
  rw [hW1] at hcall
  refine ⟨W.heap.size + 1, [{ target := .collected W.heap.size, args := #[] }], W1, { target := .fn (.func gf) lb, args := #[.func (.yield (W.heap.size + 1)) #[] #[]] }, W1, gf,
    #[.func (.yield (W.heap.size + 1)) #[] #[]] ++ lb, W1, ?_, ?_, ?_, ?_, ?_, ?_⟩
  · rw [← hW1, hrec]
    exact run_enterLoop_outer _ _ _ _ _
  · simp only [resolve, hg]
    simp [go_sem]
  · intro _ _
    trivial
  · simp [invoke, go_sem, eg]
  · intro _
    omega
  · refine callsIn_wide.2 (hcall.mono ?_)
    rintro e W2 ⟨⟨v, rfl⟩, st, pe, hb, hl, hq⟩
    have hend : (Instr.endLoop (W.heap.size + 1)).run P W2 = .ok pe (W2.putObj (W.heap.size + 1) (.loop (rec .exhausted pe))) := by
      rw [hrec] at hl
      rw [hrec]
      exact run_endLoop (P := P) hl hb
    refine ⟨pe, _, hend, ?_⟩
    cases pe with
    | none => exact hq
    | some c => exact wpIn_wide.2 hq

/-- A call of yield: the record is ready; the assignment and the body, walked. -/
theorem yield_wide {P : Program} {l : Nat} {fn : FuncId} {tmps : Array Value} {ps : Array Tmp} {assign body : Code} {D : Nat} {args : Array Value} {W : World} {R : Ending → World → Prop}
    (hl : W.heap[l]? = some (.loop { state := .ready, pending := none, fn, tmps, params := ps, assign, body, defers := D })) (hs : args.size = ps.size)
    (h : assign.wpIn (Fence.wide.inRound l) 0 P (Exit.then (fun a₁ w₁ => ∃ w₂, (Instr.beginRound l).run P w₁ = .ok () w₂ ∧ body.wpIn (Fence.wide.inRound l) 0 P (roundPost P l R) a₁ w₂) (fun _ _ _ => False))
      { tmps := (ps.zip args).foldl (fun t (p, v) => t.setIfInBounds p v) tmps, defers := [] } W) :
    YieldAt Fence.wide 0 P l args W R :=
  ⟨fn, _, assign, body, run_yield hl hs, roundIn_of_wpIn trivial h⟩

/-- append(v, x) in a round: x's blocks are okp, none of them v's. -/
theorem append_in {F : Fence} {n : Nat} {P : Program} {α : Type} {ops : Array Oper} {rest : List Oper} {o : Oper} {a : Act} {Q : Exit → Act → World → Prop} (d : Kd α) {w0 W : World} (base : Nat) (hgd : o.guard = none) (s x : Operand) (t e : TypeId) (z : Value) (bytes : Nat)
    (ho : o.op = .call { callee := .builtin .append, args := #[s, x], argTypes := #[t, t] })
    (ht : P.underlying t = some (.slice e)) (hinfo : (P.info? e).map (fun i => (i.zero, i.size, i.bytes)) = some (some z, d.sz, bytes)) (hz : z.cells.size = d.sz) (hs0 : 0 < d.sz) (hb0 : 0 < bytes)
    (v : Value) (xs : List α) (p : α) (cs : List Value) (ok okp : Nat → Prop) (hs : a.eval s = v) (hx : a.eval x = .slice (some ⟨W.heap.size, 0, none⟩) 1 1) (hp : d.M W base okp p cs) (hokp : ∀ k, okp k → ok k ∧ some k ≠ v.ownBlock) (hfresh : ∀ k, W.heap.size ≤ k → ok k)
    (HO : Kd.S d e W base (fun k => ok k ∧ ¬ okp k) v xs) (HB : Below base w0 W) (hbase : base ≤ W.heap.size) (hl : (xs.length + 1) * bytes ≤ 140737488355328)
    (h : ∀ v1 w1, Kd.S d e w1 base ok v1 (xs ++ [p]) → Below base w0 w1 → W.grownBy w1 v.ownBlock → wpListIn F n P ops Q rest (a.put o.dst v1) w1) :
    wpListIn F n P ops Q (o :: rest) a (W.alloc (.cells cs.toArray e)) := by
  obtain ⟨f, hf, hR⟩ := Kd.S_tag HO xs.length okp (fun _ hk h2 => h2.2 hk)
  have hR' := Kd.R_mono (ok' := ok) hR (fun _ hk => hk.1)
  have hp' : (Kd.tag f d).M W base okp (p, xs.length) cs := d.M_mono (fun k hk => ⟨hk, hf k hk⟩) hp
  obtain ⟨h0, inner, hown, hr⟩ := hR'
  obtain ⟨i0, hi, hzz⟩ := Option.map_eq_some_iff.1 hinfo
  simp only [Prod.mk.injEq] at hzz
  obtain ⟨hz0, hz1, hz2⟩ := hzz
  have hlen0 : xs.zipIdx.length = xs.length := List.length_zipIdx
  have hlen : xs.length + 1 ≤ 140737488355328 := Nat.le_trans (Nat.le_mul_of_pos_right _ hb0) hl
  have hys : cs.length = d.sz := d.K_len (d.K_of_M hp)
  rw [hlen0] at hown
  obtain ⟨v', w', hrun, r1, r2, _, r4⟩ := run_append_own_at (P := P) (w := W.alloc (.cells cs.toArray e)) base t o.type e i0 z d.sz bytes ht hi hz0 hz1 hz2 hz hs0 v xs.length inner (hown.alloc _) ⟨W.heap.size, 0, none⟩ 1 1 cs (by rw [hys]; simp)
    (by simpa using World.news_of_block (cs := cs.toArray) (t := e) (fr := (0, 0)) (heap_alloc_new W (.cells cs.toArray e))) (d.K_one (d.K_of_M hp)) (by simp only [maxLen]; omega) hl (by simp; omega)
  have hg1 : W.grownBy w' v.ownBlock := World.grownBy.trans (World.grownBy_alloc W _ _) r2
  have hat : v'.ownBlock = v.ownBlock ∨ ∃ b, v'.ownBlock = some b ∧ W.heap.size ≤ b := by
    rcases r4 with r4 | r4
    · exact .inl r4
    · exact .inr ⟨_, r4, by simp⟩
  have hB1 : Below base w0 w' := (HB.alloc hbase _).grown r2 (by simp; omega) (own_base hown)
  have hS : Kd.S d e w' base ok v' (xs ++ [p]) := by
    refine ⟨f, ?_⟩
    rw [Kd.zip_snoc]
    exact Kd.R_appended h0 hr hp' hokp hfresh (by rw [hlen0]; exact r1) hg1 hat
  refine wpListIn_plain hgd fun K hK' => ?_
  unfold Oper.wpIn
  refine ⟨?_, ?_⟩
  · simp [Oper.about, ho, resolve, Target.leads, Sem.run_pure]
  · rw [Oper.semAt_plain F _ _ (by rw [ho]; intro c hc'; cases hc')]
    simp [execOp, ho, resolve, invoke, builtin, hs, hx, hrun, Result.andThen]
    exact hK' _ _ (h v' w' hS hB1 hg1)
end Go.Proofs.Ytjednkbgdbalnaa.Sc
