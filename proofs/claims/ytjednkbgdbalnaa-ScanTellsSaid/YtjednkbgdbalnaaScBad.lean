/- scan.Next where the place may not be. -/
import Derived.Test.YtjednkbgdbalnaaScNext
namespace Go.Proofs.Ytjednkbgdbalnaa.Sc
open Go.RowKit Go.Shelf Go.Proofs.YtjednkbgdbalnaaW.PrintWords Go.Proofs.YtjednkbgdbalnaaW.PrintLast Go.Proofs.YtjednkbgdbalnaaW.PrintMore Go.Proofs.Ytjednkbgdbalnaa.Fr Go.Proofs.Ytjednkbgdbalnaa.Ext Go.Proofs.Ytjednkbgdbalnaa.Pure Go.Proofs.Ytjednkbgdbalnaa.Lw Go.Proofs.Ytjednkbgdbalnaa.Pt
set_option linter.unusedVariables false
set_option linter.unusedSimpArgs false

theorem three_new (w : World) (o1 o2 o3 : Obj) : (((w.alloc o1).alloc o2).alloc o3).heap[w.heap.size]? = some o1 ∧ (((w.alloc o1).alloc o2).alloc o3).heap[w.heap.size + 1]? = some o2 ∧ (((w.alloc o1).alloc o2).alloc o3).heap[w.heap.size + 2]? = some o3 ∧ Below w.heap.size w (((w.alloc o1).alloc o2).alloc o3) := by
  refine ⟨?_, ?_, ?_, below_alloc (below_alloc (below_alloc (Below.refl _ _) _) _) _⟩
  · rw [Below.heap_alloc _ _ _ (by simp <;> omega), Below.heap_alloc _ _ _ (by simp)]
    exact World.alloc_heap_new _ _
  · rw [Below.heap_alloc _ _ _ (by simp)]
    have := World.alloc_heap_new (w.alloc o1) o2
    rwa [World.size_alloc] at this
  · have := World.alloc_heap_new ((w.alloc o1).alloc o2) o3
    simpa using this

set_option maxHeartbeats 8000000 in
set_option maxRecDepth 100000 in
theorem next_bad (A : Option Addr) (c n : Nat) (a : Int) (w : World) (ha : a < 0 ∨ (n : Int) < a) :
    Calls Try.prog 25 #[.slice A n c, .int .i64 a] w fun e w' => Below w.heap.size w w' ∧ e = .returned (.tuple #[.agg #[.int .i64 0, .int .i64 0, .slice none 0 0], .int .i64 a, .int .i64 1]) := by
  by_cases h : a < 0
  · have d1 : decide (a < 0) = true := decide_eq_true h
    go_enter Try.func25, Try.ntmps25
    go_wp2
    obtain ⟨u0, u1, u2, ub⟩ := three_new w (.cells #[.int .i64 0, .int .i64 0, .slice none 0 0] 41) (.cells #[.int .i64 a] 3) (.cells #[.int .i64 1] 24)
    refine bodyPost_ret (results_three rfl _ _ w.heap.size _ _ _ _ _ _ _ _ _ _ rfl rfl rfl u0 u1 u2 Try.underlying41 rfl (by kernel_rfl) Try.underlying3 Try.underlying24) rfl ?_
    exact ⟨ub, rfl⟩
  · have d1 : decide (a < 0) = false := decide_eq_false h
    have d2 : decide ((n : Int) < a) = true := decide_eq_true (by omega)
    go_enter Try.func25, Try.ntmps25
    go_wp2
    obtain ⟨u0, u1, u2, ub⟩ := three_new w (.cells #[.int .i64 0, .int .i64 0, .slice none 0 0] 41) (.cells #[.int .i64 a] 3) (.cells #[.int .i64 1] 24)
    refine bodyPost_ret (results_three rfl _ _ w.heap.size _ _ _ _ _ _ _ _ _ _ rfl rfl rfl u0 u1 u2 Try.underlying41 rfl (by kernel_rfl) Try.underlying3 Try.underlying24) rfl ?_
    exact ⟨ub, rfl⟩
end Go.Proofs.Ytjednkbgdbalnaa.Sc
