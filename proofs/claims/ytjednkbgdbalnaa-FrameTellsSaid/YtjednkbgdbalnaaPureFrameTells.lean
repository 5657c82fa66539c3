/- The machine's frames are the document's: over numbers and lists alone. -/
import Derived.Test.YtjednkbgdbalnaaPsx3
import Derived.Test.YtjednkbgdbalnaaPureRef02
namespace Go.Proofs.Ytjednkbgdbalnaa.Pure
open Go.RowKit Go.Proofs.Ytjednkbgdbalnaa.Ps Go.Proofs.YtjednkbgdbalnaaW.PrintWords Go.Proofs.YtjednkbgdbalnaaW.PrintLast Go.Proofs.Ytjednkbgdbalnaa.Fr Go.Proofs.Ytjednkbgdbalnaa.Ext

theorem FrameTells : souterrainlaw02_FrameTells.Pure := by
  intro b c n hm0 hl0 hb0 hm1 hl1 hb1 hn
  have hB := bytes_of_wf b hb0
  have hC := bytes_of_wf c hb1
  refine ⟨90002, ?_⟩
  unfold souterrainlaw02_FrameTells.f
  simp only [souterrainlaw02_head.f, Option.bind_some]
  have up : ∀ g, g = true → souterrainlaw02_FrameTells.j0 90002 b c n true g = some true := by
    rintro g rfl
    rw [souterrainlaw02_FrameTells.j0, if_pos rfl]
  by_cases h1 : (b.length : Int) > 20000
  · rw [if_pos h1, up _ rfl]
  · rw [if_neg h1]
    by_cases h2 : (c.length : Int) > 20000
    · rw [up _ (decide_eq_true h2)]
    · rw [decide_eq_false h2, souterrainlaw02_FrameTells.j0, if_neg Bool.false_ne_true, first_some c hC, Option.bind_some, ref02_first c hC (by omega) _ (by omega), Option.bind_some, if_pos rfl]
      simp only [frame_Put.f, frame_Size.f, Option.bind_some]
      rw [ref02_put b hB _ (by omega), Option.bind_some]
      simp [ref02_size]
end Go.Proofs.Ytjednkbgdbalnaa.Pure
