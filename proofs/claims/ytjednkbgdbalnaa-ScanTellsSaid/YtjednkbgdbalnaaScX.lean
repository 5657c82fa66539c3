/- The contracts of package scan in the printed form. -/
import Derived.Test.YtjednkbgdbalnaaScBad
namespace Go.Proofs.Ytjednkbgdbalnaa.Ext
open Go.RowKit Go.Proofs.YtjednkbgdbalnaaW.PrintWords Go.Proofs.YtjednkbgdbalnaaW.PrintLast Go.Proofs.YtjednkbgdbalnaaW.PrintMore Go.Proofs.Ytjednkbgdbalnaa.Fr Go.Proofs.Ytjednkbgdbalnaa.Pure Go.Proofs.Ytjednkbgdbalnaa.Lw Go.Proofs.Ytjednkbgdbalnaa.Pt Go.Proofs.Ytjednkbgdbalnaa.Sc
set_option linter.unusedVariables false

def scan_All.f (l : List Int) : Option (List S41 × Int × Int × Int) :=
  if bytesB l = true ∧ l.length ≤ 1000000000 then some ((scanGo (l.length + 1) l 0 0 []).1.map toS, ((scanGo (l.length + 1) l 0 0 []).2.1 : Int), ((scanGo (l.length + 1) l 0 0 []).2.2.1 : Int), (scanGo (l.length + 1) l 0 0 []).2.2.2) else none
def scan_Next.f (l : List Int) (a : Int) : Option (Int × Int × List Int × Int × Int) :=
  if bytesB l = true ∧ l.length ≤ 1000000000 then some ((nextS l a).1.1, (nextS l a).1.2.1, (nextS l a).1.2.2, (nextS l a).2.1, (nextS l a).2.2) else none
theorem scan_All.calls (A0 : Option Addr) (c0 : Nat) (l0 : List Int) (r1 : List S41) (r2 r3 r4 : Int) (w : World) (hr0 : Kd.C (Kd.int .u8) w A0 l0.length l0) (hc0 : l0.length ≤ c0) (h : scan_All.f l0 = some (r1, r2, r3, r4)) :
    Calls Try.prog 23 #[.slice A0 l0.length c0] w fun e w' => ∃ v0_ : Value, e = .returned (.tuple #[v0_, .int .i64 r2, .int .i64 r3, .int .i64 r4]) ∧ Kd.S k41 41 w' w.heap.size (fun _ => True) v0_ r1 ∧ Below w.heap.size w w' := by
  unfold scan_All.f at h
  split at h
  case isFalse => cases h
  case isTrue hh =>
    simp only [Option.some.injEq, Prod.mk.injEq] at h
    obtain ⟨rfl, rfl, rfl, rfl⟩ := h
    exact all_calls A0 c0 l0 w (l0.length + 1) _ ((bytesB_iff l0).mp hh.1) hc0 hh.2 hr0 (Nat.lt_succ_self _) rfl
theorem scan_Next.calls (A0 : Option Addr) (c0 : Nat) (l0 : List Int) (a1 r1 r2 : Int) (r3 : List Int) (r4 r5 : Int) (w : World) (hr0 : Kd.C (Kd.int .u8) w A0 l0.length l0) (hc0 : l0.length ≤ c0) (h : scan_Next.f l0 a1 = some (r1, r2, r3, r4, r5)) :
    Calls Try.prog 25 #[.slice A0 l0.length c0, .int .i64 a1] w fun e w' => ∃ v2_ : Value, e = .returned (.tuple #[.agg #[.int .i64 r1, .int .i64 r2, v2_], .int .i64 r4, .int .i64 r5]) ∧ Kd.R (Kd.int .u8) 5 w' w.heap.size (fun _ => True) v2_ r3 ∧ Below w.heap.size w w' := by
  unfold scan_Next.f at h
  split at h
  case isFalse => cases h
  case isTrue hh =>
    simp only [Option.some.injEq, Prod.mk.injEq] at h
    obtain ⟨rfl, rfl, rfl, rfl, rfl⟩ := h
    unfold nextS
    by_cases hb : a1 < 0 ∨ (l0.length : Int) < a1
    · rw [if_pos hb]
      refine (next_bad A0 c0 l0.length a1 w hb).mono ?_
      rintro e w' ⟨B, rfl⟩
      exact ⟨_, rfl, Kd.R_nil _ _ _ _ _, B⟩
    · rw [if_neg hb]
      obtain ⟨a, rfl⟩ := Int.eq_ofNat_of_zero_le (show 0 ≤ a1 by omega)
      rw [Int.toNat_natCast]
      obtain ⟨R, hR⟩ : ∃ R, scanGo (l0.length + 1) l0 a 0 [] = R := ⟨_, rfl⟩
      rw [hR]
      refine (next_calls A0 c0 l0 a w (l0.length + 1) R ((bytesB_iff l0).mp hh.1) hc0 hh.2 hr0 (by omega) (by omega) hR).mono ?_
      obtain ⟨R1, R2, R3, R4⟩ := R
      rintro e w' ⟨B, ⟨at_, n, ys, rest, A', c', h1, rfl, ho⟩ | ⟨h1, rfl⟩⟩
      · obtain rfl : R1 = (at_, n, ys) :: rest := h1
        exact ⟨_, by simp, R_ints ho, B⟩
      · obtain rfl : R1 = [] := h1
        exact ⟨_, rfl, Kd.R_nil _ _ _ _ _, B⟩
end Go.Proofs.Ytjednkbgdbalnaa.Ext
