/- The frame layer's contracts, in the form that a printed text wants of a callee. -/
import Derived.Test.YtjednkbgdbalnaaFrC
import Derived.Laws.Cover3
import Derived.Stop.BytesEq
import Derived.WalkSpells
import Derived.Test.YtjednkbgdbalnaaProg
import Derived.Below
import Derived.Deep.Draws
import Derived.Deep.AppendLies
import Derived.Maps.AppendAt
import Derived.OwnWalk
import Derived.Laws.BytesArg
import Derived.Laws.MakeOwn
import Derived.Laws.OwnMore
import Derived.Deep.OwnRows
import Derived.Tactics
import Derived.Lib.ConvBytes
import Derived.Laws.Slices
import Derived.WalkKit
import Derived.KernelRfl
import Derived.RowKit3
import Derived.Deep.LoopGhost
import Derived.Deep.QuietTactic
import Derived.BigQuiet
import Derived.WideLaws
import Derived.Deep.DeepCutAuto
import Derived.Deep.CutBlock
import Derived.Deep.RegionHeld3
import Derived.Laws.Rows
import Derived.Laws.Tables
import Derived.Lib.AppendStr
import Derived.ArgAppend
import Derived.Laws.IdiomCopy
import Derived.OrdersHeld
import Derived.Laws.BitsLemmas
import Derived.RowKit
import Derived.Test.YtjednkbgdbalnaaWWords
import Derived.Test.YtjednkbgdbalnaaWMore
import Derived.Test.YtjednkbgdbalnaaWZeros
namespace Go.Proofs.Ytjednkbgdbalnaa.Ext
open Go.RowKit Go.Proofs.YtjednkbgdbalnaaW.PrintWords Go.Proofs.YtjednkbgdbalnaaW.PrintMore Go.Proofs.Ytjednkbgdbalnaa.Fr
set_option linter.unusedVariables false

def bytesB (l : List Int) : Bool := l.all fun x => decide (0 ≤ x) && decide (x < 256)
theorem bytesB_iff (l : List Int) : bytesB l = true ↔ IsBytes l := by
  simp [bytesB, IsBytes, List.all_eq_true]
def frame_Put.f (l0 : List Int) : Option (List Int) := some (putL l0)
def frame_First.f (l0 : List Int) : Option (List Int × Int × Int) := if bytesB l0 = true then some (firstL l0) else none
def frame_Size.f (a0 : Int) : Option Int := some (sizeI a0)

theorem R_ints {w : World} {base : Nat} {v : Value} {xs : List Int} {e : TypeId} {k : IntKind} (h : w.ownsRow base e 1 v xs.length (nums k xs)) : Kd.R (Kd.int k) e w base (fun _ => True) v xs :=
  Kd.R_of_own h (fun _ _ => trivial)

theorem frame_Size.calls (a0 : Int) (r : Int) (w : World) (h : frame_Size.f a0 = some r) :
    Calls Try.prog 20 #[.int .i64 a0] w fun e w' => e = .returned (.int .i64 r) ∧ Drawn0 w w' := by
  obtain rfl := Option.some.inj h
  exact (size_calls a0 w).mono fun e w' h => ⟨h.1, by rw [← h.2]; exact Drawn0.refl _⟩
theorem frame_Put.calls (A0 : Option Addr) (c0 : Nat) (l0 : List Int) (r : List Int) (w : World) (hr0 : Kd.C (Kd.int .u8) w A0 l0.length l0) (hc0 : l0.length ≤ c0) (h : frame_Put.f l0 = some r) :
    Calls Try.prog 18 #[.slice A0 l0.length c0] w fun e w' => ∃ v0_ : Value, e = .returned (v0_) ∧ Kd.R (Kd.int .u8) 5 w' w.heap.size (fun _ => True) v0_ r ∧ Below w.heap.size w w' := by
  obtain rfl := Option.some.inj h
  refine (put_calls A0 c0 l0 w hc0 hr0).mono ?_
  rintro e w' ⟨v, rfl, ho, hb⟩
  exact ⟨v, rfl, R_ints ho, hb⟩
theorem frame_First.calls (A0 : Option Addr) (c0 : Nat) (l0 : List Int) (r1 : List Int) (r2 : Int) (r3 : Int) (w : World) (hr0 : Kd.C (Kd.int .u8) w A0 l0.length l0) (hc0 : l0.length ≤ c0) (h : frame_First.f l0 = some (r1, r2, r3)) :
    Calls Try.prog 16 #[.slice A0 l0.length c0] w fun e w' => ∃ v0_ : Value, e = .returned (.tuple #[v0_, .int .i64 r2, .int .i64 r3]) ∧ Kd.R (Kd.int .u8) 5 w' w.heap.size (fun _ => True) v0_ r1 ∧ Below w.heap.size w w' := by
  unfold frame_First.f at h
  split at h
  · rename_i hb
    have h := Option.some.inj h
    refine (first_calls A0 c0 l0 w ((bytesB_iff l0).mp hb) hc0 hr0).mono ?_
    rintro e w' ⟨v, xs, k, f, rfl, HL, ho, hbw⟩
    have hl := HL.out
    rw [h] at hl
    simp only [Prod.mk.injEq] at hl
    obtain ⟨rfl, rfl, rfl⟩ := hl
    exact ⟨v, rfl, R_ints ho, hbw⟩
  · cases h
end Go.Proofs.Ytjednkbgdbalnaa.Ext
