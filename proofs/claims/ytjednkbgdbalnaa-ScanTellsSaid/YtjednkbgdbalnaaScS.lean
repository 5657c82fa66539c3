/- What All and Next tell, out of the relation Scan: over numbers and lists alone. -/
import Derived.Test.YtjednkbgdbalnaaPtx3
import Derived.Test.YtjednkbgdbalnaaScX
import Derived.Test.YtjednkbgdbalnaaScR
namespace Go.Proofs.Ytjednkbgdbalnaa.Pure
open Go.RowKit Go.Proofs.Ytjednkbgdbalnaa.Pt Go.Proofs.YtjednkbgdbalnaaW.PrintWords Go.Proofs.YtjednkbgdbalnaaW.PrintLast Go.Proofs.Ytjednkbgdbalnaa.Fr Go.Proofs.Ytjednkbgdbalnaa.Ext Go.Proofs.Ytjednkbgdbalnaa.Sc
theorem same_loop (l : List S41) (hm : l.length ≤ 1000000000) (n : Nat) : ∀ i : Nat, i + n = l.length → ∀ K, souterrainref03_Same.l0 (K + n + 1) l l (i : Int) = some true := by
  induction n with
  | zero =>
    intro i hi K
    rw [souterrainref03_Same.l0, if_neg (by omega)]
  | succ n ih =>
    intro i hi K
    rw [souterrainref03_Same.l0, if_pos (by omega), if_pos (by omega), if_pos (by omega), if_pos rfl, if_pos rfl, if_pos rfl, w64 _ (by omega) (by omega), show (i : Int) + 1 = ((i + 1 : Nat) : Int) by omega, show K + (n + 1) = K + n + 1 by omega]
    exact ih (i + 1) (by omega) K
theorem same_refl (l : List S41) (hm : l.length ≤ 1000000000) (k : Nat) (hk : l.length < k) : souterrainref03_Same.f k l l = some true := by
  obtain ⟨K, rfl⟩ : ∃ K, k = K + l.length + 1 := ⟨k - l.length - 1, by omega⟩
  rw [souterrainref03_Same.f, if_pos rfl]
  exact same_loop l hm l.length 0 (by omega) K
theorem all_of (l : List Int) (hB : IsBytes l) (hm : l.length ≤ 1000000000) {I : List Itm} {B e : Nat} {f : Int} (h : Scan l 0 I B e f) : scan_All.f l = some (I.map toS, (B : Int), (e : Int), f) := by
  unfold scan_All.f
  rw [if_pos ⟨(bytesB_iff l).mpr hB, hm⟩, scan_go h _ _ _ (by omega)]
  simp
theorem next_of (l : List Int) (hB : IsBytes l) (hm : l.length ≤ 1000000000) {a : Nat} {x : Itm} {I : List Itm} {B e : Nat} {f : Int} (h : Scan l a (x :: I) B e f) : scan_Next.f l a = some ((x.1 : Int), (x.2.1 : Int), x.2.2, ((x.1 + x.2.1 : Nat) : Int), 0) := by
  have := scan_le h
  unfold scan_Next.f nextS
  rw [if_pos ⟨(bytesB_iff l).mpr hB, hm⟩, if_neg (by omega), Int.toNat_natCast, scan_go h _ _ _ (by omega)]
  simp
theorem next_end (l : List Int) (hB : IsBytes l) (hm : l.length ≤ 1000000000) {a : Nat} {B e : Nat} {f : Int} (h : Scan l a [] B e f) : scan_Next.f l a = some (0, 0, [], (e : Int), f) := by
  have := scan_le h
  unfold scan_Next.f nextS
  rw [if_pos ⟨(bytesB_iff l).mpr hB, hm⟩, if_neg (by omega), Int.toNat_natCast, scan_go h _ _ _ (by omega)]
  simp
theorem scan_count {l : List Int} {a : Nat} {I : List Itm} {B e : Nat} {f : Int} (h : Scan l a I B e f) : a + 9 * I.length ≤ l.length := by
  induction h with
  | done a h => simp; omega
  | stop a e xs h hf he => simp; omega
  | pass a n I B e f h hn hf t ih => omega
  | take a n x I B e f h hn hf t ih => simp only [List.length_cons]; omega

end Go.Proofs.Ytjednkbgdbalnaa.Pure
