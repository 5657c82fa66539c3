/- What Next tells from one end to the next is what All tells: over numbers and lists alone. -/
import Derived.Test.YtjednkbgdbalnaaPtx8
import Derived.Test.YtjednkbgdbalnaaScR
namespace Go.Proofs.Ytjednkbgdbalnaa.Pure
open Go.RowKit Go.Proofs.Ytjednkbgdbalnaa.Pt Go.Proofs.YtjednkbgdbalnaaW.PrintWords Go.Proofs.YtjednkbgdbalnaaW.PrintLast Go.Proofs.Ytjednkbgdbalnaa.Fr Go.Proofs.Ytjednkbgdbalnaa.Ext Go.Proofs.Ytjednkbgdbalnaa.Sc

theorem same_loop (l : List S41) (hm : l.length ≤ 1000000000) (n : Nat) : ∀ i : Nat, i + n = l.length → ∀ K, souterrainref03_Same.l0 (K + n + 1) l l (i : Int) = some true := by
  induction n with
  | zero =>
    intro i hi K
    rw [souterrainref03_Same.l0, if_neg (by omega)]
  | succ n ih =>
    intro i hi K
    rw [souterrainref03_Same.l0, if_pos (by omega), if_pos (by omega), if_pos (by omega), if_pos rfl, if_pos rfl, if_pos rfl, w64 _ (by omega) (by omega), show (i : Int) + 1 = ((i + 1 : Nat) : Int) by omega, show K + (n + 1) = K + n + 1 by omega]
    exact ih (i + 1) (by omega) K
theorem same_refl (l : List S41) (hm : l.length ≤ 1000000000) (k : Nat) (hk : l.length < k) : souterrainref03_Same.f k l l = some true := by
  obtain ⟨K, rfl⟩ : ∃ K, k = K + l.length + 1 := ⟨k - l.length - 1, by omega⟩
  rw [souterrainref03_Same.f, if_pos rfl]
  exact same_loop l hm l.length 0 (by omega) K
theorem all_of (l : List Int) (hB : IsBytes l) (hm : l.length ≤ 1000000000) {I : List Itm} {B e : Nat} {f : Int} (h : Scan l 0 I B e f) : scan_All.f l = some (I.map toS, (B : Int), (e : Int), f) := by
  unfold scan_All.f
  rw [if_pos ⟨(bytesB_iff l).mpr hB, hm⟩, scan_go h _ _ _ (by omega)]
  simp
theorem next_of (l : List Int) (hB : IsBytes l) (hm : l.length ≤ 1000000000) {a : Nat} {x : Itm} {I : List Itm} {B e : Nat} {f : Int} (h : Scan l a (x :: I) B e f) : scan_Next.f l a = some ((x.1 : Int), (x.2.1 : Int), x.2.2, ((x.1 + x.2.1 : Nat) : Int), 0) := by
  have := scan_le h
  unfold scan_Next.f nextS
  rw [if_pos ⟨(bytesB_iff l).mpr hB, hm⟩, if_neg (by omega), Int.toNat_natCast, scan_go h _ _ _ (by omega)]
  simp
theorem next_end (l : List Int) (hB : IsBytes l) (hm : l.length ≤ 1000000000) {a : Nat} {B e : Nat} {f : Int} (h : Scan l a [] B e f) : scan_Next.f l a = some (0, 0, [], (e : Int), f) := by
  have := scan_le h
  unfold scan_Next.f nextS
  rw [if_pos ⟨(bytesB_iff l).mpr hB, hm⟩, if_neg (by omega), Int.toNat_natCast, scan_go h _ _ _ (by omega)]
  simp
theorem scan_count {l : List Int} {a : Nat} {I : List Itm} {B e : Nat} {f : Int} (h : Scan l a I B e f) : a + 9 * I.length ≤ l.length := by
  induction h with
  | done a h => simp; omega
  | stop a e xs h hf he => simp; omega
  | pass a n I B e f h hn hf t ih => omega
  | take a n x I B e f h hn hf t ih => simp only [List.length_cons]; omega

theorem again_loop (l : List Int) (hB : IsBytes l) (hm : l.length ≤ 9000) (J : List Itm) (e : Nat) (f : Int) (hJ : J.length ≤ 9000) (n : Nat) : ∀ (i a B : Nat), i + n = J.length → Scan l a (J.drop i) B e f → ∀ K, souterrainlaw03_ScanAgain.l0 (K + 10 + n) l true (J.map toS) (e : Int) f (a : Int) (i : Int) = some true := by
  induction n with
  | zero =>
    intro i a B hi h K
    rw [List.drop_eq_nil_of_le (by omega)] at h
    rw [show K + 10 + 0 = (K + 9) + 1 from rfl, souterrainlaw03_ScanAgain.l0, if_neg (by rw [List.length_map]; omega), next_end l hB (by omega) h, Option.bind_some, if_pos rfl, if_pos rfl]
    simp
  | succ n ih =>
    intro i a B hi h K
    have hlt : i < J.length := by omega
    rw [List.drop_eq_getElem_cons hlt] at h
    obtain ⟨h1, h2, h3, h4, B', h5⟩ := scan_tail h rfl
    have hone : (((J.map toS).take ((i : Int) + 1).toNat).drop ((i : Int)).toNat) = [(⟨(J[i].1 : Int), (J[i].2.1 : Int), J[i].2.2⟩ : S41)] := by
      rw [show ((i : Int) + 1).toNat = i + 1 by omega, Int.toNat_natCast, List.drop_take, show i + 1 - i = 1 by omega, ← List.map_drop, List.drop_eq_getElem_cons hlt]
      rfl
    rw [show K + 10 + (n + 1) = (K + 10 + n) + 1 from rfl, souterrainlaw03_ScanAgain.l0, if_pos (by rw [List.length_map]; omega), next_of l hB (by omega) h, Option.bind_some, if_pos rfl, if_pos (by omega), w64 _ (by omega) (by omega), if_pos (by omega), if_pos (by rw [List.length_map]; omega), hone, same_refl _ (by simp) _ (by simp only [List.length_singleton]; omega), Option.bind_some, if_pos rfl, if_neg (by simp only; omega), show (i : Int) + 1 = ((i + 1 : Nat) : Int) by omega]
    exact ih (i + 1) _ B' (by omega) h5 K

theorem ScanAgain : souterrainlaw03_ScanAgain.Pure := by
  intro l hm hl hb
  have hB := bytes_of_wf l hb
  refine ⟨10 + l.length, ?_⟩
  rw [souterrainlaw03_ScanAgain.f, souterrainlaw03_head.f, Option.bind_some]
  by_cases h1 : (l.length : Int) > 9000
  · rw [if_pos h1]
  · rw [if_neg h1]
    obtain ⟨I, B, e, f, h⟩ := scan_ex l hB (l.length + 1) 0 (by omega) (by omega)
    have hc := scan_count h
    rw [all_of l hB (by omega) h, Option.bind_some, show 10 + l.length = (l.length - I.length) + 10 + I.length by omega]
    exact again_loop l hB (by omega) I e f (by omega) I.length 0 0 B (by omega) (by simpa using h) _
end Go.Proofs.Ytjednkbgdbalnaa.Pure
