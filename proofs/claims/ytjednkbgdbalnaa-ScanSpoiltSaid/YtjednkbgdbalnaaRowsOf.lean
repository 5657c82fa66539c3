/- A row of rows of bytes that comes in, opened: as a list of lists of bytes. -/
import Derived.Deep.Matrix
import Derived.Test.YtjednkbgdbalnaaPureCommon
import Derived.Test.YtjednkbgdbalnaaWWords
namespace Go.Proofs.Ytjednkbgdbalnaa.Rows8
open Go.ChangeShapes Go.WideShapes Go.RowKit Go.Deep Go.Proofs.YtjednkbgdbalnaaW.PrintWords Go.Proofs.Ytjednkbgdbalnaa.Fr Go.Proofs.Ytjednkbgdbalnaa.Pure

theorem rows_of {H : Type} {enc : TypeId × Value → H} {P : Program} {W : World} {base : Nat} {held : Bool} {t e q : TypeId} {a : Option Addr} {len cap : Nat} {d : DataW H} {p : List MemPlace}
    (ht : P.underlying t = some (.slice e)) (he : P.underlying e = some (.slice q)) (hq : P.underlying q = some (.int .u8)) (ce : P.cellsOf e = 1) (cq : P.cellsOf q = 1)
    (h : DataW.Trod enc P W base (fun _ => true) held t (.slice a len cap) d p) :
    ∃ l0 : List (List Int), l0.length = len ∧ len ≤ cap ∧ Kd.C (Kd.slice q (Kd.int .u8)) W a len l0 ∧ ∀ l ∈ l0, IsBytes l ∧ l.length ≤ maxLen := by
  obtain ⟨fuel, hf⟩ := h
  rcases open_int_rows ht he hq ce cq hf with ⟨hcs, _⟩ | ⟨x, l, c, A, L, C, Z, hcs, _, hl, hm, _, hr⟩
  · simp [Value.cells] at hcs
    obtain ⟨rfl, rfl, rfl⟩ := hcs
    exact ⟨[], rfl, Nat.le_refl _, ⟨rfl, Nat.zero_le _, fun h => absurd h (by omega)⟩, fun l hl => by cases hl⟩
  · simp [Value.cells] at hcs
    obtain ⟨rfl, rfl, rfl⟩ := hcs
    have hlen : ∀ r, r < cap → ((Z r).take (L r)).length = L r := by
      intro r h1
      obtain ⟨_, h2, _, h3, _⟩ := hr r h1
      rw [List.length_take]; omega
    refine ⟨(List.range len).map fun r => (Z r).take (L r), by simp, hl, ⟨by simp, ?_, fun _ => ⟨x, rfl, ?_⟩⟩, ?_⟩
    · have : maxLen = 9223372036854775807 := rfl
      omega
    · intro j p hj
      obtain ⟨hj1, rfl⟩ : j < len ∧ p = (Z j).take (L j) := by
        rw [List.getElem?_map] at hj
        by_cases h1 : j < len
        · rw [List.getElem?_range h1] at hj
          exact ⟨h1, (Option.some.inj hj).symm⟩
        · rw [List.getElem?_eq_none (by simpa using h1)] at hj
          cases hj
      obtain ⟨g1, g2, g3, g4, g5, g6, g7⟩ := hr j (by omega)
      refine ⟨[.slice (A j) (L j) (C j)], rfl, ⟨A j, C j, by rw [hlen j (by omega)], by rw [hlen j (by omega)]; exact g2, ?_⟩, ?_⟩
      · rw [hlen j (by omega)]
        refine ⟨hlen j (by omega), ?_, fun hpos => ?_⟩
        · have : maxLen = 9223372036854775807 := rfl
          omega
        · cases hA : A j with
          | none => have := g6 hA; omega
          | some ad =>
            refine ⟨ad, rfl, fun i z hz => ⟨[.int .u8 z], rfl, rfl, ?_⟩⟩
            obtain ⟨_, hc⟩ := g7 ad hA
            have hi : i < L j := by
              have := (List.getElem?_eq_some_iff.1 hz).1
              rw [hlen j (by omega)] at this
              exact this
            rw [List.getElem?_take_of_lt hi] at hz
            intro k u hk
            obtain ⟨rfl, rfl⟩ : k = 0 ∧ u = .int .u8 z := by
              rcases k with _ | k
              · exact ⟨rfl, (Option.some.inj hk).symm⟩
              · cases hk
            have h2 := hc i (by omega)
            rw [List.getD_eq_getElem?_getD, hz] at h2
            show W.cell? (ad.add (i * 1 + 0)) = _
            simpa using h2
      · intro i u hi
        obtain ⟨rfl, rfl⟩ : i = 0 ∧ u = .slice (A j) (L j) (C j) := by
          rcases i with _ | i
          · exact ⟨rfl, (Option.some.inj hi).symm⟩
          · cases hi
        show W.cell? (x.add (j * 1 + 0)) = _
        simpa using g1
    · intro l hl1
      obtain ⟨r, h1, rfl⟩ := List.mem_map.1 hl1
      obtain ⟨g1, g2, g3, g4, g5, g6, g7⟩ := hr r (by have := List.mem_range.1 h1; omega)
      refine ⟨(bytes_of_wf _ g5).take _, ?_⟩
      rw [hlen r (by have := List.mem_range.1 h1; omega)]
      omega
end Go.Proofs.Ytjednkbgdbalnaa.Rows8
