/- A row of records found whose parts lead to what came in: read in the world W0 of their coming. -/
import Derived.Test.YteplnpedakdjkaaZPtx0
import Derived.Test.YteplnpedakdjkaaZGb
namespace Go.Proofs.Yteplnpedakdjkaa.Hu
set_option linter.unusedVariables false
set_option linter.unusedSimpArgs false
open Go.RowKit Go.Proofs.Yteplnpedakdjkaa.Pt Go.Proofs.YteplnpedakdjkaaW.PrintWords Go.Proofs.YteplnpedakdjkaaW.PrintLast Go.Proofs.Yteplnpedakdjkaa.Fr Go.Proofs.Yteplnpedakdjkaa.Ext Go.Proofs.Yteplnpedakdjkaa.Hn Go.Proofs.Yteplnpedakdjkaa.Pure

/-- An element's cells, and that they say it. -/
theorem at_F {w : World} {A : Option Addr} {n : Nat} {xs : List Fo} (h : Kd.C k39 w A n xs) (i : Nat) (h1 : i < n) : ∃ ad A7 c7 A8 c8, A = some ad ∧
    w.cell? (ad.add (i * 9)) = some (.int .i64 (rd_T39 xs i).f0) ∧ w.cell? ⟨(ad.add (i * 9)).block, (ad.add (i * 9)).off + 1, none⟩ = some (.int .i64 (rd_T39 xs i).f1) ∧
    w.cell? ⟨(ad.add (i * 9)).block, (ad.add (i * 9)).off + 2, none⟩ = some (.int .i64 (rd_T39 xs i).f2.f0) ∧ w.cell? ⟨(ad.add (i * 9)).block, (ad.add (i * 9)).off + 3, none⟩ = some (.string (rd_T39 xs i).f2.f1) ∧
    w.cell? ⟨(ad.add (i * 9)).block, (ad.add (i * 9)).off + 4, none⟩ = some (.int .i64 (rd_T39 xs i).f2.f2) ∧ w.cell? ⟨(ad.add (i * 9)).block, (ad.add (i * 9)).off + 5, none⟩ = some (.int .i64 (rd_T39 xs i).f2.f3) ∧
    w.cell? ⟨(ad.add (i * 9)).block, (ad.add (i * 9)).off + 6, none⟩ = some (.int .i64 (rd_T39 xs i).f2.f4) ∧ w.cell? ⟨(ad.add (i * 9)).block, (ad.add (i * 9)).off + 7, none⟩ = some (.slice A7 (rd_T39 xs i).f2.f5.length c7) ∧
    w.cell? ⟨(ad.add (i * 9)).block, (ad.add (i * 9)).off + 8, none⟩ = some (.slice A8 (rd_T39 xs i).f2.f6.length c8) ∧
    k39.K w (rd_T39 xs i) [.int .i64 (rd_T39 xs i).f0, .int .i64 (rd_T39 xs i).f1, .int .i64 (rd_T39 xs i).f2.f0, .string (rd_T39 xs i).f2.f1, .int .i64 (rd_T39 xs i).f2.f2, .int .i64 (rd_T39 xs i).f2.f3, .int .i64 (rd_T39 xs i).f2.f4, .slice A7 (rd_T39 xs i).f2.f5.length c7, .slice A8 (rd_T39 xs i).f2.f6.length c8] := by
  obtain ⟨ad, c, e, _, hK, hc0⟩ := Kd.C_get h z39 (i : Int) (by omega) (by omega)
  rw [Int.toNat_natCast] at hK hc0
  have hK' : k39.K w (rd_T39 xs i) c := by unfold rd_T39; rw [Int.toNat_natCast]; exact hK
  clear hK
  have hc : ∀ j u, c[j]? = some u → w.cell? (ad.add (i * 9 + j)) = some u := hc0
  clear hc0
  generalize rd_T39 xs i = x at hK' ⊢
  obtain ⟨A7, c7, A8, c8, rfl, l7, g7, l8, g8⟩ := k39_open hK'
  exact ⟨ad, A7, c7, A8, c8, e, hc 0 _ rfl, by rw [← add_field _ _ 1 (by omega)]; exact hc 1 _ rfl, by rw [← add_field _ _ 2 (by omega)]; exact hc 2 _ rfl, by rw [← add_field _ _ 3 (by omega)]; exact hc 3 _ rfl, by rw [← add_field _ _ 4 (by omega)]; exact hc 4 _ rfl, by rw [← add_field _ _ 5 (by omega)]; exact hc 5 _ rfl, by rw [← add_field _ _ 6 (by omega)]; exact hc 6 _ rfl, by rw [← add_field _ _ 7 (by omega)]; exact hc 7 _ rfl, by rw [← add_field _ _ 8 (by omega)]; exact hc 8 _ rfl, hK'⟩
/-- A hint's cells. -/
theorem at_H {w : World} {A : Option Addr} {n : Nat} {xs : List Hi} (h : Kd.C k41 w A n xs) (i : Nat) (x : Hi) (hx : xs[i]? = some x) : ∃ ad, A = some ad ∧ w.cell? (ad.add (i * 4)) = some (.int .i64 x.f0) ∧ w.cell? ⟨(ad.add (i * 4)).block, (ad.add (i * 4)).off + 1, none⟩ = some (.string x.f1) ∧
    w.cell? ⟨(ad.add (i * 4)).block, (ad.add (i * 4)).off + 2, none⟩ = some (.int .i64 x.f2) ∧ w.cell? ⟨(ad.add (i * 4)).block, (ad.add (i * 4)).off + 3, none⟩ = some (.int .i64 x.f3) := by
  obtain ⟨hi, e⟩ := List.getElem?_eq_some_iff.1 hx
  obtain ⟨ad, e0, x0, x1, x2, x3⟩ := at_T41 h (i : Int) (by omega) (by have := h.1; omega)
  have hr : rd_T41 xs (i : Int) = x := by
    unfold rd_T41
    rw [Int.toNat_natCast, List.getD_eq_getElem?_getD, hx]; rfl
  rw [Int.toNat_natCast, hr] at x0 x1 x2 x3
  exact ⟨ad, e0, x0, x1, x2, x3⟩
/-- A cell of an earlier world. -/
theorem cell_on {w w1 : World} (hb : RowKit.Below w.heap.size w w1) {a : Addr} {v : Value} (h : w.cell? a = some v) : w1.cell? a = some v := (hb.cell (World.block_lt_of_cell? w _ h)).trans h
end Go.Proofs.Yteplnpedakdjkaa.Hu

