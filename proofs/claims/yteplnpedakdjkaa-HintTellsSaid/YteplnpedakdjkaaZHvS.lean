/- What a scan tells is the document's: over numbers and lists alone. -/
import Derived.Test.YteplnpedakdjkaaZPtx10
import Derived.Test.YteplnpedakdjkaaZGe
import Derived.Test.YteplnpedakdjkaaZHvR
namespace Go.Proofs.Yteplnpedakdjkaa.Pure
open Go.RowKit Go.Proofs.Yteplnpedakdjkaa.Pt Go.Proofs.YteplnpedakdjkaaW.PrintWords Go.Proofs.YteplnpedakdjkaaW.PrintLast Go.Proofs.Yteplnpedakdjkaa.Fr Go.Proofs.Yteplnpedakdjkaa.Ext Go.Proofs.Yteplnpedakdjkaa.Sc

theorem scan_bad {l : List Int} {a : Nat} {I : List Itm} {B e : Nat} {f : Int} (h : Scan l a I B e f) : a + 9 * B ≤ l.length := by
  induction h with
  | done a h => omega
  | stop a e xs h hf he => omega
  | pass a n I B e f h hn hf t ih => omega
  | take a n x I B e f h hn hf t ih => omega
theorem step_of (l : List Int) (hB : IsBytes l) (hm : l.length ≤ 20000) {a : Nat} {J : List Itm} {B e : Nat} {f : Int} (h : Scan l a J B e f) : ∀ (bad k : Nat), bad + B ≤ 20000 → 90002 + l.length ≤ k + a →
    (J = [] → souterrainref03_step.l0 k l (a : Int) (bad : Int) = some (0, 0, [], (e : Int), ((bad + B : Nat) : Int), f)) ∧
    (∀ x I, J = x :: I → ∃ B1 B2, B = B1 + B2 ∧ Scan l (x.1 + x.2.1) I B2 e f ∧ 9 ≤ x.2.1 ∧ souterrainref03_step.l0 k l (a : Int) (bad : Int) = some ((x.1 : Int), (x.2.1 : Int), x.2.2, ((x.1 + x.2.1 : Nat) : Int), ((bad + B1 : Nat) : Int), 0)) := by
  induction h with
  | done a h =>
    intro bad k hb hk
    obtain ⟨k, rfl⟩ : ∃ m, k = m + 1 := ⟨k - 1, by omega⟩
    refine ⟨fun _ => ?_, fun x I hJ => by cases hJ⟩
    rw [souterrainref03_step.l0, if_neg (by omega)]
    rfl
  | stop a e xs h hf he =>
    intro bad k hb hk
    obtain ⟨k, rfl⟩ : ∃ m, k = m + 1 := ⟨k - 1, by omega⟩
    refine ⟨fun _ => ?_, fun x I hJ => by cases hJ⟩
    rw [souterrainref03_step.l0, if_pos (by omega), if_pos (by omega), if_pos (by omega), Int.toNat_natCast, ref02_first _ (hB.drop a) (by rw [List.length_drop]; omega) k (by omega), Option.bind_some, hf]
    dsimp only
    rw [if_neg (by omega), if_pos rfl]
    rfl
  | pass a n I B e f h hn hf t ih =>
    intro bad k hb hk
    obtain ⟨k, rfl⟩ : ∃ m, k = m + 1 := ⟨k - 1, by omega⟩
    have e0 : souterrainref03_step.l0 (k + 1) l (a : Int) (bad : Int) = souterrainref03_step.l0 k l ((a + n : Nat) : Int) ((bad + 1 : Nat) : Int) := by
      rw [souterrainref03_step.l0, if_pos (by omega), if_pos (by omega), if_pos (by omega), Int.toNat_natCast, ref02_first _ (hB.drop a) (by rw [List.length_drop]; omega) k (by omega), Option.bind_some, hf]
      dsimp only
      rw [if_neg (by omega), if_neg (by omega), w64 _ (by omega) (by omega), w64 _ (by omega) (by omega)]
      rfl
    rw [e0]
    obtain ⟨i1, i2⟩ := ih (bad + 1) k (by omega) (by omega)
    refine ⟨fun hJ => ?_, fun x I hJ => ?_⟩
    · rw [i1 hJ, show bad + 1 + B = bad + (B + 1) by omega]
    · obtain ⟨B1, B2, j1, j2, j3, j4⟩ := i2 x I hJ
      exact ⟨B1 + 1, B2, by omega, j2, j3, by rw [j4, show bad + 1 + B1 = bad + (B1 + 1) by omega]⟩
  | take a n y I B e f h hn hf t ih =>
    intro bad k hb hk
    obtain ⟨k, rfl⟩ : ∃ m, k = m + 1 := ⟨k - 1, by omega⟩
    refine ⟨fun hJ => (by cases hJ), fun x I hJ => ?_⟩
    injection hJ with e1 e2
    subst e1 e2
    refine ⟨0, B, by omega, t, hn, ?_⟩
    rw [souterrainref03_step.l0, if_pos (by omega), if_pos (by omega), if_pos (by omega), Int.toNat_natCast, ref02_first _ (hB.drop a) (by rw [List.length_drop]; omega) k (by omega), Option.bind_some, hf]
    dsimp only
    rw [if_pos rfl, w64 _ (by omega) (by omega)]
    rfl
theorem ref03_all_loop (l : List Int) (hB : IsBytes l) (hm : l.length ≤ 20000) (J : List Itm) : ∀ (a B e : Nat) (f : Int) (bad : Nat) (pre : List Itm), Scan l a J B e f → bad + B ≤ 20000 → pre.length + J.length ≤ 20000 → ∀ k, 111000 + J.length ≤ k →
    souterrainref03_All.l0 k l (pre.map toS) (a : Int) (bad : Int) = some ((pre ++ J).map toS, ((bad + B : Nat) : Int), (e : Int), f) := by
  induction J with
  | nil =>
    intro a B e f bad pre h hb hp k hk
    obtain ⟨k, rfl⟩ : ∃ m, k = m + 1 := ⟨k - 1, by omega⟩
    have := scan_le h
    rw [souterrainref03_All.l0, souterrainref03_step.f, show (0 : Int) = ((0 : Nat) : Int) from rfl, (step_of l hB hm h 0 k (by omega) (by omega)).1 rfl, Option.bind_some]
    dsimp only
    rw [if_pos (by rfl), w64 _ (by omega) (by omega), List.append_nil, Nat.zero_add, show (bad : Int) + (B : Int) = ((bad + B : Nat) : Int) by omega]
  | cons x J ih =>
    intro a B e f bad pre h hb hp k hk
    rw [List.length_cons] at hp hk
    obtain ⟨k, rfl⟩ : ∃ m, k = m + 1 := ⟨k - 1, by omega⟩
    have := scan_le h
    obtain ⟨B1, B2, rfl, j2, j3, j4⟩ := (step_of l hB hm h 0 k (by omega) (by omega)).2 x J rfl
    rw [souterrainref03_All.l0, souterrainref03_step.f, show (0 : Int) = ((0 : Nat) : Int) from rfl, j4, Option.bind_some]
    dsimp only
    rw [if_neg (by omega), if_pos (by rw [List.length_map]; omega), w64 _ (by omega) (by omega), Nat.zero_add, show (bad : Int) + (B1 : Int) = ((bad + B1 : Nat) : Int) by omega]
    have hih := ih (x.1 + x.2.1) B2 e f (bad + B1) (pre ++ [x]) j2 (by omega) (by rw [List.length_append, List.length_singleton]; omega) k (by omega)
    rw [List.map_append, List.map_singleton, List.append_assoc, List.singleton_append, show bad + B1 + B2 = bad + (B1 + B2) by omega] at hih
    exact hih

/-- What the document's scan tells of any bytes. -/
theorem ref03_all (l : List Int) (hB : IsBytes l) (hm : l.length ≤ 20000) {J : List Itm} {B e : Nat} {f : Int} (h : Scan l 0 J B e f) (k : Nat) (hk : 131000 ≤ k) : souterrainref03_All.f k l = some (J.map toS, (B : Int), (e : Int), f) := by
  have hc := scan_count h
  have hb := scan_bad h
  have := ref03_all_loop l hB hm J 0 B e f 0 [] h (by omega) (by simp; omega) k (by omega)
  simpa [souterrainref03_All.f] using this
end Go.Proofs.Yteplnpedakdjkaa.Pure

