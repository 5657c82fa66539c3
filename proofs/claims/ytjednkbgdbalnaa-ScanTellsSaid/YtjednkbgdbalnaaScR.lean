/- What a scan tells, as a relation: over numbers and lists alone. -/
import Derived.Test.YtjednkbgdbalnaaScP
namespace Go.Proofs.Ytjednkbgdbalnaa.Pure
open Go.RowKit Go.Proofs.YtjednkbgdbalnaaW.PrintWords Go.Proofs.YtjednkbgdbalnaaW.PrintMore Go.Proofs.Ytjednkbgdbalnaa.Fr Go.Proofs.Ytjednkbgdbalnaa.Ext

/-- From a place on: the bodies, how many are passed by, where it ends, and why. -/
inductive Scan (l : List Int) : Nat → List Itm → Nat → Nat → Int → Prop
  | done (a : Nat) (h : a = l.length) : Scan l a [] 0 a 0
  | stop (a : Nat) (e : Int) (xs : List Int) (h : a < l.length) (hf : firstL (l.drop a) = (xs, 0, e)) (he : e = 21 ∨ e = 22) : Scan l a [] 0 a e
  | pass (a n : Nat) (I : List Itm) (B e : Nat) (f : Int) (h : a + n ≤ l.length) (hn : 9 ≤ n) (hf : firstL (l.drop a) = ([], (n : Int), 22)) (t : Scan l (a + n) I B e f) : Scan l a I (B + 1) e f
  | take (a n : Nat) (x : List Int) (I : List Itm) (B e : Nat) (f : Int) (h : a + n ≤ l.length) (hn : 9 ≤ n) (hf : firstL (l.drop a) = (x, (n : Int), 0)) (t : Scan l (a + n) I B e f) : Scan l a ((a, n, x) :: I) B e f
theorem scan_le {l : List Int} {a : Nat} {I : List Itm} {B e : Nat} {f : Int} (h : Scan l a I B e f) : a ≤ l.length ∧ a ≤ e ∧ e ≤ l.length ∧ (f = 0 ∨ f = 21 ∨ f = 22) ∧ (f = 0 → e = l.length) := by
  induction h with
  | done a h => omega
  | stop a e xs h hf he => omega
  | pass a n I B e f h hn hf t ih => omega
  | take a n x I B e f h hn hf t ih => omega
theorem scan_ex (l : List Int) (hB : IsBytes l) : ∀ (k a : Nat), a ≤ l.length → l.length < a + k → ∃ I B e f, Scan l a I B e f := by
  intro k
  induction k with
  | zero => intro a h1 h2; omega
  | succ k ih =>
    intro a h1 h2
    by_cases h : a < l.length
    · obtain ⟨xs, kk, ee, hf, ⟨rfl, rfl, he⟩ | ⟨n, rfl, hn, hl, ⟨rfl, rfl⟩ | ⟨rfl, h3, h4, h5, h6, h7⟩⟩⟩ := first_kinds (l.drop a) (hB.drop a)
      · exact ⟨_, _, _, _, .stop a ee [] h hf he⟩
      · rw [List.length_drop] at hl
        obtain ⟨I, B, e, f, t⟩ := ih (a + n) (by omega) (by omega)
        exact ⟨_, _, _, _, .pass a n I B e f (by omega) hn hf t⟩
      · rw [List.length_drop] at hl
        obtain ⟨I, B, e, f, t⟩ := ih (a + n) (by omega) (by omega)
        exact ⟨_, _, _, _, .take a n xs I B e f (by omega) hn hf t⟩
    · exact ⟨_, _, _, _, .done a (by omega)⟩
theorem scan_go {l : List Int} {a : Nat} {I : List Itm} {B e : Nat} {f : Int} (h : Scan l a I B e f) : ∀ (k bad : Nat) (pre : List Itm), l.length < a + k → scanGo k l a bad pre = (pre ++ I, bad + B, e, f) := by
  induction h with
  | done a h =>
    intro k bad pre hk
    obtain ⟨k, rfl⟩ : ∃ k', k = k' + 1 := ⟨k - 1, by omega⟩
    rw [scanGo, if_neg (by omega), List.append_nil]
    rfl
  | stop a e xs h hf he =>
    intro k bad pre hk
    obtain ⟨k, rfl⟩ : ∃ k', k = k' + 1 := ⟨k - 1, by omega⟩
    rw [scanGo, if_pos h, hf, if_pos rfl, List.append_nil]
    rfl
  | pass a n I B e f h hn hf t ih =>
    intro k bad pre hk
    obtain ⟨k, rfl⟩ : ∃ k', k = k' + 1 := ⟨k - 1, by omega⟩
    rw [scanGo, if_pos (by omega), hf]
    simp only [Int.toNat_natCast]
    rw [if_neg (by omega), if_neg (by decide), ih k (bad + 1) pre (by omega)]
    simp only [Prod.mk.injEq, true_and, and_true]
    omega
  | take a n x I B e f h hn hf t ih =>
    intro k bad pre hk
    obtain ⟨k, rfl⟩ : ∃ k', k = k' + 1 := ⟨k - 1, by omega⟩
    rw [scanGo, if_pos (by omega), hf]
    simp only [Int.toNat_natCast]
    rw [if_neg (by omega), if_pos trivial, ih k bad _ (by omega), List.append_assoc]
    rfl
theorem scan_tail {l : List Int} {a : Nat} {x : Itm} {J I : List Itm} {B e : Nat} {f : Int} (h : Scan l a J B e f) (hJ : J = x :: I) : a ≤ x.1 ∧ 9 ≤ x.2.1 ∧ x.1 + x.2.1 ≤ l.length ∧ firstL (l.drop x.1) = (x.2.2, (x.2.1 : Int), 0) ∧ ∃ B', Scan l (x.1 + x.2.1) I B' e f := by
  induction h with
  | done a h => cases hJ
  | stop a e xs h hf he => cases hJ
  | pass a n I B e f h hn hf t ih =>
    obtain ⟨h1, h2, h3, h4, h5⟩ := ih hJ
    exact ⟨by omega, h2, h3, h4, h5⟩
  | take a n y I B e f h hn hf t ih =>
    injection hJ with e1 e2
    subst e1 e2
    exact ⟨Nat.le_refl _, hn, h, hf, _, t⟩
end Go.Proofs.Ytjednkbgdbalnaa.Pure
