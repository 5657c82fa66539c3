/- What is told of two rows, one behind the other. Over lists alone. -/
import Derived.Test.YteplnpedakdjkaaHuO
namespace Go.Proofs.Yteplnpedakdjkaa.Hu
set_option linter.unusedVariables false
set_option linter.unusedSimpArgs false
open Go.RowKit Go.Proofs.Yteplnpedakdjkaa.Pt Go.Proofs.YteplnpedakdjkaaW.PrintWords Go.Proofs.YteplnpedakdjkaaW.PrintLast Go.Proofs.Yteplnpedakdjkaa.Fr Go.Proofs.Yteplnpedakdjkaa.Ext Go.Proofs.Yteplnpedakdjkaa.Sc Go.Proofs.Yteplnpedakdjkaa.Hn Go.Proofs.Yteplnpedakdjkaa.Pure

theorem told_append (a b : List Fo) (h : Hi) : Told (a ++ b) h ↔ Told b h ∨ (Told a h ∧ ¬ ∃ x ∈ b, tellsF x = true ∧ keyL x.f2.f1 = keyL h.f1) := by
  induction b using snoc_ind with
  | nil =>
    rw [List.append_nil]
    constructor
    · exact fun ha => .inr ⟨ha, fun ⟨x, hx, _⟩ => by cases hx⟩
    · rintro (⟨i, hi, _⟩ | ⟨ha, _⟩)
      · cases hi
      · exact ha
  | snoc f x ih =>
    rw [← List.append_assoc, told_snoc, told_snoc, ih]
    constructor
    · rintro (hp | ⟨hb | ⟨ha, he⟩, hq⟩)
      · exact .inl (.inl hp)
      · exact .inl (.inr ⟨hb, hq⟩)
      · refine .inr ⟨ha, fun ⟨y, hy, hyt⟩ => ?_⟩
        rcases List.mem_append.1 hy with hy | hy
        · exact he ⟨y, hy, hyt⟩
        · simp at hy
          subst hy
          exact hq hyt
    · rintro ((hp | ⟨hb, hq⟩) | ⟨ha, he⟩)
      · exact .inl hp
      · exact .inr ⟨.inl hb, hq⟩
      · exact .inr ⟨.inr ⟨ha, fun ⟨y, hy, hyt⟩ => he ⟨y, List.mem_append_left _ hy, hyt⟩⟩, fun hq => he ⟨x, List.mem_append_right _ (List.mem_singleton.2 rfl), hq⟩⟩
theorem nodup_len {l : List Hi} : ∀ {m : List Hi}, l.Nodup → (∀ x ∈ l, x ∈ m) → l.length ≤ m.length := by
  induction l with
  | nil => intro m _ _; exact Nat.zero_le _
  | cons x l ih =>
    intro m hn hs
    rw [List.nodup_cons] at hn
    obtain ⟨s, t, rfl⟩ := List.mem_iff_append.1 (hs x (List.mem_cons_self ..))
    have := @ih (s ++ t) hn.2 (fun y hy => by
      have h1 := hs y (List.mem_cons_of_mem _ hy)
      rcases List.mem_append.1 h1 with h1 | h1
      · exact List.mem_append_left _ h1
      · rcases List.mem_cons.1 h1 with rfl | h1
        · exact absurd hy hn.1
        · exact List.mem_append_right _ h1)
    simp only [List.length_append, List.length_cons] at this ⊢
    omega
theorem parted_old (a b : List Fo) : ∀ h ∈ ofL a, (∀ y ∈ ofL b, keyL y.f1 ≠ keyL h.f1) → h ∈ ofL (a ++ b) := by
  intro h hh hn
  refine (of_told _ _).2 ((told_append a b h).2 (.inr ⟨(of_told _ _).1 hh, fun ⟨x, hx, ht, hk⟩ => ?_⟩))
  obtain ⟨y, hy, e⟩ := of_has b x hx ht
  exact hn y hy (e.trans hk)
theorem parted_new (a b : List Fo) : ∀ h ∈ ofL b, h ∈ ofL (a ++ b) := fun h hh => (of_told _ _).2 ((told_append a b h).2 (.inl ((of_told _ _).1 hh)))
theorem parted_most (a b : List Fo) : (ofL (a ++ b)).length ≤ (ofL a).length + (ofL b).length := by
  rw [← List.length_append]
  refine nodup_len (rises_nodup (ofL_rises _)) fun h hh => ?_
  rcases (told_append a b h).1 ((of_told _ _).1 hh) with h1 | ⟨h1, _⟩
  · exact List.mem_append_right _ ((of_told _ _).2 h1)
  · exact List.mem_append_left _ ((of_told _ _).2 h1)
theorem parted_least (a b : List Fo) : (ofL b).length ≤ (ofL (a ++ b)).length := nodup_len (rises_nodup (ofL_rises _)) (parted_new a b)
theorem rises_at {l : List Hi} (h : Rises l) {i j : Nat} {x y : Hi} (hi : l[i]? = some x) (hj : l[j]? = some y) (hij : i < j) : keyL x.f1 < keyL y.f1 := by
  obtain ⟨gi, rfl⟩ := List.getElem?_eq_some_iff.1 hi
  obtain ⟨gj, rfl⟩ := List.getElem?_eq_some_iff.1 hj
  exact (List.pairwise_iff_getElem.1 h) i j gi gj hij
end Go.Proofs.Yteplnpedakdjkaa.Hu
