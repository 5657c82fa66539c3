/- What hint.Of tells: each key's last record. Over lists alone. -/
import Derived.Test.YteplnpedakdjkaaGe
import Derived.Test.YteplnpedakdjkaaGc
import Derived.Sort.Walk0
namespace Go.Proofs.Yteplnpedakdjkaa.Hu
set_option linter.unusedVariables false
set_option linter.unusedSimpArgs false
open Go.RowKit Go.Proofs.Yteplnpedakdjkaa.Pt Go.Proofs.YteplnpedakdjkaaW.PrintWords Go.Proofs.YteplnpedakdjkaaW.PrintLast Go.Proofs.Yteplnpedakdjkaa.Fr Go.Proofs.Yteplnpedakdjkaa.Ext Go.Proofs.Yteplnpedakdjkaa.Sc Go.Proofs.Yteplnpedakdjkaa.Hn Go.Proofs.Yteplnpedakdjkaa.Pure

theorem snoc_ind {α : Type} {p : List α → Prop} (nil : p []) (snoc : ∀ f x, p f → p (f ++ [x])) : ∀ l, p l := by
  have h : ∀ l : List α, p l.reverse := by
    intro l
    induction l with
    | nil => exact nil
    | cons x l ih => rw [List.reverse_cons]; exact snoc _ _ ih
  intro l
  have := h l.reverse
  rwa [List.reverse_reverse] at this
theorem list_key (s : ByteArray) : s.toList = keyL s := by
  unfold ByteArray.toList keyL
  rw [loop_list]
  simp
theorem key_inj {a b : ByteArray} (h : keyL a = keyL b) : a = b := congrArg ByteArray.mk (Array.toList_inj.mp h)
theorem of_snoc (l : List Fo) (x : Fo) : ∀ acc, ofGo (l ++ [x]) acc = if tellsF x then insH (hintF x) (ofGo l acc) else ofGo l acc := by
  induction l with
  | nil => intro acc; rfl
  | cons y l ih => intro acc; exact ih _
theorem ofL_snoc (l : List Fo) (x : Fo) : ofL (l ++ [x]) = if tellsF x then insH (hintF x) (ofL l) else ofL l := of_snoc l x []
theorem of_rises (l : List Fo) : ∀ acc, Rises acc → Rises (ofGo l acc) := by
  induction l with
  | nil => intro acc h; exact h
  | cons x l ih =>
    intro acc h
    refine ih _ ?_
    by_cases ht : tellsF x = true
    · rw [if_pos ht]; exact ins_rises _ _ h
    · rw [if_neg ht]; exact h
theorem ofL_rises (l : List Fo) : Rises (ofL l) := of_rises l [] List.Pairwise.nil
/-- A record's hint, of which no later one has the key. -/
def Told (f : List Fo) (h : Hi) : Prop := ∃ i, ∃ hi : i < f.length, tellsF f[i] = true ∧ hintF f[i] = h ∧ ∀ j, ∀ hj : j < f.length, i < j → tellsF f[j] = true → keyL (f[j]).f2.f1 ≠ keyL h.f1
theorem told_snoc (f : List Fo) (x : Fo) (h : Hi) : Told (f ++ [x]) h ↔ (tellsF x = true ∧ hintF x = h) ∨ (Told f h ∧ ¬ (tellsF x = true ∧ keyL x.f2.f1 = keyL h.f1)) := by
  constructor
  · rintro ⟨i, hi, h1, h2, h3⟩
    by_cases hl : i < f.length
    · rw [List.getElem_append_left hl] at h1 h2
      refine .inr ⟨⟨i, hl, h1, h2, fun j hj hij ht => ?_⟩, fun hx => ?_⟩
      · have := h3 j (by simp; omega) hij
        rw [List.getElem_append_left hj] at this
        exact this ht
      · have := h3 f.length (by simp) hl
        simp only [List.getElem_concat_length] at this
        exact this hx.1 hx.2
    · obtain rfl : i = f.length := by simp at hi; omega
      simp only [List.getElem_concat_length] at h1 h2
      exact .inl ⟨h1, h2⟩
  · rintro (⟨h1, h2⟩ | ⟨⟨i, hi, h1, h2, h3⟩, h4⟩)
    · refine ⟨f.length, by simp, by simpa using h1, by simpa using h2, fun j hj hij => ?_⟩
      simp at hj
      omega
    · refine ⟨i, by simp; omega, by rw [List.getElem_append_left hi]; exact h1, by rw [List.getElem_append_left hi]; exact h2, fun j hj hij ht => ?_⟩
      by_cases hl : j < f.length
      · rw [List.getElem_append_left hl] at ht ⊢
        exact h3 j hl hij ht
      · obtain rfl : j = f.length := by simp at hj; omega
        simp only [List.getElem_concat_length] at ht ⊢
        exact fun e => h4 ⟨ht, e⟩
theorem of_told (f : List Fo) : ∀ h, h ∈ ofL f ↔ Told f h := by
  induction f using snoc_ind with
  | nil =>
    intro h
    constructor
    · intro hh; cases hh
    · rintro ⟨i, hi, _⟩; cases hi
  | snoc f x ih =>
    intro h
    rw [told_snoc, ← ih h]
    rw [ofL_snoc]
    by_cases ht : tellsF x = true
    · rw [if_pos ht, ins_mem _ _ (ofL_rises f)]
      constructor
      · rintro (rfl | ⟨h1, h2⟩)
        · exact .inl ⟨ht, rfl⟩
        · exact .inr ⟨h1, fun e => h2 e.2.symm⟩
      · rintro (⟨_, rfl⟩ | ⟨h1, h2⟩)
        · exact .inl rfl
        · exact .inr ⟨h1, fun e => h2 ⟨ht, e.symm⟩⟩
    · rw [if_neg ht]
      constructor
      · exact fun h1 => .inr ⟨h1, fun e => ht e.1⟩
      · rintro (⟨h1, _⟩ | ⟨h1, _⟩)
        · exact absurd h1 ht
        · exact h1
/-- Each record's key is told. -/
theorem of_has (f : List Fo) : ∀ x ∈ f, tellsF x = true → ∃ h ∈ ofL f, keyL h.f1 = keyL x.f2.f1 := by
  induction f using snoc_ind with
  | nil => intro x hx; cases hx
  | snoc f y ih =>
    intro x hx ht
    rw [ofL_snoc]
    by_cases hy : tellsF y = true
    · rw [if_pos hy]
      by_cases hk : keyL y.f2.f1 = keyL x.f2.f1
      · exact ⟨hintF y, (ins_mem _ _ (ofL_rises f) _).2 (.inl rfl), hk⟩
      · rcases List.mem_append.1 hx with hx | hx
        · obtain ⟨h, h1, h2⟩ := ih x hx ht
          exact ⟨h, (ins_mem _ _ (ofL_rises f) _).2 (.inr ⟨h1, fun e => hk (by rw [← h2, e]; rfl)⟩), h2⟩
        · simp at hx
          subst hx
          exact absurd rfl hk
    · rw [if_neg hy]
      rcases List.mem_append.1 hx with hx | hx
      · exact ih x hx ht
      · simp at hx
        subst hx
        exact absurd ht hy
theorem ofL_len (f : List Fo) : (ofL f).length ≤ f.length := by
  have := of_len f []
  simpa [ofL] using this
end Go.Proofs.Yteplnpedakdjkaa.Hu
