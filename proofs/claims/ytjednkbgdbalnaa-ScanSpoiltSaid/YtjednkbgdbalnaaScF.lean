/- Frames one behind the other: what is put, and what a scan tells of them. Over numbers and lists alone. -/
import Derived.Test.YtjednkbgdbalnaaScS
import Derived.Test.YtjednkbgdbalnaaPureRef02t
namespace Go.Proofs.Ytjednkbgdbalnaa.Pure
open Go.RowKit Go.Proofs.Ytjednkbgdbalnaa.Pt Go.Proofs.YtjednkbgdbalnaaW.PrintWords Go.Proofs.YtjednkbgdbalnaaW.PrintLast Go.Proofs.Ytjednkbgdbalnaa.Fr Go.Proofs.Ytjednkbgdbalnaa.Ext Go.Proofs.Ytjednkbgdbalnaa.Sc

/-- Frames one behind the other. -/
def cat : List (List Int) → List Int
  | [] => []
  | x :: g => putL x ++ cat g
/-- Where each begins, how long it is, what it has. -/
def its : Nat → List (List Int) → List Itm
  | _, [] => []
  | a, x :: g => if 1 ≤ x.length ∧ x.length ≤ 8192 then (a, x.length + 8, x) :: its (a + (x.length + 8)) g else its a g
/-- How much there is. -/
def tot : List (List Int) → Nat
  | [] => 0
  | x :: g => x.length + tot g
theorem cat_len (g : List (List Int)) : (cat g).length ≤ tot g + 8 * g.length := by
  induction g with
  | nil => exact Nat.le_refl _
  | cons x g ih =>
    have h := put_len x
    have h2 : sizeI x.length ≤ x.length + 8 := by
      by_cases h1 : 1 ≤ x.length ∧ x.length ≤ 8192
      · rw [sizeI_of _ (by omega) (by omega)]; omega
      · rw [sizeI_no _ (by omega)]; omega
    simp only [cat, tot, List.length_append, List.length_cons]
    omega
theorem its_len (g : List (List Int)) : ∀ a, (its a g).length ≤ g.length := by
  induction g with
  | nil => intro a; exact Nat.le_refl _
  | cons x g ih =>
    intro a
    simp only [its]
    split
    · have := ih (a + (x.length + 8)); simp only [List.length_cons]; omega
    · have := ih a; simp only [List.length_cons]; omega
theorem tot_mem (g : List (List Int)) (x : List Int) (h : x ∈ g) : x.length ≤ tot g := by
  induction g with
  | nil => cases h
  | cons y g ih =>
    simp only [tot]
    rcases List.mem_cons.1 h with rfl | h
    · omega
    · have := ih h; omega
def AllBytes (g : List (List Int)) : Prop := ∀ x ∈ g, IsBytes x
theorem AllBytes.tail {x : List Int} {g : List (List Int)} (h : AllBytes (x :: g)) : AllBytes g := fun y hy => h y (List.mem_cons_of_mem _ hy)
theorem cat_bytes (g : List (List Int)) (h : AllBytes g) : IsBytes (cat g) := by
  induction g with
  | nil => exact fun x hx => by cases hx
  | cons x g ih => exact (put_bytes x (h x List.mem_cons_self)).append (ih h.tail)
theorem cat_append (a b : List (List Int)) : cat (a ++ b) = cat a ++ cat b := by
  induction a with
  | nil => rfl
  | cons x a ih => simp only [List.cons_append, cat, ih, List.append_assoc]
theorem its_append (a b : List (List Int)) : ∀ n, its n (a ++ b) = its n a ++ its (n + (cat a).length) b := by
  induction a with
  | nil => intro n; rfl
  | cons x a ih =>
    intro n
    simp only [List.cons_append, its, cat, List.length_append]
    split
    · rename_i h
      rw [ih, put_yes x h.1 h.2, frame_len]
      simp only [List.cons_append, Nat.add_assoc]
    · rename_i h
      rw [ih, put_no x (by omega)]
      simp
theorem its_shift (g : List (List Int)) (c : Nat) : ∀ n, its (c + n) g = (its n g).map fun x => (x.1 + c, x.2.1, x.2.2) := by
  induction g with
  | nil => intro n; rfl
  | cons x g ih =>
    intro n
    simp only [its]
    split
    · rw [Nat.add_assoc, ih, List.map_cons, Nat.add_comm c n]
    · exact ih n
/-- Frames are scanned, whatever stands behind. -/
theorem scan_cat (l : List Int) (g : List (List Int)) : ∀ (a : Nat) (rest : List Int) (I : List Itm) (B e : Nat) (f : Int), a ≤ l.length → l.drop a = cat g ++ rest → Scan l (a + (cat g).length) I B e f → Scan l a (its a g ++ I) B e f := by
  induction g with
  | nil => intro a rest I B e f ha hd h; exact h
  | cons x g ih =>
    intro a rest I B e f ha hd h
    simp only [cat, List.length_append] at hd h
    by_cases hg : 1 ≤ x.length ∧ x.length ≤ 8192
    · rw [put_yes x hg.1 hg.2, frame_len] at h
      rw [put_yes x hg.1 hg.2] at hd
      have hlen := congrArg List.length hd
      simp only [List.length_drop, List.length_append, frame_len] at hlen
      simp only [its, if_pos hg, List.cons_append]
      refine Scan.take a (x.length + 8) x _ B e f (by omega) (by omega) ?_ ?_
      · rw [hd, List.append_assoc, first_frame x _ hg.1 hg.2]; simp
      · refine ih (a + (x.length + 8)) rest I B e f (by omega) ?_ (by rw [show a + (x.length + 8) + (cat g).length = a + (x.length + 8 + (cat g).length) by omega]; exact h)
        rw [← List.drop_drop, hd, List.append_assoc, show x.length + 8 = (frameOf x).length from (frame_len x).symm, List.drop_left]
    · rw [put_no x (by omega)] at h hd
      simp only [its, if_neg hg]
      exact ih a rest I B e f ha (by simpa using hd) (by simpa using h)
theorem scan_whole (g : List (List Int)) : Scan (cat g) 0 (its 0 g) 0 (cat g).length 0 := by
  have := scan_cat (cat g) g 0 [] [] 0 (cat g).length 0 (Nat.zero_le _) (by simp) (by rw [Nat.zero_add]; exact .done _ rfl)
  simpa using this

/-- Are bodies too much? -/
theorem great_loop (l : List (List Int)) (hm : l.length ≤ maxLen) (n : Nat) : ∀ (i s : Nat), i + n = l.length → l.length ≤ s → s ≤ 9223372036854775807 → ∃ b, (∀ k, n + 1 ≤ k → souterrainlaw03_great.l0 k l (s : Int) (i : Int) = some b) ∧ (b = false → s + tot (l.drop i) < 20000) := by
  have hmx : maxLen = 9223372036854775807 := rfl
  induction n with
  | zero =>
    intro i s hi hs hs2
    refine ⟨decide ((s : Int) ≥ 20000), fun k hk => ?_, fun h => ?_⟩
    · obtain ⟨k, rfl⟩ : ∃ m, k = m + 1 := ⟨k - 1, by omega⟩
      rw [souterrainlaw03_great.l0, if_neg (by omega)]
    · rw [List.drop_eq_nil_of_le (by omega)]
      have := of_decide_eq_false h
      simp only [tot]; omega
  | succ n ih =>
    intro i s hi hs hs2
    by_cases h2 : (s : Int) < 20000
    · have hlt : i < l.length := by omega
      have hr : rd_L2 l (i : Int) = l[i] := by
        unfold rd_L2
        rw [Int.toNat_natCast, List.getD_eq_getElem?_getD, List.getElem?_eq_getElem hlt]; rfl
      have hmn : mn ((rd_L2 l (i : Int)).length : Int) 20000 = ((min (l[i]).length 20000 : Nat) : Int) := by
        rw [hr]; unfold mn; split <;> omega
      obtain ⟨b, h3, h4⟩ := ih (i + 1) (s + min (l[i]).length 20000) (by omega) (by omega) (by omega)
      refine ⟨b, fun k hk => ?_, fun h => ?_⟩
      · obtain ⟨k, rfl⟩ : ∃ m, k = m + 1 := ⟨k - 1, by omega⟩
        rw [souterrainlaw03_great.l0, if_pos (by omega), if_pos h2, if_pos (by omega), hmn, w64 _ (by omega) (by omega), w64 _ (by omega) (by omega)]
        have := h3 k (by omega)
        rw [show (s : Int) + ((min (l[i]).length 20000 : Nat) : Int) = ((s + min (l[i]).length 20000 : Nat) : Int) by omega, show (i : Int) + 1 = ((i + 1 : Nat) : Int) by omega]
        exact this
      · have := h4 h
        rw [List.drop_eq_getElem_cons hlt]
        simp only [tot]
        omega
    · refine ⟨true, fun k hk => ?_, fun h => by cases h⟩
      obtain ⟨k, rfl⟩ : ∃ m, k = m + 1 := ⟨k - 1, by omega⟩
      rw [souterrainlaw03_great.l0, if_pos (by omega), if_neg h2]
      congr 1
      exact decide_eq_true (by omega)
theorem great_ex (l : List (List Int)) (hm : l.length ≤ maxLen) : ∃ b, (∀ k, l.length + 1 ≤ k → souterrainlaw03_great.f k l = some b) ∧ (b = false → l.length + tot l < 20000) := by
  obtain ⟨b, h1, h2⟩ := great_loop l hm l.length 0 l.length (by omega) (Nat.le_refl _) hm
  exact ⟨b, fun k hk => h1 k hk, fun h => by simpa using h2 h⟩

/-- What is put. -/
theorem put_loop (l : List (List Int)) (hB : AllBytes l) (hm : l.length + tot l < 20000) (n : Nat) : ∀ (i : Nat) (p : List Int) (q : List Itm), i + n = l.length → p.length + tot (l.drop i) + 8 * n ≤ 200000 → q.length + n ≤ 20000 → ∀ k, 90000 + n + 1 ≤ k →
    souterrainlaw03_put.l0 k l p (q.map toS) (i : Int) = some (p ++ cat (l.drop i), (q ++ its p.length (l.drop i)).map toS) := by
  induction n with
  | zero =>
    intro i p q hi hp hq k hk
    obtain ⟨k, rfl⟩ : ∃ m, k = m + 1 := ⟨k - 1, by omega⟩
    rw [souterrainlaw03_put.l0, if_neg (by omega), List.drop_eq_nil_of_le (by omega)]
    simp [cat, its]
  | succ n ih =>
    intro i p q hi hp hq k hk
    have hlt : i < l.length := by omega
    obtain ⟨k, rfl⟩ : ∃ m, k = m + 1 := ⟨k - 1, by omega⟩
    have hr : rd_L2 l (i : Int) = l[i] := by
      unfold rd_L2
      rw [Int.toNat_natCast, List.getD_eq_getElem?_getD, List.getElem?_eq_getElem hlt]; rfl
    rw [List.drop_eq_getElem_cons hlt] at hp ⊢
    simp only [tot] at hp
    rw [souterrainlaw03_put.l0, if_pos (by omega), if_pos (by omega), hr, ref02_put _ (hB _ (List.getElem_mem hlt)) k (by omega), Option.bind_some, w64 _ (by omega) (by omega), show (i : Int) + 1 = ((i + 1 : Nat) : Int) by omega]
    by_cases hg : 1 ≤ (l[i]).length ∧ (l[i]).length ≤ 8192
    · have hpl : (putL l[i]).length = (l[i]).length + 8 := by rw [put_yes _ hg.1 hg.2, frame_len]
      rw [if_pos (by omega), if_pos (by rw [List.length_map]; omega), if_pos (by omega)]
      have h := ih (i + 1) (p ++ putL l[i]) (q ++ [(p.length, (l[i]).length + 8, l[i])]) (by omega) (by rw [List.length_append, hpl]; omega) (by rw [List.length_append, List.length_singleton]; omega) k (by omega)
      rw [List.map_append, List.map_singleton] at h
      have e : toS (p.length, (l[i]).length + 8, l[i]) = ⟨(p.length : Int), ((putL l[i]).length : Int), l[i]⟩ := by
        rw [hpl]; rfl
      rw [e] at h
      rw [h]
      simp only [cat, its, if_pos hg, List.length_append, hpl, List.append_assoc, List.singleton_append]
    · have hpl : putL l[i] = [] := put_no _ (by omega)
      rw [hpl, if_neg (by simp), ih (i + 1) p q (by omega) (by omega) (by omega) k (by omega)]
      simp only [cat, its, if_neg hg, hpl, List.nil_append]
theorem put_ex (l : List (List Int)) (hB : AllBytes l) (hm : l.length + tot l < 20000) (k : Nat) (hk : 120000 ≤ k) : souterrainlaw03_put.f k l = some (cat l, (its 0 l).map toS) := by
  have := put_loop l hB hm l.length 0 [] [] (by omega) (by simp; omega) (by simp; omega) k (by omega)
  rw [souterrainlaw03_put.f]
  simpa using this
end Go.Proofs.Ytjednkbgdbalnaa.Pure
