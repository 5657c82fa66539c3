/- The document's hints are the machine's: Get, and all of HintTells. Over lists alone. -/
import Derived.Test.YteplnpedakdjkaaZPtx14
import Derived.Test.YteplnpedakdjkaaZHvP
import Derived.Test.YteplnpedakdjkaaZHvS
namespace Go.Proofs.Yteplnpedakdjkaa.Hv
set_option linter.unusedVariables false
set_option linter.unusedSimpArgs false
open Go.RowKit Go.Proofs.Yteplnpedakdjkaa.Pt Go.Proofs.YteplnpedakdjkaaW.PrintWords Go.Proofs.YteplnpedakdjkaaW.PrintLast Go.Proofs.Yteplnpedakdjkaa.Fr Go.Proofs.Yteplnpedakdjkaa.Ext Go.Proofs.Yteplnpedakdjkaa.Sc Go.Proofs.Yteplnpedakdjkaa.Hn Go.Proofs.Yteplnpedakdjkaa.Pure Go.Proofs.Yteplnpedakdjkaa.Hu

theorem str_same {a b : List Int} (ha : IsBytes a) (hb : IsBytes b) : (strOfNums a).toList = (strOfNums b).toList ↔ a = b := by
  constructor
  · intro h
    rw [list_key, list_key] at h
    have := congrArg bytesOf (key_inj h)
    rwa [bytesOf_str a ha, bytesOf_str b hb] at this
  · intro h; rw [h]
theorem rd_part (l : List Int) (i : Nat) (h : i < 4) : rd ((l.take 5).drop 1) (i : Int) = rd l ((i + 1 : Nat) : Int) := by
  unfold rd
  rw [Int.toNat_natCast, Int.toNat_natCast, List.getD_eq_getElem?_getD, List.getD_eq_getElem?_getD, List.getElem?_drop, List.getElem?_take_of_lt (by omega), Nat.add_comm 1 i]
theorem unfour_f (l : List Int) (hB : IsBytes l) (h : 8 ≤ l.length) : souterrainref11_unfour.f ((l.take 5).drop 1) = some (rd l 1 * 16777216 + rd l 2 * 65536 + rd l 3 * 256 + rd l 4) := by
  have hl : ((l.take 5).drop 1).length = 4 := by rw [List.length_drop, List.length_take]; omega
  have e0 := rd_part l 0 (by omega)
  have e1 := rd_part l 1 (by omega)
  have e2 := rd_part l 2 (by omega)
  have e3 := rd_part l 3 (by omega)
  have r : ∀ i : Int, 0 ≤ i → i < 7 → 0 ≤ rd l i ∧ rd l i < 256 := fun i hi0 hi => hB _ (rd_mem l i (by omega) (by omega))
  have r1 := r 1 (by omega) (by omega)
  have r2 := r 2 (by omega) (by omega)
  have r3 := r 3 (by omega) (by omega)
  have r4 := r 4 (by omega) (by omega)
  unfold souterrainref11_unfour.f
  rw [hl, if_pos (by omega), if_pos (by omega), if_pos (by omega), if_pos (by omega)]
  rw [show rd ((l.take 5).drop 1) 0 = rd l 1 from e0, show rd ((l.take 5).drop 1) 1 = rd l 2 from e1, show rd ((l.take 5).drop 1) 2 = rd l 3 from e2, show rd ((l.take 5).drop 1) 3 = rd l 4 from e3]
  rw [w64 (rd l 1) (by omega) (by omega), w64 (rd l 2) (by omega) (by omega), w64 (rd l 3) (by omega) (by omega), w64 (rd l 4) (by omega) (by omega), w64 (16777216 * rd l 1) (by omega) (by omega), w64 (65536 * rd l 2) (by omega) (by omega), w64 (256 * rd l 3) (by omega) (by omega),
    w64 (16777216 * rd l 1 + 65536 * rd l 2) (by omega) (by omega), w64 (16777216 * rd l 1 + 65536 * rd l 2 + 256 * rd l 3) (by omega) (by omega), w64 (16777216 * rd l 1 + 65536 * rd l 2 + 256 * rd l 3 + rd l 4) (by omega) (by omega)]
  congr 1
  omega
theorem hint_is (l : List Int) (hB : IsBytes l) (h : 8 ≤ l.length) : (⟨wrap64 (rd l 0), strOfNums (l.drop 7), rd l 1 * 16777216 + rd l 2 * 65536 + rd l 3 * 256 + rd l 4, wrap64 ((wrap64 (256 * (wrap64 (rd l 5)))) + (wrap64 (rd l 6)))⟩ : Hi) = hintL l := by
  have r : ∀ i : Int, 0 ≤ i → i < 7 → 0 ≤ rd l i ∧ rd l i < 256 := fun i hi0 hi => hB _ (rd_mem l i (by omega) (by omega))
  have r0 := r 0 (by omega) (by omega)
  have r5 := r 5 (by omega) (by omega)
  have r6 := r 6 (by omega) (by omega)
  rw [w64 (rd l 0) (by omega) (by omega), w64 (rd l 5) (by omega) (by omega), w64 (rd l 6) (by omega) (by omega), w64 (256 * rd l 5) (by omega) (by omega), w64 (256 * rd l 5 + rd l 6) (by omega) (by omega), Int.mul_comm 256 (rd l 5)]
  rfl
/-- The hints of all bodies but the last one. -/
def refGo : List (List Int) → List Hi → Option (List Hi)
  | x :: y :: t, out => if x.length < 8 then none else refGo (y :: t) (out ++ [hintL x])
  | _, out => some out
/-- What is told of them. -/
def endR (b : List Int) (size : Int) (out : List Hi) : List Hi × Bool := if b.length = 0 then ([], false) else if Hu.putAll out size = b then (out, true) else ([], false)
theorem putAll_bytes (l : List Hi) (a : Int) : IsBytes (Hu.putAll l a) := by
  unfold Hu.putAll
  split
  · exact putH_bytes _ _
  · intro x hx; cases hx
theorem get_end (b : List Int) (hB : IsBytes b) (size : Int) (out : List Hi) (I : List Itm) (i : Nat) (hi : I.length ≤ i + 1) (hi2 : i ≤ 1010) (ho : out.length ≤ 1010) (K : Nat) (hK : 2000000 ≤ K) :
    souterrainref11_Get.l0 (K + 1) b size out (I.map toS) (i : Int) = some (endR b size out) := by
  rw [souterrainref11_Get.l0, w64 _ (by omega) (by omega), if_neg (by rw [List.length_map]; omega)]
  unfold endR
  by_cases h0 : b.length = 0
  · rw [if_pos (by omega), if_pos h0]
  · rw [if_neg (by omega), if_neg h0, ref_put out size ho K hK, Option.bind_some]
    by_cases h : Hu.putAll out size = b
    · rw [if_pos ((str_same (putAll_bytes _ _) hB).2 h), if_pos h]
    · rw [if_neg (fun e => h ((str_same (putAll_bytes _ _) hB).1 e)), if_neg h]
theorem get_loop (b : List Int) (hB : IsBytes b) (size : Int) (I : List Itm) (hA : AllBytes (bods I)) (hm : I.length ≤ 1000) (n : Nat) : ∀ (i : Nat) (out : List Hi), i + n = I.length → out.length ≤ i → ∀ K, n + 2000001 ≤ K →
    souterrainref11_Get.l0 K b size out (I.map toS) (i : Int) = some (match refGo ((bods I).drop i) out with | none => ([], false) | some o => endR b size o) := by
  have hbl : (bods I).length = I.length := List.length_map _
  induction n with
  | zero =>
    intro i out hi ho K hK
    obtain ⟨K, rfl⟩ : ∃ j, K = j + 1 := ⟨K - 1, by omega⟩
    rw [List.drop_eq_nil_of_le (by omega), get_end b hB size out I i (by omega) (by omega) (by omega) K (by omega)]
    rfl
  | succ n ih =>
    intro i out hi ho K hK
    obtain ⟨K, rfl⟩ : ∃ j, K = j + 1 := ⟨K - 1, by omega⟩
    have hil : i < (bods I).length := by omega
    have hxi : (bods I)[i] = I[i].2.2 := List.getElem_map _
    rw [List.drop_eq_getElem_cons hil]
    cases n with
    | zero =>
      rw [List.drop_eq_nil_of_le (by omega), get_end b hB size out I i (by omega) (by omega) (by omega) K (by omega)]
      rfl
    | succ n =>
      have hil2 : i + 1 < (bods I).length := by omega
      have hx : IsBytes (bods I)[i] := hA _ (List.getElem_mem hil)
      have hrd : (rd_T53 (I.map toS) (i : Int)).f2 = (bods I)[i] := by
        have h1 := rdI_at (I.map toS) i (by rw [List.length_map]; omega)
        have h2 : rd_T53 (I.map toS) (i : Int) = (I.map toS)[i]'(by rw [List.length_map]; omega) := h1.symm
        rw [h2, List.getElem_map, hxi]; rfl
      rw [souterrainref11_Get.l0, w64 _ (by omega) (by omega), if_pos (by rw [List.length_map]; omega), if_pos (by omega), if_pos (by rw [List.length_map]; omega), hrd]
      generalize (bods I)[i] = x at hx
      by_cases hs : x.length < 8
      · rw [if_pos (by omega), List.drop_eq_getElem_cons hil2]
        simp only [refGo, if_pos hs]
      · rw [if_neg (by omega), if_pos (by omega), if_pos (by omega), if_pos (by decide), if_pos (by omega), unfour_f x hx (by omega), Option.bind_some, if_pos (by omega), if_pos (by omega), if_pos (by omega), hint_is x hx (by omega), show (i : Int) + 1 = ((i + 1 : Nat) : Int) by omega,
          ih (i + 1) (out ++ [hintL x]) (by omega) (by rw [List.length_append, List.length_singleton]; omega) K (by omega), List.drop_eq_getElem_cons hil2]
        simp only [refGo, if_neg hs]
theorem scan_items {l : List Int} (hB : IsBytes l) {a : Nat} {I : List Itm} {B e : Nat} {f : Int} (h : Scan l a I B e f) : AllBytes (bods I) := by
  induction h with
  | done a h => intro x hx; cases hx
  | stop a e xs h hf1 he => intro x hx; cases hx
  | pass a n I B e f h hn hf1 t ih => exact ih
  | take a n x I B e f h hn hf1 t ih =>
    obtain ⟨xs, k, ee, hk, ⟨rfl, rfl, he⟩ | ⟨m, rfl, hm, hml, ⟨rfl, rfl⟩ | ⟨rfl, p1, p2, p3, p4, p5⟩⟩⟩ := first_kinds (l.drop a) (hB.drop a)
    · rw [hf1] at hk; simp only [Prod.mk.injEq] at hk; omega
    · rw [hf1] at hk; simp only [Prod.mk.injEq] at hk; omega
    · rw [hf1] at hk
      simp only [Prod.mk.injEq] at hk
      obtain ⟨rfl, hk2, _⟩ := hk
      intro y hy
      rcases List.mem_cons.1 hy with rfl | hy
      · exact p5
      · exact ih y hy
theorem bods_its (g : List (List Int)) (h : ∀ x ∈ g, 1 ≤ x.length ∧ x.length ≤ 8192) : ∀ a, bods (its a g) = g := by
  induction g with
  | nil => intro a; rfl
  | cons x g ih =>
    intro a
    rw [its, if_pos (h x List.mem_cons_self)]
    simp only [bods, List.map_cons] at ih ⊢
    rw [ih (fun y hy => h y (List.mem_cons_of_mem _ hy))]
theorem ref_recs (y : List Hi) (hf : ∀ h ∈ y, fineH h = true) (e : List Int) : ∀ out, refGo (recs y ++ [e]) out = some (out ++ y) := by
  induction y with
  | nil => intro out; simp [recs, refGo]
  | cons h t ih =>
    intro out
    have h1 := hf h List.mem_cons_self
    have h2 := ((fine_iff h).1 h1).2.1
    have h3 := bodyL_len h
    have h4 := ih (fun x hx => hf x (List.mem_cons_of_mem _ hx)) (out ++ [h])
    obtain ⟨z, t', ht⟩ : ∃ z t', recs t ++ [e] = z :: t' := by cases recs t <;> exact ⟨_, _, rfl⟩
    show refGo (bodyL h :: (recs t ++ [e])) out = _
    rw [ht] at h4 ⊢
    rw [refGo, if_neg (by omega), hint_body_back h h1, h4, List.append_assoc]
    rfl
theorem ref_len (g : List (List Int)) : ∀ out o, refGo g out = some o → o.length ≤ out.length + g.length := by
  induction g with
  | nil => intro out o h; simp only [refGo, Option.some.injEq] at h; subst h; omega
  | cons x g ih =>
    intro out o h
    cases g with
    | nil => simp only [refGo, Option.some.injEq] at h; subst h; omega
    | cons y t =>
      rw [refGo] at h
      by_cases hx : x.length < 8
      · rw [if_pos hx] at h; cases h
      · rw [if_neg hx] at h
        have := ih _ _ h
        simp only [List.length_append, List.length_cons, List.length_nil] at this ⊢
        omega
theorem ref_get (b : List Int) (hB : IsBytes b) (hm : b.length ≤ 9000) (size : Int) (k : Nat) (hk : 3000000 ≤ k) : ∃ y is, hint_Get.f b size = some (y, is) ∧ souterrainref11_Get.f k b size = some (y, is) ∧ y.length ≤ 9000 := by
  obtain ⟨I, B, e, f, hsc⟩ := scan_ex b hB (b.length + 1) 0 (Nat.zero_le _) (by omega)
  have hcnt := scan_count hsc
  have hA := scan_items hB hsc
  have hR : souterrainref11_Get.f k b size = some (match refGo (bods I) [] with | none => ([], false) | some o => endR b size o) := by
    unfold souterrainref11_Get.f
    rw [ref03_all b hB (by omega) hsc k (by omega), Option.bind_some]
    have := get_loop b hB size I hA (by omega) I.length 0 [] (by omega) (Nat.le_refl _) k (by omega)
    rw [List.drop_zero] at this
    exact this
  obtain ⟨y, is, hg, h1, h2⟩ := get_any b size hB (by omega)
  refine ⟨y, is, hg, ?_, ?_⟩
  · rw [hR]
    cases is with
    | true =>
      obtain ⟨p1, p2, p3, p4, p5⟩ := h2 rfl
      have hf : ∀ h ∈ y, fineH h = true := fun h hh => right_fine p1 hh
      have hw := scan_whole (recs y ++ [endL (cat (recs y)) (y.length : Int) size])
      rw [← putH_cat, p4] at hw
      have e1 := all_of b hB (by omega) hsc
      have e2 := all_of b hB (by omega) hw
      rw [e1] at e2
      simp only [Option.some.injEq, Prod.mk.injEq] at e2
      have hb : ∀ J : List Itm, bods J = (J.map toS).map fun s => s.f2 := fun J => by simp only [bods, List.map_map]; rfl
      have hbI : bods I = recs y ++ [endL (cat (recs y)) (y.length : Int) size] := by
        rw [hb I, e2.1, ← hb, bods_its]
        intro x hx
        rcases List.mem_append.1 hx with hx | hx
        · obtain ⟨h, hh, rfl⟩ := List.mem_map.1 hx
          have h3 := ((fine_iff h).1 (hf h hh)).2.1
          have h4 := bodyL_len h
          omega
        · simp only [List.mem_singleton] at hx
          subst hx
          rw [endL_len]; omega
      rw [hbI, ref_recs y hf]
      have hne : b.length ≠ 0 := by
        rw [← p4, putH, List.length_append, (put_end _ _ _).2]; omega
      simp only [endR, if_neg hne, List.nil_append, Hu.putAll, if_pos (show rightL y = true ∧ 0 ≤ size ∧ size ≤ 1073741824 from ⟨p1, p2, p3⟩), p4, if_true]
    | false =>
      rw [h1 rfl]
      cases ho : refGo (bods I) [] with
      | none => rfl
      | some o =>
        have hol := ref_len _ _ _ ho
        have hbl : (bods I).length = I.length := List.length_map _
        simp only [List.length_nil] at hol
        simp only [endR]
        by_cases h0 : b.length = 0
        · rw [if_pos h0]
        · rw [if_neg h0]
          by_cases hp : Hu.putAll o size = b
          · exfalso
            unfold Hu.putAll at hp
            by_cases hr : rightL o = true ∧ 0 ≤ size ∧ size ≤ 1073741824
            · rw [if_pos hr] at hp
              have := get_put o size size hr.1 hr.2.1 hr.2.2 (by omega)
              rw [hp, hg, if_pos rfl] at this
              simp at this
            · rw [if_neg hr] at hp
              exact h0 (by rw [← hp]; rfl)
          · rw [if_neg hp]
  · cases is with
    | true => have := (h2 rfl).2.2.2.2; omega
    | false => rw [h1 rfl]; exact Nat.zero_le _
end Go.Proofs.Yteplnpedakdjkaa.Hv

