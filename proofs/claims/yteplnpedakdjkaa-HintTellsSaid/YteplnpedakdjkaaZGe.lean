/- Texts of this claim, joined: ScG, HuP, HuG, HuM, HrA. -/
import Derived.Test.YteplnpedakdjkaaZGc
import Derived.Test.YteplnpedakdjkaaZGa
import Derived.Test.YteplnpedakdjkaaZHnH
import Derived.Deep.Slices
import Derived.Test.YteplnpedakdjkaaRows
import Derived.Test.YteplnpedakdjkaaZGb
import Derived.Test.YteplnpedakdjkaaZWWords
section
/- Frames one behind the other: what is put, and what a scan tells of them. Over numbers and lists alone. -/
namespace Go.Proofs.Yteplnpedakdjkaa.Pure
open Go.RowKit Go.Proofs.Yteplnpedakdjkaa.Pt Go.Proofs.YteplnpedakdjkaaW.PrintWords Go.Proofs.YteplnpedakdjkaaW.PrintLast Go.Proofs.Yteplnpedakdjkaa.Fr Go.Proofs.Yteplnpedakdjkaa.Ext Go.Proofs.Yteplnpedakdjkaa.Sc

/-- Frames one behind the other. -/
def cat : List (List Int) → List Int
  | [] => []
  | x :: g => putL x ++ cat g
/-- Where each begins, how long it is, what it has. -/
def its : Nat → List (List Int) → List Itm
  | _, [] => []
  | a, x :: g => if 1 ≤ x.length ∧ x.length ≤ 8192 then (a, x.length + 8, x) :: its (a + (x.length + 8)) g else its a g
/-- How much there is. -/
def tot : List (List Int) → Nat
  | [] => 0
  | x :: g => x.length + tot g
theorem cat_len (g : List (List Int)) : (cat g).length ≤ tot g + 8 * g.length := by
  induction g with
  | nil => exact Nat.le_refl _
  | cons x g ih =>
    have h := put_len x
    have h2 : sizeI x.length ≤ x.length + 8 := by
      by_cases h1 : 1 ≤ x.length ∧ x.length ≤ 8192
      · rw [sizeI_of _ (by omega) (by omega)]; omega
      · rw [sizeI_no _ (by omega)]; omega
    simp only [cat, tot, List.length_append, List.length_cons]
    omega
def AllBytes (g : List (List Int)) : Prop := ∀ x ∈ g, IsBytes x
theorem AllBytes.tail {x : List Int} {g : List (List Int)} (h : AllBytes (x :: g)) : AllBytes g := fun y hy => h y (List.mem_cons_of_mem _ hy)
theorem cat_bytes (g : List (List Int)) (h : AllBytes g) : IsBytes (cat g) := by
  induction g with
  | nil => exact fun x hx => by cases hx
  | cons x g ih => exact (put_bytes x (h x List.mem_cons_self)).append (ih h.tail)
theorem cat_append (a b : List (List Int)) : cat (a ++ b) = cat a ++ cat b := by
  induction a with
  | nil => rfl
  | cons x a ih => simp only [List.cons_append, cat, ih, List.append_assoc]
theorem its_append (a b : List (List Int)) : ∀ n, its n (a ++ b) = its n a ++ its (n + (cat a).length) b := by
  induction a with
  | nil => intro n; rfl
  | cons x a ih =>
    intro n
    simp only [List.cons_append, its, cat, List.length_append]
    split
    · rename_i h
      rw [ih, put_yes x h.1 h.2, frame_len]
      simp only [List.cons_append, Nat.add_assoc]
    · rename_i h
      rw [ih, put_no x (by omega)]
      simp
/-- Frames are scanned, whatever stands behind. -/
theorem scan_cat (l : List Int) (g : List (List Int)) : ∀ (a : Nat) (rest : List Int) (I : List Itm) (B e : Nat) (f : Int), a ≤ l.length → l.drop a = cat g ++ rest → Scan l (a + (cat g).length) I B e f → Scan l a (its a g ++ I) B e f := by
  induction g with
  | nil => intro a rest I B e f ha hd h; exact h
  | cons x g ih =>
    intro a rest I B e f ha hd h
    simp only [cat, List.length_append] at hd h
    by_cases hg : 1 ≤ x.length ∧ x.length ≤ 8192
    · rw [put_yes x hg.1 hg.2, frame_len] at h
      rw [put_yes x hg.1 hg.2] at hd
      have hlen := congrArg List.length hd
      simp only [List.length_drop, List.length_append, frame_len] at hlen
      simp only [its, if_pos hg, List.cons_append]
      refine Scan.take a (x.length + 8) x _ B e f (by omega) (by omega) ?_ ?_
      · rw [hd, List.append_assoc, first_frame x _ hg.1 hg.2]; simp
      · refine ih (a + (x.length + 8)) rest I B e f (by omega) ?_ (by rw [show a + (x.length + 8) + (cat g).length = a + (x.length + 8 + (cat g).length) by omega]; exact h)
        rw [← List.drop_drop, hd, List.append_assoc, show x.length + 8 = (frameOf x).length from (frame_len x).symm, List.drop_left]
    · rw [put_no x (by omega)] at h hd
      simp only [its, if_neg hg]
      exact ih a rest I B e f ha (by simpa using hd) (by simpa using h)
theorem scan_whole (g : List (List Int)) : Scan (cat g) 0 (its 0 g) 0 (cat g).length 0 := by
  have := scan_cat (cat g) g 0 [] [] 0 (cat g).length 0 (Nat.zero_le _) (by simp) (by rw [Nat.zero_add]; exact .done _ rfl)
  simpa using this

theorem all_of (l : List Int) (hB : IsBytes l) (hm : l.length ≤ 1000000000) {I : List Itm} {B e : Nat} {f : Int} (h : Scan l 0 I B e f) : scan_All.f l = some (I.map toS, (B : Int), (e : Int), f) := by
  unfold scan_All.f
  rw [if_pos ⟨(bytesB_iff l).mpr hB, hm⟩, scan_go h _ _ _ (by omega)]
  simp
theorem scan_count {l : List Int} {a : Nat} {I : List Itm} {B e : Nat} {f : Int} (h : Scan l a I B e f) : a + 9 * I.length ≤ l.length := by
  induction h with
  | done a h => simp; omega
  | stop a e xs h hf he => simp; omega
  | pass a n I B e f h hn hf t ih => omega
  | take a n x I B e f h hn hf t ih => simp only [List.length_cons]; omega

end Go.Proofs.Yteplnpedakdjkaa.Pure
end

section
/- What hint.Put puts, and hint.hint tells of a body: over lists alone. -/
namespace Go.Proofs.Yteplnpedakdjkaa.Hu
set_option linter.unusedVariables false
set_option linter.unusedSimpArgs false
open Go.RowKit Go.Proofs.Yteplnpedakdjkaa.Pt Go.Proofs.YteplnpedakdjkaaW.PrintWords Go.Proofs.YteplnpedakdjkaaW.PrintLast Go.Proofs.Yteplnpedakdjkaa.Fr Go.Proofs.Yteplnpedakdjkaa.Ext Go.Proofs.Yteplnpedakdjkaa.Sc Go.Proofs.Yteplnpedakdjkaa.Hn Go.Proofs.Yteplnpedakdjkaa.Pure

theorem bytesOf_bytes (s : ByteArray) : IsBytes (bytesOf s) := by
  intro x hx
  obtain ⟨b, _, rfl⟩ := List.mem_map.1 hx
  have := b.toNat_lt
  omega
theorem str_bytesOf (s : ByteArray) : strOfNums (bytesOf s) = s := by
  have h : (strOfNums (bytesOf s)).data.toList = s.data.toList := by
    rw [strOfNums_data, bytesOf, List.map_map]
    conv => rhs; rw [← List.map_id s.data.toList]
    refine List.map_congr_left fun x hx => ?_
    simp
  exact congrArg ByteArray.mk (Array.toList_inj.mp h)
theorem bytesOf_str (l : List Int) (h : IsBytes l) : bytesOf (strOfNums l) = l := by
  rw [bytesOf, strOfNums_data, List.map_map]
  conv => rhs; rw [← List.map_id l]
  refine List.map_congr_left fun x hx => ?_
  have := h x hx
  simp only [Function.comp, UInt8.toNat_ofNat', id]
  omega
theorem four4_len (n : Int) : (four4 n).length = 4 := rfl
theorem four4_bytes (n : Int) : IsBytes (four4 n) := by
  intro x hx
  simp only [four4, List.mem_cons, List.not_mem_nil, or_false] at hx
  omega
theorem four4_inj (a b : Int) (h0 : 0 ≤ a) (h1 : a < 4294967296) (g0 : 0 ≤ b) (g1 : b < 4294967296) (h : four4 a = four4 b) : a = b := by
  simp only [four4, List.cons.injEq, and_true] at h
  omega
/-- A hint's body. -/
def bodyL (h : Hi) : List Int := ([h.f0 % 256] ++ four4 h.f2 ++ [(h.f3 / 256) % 256, h.f3 % 256]) ++ bytesOf h.f1
theorem bodyL_len (h : Hi) : (bodyL h).length = 7 + h.f1.size := by
  simp only [bodyL, List.length_append, four4_len, bytesOf_length, List.length_cons, List.length_nil]
theorem bodyL_bytes (h : Hi) : IsBytes (bodyL h) := by
  refine ((IsBytes.append (IsBytes.append ?_ (four4_bytes _)) ?_)).append (bytesOf_bytes _)
  · intro x hx
    simp only [List.mem_cons, List.not_mem_nil, or_false] at hx
    omega
  · intro x hx
    simp only [List.mem_cons, List.not_mem_nil, or_false] at hx
    omega
theorem body_f (h : Hi) (hs : h.f1.size ≤ 1000000) : hint_body.f h.f0 h.f1 h.f2 h.f3 = some (bodyL h) := by
  unfold hint_body.f hint_four.f
  simp only [Option.bind_some, List.length_append, List.length_cons, List.length_nil]
  rw [if_pos (by omega)]
  simp only [Option.bind_some, List.length_append, List.length_cons, List.length_nil]
  rw [if_pos (by omega), if_pos (by omega)]
  rfl
theorem or_join (k : Nat) (a b : Int) (h0 : 0 ≤ a) (hd : a % 2 ^ k = 0) (g0 : 0 ≤ b) (g1 : b < 2 ^ k) (h1 : a < 9223372036854775808) (h2 : b < 9223372036854775808) : Go.bits .or .i64 a b = a + b :=
  Go.bits_join .i64 63 (by decide) (fun n h h' => by rw [IntWalk.i64_in] <;> omega) k a b h0 hd (by omega) g0 g1 (by omega)
/-- A body's hint. -/
def hintL (l : List Int) : Hi := ⟨rd l 0, strOfNums (l.drop 7), rd l 1 * 16777216 + rd l 2 * 65536 + rd l 3 * 256 + rd l 4, rd l 5 * 256 + rd l 6⟩
theorem hint_f (l : List Int) (hB : IsBytes l) (hl : 7 < l.length) : hint_hint.f l = some ((hintL l).f0, (hintL l).f1, (hintL l).f2, (hintL l).f3, true) := by
  have r : ∀ i : Int, 0 ≤ i → i < 7 → 0 ≤ rd l i ∧ rd l i < 256 := fun i hi0 hi => hB _ (rd_mem l i (by omega) (by omega))
  have r0 := r 0 (by omega) (by omega)
  have r1 := r 1 (by omega) (by omega)
  have r2 := r 2 (by omega) (by omega)
  have r3 := r 3 (by omega) (by omega)
  have r4 := r 4 (by omega) (by omega)
  have r5 := r 5 (by omega) (by omega)
  have r6 := r 6 (by omega) (by omega)
  unfold hint_hint.f
  rw [if_neg (by omega), if_pos (by omega), if_pos (by omega), if_pos (by omega), if_pos (by omega), if_pos (by omega), if_pos (by omega), if_pos (by omega), if_pos (by omega)]
  rw [w64 (rd l 0) (by omega) (by omega), w64 (rd l 1) (by omega) (by omega), w64 (rd l 2) (by omega) (by omega), w64 (rd l 3) (by omega) (by omega), w64 (rd l 4) (by omega) (by omega), w64 (rd l 5) (by omega) (by omega), w64 (rd l 6) (by omega) (by omega),
    w64 (rd l 1 * 16777216) (by omega) (by omega), w64 (rd l 2 * 65536) (by omega) (by omega), w64 (rd l 3 * 256) (by omega) (by omega), w64 (rd l 5 * 256) (by omega) (by omega)]
  rw [or_join 24 (rd l 1 * 16777216) (rd l 2 * 65536) (by omega) (by omega) (by omega) (by omega) (by omega) (by omega)]
  rw [or_join 16 (rd l 1 * 16777216 + rd l 2 * 65536) (rd l 3 * 256) (by omega) (by omega) (by omega) (by omega) (by omega) (by omega)]
  rw [or_join 8 (rd l 1 * 16777216 + rd l 2 * 65536 + rd l 3 * 256) (rd l 4) (by omega) (by omega) (by omega) (by omega) (by omega) (by omega)]
  rw [or_join 8 (rd l 5 * 256) (rd l 6) (by omega) (by omega) (by omega) (by omega) (by omega) (by omega)]
  rfl
theorem hint_short (l : List Int) (hl : l.length ≤ 7) : ∃ a b c d, hint_hint.f l = some (a, b, c, d, false) := by
  unfold hint_hint.f
  rw [if_pos (by omega)]
  exact ⟨_, _, _, _, rfl⟩
theorem fine_iff (h : Hi) : fineH h = true ↔ (2 ≤ h.f0 ∧ h.f0 ≤ 4) ∧ (1 ≤ h.f1.size ∧ h.f1.size ≤ 64) ∧ (0 ≤ h.f2 ∧ h.f2 ≤ 1073741824) ∧ (9 ≤ h.f3 ∧ h.f3 ≤ 8200) := by
  unfold fineH
  simp only [Bool.and_eq_true, decide_eq_true_eq, and_assoc]
/-- What was put is told. -/
theorem hint_body_back (h : Hi) (hf : fineH h = true) : hintL (bodyL h) = h := by
  obtain ⟨h0, h1, h2, h3⟩ := (fine_iff h).1 hf
  obtain ⟨a, k, b, c⟩ := h
  simp only at h0 h1 h2 h3
  have e : (bodyL ⟨a, k, b, c⟩).drop 7 = bytesOf k := by
    unfold bodyL
    exact List.drop_left' (by simp [four4])
  unfold hintL
  rw [e, str_bytesOf]
  have e0 : rd (bodyL ⟨a, k, b, c⟩) 0 = a % 256 := rfl
  have e1 : rd (bodyL ⟨a, k, b, c⟩) 1 = (b / 16777216) % 256 := rfl
  have e2 : rd (bodyL ⟨a, k, b, c⟩) 2 = (b / 65536) % 256 := rfl
  have e3 : rd (bodyL ⟨a, k, b, c⟩) 3 = (b / 256) % 256 := rfl
  have e4 : rd (bodyL ⟨a, k, b, c⟩) 4 = b % 256 := rfl
  have e5 : rd (bodyL ⟨a, k, b, c⟩) 5 = (c / 256) % 256 := rfl
  have e6 : rd (bodyL ⟨a, k, b, c⟩) 6 = c % 256 := rfl
  rw [e0, e1, e2, e3, e4, e5, e6]
  congr 1 <;> omega
/-- What is told has the bytes. -/
theorem body_hint_back (l : List Int) (hB : IsBytes l) (hl : 7 ≤ l.length) : bodyL (hintL l) = l := by
  have r : ∀ i : Int, 0 ≤ i → i < 7 → 0 ≤ rd l i ∧ rd l i < 256 := fun i hi0 hi => hB _ (rd_mem l i (by omega) (by omega))
  have r0 := r 0 (by omega) (by omega)
  have r1 := r 1 (by omega) (by omega)
  have r2 := r 2 (by omega) (by omega)
  have r3 := r 3 (by omega) (by omega)
  have r4 := r 4 (by omega) (by omega)
  have r5 := r 5 (by omega) (by omega)
  have r6 := r 6 (by omega) (by omega)
  obtain ⟨x0, x1, x2, x3, x4, x5, x6, m, rfl⟩ : ∃ x0 x1 x2 x3 x4 x5 x6 m, l = x0 :: x1 :: x2 :: x3 :: x4 :: x5 :: x6 :: m := by
    match l, hl with
    | x0 :: x1 :: x2 :: x3 :: x4 :: x5 :: x6 :: m, _ => exact ⟨_, _, _, _, _, _, _, _, rfl⟩
  unfold hintL bodyL four4
  simp only [List.drop_succ_cons, List.drop_zero]
  rw [bytesOf_str m (fun x hx => hB x (by simp [hx]))]
  change 0 ≤ x0 ∧ x0 < 256 at r0
  change 0 ≤ x1 ∧ x1 < 256 at r1
  change 0 ≤ x2 ∧ x2 < 256 at r2
  change 0 ≤ x3 ∧ x3 < 256 at r3
  change 0 ≤ x4 ∧ x4 < 256 at r4
  change 0 ≤ x5 ∧ x5 < 256 at r5
  change 0 ≤ x6 ∧ x6 < 256 at r6
  change [x0 % 256] ++ [(x1 * 16777216 + x2 * 65536 + x3 * 256 + x4) / 16777216 % 256, (x1 * 16777216 + x2 * 65536 + x3 * 256 + x4) / 65536 % 256, (x1 * 16777216 + x2 * 65536 + x3 * 256 + x4) / 256 % 256, (x1 * 16777216 + x2 * 65536 + x3 * 256 + x4) % 256] ++ [(x5 * 256 + x6) / 256 % 256, (x5 * 256 + x6) % 256] ++ m = _
  rw [show x0 % 256 = x0 by omega, show (x1 * 16777216 + x2 * 65536 + x3 * 256 + x4) / 16777216 % 256 = x1 by omega, show (x1 * 16777216 + x2 * 65536 + x3 * 256 + x4) / 65536 % 256 = x2 by omega, show (x1 * 16777216 + x2 * 65536 + x3 * 256 + x4) / 256 % 256 = x3 by omega, show (x1 * 16777216 + x2 * 65536 + x3 * 256 + x4) % 256 = x4 by omega, show (x5 * 256 + x6) / 256 % 256 = x5 by omega, show (x5 * 256 + x6) % 256 = x6 by omega]
  rfl
def recs (l : List Hi) : List (List Int) := l.map bodyL
theorem endL_len (fr : List Int) (a b : Int) : (endL fr a b).length = 13 := rfl
theorem endL_bytes (fr : List Int) (a b : Int) : IsBytes (endL fr a b) := by
  intro x hx
  simp only [endL, List.mem_cons, List.mem_append] at hx
  rcases hx with rfl | h | h | h
  · omega
  · exact four4_bytes _ x h
  · exact four4_bytes _ x h
  · exact four4_bytes _ x h
/-- The bytes of hints. -/
def putH (l : List Hi) (size : Int) : List Int := cat (recs l) ++ putL (endL (cat (recs l)) (l.length : Int) size)
def putAll (l : List Hi) (size : Int) : List Int := if rightL l = true ∧ 0 ≤ size ∧ size ≤ 1073741824 then putH l size else []
theorem right_fine {l : List Hi} (h : rightL l = true) {x : Hi} (hx : x ∈ l) : fineH x = true := by
  unfold rightL at h
  rw [Bool.and_eq_true] at h
  exact List.all_eq_true.1 h.2 x hx
theorem put_body (h : Hi) (hs : h.f1.size ≤ 64) : putL (bodyL h) = frameOf (bodyL h) ∧ (putL (bodyL h)).length = 15 + h.f1.size := by
  have e := bodyL_len h
  have p := put_yes (bodyL h) (by omega) (by omega)
  refine ⟨p, ?_⟩
  rw [p, frame_len]
  omega
theorem put_end (fr : List Int) (a b : Int) : putL (endL fr a b) = frameOf (endL fr a b) ∧ (putL (endL fr a b)).length = 21 := by
  have e := endL_len fr a b
  have p := put_yes (endL fr a b) (by omega) (by omega)
  refine ⟨p, ?_⟩
  rw [p, frame_len]
  omega
theorem rdT_at (l : List Hi) (i : Nat) (h : i < l.length) : rd_T41 l (i : Int) = l[i] := by
  unfold rd_T41
  rw [Int.toNat_natCast, List.getD_eq_getElem?_getD, List.getElem?_eq_getElem h]
  rfl
theorem put_loop (l : List Hi) (a : Int) (hm : l.length ≤ 1000000000) (hs : ∀ h ∈ l, h.f1.size ≤ 64) (n : Nat) : ∀ (i : Nat) (fr : List Int), i + n = l.length → fr.length + 80 * n ≤ 100000000000 → ∀ K, n + 1 ≤ K →
    hint_Put.l0 K l a fr l (l.length : Int) (i : Int) = some ((fr ++ cat (recs (l.drop i))) ++ putL (endL (fr ++ cat (recs (l.drop i))) (l.length : Int) a)) := by
  induction n with
  | zero =>
    intro i fr hi hf K hK
    obtain ⟨K, rfl⟩ : ∃ j, K = j + 1 := ⟨K - 1, by omega⟩
    have h2 := (put_end fr (l.length : Int) a).2
    rw [hint_Put.l0, if_neg (by omega), List.drop_eq_nil_of_le (by omega)]
    unfold hint_end.f frame_Put.f
    simp only [Option.bind_some, recs, List.map_nil, cat, List.append_nil]
    rw [if_pos (by omega)]
  | succ n ih =>
    intro i fr hi hf K hK
    obtain ⟨K, rfl⟩ : ∃ j, K = j + 1 := ⟨K - 1, by omega⟩
    have hil : i < l.length := by omega
    have hsz := hs _ (List.getElem_mem hil)
    have hb := put_body l[i] hsz
    rw [hint_Put.l0, if_pos (by omega), if_pos (by omega), if_pos (by omega), rdT_at l i hil, body_f _ (by omega)]
    unfold frame_Put.f
    simp only [Option.bind_some]
    rw [if_pos (by omega), w64 _ (by omega) (by omega), show (i : Int) + 1 = ((i + 1 : Nat) : Int) by omega, ih (i + 1) (fr ++ putL (bodyL l[i])) (by omega) (by rw [List.length_append]; omega) K (by omega), List.drop_eq_getElem_cons hil]
    simp only [recs, List.map_cons, cat, List.append_assoc]
theorem within_f (a : Int) : hint_within.f a 0 1073741824 = some (decide (0 ≤ a ∧ a ≤ 1073741824)) := by
  unfold hint_within.f
  by_cases h : a ≥ 0
  · rw [if_pos h]
    congr 1
    exact decide_eq_decide.2 ⟨fun h2 => ⟨h, h2⟩, fun h2 => h2.2⟩
  · rw [if_neg h, decide_eq_false (by omega)]
theorem put_f (l : List Hi) (a : Int) (hm : l.length ≤ 1000000000) (k : Nat) (hk : l.length + 2 ≤ k) : hint_Put.f k l a = some (putAll l a) := by
  obtain ⟨k, rfl⟩ : ∃ j, k = j + 1 := ⟨k - 1, by omega⟩
  unfold hint_Put.f hint_Right.f putAll
  simp only [Option.bind_some]
  by_cases hr : rightL l = true
  · rw [if_pos hr, within_f, Option.bind_some, hint_Put.j0]
    by_cases ha : 0 ≤ a ∧ a ≤ 1073741824
    · rw [decide_eq_true ha, if_neg (by decide), if_pos ⟨hr, ha⟩]
      have := put_loop l a hm (fun h hh => ((fine_iff h).1 (right_fine hr hh)).2.1.2) l.length 0 [] (by omega) (by simp; omega) k (by omega)
      simpa [putH] using this
    · rw [decide_eq_false ha, if_pos (by decide), if_neg (fun h => ha h.2)]
  · rw [if_neg hr, hint_Put.j0, if_pos rfl, if_neg (fun h => hr h.1)]
end Go.Proofs.Yteplnpedakdjkaa.Hu
end

section
/- What hint.Get tells: of what was put, and of any bytes. Over lists alone. -/
namespace Go.Proofs.Yteplnpedakdjkaa.Hu
set_option linter.unusedVariables false
set_option linter.unusedSimpArgs false
open Go.RowKit Go.Proofs.Yteplnpedakdjkaa.Pt Go.Proofs.YteplnpedakdjkaaW.PrintWords Go.Proofs.YteplnpedakdjkaaW.PrintLast Go.Proofs.Yteplnpedakdjkaa.Fr Go.Proofs.Yteplnpedakdjkaa.Ext Go.Proofs.Yteplnpedakdjkaa.Sc Go.Proofs.Yteplnpedakdjkaa.Hn Go.Proofs.Yteplnpedakdjkaa.Pure

theorem equal_iff {a b : List Int} (ha : IsBytes a) (hb : IsBytes b) : bytes_Equal.f a b = some true ↔ a = b := by
  unfold bytes_Equal.f
  constructor
  · intro h
    exact (str_iff ha hb).1 (of_decide_eq_true (by simpa using h))
  · rintro rfl
    simp
theorem end_inj (fr : List Int) (n a b : Int) (h0 : 0 ≤ a) (h1 : a ≤ 1073741824) (g0 : 0 ≤ b) (g1 : b ≤ 1073741824) (h : endL fr n a = endL fr n b) : a = b := by
  simp only [endL, List.cons.injEq, true_and] at h
  have h2 := List.append_cancel_left h
  have h3 := List.append_inj_left h2 rfl
  exact four4_inj a b h0 (by omega) g0 (by omega) h3
theorem recs_len (l : List Hi) (hf : ∀ h ∈ l, fineH h = true) : tot (recs l) ≤ 71 * l.length := by
  induction l with
  | nil => exact Nat.le_refl _
  | cons x l ih =>
    have h1 := ih (fun h hh => hf h (List.mem_cons_of_mem _ hh))
    have h2 := ((fine_iff x).1 (hf x List.mem_cons_self)).2.1.2
    have h3 := bodyL_len x
    simp only [recs, List.map_cons, tot, List.length_cons] at h1 ⊢
    omega
theorem its_recs (l : List Hi) (hf : ∀ h ∈ l, fineH h = true) : ∀ a, hintsOf ((its a (recs l)).map toS) = some l ∧ (its a (recs l)).length = l.length := by
  induction l with
  | nil => intro a; exact ⟨rfl, rfl⟩
  | cons x l ih =>
    intro a
    have hx := hf x List.mem_cons_self
    have h2 := ((fine_iff x).1 hx).2.1
    have h3 := bodyL_len x
    have h1 := ih (fun h hh => hf h (List.mem_cons_of_mem _ hh)) (a + ((bodyL x).length + 8))
    have e : its a (recs (x :: l)) = (a, (bodyL x).length + 8, bodyL x) :: its (a + ((bodyL x).length + 8)) (recs l) := by
      simp only [recs, List.map_cons, its]
      rw [if_pos (by omega)]
    rw [e]
    refine ⟨?_, by simp only [List.length_cons, h1.2]⟩
    simp only [List.map_cons, hintsOf, toS]
    rw [hint_f (bodyL x) (bodyL_bytes x) (by omega)]
    simp only [h1.1, Option.map_some, hint_body_back x hx]
theorem putH_cat (l : List Hi) (size : Int) : putH l size = cat (recs l ++ [endL (cat (recs l)) (l.length : Int) size]) := by
  rw [cat_append]
  simp only [putH, cat, List.append_nil]
theorem recs_bytes (l : List Hi) : AllBytes (recs l) := by
  intro x hx
  obtain ⟨h, _, rfl⟩ := List.mem_map.1 hx
  exact bodyL_bytes h
theorem putH_bytes (l : List Hi) (size : Int) : IsBytes (putH l size) := (cat_bytes _ (recs_bytes l)).append (put_bytes _ (endL_bytes _ _ _))
theorem putH_len (l : List Hi) (size : Int) (hr : rightL l = true) : (putH l size).length ≤ 79 * l.length + 21 := by
  have h1 := cat_len (recs l)
  have h2 := recs_len l (fun h hh => right_fine hr hh)
  have h3 := (put_end (cat (recs l)) (l.length : Int) size).2
  have h4 : (recs l).length = l.length := List.length_map _
  simp only [putH, List.length_append]
  omega
theorem getR_last (l : List Int) (a : Int) (J : List Itm) (x : Itm) (e : Int) (ha : 0 ≤ a ∧ a ≤ 1073741824) (hx : x.1 ≤ l.length) :
    getR l a (List.map toS (J ++ [x]), 0, e, 0) = match hintsOf (J.map toS) with
      | none => some ([], false)
      | some out => some (if rightL out = true ∧ bytes_Equal.f x.2.2 (endL (l.take x.1) (out.length : Int) a) = some true then (out, true) else ([], false)) := by
  have hlen2 : (List.map toS (J ++ [x])).length = J.length + 1 := by simp
  have hlast : rdI (List.map toS (J ++ [x])) (J.length + 1 - 1) = toS x := by
    rw [← rdI_at _ _ (by rw [hlen2]; omega)]
    simp
  have htake : (List.map toS (J ++ [x])).take (J.length + 1 - 1) = List.map toS J := by
    rw [List.map_append, List.take_left' (by rw [List.length_map]; omega)]
  unfold getR
  simp only [hlen2]
  rw [hlast, htake, if_neg (by
    rintro (h | h | h | h)
    · exact h rfl
    · exact absurd h (by decide)
    · omega
    · exact h ha)]
  cases hintsOf (J.map toS) with
  | none => rfl
  | some out =>
    have hc : 0 ≤ (toS x).f0 ∧ (toS x).f0 ≤ (l.length : Int) := ⟨Int.natCast_nonneg _, Int.ofNat_le.2 hx⟩
    have ht : (toS x).f0.toNat = x.1 := Int.toNat_natCast _
    show (if 0 ≤ (toS x).f0 ∧ (toS x).f0 ≤ (l.length : Int) then _ else _) = _
    rw [if_pos hc, ht]
    rfl
theorem getR_no (l : List Int) (a : Int) (r : List It × Int × Int × Int) (h : r.2.2.2 ≠ 0 ∨ r.2.1 > 0 ∨ r.1.length = 0 ∨ ¬ (0 ≤ a ∧ a ≤ 1073741824)) : getR l a r = some ([], false) := by
  unfold getR
  rw [if_pos h]
theorem get_put (l : List Hi) (size o : Int) (hr : rightL l = true) (h0 : 0 ≤ size) (h1 : size ≤ 1073741824) (hm : l.length ≤ 1000000) :
    hint_Get.f (putH l size) o = some (if o = size then (l, true) else ([], false)) := by
  have hf : ∀ h ∈ l, fineH h = true := fun h hh => right_fine hr hh
  have hl := putH_len l size hr
  have hsc := scan_whole (recs l ++ [endL (cat (recs l)) (l.length : Int) size])
  rw [← putH_cat, its_append] at hsc
  have e1 : its (0 + (cat (recs l)).length) [endL (cat (recs l)) (l.length : Int) size] = [((cat (recs l)).length, 21, endL (cat (recs l)) (l.length : Int) size)] := by
    simp only [its, endL_len, Nat.zero_add]
    rfl
  rw [e1] at hsc
  have hall := all_of _ (putH_bytes l size) (by omega) hsc
  obtain ⟨i1, i2⟩ := its_recs l hf 0
  unfold hint_Get.f
  rw [hall, Option.bind_some]
  have hlen : (List.map toS (its 0 (recs l) ++ [((cat (recs l)).length, 21, endL (cat (recs l)) (l.length : Int) size)])).length = l.length + 1 := by
    rw [List.length_map, List.length_append, i2]; rfl
  rw [if_pos (by show (List.map toS _).length ≤ _; rw [hlen]; omega)]
  have hcl : (cat (recs l)).length ≤ (putH l size).length := by simp only [putH, List.length_append]; omega
  have htk : (putH l size).take (cat (recs l)).length = cat (recs l) := by unfold putH; exact List.take_left' rfl
  by_cases ho : 0 ≤ o ∧ o ≤ 1073741824
  · have := getR_last (putH l size) o (its 0 (recs l)) ((cat (recs l)).length, 21, endL (cat (recs l)) (l.length : Int) size) (((putH l size).length : Nat) : Int) ho hcl
    rw [i1] at this
    refine this.trans ?_
    simp only [htk]
    by_cases h : o = size
    · subst h
      rw [if_pos ⟨hr, (equal_iff (endL_bytes _ _ _) (endL_bytes _ _ _)).2 rfl⟩, if_pos rfl]
    · rw [if_neg (fun hh => h (end_inj _ _ _ _ h0 h1 ho.1 ho.2 ((equal_iff (endL_bytes _ _ _) (endL_bytes _ _ _)).1 hh.2)).symm), if_neg h]
  · rw [getR_no _ _ _ (Or.inr (Or.inr (Or.inr ho))), if_neg (by rintro rfl; exact ho ⟨h0, h1⟩)]

def bods (I : List Itm) : List (List Int) := I.map fun x => x.2.2
theorem scan_bytes {l : List Int} (hB : IsBytes l) {a : Nat} {I : List Itm} {B e : Nat} {f : Int} (h : Scan l a I B e f) (hb : B = 0) (hf : f = 0) :
    l.drop a = cat (bods I) ∧ I = its a (bods I) ∧ AllBytes (bods I) := by
  induction h with
  | done a h => exact ⟨List.drop_eq_nil_of_le (by omega), rfl, fun x hx => by cases hx⟩
  | stop a e xs h hf1 he => omega
  | pass a n I B e f h hn hf1 t ih => omega
  | take a n x I B e f h hn hf1 t ih =>
    obtain ⟨g1, g2, g3⟩ := ih hb hf
    obtain ⟨xs, k, ee, hk, ⟨rfl, rfl, he⟩ | ⟨m, rfl, hm, hml, ⟨rfl, rfl⟩ | ⟨rfl, p1, p2, p3, p4, p5⟩⟩⟩ := first_kinds (l.drop a) (hB.drop a)
    · rw [hf1] at hk; simp only [Prod.mk.injEq] at hk; omega
    · rw [hf1] at hk; simp only [Prod.mk.injEq] at hk; omega
    · rw [hf1] at hk
      simp only [Prod.mk.injEq] at hk
      obtain ⟨rfl, hk2, _⟩ := hk
      obtain rfl : n = m := by omega
      simp only [bods, List.map_cons] at g1 g2 g3 ⊢
      refine ⟨?_, ?_, ?_⟩
      · rw [cat, put_yes x p2 p3, p4, ← g1, ← List.drop_drop]
        exact (List.take_append_drop n (l.drop a)).symm
      · rw [its, if_pos ⟨p2, p3⟩, p1, ← g2]
      · intro y hy
        rcases List.mem_cons.1 hy with rfl | hy
        · exact p5
        · exact g3 y hy
theorem hints_back (I : List Itm) (hB : AllBytes (bods I)) : ∀ out, hintsOf (I.map toS) = some out → bods I = recs out := by
  induction I with
  | nil =>
    intro out h
    simp only [List.map_nil, hintsOf, Option.some.injEq] at h
    subst h
    rfl
  | cons x I ih =>
    intro out h
    simp only [bods, List.map_cons] at hB
    simp only [List.map_cons, hintsOf] at h
    have hx : IsBytes x.2.2 := hB _ List.mem_cons_self
    by_cases hl : 7 < x.2.2.length
    · have e : hint_hint.f (toS x).f2 = some ((hintL x.2.2).f0, (hintL x.2.2).f1, (hintL x.2.2).f2, (hintL x.2.2).f3, true) := hint_f _ hx hl
      rw [e] at h
      simp only [Option.map_eq_some_iff] at h
      obtain ⟨o, ho, rfl⟩ := h
      have := ih (AllBytes.tail hB) o ho
      simp only [bods, recs, List.map_cons] at this ⊢
      rw [this]
      congr 1
      exact (body_hint_back x.2.2 hx (by omega)).symm
    · obtain ⟨p, q, r, s, e⟩ := hint_short x.2.2 (by omega)
      have e' : hint_hint.f (toS x).f2 = some (p, q, r, s, false) := e
      rw [e'] at h
      cases h
theorem scan_mem {l : List Int} {a : Nat} {I : List Itm} {B e : Nat} {f : Int} (h : Scan l a I B e f) : ∀ x ∈ I, x.1 + x.2.1 ≤ l.length ∧ 9 ≤ x.2.1 := by
  induction h with
  | done a h => intro x hx; cases hx
  | stop a e xs h hf1 he => intro x hx; cases hx
  | pass a n I B e f h hn hf1 t ih => exact ih
  | take a n x I B e f h hn hf1 t ih =>
    intro y hy
    rcases List.mem_cons.1 hy with rfl | hy
    · exact ⟨h, hn⟩
    · exact ih y hy
theorem get_any (b : List Int) (o : Int) (hB : IsBytes b) (hm : b.length ≤ 1000000000) : ∃ y is, hint_Get.f b o = some (y, is) ∧ (is = false → y = []) ∧ (is = true → rightL y = true ∧ 0 ≤ o ∧ o ≤ 1073741824 ∧ putH y o = b ∧ y.length ≤ b.length) := by
  obtain ⟨I, B, e, f, hsc⟩ := scan_ex b hB (b.length + 1) 0 (Nat.zero_le _) (by omega)
  have hall := all_of b hB hm hsc
  have hcnt := scan_count hsc
  unfold hint_Get.f
  rw [hall, Option.bind_some, if_pos (by show (List.map toS I).length ≤ _; rw [List.length_map]; omega)]
  by_cases h0 : f ≠ 0 ∨ (B : Int) > 0 ∨ (List.map toS I).length = 0 ∨ ¬ (0 ≤ o ∧ o ≤ 1073741824)
  · rw [getR_no _ _ _ h0]
    exact ⟨_, _, rfl, fun _ => rfl, fun h => by cases h⟩
  · have hf0 : f = 0 := by omega
    have hB0 : B = 0 := by omega
    have ho : 0 ≤ o ∧ o ≤ 1073741824 := by
      by_cases h : 0 ≤ o ∧ o ≤ 1073741824
      · exact h
      · exact absurd (Or.inr (Or.inr (Or.inr h))) h0
    have hlen : (List.map toS I).length = I.length := List.length_map _
    have hne : I ≠ [] := by
      rintro rfl
      exact h0 (Or.inr (Or.inr (Or.inl rfl)))
    obtain ⟨J, x, rfl⟩ : ∃ J x, I = J ++ [x] := ⟨I.dropLast, I.getLast hne, (List.dropLast_concat_getLast hne).symm⟩
    obtain ⟨g1, g2, g3⟩ := scan_bytes hB hsc hB0 hf0
    have gb : bods (J ++ [x]) = bods J ++ [x.2.2] := by simp [bods]
    rw [gb] at g1 g2 g3
    rw [List.drop_zero, cat_append] at g1
    have g4 := its_append (bods J) [x.2.2] 0
    rw [← g2] at g4
    have hxl := scan_mem hsc x (by simp)
    have hgo := getR_last b o J x (e : Int) ho (by omega)
    subst hB0 hf0
    refine Exists.imp (fun y => Exists.imp fun is => And.imp_left (fun hq => hgo.trans hq)) ?_
    cases hh : hintsOf (List.map toS J) with
    | none => exact ⟨_, _, rfl, fun _ => rfl, fun h => by cases h⟩
    | some out =>
      have hbk := hints_back J (fun y hy => g3 y (by simp [hy])) out hh
      have hjl : out.length = J.length := by
        have := congrArg List.length hbk
        simp only [bods, recs, List.length_map] at this
        omega
      dsimp only
      by_cases hok : rightL out = true ∧ bytes_Equal.f x.2.2 (endL (b.take x.1) (out.length : Int) o) = some true
      · rw [if_pos hok]
        refine ⟨_, _, rfl, fun h => by (cases h), fun _ => ⟨hok.1, ho.1, ho.2, ?_, ?_⟩⟩
        · have he := (equal_iff (g3 x.2.2 (by simp)) (endL_bytes _ _ _)).1 hok.2
          have hx1 : x.1 = (cat (bods J)).length := by
            have hxin : 1 ≤ x.2.2.length ∧ x.2.2.length ≤ 8192 := by rw [he, endL_len]; omega
            have : its (0 + (cat (bods J)).length) [x.2.2] = [((cat (bods J)).length, x.2.2.length + 8, x.2.2)] := by
              simp only [its, Nat.zero_add]
              rw [if_pos hxin]
            rw [this] at g4
            have := List.append_inj_right' g4 rfl
            simp only [List.cons.injEq, and_true] at this
            rw [this]
          have htk : b.take (cat (bods J)).length = cat (bods J) := by rw [g1]; exact List.take_left' rfl
          rw [hx1, htk] at he
          rw [putH, ← hbk, g1]
          simp only [cat, List.append_nil]
          rw [← he]
        · simp only [List.length_append, List.length_cons, List.length_nil] at hcnt
          omega
      · rw [if_neg hok]
        exact ⟨_, _, rfl, fun _ => rfl, fun h => by cases h⟩
end Go.Proofs.Yteplnpedakdjkaa.Hu
end

section
/- Are hints too many? Are hints the same? Over lists alone. -/
namespace Go.Proofs.Yteplnpedakdjkaa.Hu
set_option linter.unusedVariables false
set_option linter.unusedSimpArgs false
open Go.RowKit Go.Proofs.Yteplnpedakdjkaa.Pt Go.Proofs.YteplnpedakdjkaaW.PrintWords Go.Proofs.YteplnpedakdjkaaW.PrintLast Go.Proofs.Yteplnpedakdjkaa.Fr Go.Proofs.Yteplnpedakdjkaa.Ext Go.Proofs.Yteplnpedakdjkaa.Sc Go.Proofs.Yteplnpedakdjkaa.Hn Go.Proofs.Yteplnpedakdjkaa.Pure

theorem mn_min (a b : Int) : (a ≤ b ∧ mn a b = a) ∨ (b < a ∧ mn a b = b) := by
  unfold mn
  split <;> omega
theorem many_loop (l : List Hi) (hm : l.length ≤ maxLen) (hs : ∀ h ∈ l, h.f1.size ≤ maxLen) (n : Nat) : ∀ (i : Nat) (s : Int), i + n = l.length → (l.length : Int) ≤ s → s ≤ 9223372036854775807 →
    ∃ b, (∀ k, n + 1 ≤ k → souterrainlaw11_many.l0 k l s (i : Int) = some b) ∧ (b = false → s < 9000 ∧ l.length ≤ 300 ∧ ∀ h ∈ l.drop i, h.f1.size < 9000) := by
  have hmx : maxLen = 9223372036854775807 := rfl
  induction n with
  | zero =>
    intro i s hi h1 h2
    by_cases h : s ≥ 9000
    · refine ⟨true, fun k hk => ?_, fun h => by cases h⟩
      obtain ⟨k, rfl⟩ : ∃ j, k = j + 1 := ⟨k - 1, by omega⟩
      rw [souterrainlaw11_many.l0, if_neg (by omega), if_pos h]
    · refine ⟨decide ((l.length : Int) > 300), fun k hk => ?_, fun hb => ⟨by omega, by have := of_decide_eq_false hb; omega, fun x hx => ?_⟩⟩
      · obtain ⟨k, rfl⟩ : ∃ j, k = j + 1 := ⟨k - 1, by omega⟩
        rw [souterrainlaw11_many.l0, if_neg (by omega), if_neg h]
      · rw [List.drop_eq_nil_of_le (by omega)] at hx
        cases hx
  | succ n ih =>
    intro i s hi h1 h2
    have hil : i < l.length := by omega
    by_cases h : s < 9000
    · have hsz := hs _ (List.getElem_mem hil)
      have hmn := mn_min (l[i].f1.size : Int) 9000
      obtain ⟨b, g1, g2⟩ := ih (i + 1) (s + mn (l[i].f1.size : Int) 9000) (by omega) (by omega) (by omega)
      refine ⟨b, fun k hk => ?_, fun hb => ?_⟩
      · obtain ⟨k, rfl⟩ : ∃ j, k = j + 1 := ⟨k - 1, by omega⟩
        rw [souterrainlaw11_many.l0, if_pos (by omega), if_pos h, if_pos (by omega), rdT_at l i hil, w64 _ (by omega) (by omega), w64 _ (by omega) (by omega), show (i : Int) + 1 = ((i + 1 : Nat) : Int) by omega]
        exact g1 k (by omega)
      · obtain ⟨p1, p2, p3⟩ := g2 hb
        refine ⟨h, p2, fun x hx => ?_⟩
        rw [List.drop_eq_getElem_cons hil] at hx
        rcases List.mem_cons.1 hx with rfl | hx
        · omega
        · exact p3 x hx
    · refine ⟨true, fun k hk => ?_, fun h => by cases h⟩
      obtain ⟨k, rfl⟩ : ∃ j, k = j + 1 := ⟨k - 1, by omega⟩
      rw [souterrainlaw11_many.l0, if_pos (by omega), if_neg h, if_pos (by omega)]
theorem many_ex (l : List Hi) (hm : l.length ≤ maxLen) (hs : ∀ h ∈ l, h.f1.size ≤ maxLen) : ∃ b, (∀ k, l.length + 1 ≤ k → souterrainlaw11_many.f k l = some b) ∧ (b = false → l.length ≤ 300 ∧ ∀ h ∈ l, h.f1.size < 9000) := by
  have hmx : maxLen = 9223372036854775807 := rfl
  obtain ⟨b, g1, g2⟩ := many_loop l hm hs l.length 0 (l.length : Int) (by omega) (by omega) (by omega)
  exact ⟨b, g1, fun hb => ⟨(g2 hb).2.1, by simpa using (g2 hb).2.2⟩⟩
theorem same_loop (l : List Hi) (hm : l.length ≤ 1000000000) (n : Nat) : ∀ i : Nat, i + n = l.length → ∀ K, souterrainref11_Same.l0 (K + n + 1) l l (i : Int) = some true := by
  induction n with
  | zero =>
    intro i hi K
    rw [souterrainref11_Same.l0, if_neg (by omega)]
  | succ n ih =>
    intro i hi K
    rw [souterrainref11_Same.l0, if_pos (by omega), if_pos (by omega), if_pos (by omega), if_neg (by simp), w64 _ (by omega) (by omega), show (i : Int) + 1 = ((i + 1 : Nat) : Int) by omega, show K + (n + 1) = K + n + 1 by omega]
    exact ih (i + 1) (by omega) K
theorem same_refl (l : List Hi) (hm : l.length ≤ 1000000000) (k : Nat) (hk : l.length < k) : souterrainref11_Same.f k l l = some true := by
  obtain ⟨K, rfl⟩ : ∃ K, k = K + l.length + 1 := ⟨k - l.length - 1, by omega⟩
  rw [souterrainref11_Same.f, if_pos rfl]
  exact same_loop l hm l.length 0 (by omega) K
end Go.Proofs.Yteplnpedakdjkaa.Hu
end

section
/- Rows of hints, and of what was found, that come in, opened: as lists. -/
namespace Go.Proofs.Yteplnpedakdjkaa.HrA
set_option linter.unusedVariables false
set_option linter.unusedSimpArgs false
open Go.ChangeShapes Go.WideShapes Go.RowKit Go.Deep Go.Proofs.YteplnpedakdjkaaW.PrintWords Go.Proofs.Yteplnpedakdjkaa.Fr Go.Proofs.Yteplnpedakdjkaa.Pure Go.Proofs.Yteplnpedakdjkaa.Pt Go.Proofs.Yteplnpedakdjkaa.Hn

section
variable {H : Type} {enc : TypeId × Value → H} {P : Program} {W : World} {base : Nat} {held : Bool}
/-- What is read by a type is of a kind, and as it should be. -/
def Opens {α : Type} (enc : TypeId × Value → H) (P : Program) (W : World) (base : Nat) (held : Bool) (t : TypeId) (k : Kd α) (Q : α → Prop) : Prop :=
  ∀ (fuel : Nat) (cs : List Value) (x : DataW H × List MemPlace), DataW.trod enc P W base (fun _ => true) held fuel t cs = some x → ∃ a, k.K W a cs ∧ Q a
theorem exists_list {α : Type} {p : Nat → α → Prop} : ∀ (n : Nat), (∀ i, i < n → ∃ a, p i a) → ∃ l : List α, l.length = n ∧ ∀ i a, l[i]? = some a → p i a
  | 0, _ => ⟨[], rfl, fun i a h => by simp at h⟩
  | n + 1, h => by
    obtain ⟨l, hl, hp⟩ := exists_list n (fun i hi => h i (by omega))
    obtain ⟨a, ha⟩ := h n (by omega)
    refine ⟨l ++ [a], by simp [hl], fun i b hb => ?_⟩
    by_cases hi : i < l.length
    · rw [List.getElem?_append_left hi] at hb
      exact hp i b hb
    · rw [List.getElem?_append_right (by omega)] at hb
      by_cases h1 : i - l.length = 0
      · rw [h1] at hb
        have : i = n := by omega
        subst this
        cases hb
        exact ha
      · rw [List.getElem?_eq_none (by simp; omega)] at hb
        cases hb
theorem opens_int {t : TypeId} {k : IntKind} (ht : P.underlying t = some (.int k)) : Opens enc P W base held t (Kd.int k) (fun z => (Lit.int k z).wf = true) := by
  intro fuel cs x h
  obtain ⟨n, rfl, _, hw⟩ := DataW.trod_int ht h
  exact ⟨n, rfl, hw⟩
theorem opens_string {t : TypeId} (ht : P.underlying t = some .string) : Opens enc P W base held t Kd.string (fun z => z.size ≤ maxLen) := by
  intro fuel cs x h
  obtain ⟨n, rfl, _, hw⟩ := DataW.trod_string ht h
  exact ⟨n, rfl, hw⟩
theorem opens_row {α : Type} {t e : TypeId} {k : Kd α} {Q : α → Prop} (ht : P.underlying t = some (.slice e)) (ce : P.cellsOf e = k.sz) (he : Opens enc P W base held e k Q)
    {fuel : Nat} {a : Option Addr} {len cap : Nat} {x : DataW H × List MemPlace} (h : DataW.trod enc P W base (fun _ => true) held fuel t [.slice a len cap] = some x) :
    ∃ l : List α, l.length = len ∧ len ≤ cap ∧ cap ≤ maxLen ∧ k.C W a len l ∧ ∀ y ∈ l, Q y := by
  rcases open_slice ht h with ⟨hcs, _⟩ | ⟨b, l, c, m, n, D, Pl, hcs, _, hl, hm, hmm, _, hx⟩
  · simp at hcs
    obtain ⟨rfl, rfl, rfl⟩ := hcs
    exact ⟨[], rfl, Nat.le_refl _, Nat.zero_le _, ⟨rfl, Nat.zero_le _, fun h => absurd h (by omega)⟩, fun l hl => by cases hl⟩
  · simp at hcs
    obtain ⟨rfl, rfl, rfl⟩ := hcs
    have hlm : len ≤ m := by rw [hmm]; split <;> omega
    obtain ⟨L, hL, hp⟩ := exists_list (p := fun i y => (∃ cs', cs'.length = k.sz ∧ k.K W y cs' ∧ ∀ j u, cs'[j]? = some u → W.cell? (b.add (i * k.sz + j)) = some u) ∧ Q y) len (fun i hi => by
      obtain ⟨cs', h1, h2⟩ := hx i (by omega)
      rw [ce] at h1
      obtain ⟨_, hlen, hcell⟩ := World.cells?_some h1
      obtain ⟨y, hK, hQ⟩ := he _ _ _ h2
      refine ⟨y, ⟨cs', k.K_len hK, hK, fun j u hj => ?_⟩, hQ⟩
      have hj2 := (List.getElem?_eq_some_iff.1 hj).1
      have := hcell j (by omega)
      rw [Deep.add_add] at this
      rw [this, hj])
    refine ⟨L, hL, hl, hm, ⟨hL, ?_, fun _ => ⟨b, rfl, fun j p hj => (hp j p hj).1⟩⟩, fun y hy => ?_⟩
    · have : maxLen = 9223372036854775807 := rfl
      omega
    · obtain ⟨i, hi, rfl⟩ := List.getElem_of_mem hy
      exact (hp i _ (List.getElem?_eq_getElem hi)).2
theorem opens_slice {α : Type} {t e : TypeId} {k : Kd α} {Q : α → Prop} (ht : P.underlying t = some (.slice e)) (ce : P.cellsOf e = k.sz) (he : Opens enc P W base held e k Q) (z : Nat) :
    Opens enc P W base held t (Kd.slice z k) (fun l => ∀ y ∈ l, Q y) := by
  intro fuel cs x h
  have h' := h
  rcases open_slice ht h with ⟨hcs, _⟩ | ⟨b, l, c, m, n, D, Pl, hcs, _⟩
  · subst hcs
    obtain ⟨l, h1, h2, h3, h4, h5⟩ := opens_row ht ce he h'
    exact ⟨l, ⟨_, _, by rw [h1], by rw [h1]; exact h2, by rw [h1]; exact h4⟩, h5⟩
  · subst hcs
    obtain ⟨l, h1, h2, h3, h4, h5⟩ := opens_row ht ce he h'
    exact ⟨l, ⟨_, _, by rw [h1], by rw [h1]; exact h2, by rw [h1]; exact h4⟩, h5⟩
end
theorem of3 {α : Type} {l : List α} (h : l.length = 3) : ∃ a b c, l = [a, b, c] := by
  match l, h with
  | [a, b, c], _ => exact ⟨_, _, _, rfl⟩
theorem of4 {α : Type} {l : List α} (h : l.length = 4) : ∃ a b c d, l = [a, b, c, d] := by
  match l, h with
  | [a, b, c, d], _ => exact ⟨_, _, _, _, rfl⟩
theorem of7 {α : Type} {l : List α} (h : l.length = 7) : ∃ a b c d e f g, l = [a, b, c, d, e, f, g] := by
  match l, h with
  | [a, b, c, d, e, f, g], _ => exact ⟨_, _, _, _, _, _, _, rfl⟩
theorem of9 {α : Type} {l : List α} (h : l.length = 9) : ∃ a b r, l = a :: b :: r ∧ r.length = 7 := by
  match l, h with
  | a :: b :: r, h => exact ⟨_, _, _, rfl, by simpa using h⟩
/-- A hint that came in. -/
def OkH (h : Hi) : Prop := (Lit.int .i64 h.f0).wf = true ∧ h.f1.size ≤ maxLen ∧ (Lit.int .i64 h.f2).wf = true ∧ (Lit.int .i64 h.f3).wf = true
def OkLoc (h : S139) : Prop := (Lit.int .i64 h.f0).wf = true ∧ (Lit.int .i64 h.f1).wf = true ∧ (Lit.int .i64 h.f2).wf = true
def OkRec (r : S37) : Prop := (Lit.int .i64 r.f0).wf = true ∧ r.f1.size ≤ maxLen ∧ (Lit.int .i64 r.f2).wf = true ∧ (Lit.int .i64 r.f3).wf = true ∧ (Lit.int .i64 r.f4).wf = true ∧ (∀ y ∈ r.f5, OkLoc y) ∧ ∀ y ∈ r.f6, (Lit.int .u8 y).wf = true
def OkF (x : Fo) : Prop := (Lit.int .i64 x.f0).wf = true ∧ (Lit.int .i64 x.f1).wf = true ∧ OkRec x.f2
section
variable {H : Type} {enc : TypeId × Value → H} {W : World} {base : Nat} {held : Bool}
theorem opens_hint : Opens enc Try.prog W base held 41 k41 OkH := by
  intro fuel cs x h
  obtain ⟨xs, n, _, _, hl, hxl, hf⟩ := DataW.trod_struct Try.underlying41 h
  have hl : cs.length = 4 := by rw [hl]; kernel_rfl
  obtain ⟨y0, y1, y2, y3, rfl⟩ := of4 hxl
  obtain ⟨v0, v1, v2, v3, rfl⟩ := of4 hl
  have ho := hl
  have g0 := hf 0 _ rfl
  have g1 := hf 1 _ rfl
  have g2 := hf 2 _ rfl
  have g3 := hf 3 _ rfl
  have ci : Try.prog.cellsOf 3 = 1 := by kernel_rfl
  have cs' : Try.prog.cellsOf 9 = 1 := by kernel_rfl
  simp [ci, cs'] at g0 g1 g2 g3
  obtain ⟨a0, k0, q0⟩ := opens_int Try.underlying3 _ _ _ g0
  obtain ⟨a1, k1, q1⟩ := opens_string Try.underlying9 _ _ _ g1
  obtain ⟨a2, k2, q2⟩ := opens_int Try.underlying3 _ _ _ g2
  obtain ⟨a3, k3, q3⟩ := opens_int Try.underlying3 _ _ _ g3
  cases k0; cases k1; cases k2; cases k3
  exact ⟨⟨a0, a1, a2, a3⟩, k41_mk _ _, q0, q1, q2, q3⟩
theorem opens_loc : Opens enc Try.prog W base held 139 k139 OkLoc := by
  intro fuel cs x h
  obtain ⟨xs, n, _, _, hl, hxl, hf⟩ := DataW.trod_struct Try.underlying139 h
  have hl : cs.length = 3 := by rw [hl]; kernel_rfl
  obtain ⟨y0, y1, y2, rfl⟩ := of3 hxl
  obtain ⟨v0, v1, v2, rfl⟩ := of3 hl
  have ho := hl
  have g0 := hf 0 _ rfl
  have g1 := hf 1 _ rfl
  have g2 := hf 2 _ rfl
  have ci : Try.prog.cellsOf 3 = 1 := by kernel_rfl
  simp [ci] at g0 g1 g2
  obtain ⟨a0, k0, q0⟩ := opens_int Try.underlying3 _ _ _ g0
  obtain ⟨a2, k2, q2⟩ := opens_int Try.underlying3 _ _ _ g1
  obtain ⟨a3, k3, q3⟩ := opens_int Try.underlying3 _ _ _ g2
  cases k0; cases k2; cases k3
  exact ⟨⟨a0, a2, a3⟩, k139_mk _ _, q0, q2, q3⟩
theorem opens_rec : Opens enc Try.prog W base held 37 k37 OkRec := by
  intro fuel cs x h
  obtain ⟨xs, n, _, _, hl, hxl, hf⟩ := DataW.trod_struct Try.underlying37 h
  have hl : cs.length = 7 := by rw [hl]; kernel_rfl
  obtain ⟨y0, y1, y2, y3, y4, y5, y6, rfl⟩ := of7 hxl
  obtain ⟨v0, v1, v2, v3, v4, v5, v6, rfl⟩ := of7 hl
  have ho := hl
  have g0 := hf 0 _ rfl
  have g1 := hf 1 _ rfl
  have g2 := hf 2 _ rfl
  have g3 := hf 3 _ rfl
  have g4 := hf 4 _ rfl
  have g5 := hf 5 _ rfl
  have g6 := hf 6 _ rfl
  have ci : Try.prog.cellsOf 3 = 1 := by kernel_rfl
  have cs' : Try.prog.cellsOf 9 = 1 := by kernel_rfl
  have c64 : Try.prog.cellsOf 2 = 1 := by kernel_rfl
  have cl : Try.prog.cellsOf 35 = 1 := by kernel_rfl
  have cb : Try.prog.cellsOf 23 = 1 := by kernel_rfl
  simp [ci, cs', cl, cb, c64] at g0 g1 g2 g3 g4 g5 g6
  obtain ⟨a0, k0, q0⟩ := opens_int Try.underlying3 _ _ _ g0
  obtain ⟨a1, k1, q1⟩ := opens_string Try.underlying9 _ _ _ g1
  obtain ⟨a2, k2, q2⟩ := opens_int Try.underlying2 _ _ _ g2
  obtain ⟨a3, k3, q3⟩ := opens_int Try.underlying3 _ _ _ g3
  obtain ⟨a4, k4, q4⟩ := opens_int Try.underlying3 _ _ _ g4
  obtain ⟨a5, ⟨A5, c5, e5, l5, K5⟩, q5⟩ := opens_slice Try.underlying35 (by kernel_rfl) opens_loc 139 _ _ _ g5
  obtain ⟨a6, ⟨A6, c6, e6, l6, K6⟩, q6⟩ := opens_slice Try.underlying23 (by kernel_rfl) (opens_int Try.underlying5) 5 _ _ _ g6
  cases k0; cases k1; cases k2; cases k3; cases k4; cases e5; cases e6
  exact ⟨⟨a0, a1, a2, a3, a4, a5, a6⟩, k37_mk _ ⟨a0, a1, a2, a3, a4, a5, a6⟩ l5 K5 l6 K6, q0, q1, q2, q3, q4, q5, q6⟩
theorem opens_found : Opens enc Try.prog W base held 39 k39 OkF := by
  intro fuel cs x h
  obtain ⟨xs, n, _, _, hl, hxl, hf⟩ := DataW.trod_struct Try.underlying39 h
  have hl : cs.length = 9 := by rw [hl]; kernel_rfl
  obtain ⟨y0, y1, y2, rfl⟩ := of3 hxl
  obtain ⟨v0, v1, r, rfl, hr⟩ := of9 hl
  have ho := hl
  have g0 := hf 0 _ rfl
  have g1 := hf 1 _ rfl
  have g2 := hf 2 _ rfl
  have ci : Try.prog.cellsOf 3 = 1 := by kernel_rfl
  have cr : Try.prog.cellsOf 37 = 7 := by kernel_rfl
  have ht : r.take 7 = r := List.take_of_length_le (by omega)
  simp [ci, cr, ht] at g0 g1 g2
  obtain ⟨a0, k0, q0⟩ := opens_int Try.underlying3 _ _ _ g0
  obtain ⟨a1, k1, q1⟩ := opens_int Try.underlying3 _ _ _ g1
  obtain ⟨a2, k2, q2⟩ := opens_rec _ _ _ g2
  cases k0; cases k1
  exact ⟨⟨a0, a1, a2⟩, ⟨[.int .i64 a0], .int .i64 a1 :: r, rfl, rfl, ⟨[.int .i64 a1], r, rfl, rfl, k2⟩⟩, q0, q1, q2⟩
end
/-! A bound of what comes in. -/
end Go.Proofs.Yteplnpedakdjkaa.HrA
end

