/- The frame layer's contracts with what they answer under names, for the walks of laws. -/
import Derived.Test.YtjednkbgdbalnaaPureCommon
import Derived.WalkSpells
namespace Go.Proofs.Ytjednkbgdbalnaa.Lw
open Go.RowKit Go.Proofs.YtjednkbgdbalnaaW.PrintWords Go.Proofs.YtjednkbgdbalnaaW.PrintMore Go.Proofs.Ytjednkbgdbalnaa.Fr Go.Proofs.Ytjednkbgdbalnaa.Ext Go.Proofs.Ytjednkbgdbalnaa.Pure
set_option linter.unusedVariables false
set_option linter.unusedSimpArgs false

/-- A row of bytes of the call's own. -/
def Own (w : World) (base : Nat) (v : Value) (l : List Int) : Prop := w.ownsRow base 5 1 v l.length (nums .u8 l)
/-- A row of bytes that is read. -/
def Rd (w : World) (A : Option Addr) (l : List Int) : Prop := Kd.C (Kd.int .u8) w A l.length l
theorem head_n (w : World) : Calls Try.prog 15 #[] w fun e w' => e = .returned (.bool true) ∧ Aside0 (Below w.heap.size w w') :=
  (head02 w).mono fun _ _ h => ⟨h.1, ⟨h.2⟩⟩
theorem size_n (n r : Int) (h : sizeI n = r) (w : World) : Calls Try.prog 20 #[.int .i64 n] w fun e w' => e = .returned (.int .i64 r) ∧ w = w' := size_at n r h w
/-- A frame: nothing, or a row of n. -/
theorem put_no_n (A : Option Addr) (c n : Nat) (l : List Int) (hn : l.length = n) (h : l.length < 1 ∨ 8192 < l.length) (w : World) (hc : n ≤ c) (hr : Rd w A l) :
    Calls Try.prog 18 #[.slice A n c] w fun e w' => ∃ A' c', e = .returned (.slice A' 0 c') ∧ Aside0 (Own w' w.heap.size (.slice A' 0 c') []) ∧ Aside0 (Below w.heap.size w w') := by
  subst hn
  refine (put_calls A c l w hc hr).mono ?_
  rintro e w' ⟨v, rfl, ho, hb⟩
  rw [put_no l h] at ho
  obtain ⟨A', c', rfl⟩ := own_slice ho
  exact ⟨A', c', rfl, ⟨ho⟩, ⟨hb⟩⟩
theorem put_yes_n (A : Option Addr) (c n m : Nat) (l F : List Int) (hn : l.length = n) (h1 : 1 ≤ l.length) (h2 : l.length ≤ 8192) (hF : frameOf l = F) (hm : n + 8 = m) (w : World) (hc : n ≤ c) (hr : Rd w A l) :
    Calls Try.prog 18 #[.slice A n c] w fun e w' => ∃ g c', e = .returned (.slice (some ⟨g, 0, none⟩) m c') ∧ m ≤ c' ∧ w.heap.size ≤ g ∧ g < w'.heap.size ∧ Aside0 (Own w' w.heap.size (.slice (some ⟨g, 0, none⟩) m c') F) ∧ Aside0 (Rd w' (some ⟨g, 0, none⟩) F) ∧ Aside0 (Below w.heap.size w w') := by
  subst hn hm hF
  refine (put_calls A c l w hc hr).mono ?_
  rintro e w' ⟨v, rfl, ho, hb⟩
  rw [put_yes l h1 h2] at ho
  obtain ⟨g, c', rfl, h3, h4, h5, h6⟩ := own_form (l.length + 8) ho (frame_len l) (by omega)
  exact ⟨g, c', rfl, h3, h4, h5, ⟨ho⟩, ⟨h6⟩, ⟨hb⟩⟩
/-- What is got of bytes. -/
theorem first_n (A : Option Addr) (c n : Nat) (l xs : List Int) (k f : Int) (hr' : firstL l = (xs, k, f)) (hn : l.length = n) (hB : IsBytes l) (w : World) (hc : n ≤ c) (hr : Rd w A l) :
    Calls Try.prog 16 #[.slice A n c] w fun e w' => ∃ A' c', e = .returned (.tuple #[.slice A' xs.length c', .int .i64 k, .int .i64 f]) ∧ xs.length ≤ c' ∧ Aside0 (Own w' w.heap.size (.slice A' xs.length c') xs) ∧ Aside0 (Rd w' A' xs) ∧ Aside0 (Below w.heap.size w w') := by
  subst hn
  refine (first_calls A c l w hB hc hr).mono ?_
  rintro e w' ⟨v, xs', k', f', rfl, HL, ho, hb⟩
  have h := HL.out
  rw [hr'] at h
  simp only [Prod.mk.injEq] at h
  obtain ⟨rfl, rfl, rfl⟩ := h
  obtain ⟨A', c', rfl, hle, hC⟩ := Kd.R_reads (R_ints ho)
  exact ⟨A', c', rfl, hle, ⟨ho⟩, ⟨hC⟩, ⟨hb⟩⟩
theorem Rd.below {w w' : World} {A : Option Addr} {l : List Int} (h : Rd w A l) (hb : Below w.heap.size w w') : Rd w' A l := Kd.C_below h hb
theorem Rd.str {w : World} {A : Option Addr} {l : List Int} (h : Rd w A l) (c n : Nat) (hn : l.length = n) {s : ByteArray} (hs : strOfNums l = s) : (convert 22 9 (.slice A n c)).run Try.prog w = .ok (.string s) w := by
  subst hn hs
  exact Kd.C_string Try.underlying22 Try.underlying5 Try.underlying9 h
/-- A row of bytes, as a law's argument is opened. -/
abbrev Row8 (w : World) (a0 : Option Addr) (len0 cap0 : Nat) (z0 : List Int) : Prop :=
  (a0 = none ∧ len0 = 0 ∧ cap0 = 0 ∧ z0 = []) ∨ ∃ x, a0 = some x ∧ len0 ≤ cap0 ∧ cap0 ≤ maxLen ∧ z0.length = cap0 ∧ (∀ i, i < z0.length → w.cell? (x.add i) = some (.int .u8 (z0.getD i 0))) ∧ ∀ n ∈ z0, (Lit.int .u8 n).wf = true
theorem row8_of {w : World} {a0 : Option Addr} {len0 cap0 : Nat} {z0 : List Int} (h : Row8 w a0 len0 cap0 z0) : ∃ l : List Int, l.length = len0 ∧ Rd w a0 l ∧ IsBytes l ∧ l.length ≤ cap0 := by
  obtain ⟨l0, rfl, hr0, hm0, hw0, hc0⟩ := ReadsInt.ofRowC h
  exact ⟨l0, rfl, C_of_ints hr0, bytes_of_wf l0 hw0, hc0⟩
end Go.Proofs.Ytjednkbgdbalnaa.Lw
