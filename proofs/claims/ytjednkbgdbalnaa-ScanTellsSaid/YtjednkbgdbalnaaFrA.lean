/- Contracts of the frame layer's inner functions: a length told twice, the table, the sum, over whatever bytes. -/
import Derived.Test.YtjednkbgdbalnaaProg
import Derived.Below
import Derived.Deep.Draws
import Derived.Deep.AppendLies
import Derived.Maps.AppendAt
import Derived.OwnWalk
import Derived.Laws.BytesArg
import Derived.Laws.MakeOwn
import Derived.Laws.OwnMore
import Derived.Deep.OwnRows
import Derived.Tactics
import Derived.Lib.ConvBytes
import Derived.Laws.Slices
import Derived.WalkKit
import Derived.KernelRfl
import Derived.RowKit3
import Derived.Deep.LoopGhost
import Derived.Deep.QuietTactic
import Derived.BigQuiet
import Derived.WideLaws
import Derived.Deep.DeepCutAuto
import Derived.Deep.CutBlock
import Derived.Deep.RegionHeld3
import Derived.Laws.Rows
import Derived.Laws.Tables
import Derived.Lib.AppendStr
import Derived.ArgAppend
import Derived.Laws.IdiomCopy
import Derived.OrdersHeld
import Derived.Laws.BitsLemmas
import Derived.RowKit
import Derived.Test.YtjednkbgdbalnaaWWords
import Derived.Test.YtjednkbgdbalnaaWMore
namespace Go.Proofs.Ytjednkbgdbalnaa.Fr
open Go.RowKit Go.Proofs.YtjednkbgdbalnaaW.PrintWords Go.Proofs.YtjednkbgdbalnaaW.PrintMore
set_option linter.unusedVariables false
set_option linter.unusedSimpArgs false

/-- What a byte turned is. -/
theorem not_u8 (x : Int) (h0 : 0 ≤ x) (h1 : x < 256) : bits .xor .u8 IntKind.u8.max x = 255 - x := by
  obtain ⟨m, rfl⟩ := Int.eq_ofNat_of_zero_le h0
  have h1 : m < 256 := by omega
  have key : ∀ m : Fin 256, bits .xor .u8 IntKind.u8.max ((m.val : Nat) : Int) = 255 - ((m.val : Nat) : Int) := by decide +kernel
  exact key ⟨m, h1⟩

set_option maxHeartbeats 400000 in
theorem length_calls (n : Int) (h0 : 0 ≤ n) (h1 : n < 65536) (w : World) :
    Calls Try.prog 30 #[.int .i64 n] w fun e w' => e = .returned (.agg #[.int .u8 (n / 256), .int .u8 (n % 256), .int .u8 (255 - n / 256), .int .u8 (255 - n % 256)]) ∧ Below w.heap.size w w' := by
  have hx := not_u8 (n / 256) (by omega) (by omega)
  have hy := not_u8 (n % 256) (by omega) (by omega)
  go_enter Try.func30, Try.ntmps30
  go_wp2
  refine bodyPost_ret (results_cell_row rfl _ _ w.heap.size 54 _ (0, 0) _ rfl (heap_alloc_new _ _) Try.underlying54 rfl (by kernel_rfl)) rfl ?_
  exact ⟨rfl, below_alloc (Below.refl _ _) _⟩

/-- One bit of a sum. -/
def stepI (s : Int) : Int := bits .xor .u32 (s / 2) (bits .and .u32 s 1 * 2197175160 % 4294967296)
def stepsI : Nat → Int → Int
  | 0, s => s
  | n + 1, s => stepI (stepsI n s)
theorem xor_u32_range (a b : Int) : 0 ≤ bits .xor .u32 a b ∧ bits .xor .u32 a b < 4294967296 := by
  simp only [bits, IntKind.wrap_u32]
  omega
theorem stepsI_range (n : Nat) (s : Int) (h0 : 0 ≤ s) (h1 : s < 4294967296) : 0 ≤ stepsI n s ∧ stepsI n s < 4294967296 := by
  cases n with
  | zero => exact ⟨h0, h1⟩
  | succ n => exact xor_u32_range _ _
def tabCell (k i : Nat) : Value := .int .u32 (if i < k then stepsI 8 (i : Int) else 0)
def tabCells (k : Nat) : Array Value := ((List.range 256).map (tabCell k)).toArray
theorem tabCells_size (k : Nat) : (tabCells k).size = 256 := by simp [tabCells]
theorem tabCells_get (k i : Nat) (h : i < 256) : (tabCells k)[i]? = some (tabCell k i) := by
  simp [tabCells, h]
theorem tabCells_next (k : Nat) (h : k < 256) : (tabCells k).setIfInBounds k (.int .u32 (stepsI 8 (k : Int))) = tabCells (k + 1) := by
  apply Array.ext_getElem?
  intro i
  rw [Array.getElem?_setIfInBounds]
  by_cases hi : i < 256
  · rw [tabCells_get _ _ hi, tabCells_get _ _ hi, tabCells_size]
    by_cases e : k = i
    · subst e
      rw [if_pos rfl, if_pos h]
      simp [tabCell]
    · rw [if_neg e]
      simp only [tabCell]
      congr 2
      by_cases hk : i < k
      · rw [if_pos hk, if_pos (by omega)]
      · rw [if_neg hk, if_neg (by omega)]
  · rw [Array.getElem?_eq_none (by rw [tabCells_size]; omega), Array.getElem?_eq_none (by rw [tabCells_size]; omega)]
    split <;> simp_all

theorem below_setRow {B : Nat} {a w : World} (h : Below B a w) {g : Nat} (hg : B ≤ g) (cs : Array Value) : Below B a (w.setRow g cs) :=
  h.trans ⟨rfl, rfl, rfl, by simp, fun k hk => by simp only [World.setRow, Array.getElem?_modify]; rw [if_neg (by omega)]⟩
set_option maxHeartbeats 8000000 in
set_option maxRecDepth 100000 in
theorem table_calls (w : World) :
    Calls Try.prog 39 #[] w fun e w' => e = .returned (.agg (tabCells 256)) ∧ Below w.heap.size w w' := by
  obtain ⟨Z, HZ⟩ : ∃ Z, Aside0 (Z = tabCells 0) := ⟨_, ⟨rfl⟩⟩
  have hz : ∀ w, (zeroValue 67).run Try.prog w = .ok (.agg Z) w := fun w => by rw [HZ.out]; kernel_rfl
  have hzs : Z.size = 256 := by rw [HZ.out]; exact tabCells_size 0
  have hzn : ¬ Z = #[] := by intro h; rw [h] at hzs; simp at hzs
  go_enter Try.func39, Try.ntmps39
  go_wp2
  go_loopg [4] 256 (fun kq v4 wr => ∃ k : Nat, v4 = .int .i64 k ∧ Aside0 (k + kq = 256) ∧ Aside0 (Below w.heap.size w wr) ∧ Aside0 (wr.heap[w.heap.size]? = some (.cells (tabCells 0) 67 (0, 0))) ∧ Aside0 (wr.heap[w.heap.size + 1]? = some (.cells (tabCells k) 67 (0, 0))))
  case atStart =>
    refine ⟨0, rfl, ⟨rfl⟩, ⟨below_alloc (below_alloc (Below.refl _ _) _) _⟩, ⟨?_⟩, ⟨?_⟩⟩
    · exact (heap_alloc2_old _ _ _).trans (by first | rw [HZ.out] | kernel_rfl)
    · exact (heap_alloc2_new _ _ _).trans (by first | rw [HZ.out] | kernel_rfl)
  case round =>
    obtain ⟨k, rfl, HK, HB, HZ, HT⟩ := hrel
    cases gk with
    | zero =>
      have hk : 256 ≤ k := by have := HK.out; omega
      have hT := HT.out
      obtain rfl : k = 256 := by have := HK.out; omega
      go_wp2_with (first
        | (refine wpList_load_row rfl _ _ rfl _ rfl 67 _ (0, 0) _ hT Try.underlying67 rfl ?_ ?_; (rw [tabCells_size]; kernel_rfl))
        | (refine wpList_store_row rfl _ _ _ rfl w.heap.size (tabCells 256) rfl rfl 67 (tabCells 0) HZ.out ?_ ?_ ?_ ?_; (rw [tabCells_size]; kernel_rfl); (rw [tabCells_size, tabCells_size]); kernel_rfl))
      refine bodyPost_ret (results_cell_row rfl _ _ w.heap.size 67 (tabCells 256) (0, 0) _ rfl (setRow_heap _ _ _ _ _ _ HZ.out) Try.underlying67 rfl (by rw [tabCells_size]; kernel_rfl)) rfl ?_
      exact ⟨rfl, below_setRow HB.out (Nat.le_refl _) _⟩
    | succ gk1 =>
      have hk : k < 256 := by have := HK.out; omega
      have hk1 : 0 ≤ (k : Int) := by omega
      have hd : decide ((k : Int) < 256) = true := decide_eq_true (by omega)
      go_wp2
      obtain ⟨wo, rfl⟩ : ∃ wo : World, wo = wr := ⟨_, rfl⟩
      have hc : wo.cell? ⟨w.heap.size + 1, k, none⟩ = some (.int .u32 0) := by
        rw [blk_cell HT.out, tabCells_get _ _ hk, tabCell, if_neg (Nat.lt_irrefl _)]
      have hf := blk_frozen HT.out k
      go_loopg [3, 9] 8 (fun kq v3 v9 w' => ∃ j : Nat, v3 = .int .u32 (stepsI j (k : Int)) ∧ v9 = .int .i64 j ∧ Aside0 (j + kq = 8) ∧ Aside0 (w' = wo))
      case atStart => exact ⟨0, rfl, rfl, ⟨rfl⟩, ⟨rfl⟩⟩
      case round =>
        obtain ⟨j, rfl, rfl, HJ, HW⟩ := hrel
        obtain rfl := HW.out
        cases gk with
        | zero =>
          have hj : 8 ≤ j := by have := HJ.out; omega
          go_wp2
          have HT' := blk_set HT.out k (.int .u32 (stepsI j (k : Int)))
          obtain rfl : j = 8 := by have := HJ.out; omega
          rw [tabCells_next k hk] at HT'
          go_roundg gk1
          case measure => have := HK.out; omega
          case rel => exact ⟨k + 1, by go_num, ⟨by have := HK.out; omega⟩, ⟨HB.out.setCell (by simp) _⟩, ⟨blk_far HZ.out (by simp) _⟩, ⟨HT'⟩⟩
        | succ gk =>
          have hj : j < 8 := by have := HJ.out; omega
          have hr := stepsI_range j (k : Int) hk1 (by omega)
          obtain ⟨hr1, hr2⟩ := hr
          go_wp2
          go_roundg gk
          case measure => omega
          case rel => exact ⟨j + 1, rfl, by go_num, ⟨by have := HJ.out; omega⟩, ⟨rfl⟩⟩
/-- A sum gone on with a byte, with bytes. -/
def crcByte (s c : Int) : Int := bits .xor .u32 (s / 256) (stepsI 8 (bits .xor .u8 (s % 256) c))
def crcFrom (s : Int) (l : List Int) : Int := l.foldl crcByte s
theorem crcByte_range (s c : Int) : 0 ≤ crcByte s c ∧ crcByte s c < 4294967296 := xor_u32_range _ _
theorem crcFrom_range (s : Int) (l : List Int) (h0 : 0 ≤ s) (h1 : s < 4294967296) : 0 ≤ crcFrom s l ∧ crcFrom s l < 4294967296 := by
  induction l generalizing s with
  | nil => exact ⟨h0, h1⟩
  | cons c l ih => exact ih (crcByte s c) (crcByte_range s c).1 (crcByte_range s c).2
theorem crcFrom_snoc (s : Int) (l : List Int) (c : Int) : crcFrom s (l ++ [c]) = crcByte (crcFrom s l) c := by simp [crcFrom]
theorem xor_u8_range (a b : Int) : 0 ≤ bits .xor .u8 a b ∧ bits .xor .u8 a b < 256 := by
  simp only [bits, IntKind.wrap_u8]
  omega
theorem take_succ_rd (l : List Int) (k : Nat) (h : k < l.length) : l.take (k + 1) = l.take k ++ [rd l k] := by
  rw [List.take_succ_eq_append_getElem h]
  simp [rd, List.getD_eq_getElem?_getD, List.getElem?_eq_getElem h]

set_option maxHeartbeats 8000000 in
set_option maxRecDepth 100000 in
theorem on_calls (s : Int) (A : Option Addr) (c : Nat) (l : List Int) (w : World) (hs0 : 0 ≤ s) (hs1 : s < 4294967296) (hr : Kd.C (Kd.int .u8) w A l.length l) :
    Calls Try.prog 42 #[.agg (tabCells 256), .int .u32 s, .slice A l.length c] w fun e w' => e = .returned (.int .u32 (bits .xor .u32 IntKind.u32.max (crcFrom (bits .xor .u32 IntKind.u32.max s) l))) ∧ Below w.heap.size w w' := by
  have HR := Aside0.mk hr
  clear hr
  have hx := xor_u32_range IntKind.u32.max s
  go_enter Try.func42, Try.ntmps42
  go_wp2
  obtain ⟨wo, HWO⟩ : ∃ wo : World, Aside0 (wo = w.alloc (.cells (tabCells 256) 67)) := ⟨_, ⟨rfl⟩⟩
  have HC := Aside0.mk (show wo.heap[w.heap.size]? = some (.cells (tabCells 256) 67 (0, 0)) by rw [HWO.out]; exact heap_alloc_new _ _)
  have HRo := Aside0.mk (show Kd.C (Kd.int .u8) wo A l.length l by rw [HWO.out]; exact Kd.C_alloc HR.out _)
  have HBo := Aside0.mk (show Below w.heap.size w wo by rw [HWO.out]; exact below_alloc (Below.refl _ _) _)
  have HM := Aside0.mk (Kd.C_max HR.out)
  obtain ⟨s0, HS0⟩ : ∃ s0 : Int, Aside0 (s0 = bits .xor .u32 IntKind.u32.max s) := ⟨_, ⟨rfl⟩⟩
  have hs0r : 0 ≤ s0 ∧ s0 < 4294967296 := by rw [HS0.out]; exact hx
  rw [← HS0.out, ← HWO.out]
  clear hx
  go_loopg [1, 13] l.length (fun kq v1 v13 w' => ∃ k : Nat, v1 = .int .u32 (crcFrom s0 (l.take k)) ∧ v13 = .int .i64 k ∧ Aside0 (k + kq = l.length) ∧ Aside0 (w' = wo))
  case atStart => exact ⟨0, rfl, rfl, ⟨by omega⟩, ⟨rfl⟩⟩
  case round =>
    obtain ⟨k, rfl, rfl, HK, HW⟩ := hrel
    obtain rfl := HW.out
    have hm := HM.out
    have hr := crcFrom_range s0 (l.take k) hs0r.1 hs0r.2
    obtain ⟨hr1, hr2⟩ := hr
    cases gk with
    | zero =>
      have hk : decide ((k : Int) < (l.length : Int)) = false := decide_eq_false (by have := HK.out; omega)
      have hk' : decide (k < l.length) = false := decide_eq_false (by have := HK.out; omega)
      have HE := Aside0.mk (show l.take k = l from List.take_of_length_le (by have := HK.out; omega))
      go_wp2
      go_ret
      exact ⟨by rw [HE.out, ← HS0.out]; rfl, HBo.out⟩
    | succ gk =>
      have hk0 : k < l.length := by have := HK.out; omega
      have hk : decide ((k : Int) < (l.length : Int)) = true := decide_eq_true (by omega)
      have hk' : decide (k < l.length) = true := decide_eq_true hk0
      have h0 : 0 ≤ (k : Int) := by omega
      obtain ⟨ad, e1, hcell⟩ := Kd.at_int HRo.out (k : Int) h0 (by omega)
      cases e1
      rw [Int.toNat_natCast] at hcell
      have hu := xor_u8_range (crcFrom s0 (l.take k) % 256) (rd l k)
      obtain ⟨hu1, hu2⟩ := hu
      have htab : wr.cell? ⟨w.heap.size, (bits .xor .u8 (crcFrom s0 (l.take k) % 256) (rd l k)).toNat, none⟩ = some (.int .u32 (stepsI 8 (bits .xor .u8 (crcFrom s0 (l.take k) % 256) (rd l k)))) := by
        rw [blk_cell HC.out, tabCells_get _ _ (by omega), tabCell, if_pos (by omega), Int.toNat_of_nonneg hu1]
      go_wp2
      go_roundg gk
      case measure => omega
      case rel => exact ⟨k + 1, by rw [take_succ_rd l k hk0, crcFrom_snoc]; rfl, by go_num, ⟨by have := HK.out; omega⟩, ⟨rfl⟩⟩
def IsBytes (l : List Int) : Prop := ∀ x ∈ l, 0 ≤ x ∧ x < 256
end Go.Proofs.Ytjednkbgdbalnaa.Fr
