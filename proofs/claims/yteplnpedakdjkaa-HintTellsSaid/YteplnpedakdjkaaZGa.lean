/- Texts of this claim, joined: FrA, FrB, FrC, FrM, FrN, FrX, FrH, PureCommon, FrY, ScP, ScR, Str. -/
import Derived.Test.YteplnpedakdjkaaProg
import Derived.Below
import Derived.Deep.Draws
import Derived.Deep.AppendLies
import Derived.Maps.AppendAt
import Derived.OwnWalk
import Derived.Laws.BytesArg
import Derived.Laws.MakeOwn
import Derived.Laws.OwnMore
import Derived.Deep.OwnRows
import Derived.Tactics
import Derived.Lib.ConvBytes
import Derived.Laws.Slices
import Derived.WalkKit
import Derived.KernelRfl
import Derived.RowKit3
import Derived.Deep.LoopGhost
import Derived.Deep.QuietTactic
import Derived.BigQuiet
import Derived.WideLaws
import Derived.Deep.DeepCutAuto
import Derived.Deep.CutBlock
import Derived.Deep.RegionHeld3
import Derived.Laws.Rows
import Derived.Laws.Tables
import Derived.Lib.AppendStr
import Derived.ArgAppend
import Derived.Laws.IdiomCopy
import Derived.OrdersHeld
import Derived.Laws.BitsLemmas
import Derived.RowKit
import Derived.Test.YteplnpedakdjkaaZWWords
import Derived.Test.YteplnpedakdjkaaZWMore
import Derived.Outline
import Derived.WalkSpells
import Derived.Test.YteplnpedakdjkaaZWZeros
import Derived.Laws.Cover3
import Derived.Stop.BytesEq
import Derived.Lib.SlBytesConst
section
/- Contracts of the frame layer's inner functions: a length told twice, the table, the sum, over whatever bytes. -/
namespace Go.Proofs.Yteplnpedakdjkaa.Fr
open Go.RowKit Go.Proofs.YteplnpedakdjkaaW.PrintWords Go.Proofs.YteplnpedakdjkaaW.PrintMore
set_option linter.unusedVariables false
set_option linter.unusedSimpArgs false

/-- What a byte turned is. -/
theorem not_u8 (x : Int) (h0 : 0 ≤ x) (h1 : x < 256) : bits .xor .u8 IntKind.u8.max x = 255 - x := by
  obtain ⟨m, rfl⟩ := Int.eq_ofNat_of_zero_le h0
  have h1 : m < 256 := by omega
  have key : ∀ m : Fin 256, bits .xor .u8 IntKind.u8.max ((m.val : Nat) : Int) = 255 - ((m.val : Nat) : Int) := by decide +kernel
  exact key ⟨m, h1⟩

set_option maxHeartbeats 400000 in
theorem length_calls (n : Int) (h0 : 0 ≤ n) (h1 : n < 65536) (w : World) :
    Calls Try.prog 51 #[.int .i64 n] w fun e w' => e = .returned (.agg #[.int .u8 (n / 256), .int .u8 (n % 256), .int .u8 (255 - n / 256), .int .u8 (255 - n % 256)]) ∧ Below w.heap.size w w' := by
  have hx := not_u8 (n / 256) (by omega) (by omega)
  have hy := not_u8 (n % 256) (by omega) (by omega)
  go_enter Try.func51, Try.ntmps51
  go_wp2
  refine bodyPost_ret (results_cell_row rfl _ _ w.heap.size 90 _ (0, 0) _ rfl (heap_alloc_new _ _) Try.underlying90 rfl (by kernel_rfl)) rfl ?_
  exact ⟨rfl, below_alloc (Below.refl _ _) _⟩

/-- One bit of a sum. -/
def stepI (s : Int) : Int := bits .xor .u32 (s / 2) (bits .and .u32 s 1 * 2197175160 % 4294967296)
def stepsI : Nat → Int → Int
  | 0, s => s
  | n + 1, s => stepI (stepsI n s)
theorem xor_u32_range (a b : Int) : 0 ≤ bits .xor .u32 a b ∧ bits .xor .u32 a b < 4294967296 := by
  simp only [bits, IntKind.wrap_u32]
  omega
theorem stepsI_range (n : Nat) (s : Int) (h0 : 0 ≤ s) (h1 : s < 4294967296) : 0 ≤ stepsI n s ∧ stepsI n s < 4294967296 := by
  cases n with
  | zero => exact ⟨h0, h1⟩
  | succ n => exact xor_u32_range _ _
def tabCell (k i : Nat) : Value := .int .u32 (if i < k then stepsI 8 (i : Int) else 0)
def tabCells (k : Nat) : Array Value := ((List.range 256).map (tabCell k)).toArray
theorem tabCells_size (k : Nat) : (tabCells k).size = 256 := by simp [tabCells]
theorem tabCells_get (k i : Nat) (h : i < 256) : (tabCells k)[i]? = some (tabCell k i) := by
  simp [tabCells, h]
theorem tabCells_next (k : Nat) (h : k < 256) : (tabCells k).setIfInBounds k (.int .u32 (stepsI 8 (k : Int))) = tabCells (k + 1) := by
  apply Array.ext_getElem?
  intro i
  rw [Array.getElem?_setIfInBounds]
  by_cases hi : i < 256
  · rw [tabCells_get _ _ hi, tabCells_get _ _ hi, tabCells_size]
    by_cases e : k = i
    · subst e
      rw [if_pos rfl, if_pos h]
      simp [tabCell]
    · rw [if_neg e]
      simp only [tabCell]
      congr 2
      by_cases hk : i < k
      · rw [if_pos hk, if_pos (by omega)]
      · rw [if_neg hk, if_neg (by omega)]
  · rw [Array.getElem?_eq_none (by rw [tabCells_size]; omega), Array.getElem?_eq_none (by rw [tabCells_size]; omega)]
    split <;> simp_all

theorem below_setRow {B : Nat} {a w : World} (h : Below B a w) {g : Nat} (hg : B ≤ g) (cs : Array Value) : Below B a (w.setRow g cs) :=
  h.trans ⟨rfl, rfl, rfl, by simp, fun k hk => by simp only [World.setRow, Array.getElem?_modify]; rw [if_neg (by omega)]⟩
set_option maxHeartbeats 8000000 in
set_option maxRecDepth 100000 in
theorem table_calls (w : World) :
    Calls Try.prog 44 #[] w fun e w' => e = .returned (.agg (tabCells 256)) ∧ Below w.heap.size w w' := by
  obtain ⟨Z, HZ⟩ : ∃ Z, Aside0 (Z = tabCells 0) := ⟨_, ⟨rfl⟩⟩
  have hz : ∀ w, (zeroValue 82).run Try.prog w = .ok (.agg Z) w := fun w => by rw [HZ.out]; kernel_rfl
  have hzs : Z.size = 256 := by rw [HZ.out]; exact tabCells_size 0
  have hzn : ¬ Z = #[] := by intro h; rw [h] at hzs; simp at hzs
  go_enter Try.func44, Try.ntmps44
  go_wp2
  go_loopg [4] 256 (fun kq v4 wr => ∃ k : Nat, v4 = .int .i64 k ∧ Aside0 (k + kq = 256) ∧ Aside0 (Below w.heap.size w wr) ∧ Aside0 (wr.heap[w.heap.size]? = some (.cells (tabCells 0) 82 (0, 0))) ∧ Aside0 (wr.heap[w.heap.size + 1]? = some (.cells (tabCells k) 82 (0, 0))))
  case atStart =>
    refine ⟨0, rfl, ⟨rfl⟩, ⟨below_alloc (below_alloc (Below.refl _ _) _) _⟩, ⟨?_⟩, ⟨?_⟩⟩
    · exact (heap_alloc2_old _ _ _).trans (by first | rw [HZ.out] | kernel_rfl)
    · exact (heap_alloc2_new _ _ _).trans (by first | rw [HZ.out] | kernel_rfl)
  case round =>
    obtain ⟨k, rfl, HK, HB, HZ, HT⟩ := hrel
    cases gk with
    | zero =>
      have hk : 256 ≤ k := by have := HK.out; omega
      have hT := HT.out
      obtain rfl : k = 256 := by have := HK.out; omega
      go_wp2_with (first
        | (refine wpList_load_row rfl _ _ rfl _ rfl 82 _ (0, 0) _ hT Try.underlying82 rfl ?_ ?_; (rw [tabCells_size]; kernel_rfl))
        | (refine wpList_store_row rfl _ _ _ rfl w.heap.size (tabCells 256) rfl rfl 82 (tabCells 0) HZ.out ?_ ?_ ?_ ?_; (rw [tabCells_size]; kernel_rfl); (rw [tabCells_size, tabCells_size]); kernel_rfl))
      refine bodyPost_ret (results_cell_row rfl _ _ w.heap.size 82 (tabCells 256) (0, 0) _ rfl (setRow_heap _ _ _ _ _ _ HZ.out) Try.underlying82 rfl (by rw [tabCells_size]; kernel_rfl)) rfl ?_
      exact ⟨rfl, below_setRow HB.out (Nat.le_refl _) _⟩
    | succ gk1 =>
      have hk : k < 256 := by have := HK.out; omega
      have hk1 : 0 ≤ (k : Int) := by omega
      have hd : decide ((k : Int) < 256) = true := decide_eq_true (by omega)
      go_wp2
      obtain ⟨wo, rfl⟩ : ∃ wo : World, wo = wr := ⟨_, rfl⟩
      have hc : wo.cell? ⟨w.heap.size + 1, k, none⟩ = some (.int .u32 0) := by
        rw [blk_cell HT.out, tabCells_get _ _ hk, tabCell, if_neg (Nat.lt_irrefl _)]
      have hf := blk_frozen HT.out k
      go_loopg [3, 9] 8 (fun kq v3 v9 w' => ∃ j : Nat, v3 = .int .u32 (stepsI j (k : Int)) ∧ v9 = .int .i64 j ∧ Aside0 (j + kq = 8) ∧ Aside0 (w' = wo))
      case atStart => exact ⟨0, rfl, rfl, ⟨rfl⟩, ⟨rfl⟩⟩
      case round =>
        obtain ⟨j, rfl, rfl, HJ, HW⟩ := hrel
        obtain rfl := HW.out
        cases gk with
        | zero =>
          have hj : 8 ≤ j := by have := HJ.out; omega
          go_wp2
          have HT' := blk_set HT.out k (.int .u32 (stepsI j (k : Int)))
          obtain rfl : j = 8 := by have := HJ.out; omega
          rw [tabCells_next k hk] at HT'
          go_roundg gk1
          case measure => have := HK.out; omega
          case rel => exact ⟨k + 1, by go_num, ⟨by have := HK.out; omega⟩, ⟨HB.out.setCell (by simp) _⟩, ⟨blk_far HZ.out (by simp) _⟩, ⟨HT'⟩⟩
        | succ gk =>
          have hj : j < 8 := by have := HJ.out; omega
          have hr := stepsI_range j (k : Int) hk1 (by omega)
          obtain ⟨hr1, hr2⟩ := hr
          go_wp2
          go_roundg gk
          case measure => omega
          case rel => exact ⟨j + 1, rfl, by go_num, ⟨by have := HJ.out; omega⟩, ⟨rfl⟩⟩
/-- A sum gone on with a byte, with bytes. -/
def crcByte (s c : Int) : Int := bits .xor .u32 (s / 256) (stepsI 8 (bits .xor .u8 (s % 256) c))
def crcFrom (s : Int) (l : List Int) : Int := l.foldl crcByte s
theorem crcByte_range (s c : Int) : 0 ≤ crcByte s c ∧ crcByte s c < 4294967296 := xor_u32_range _ _
theorem crcFrom_range (s : Int) (l : List Int) (h0 : 0 ≤ s) (h1 : s < 4294967296) : 0 ≤ crcFrom s l ∧ crcFrom s l < 4294967296 := by
  induction l generalizing s with
  | nil => exact ⟨h0, h1⟩
  | cons c l ih => exact ih (crcByte s c) (crcByte_range s c).1 (crcByte_range s c).2
theorem crcFrom_snoc (s : Int) (l : List Int) (c : Int) : crcFrom s (l ++ [c]) = crcByte (crcFrom s l) c := by simp [crcFrom]
theorem xor_u8_range (a b : Int) : 0 ≤ bits .xor .u8 a b ∧ bits .xor .u8 a b < 256 := by
  simp only [bits, IntKind.wrap_u8]
  omega
theorem take_succ_rd (l : List Int) (k : Nat) (h : k < l.length) : l.take (k + 1) = l.take k ++ [rd l k] := by
  rw [List.take_succ_eq_append_getElem h]
  simp [rd, List.getD_eq_getElem?_getD, List.getElem?_eq_getElem h]

set_option maxHeartbeats 8000000 in
set_option maxRecDepth 100000 in
theorem on_calls (s : Int) (A : Option Addr) (c : Nat) (l : List Int) (w : World) (hs0 : 0 ≤ s) (hs1 : s < 4294967296) (hr : Kd.C (Kd.int .u8) w A l.length l) :
    Calls Try.prog 60 #[.agg (tabCells 256), .int .u32 s, .slice A l.length c] w fun e w' => e = .returned (.int .u32 (bits .xor .u32 IntKind.u32.max (crcFrom (bits .xor .u32 IntKind.u32.max s) l))) ∧ Below w.heap.size w w' := by
  have HR := Aside0.mk hr
  clear hr
  have hx := xor_u32_range IntKind.u32.max s
  go_enter Try.func60, Try.ntmps60
  go_wp2
  obtain ⟨wo, HWO⟩ : ∃ wo : World, Aside0 (wo = w.alloc (.cells (tabCells 256) 82)) := ⟨_, ⟨rfl⟩⟩
  have HC := Aside0.mk (show wo.heap[w.heap.size]? = some (.cells (tabCells 256) 82 (0, 0)) by rw [HWO.out]; exact heap_alloc_new _ _)
  have HRo := Aside0.mk (show Kd.C (Kd.int .u8) wo A l.length l by rw [HWO.out]; exact Kd.C_alloc HR.out _)
  have HBo := Aside0.mk (show Below w.heap.size w wo by rw [HWO.out]; exact below_alloc (Below.refl _ _) _)
  have HM := Aside0.mk (Kd.C_max HR.out)
  obtain ⟨s0, HS0⟩ : ∃ s0 : Int, Aside0 (s0 = bits .xor .u32 IntKind.u32.max s) := ⟨_, ⟨rfl⟩⟩
  have hs0r : 0 ≤ s0 ∧ s0 < 4294967296 := by rw [HS0.out]; exact hx
  rw [← HS0.out, ← HWO.out]
  clear hx
  go_loopg [1, 13] l.length (fun kq v1 v13 w' => ∃ k : Nat, v1 = .int .u32 (crcFrom s0 (l.take k)) ∧ v13 = .int .i64 k ∧ Aside0 (k + kq = l.length) ∧ Aside0 (w' = wo))
  case atStart => exact ⟨0, rfl, rfl, ⟨by omega⟩, ⟨rfl⟩⟩
  case round =>
    obtain ⟨k, rfl, rfl, HK, HW⟩ := hrel
    obtain rfl := HW.out
    have hm := HM.out
    have hr := crcFrom_range s0 (l.take k) hs0r.1 hs0r.2
    obtain ⟨hr1, hr2⟩ := hr
    cases gk with
    | zero =>
      have hk : decide ((k : Int) < (l.length : Int)) = false := decide_eq_false (by have := HK.out; omega)
      have hk' : decide (k < l.length) = false := decide_eq_false (by have := HK.out; omega)
      have HE := Aside0.mk (show l.take k = l from List.take_of_length_le (by have := HK.out; omega))
      go_wp2
      go_ret
      exact ⟨by rw [HE.out, ← HS0.out]; rfl, HBo.out⟩
    | succ gk =>
      have hk0 : k < l.length := by have := HK.out; omega
      have hk : decide ((k : Int) < (l.length : Int)) = true := decide_eq_true (by omega)
      have hk' : decide (k < l.length) = true := decide_eq_true hk0
      have h0 : 0 ≤ (k : Int) := by omega
      obtain ⟨ad, e1, hcell⟩ := Kd.at_int HRo.out (k : Int) h0 (by omega)
      cases e1
      rw [Int.toNat_natCast] at hcell
      have hu := xor_u8_range (crcFrom s0 (l.take k) % 256) (rd l k)
      obtain ⟨hu1, hu2⟩ := hu
      have htab : wr.cell? ⟨w.heap.size, (bits .xor .u8 (crcFrom s0 (l.take k) % 256) (rd l k)).toNat, none⟩ = some (.int .u32 (stepsI 8 (bits .xor .u8 (crcFrom s0 (l.take k) % 256) (rd l k)))) := by
        rw [blk_cell HC.out, tabCells_get _ _ (by omega), tabCell, if_pos (by omega), Int.toNat_of_nonneg hu1]
      go_wp2
      go_roundg gk
      case measure => omega
      case rel => exact ⟨k + 1, by rw [take_succ_rd l k hk0, crcFrom_snoc]; rfl, by go_num, ⟨by have := HK.out; omega⟩, ⟨rfl⟩⟩
def IsBytes (l : List Int) : Prop := ∀ x ∈ l, 0 ≤ x ∧ x < 256
end Go.Proofs.Yteplnpedakdjkaa.Fr
end

section
/- Contracts of the frame layer's functions that make memory: the sum of bytes, bytes with their sum, a clone, what is joined, a frame. -/
namespace Go.Proofs.Yteplnpedakdjkaa.Fr
open Go.RowKit Go.Proofs.YteplnpedakdjkaaW.PrintWords Go.Proofs.YteplnpedakdjkaaW.PrintMore
set_option linter.unusedVariables false
set_option linter.unusedSimpArgs false

/-- The sum of bytes. -/
def sumOf (l : List Int) : Int := bits .xor .u32 IntKind.u32.max (crcFrom (bits .xor .u32 IntKind.u32.max 0) l)
theorem sumOf_range (l : List Int) : 0 ≤ sumOf l ∧ sumOf l < 4294967296 := xor_u32_range _ _

set_option maxHeartbeats 8000000 in
set_option maxRecDepth 100000 in
theorem of_calls (A : Option Addr) (c : Nat) (l : List Int) (w : World) (hr : Kd.C (Kd.int .u8) w A l.length l) :
    Calls Try.prog 43 #[.agg (tabCells 256), .slice A l.length c] w fun e w' => e = .returned (.int .u32 (sumOf l)) ∧ Below w.heap.size w w' := by
  have HR := Aside0.mk hr
  clear hr
  have HT := Aside0.mk (heap_alloc_new w (.cells (tabCells 256) 82))
  go_enter Try.func43, Try.ntmps43
  go_wp2_with (first
    | (refine wpList_load_row rfl _ _ rfl _ rfl 82 _ (0, 0) _ HT.out Try.underlying82 rfl ?_ ?_; (rw [tabCells_size]; kernel_rfl))
    | (go_at_call 60; refine (on_calls 0 A c l _ (by omega) (by omega) (Kd.C_alloc HR.out _)).mono ?_; rintro e w1 ⟨rfl, hb⟩))
  go_ret
  exact ⟨rfl, (below_alloc (Below.refl _ _) _).trans (hb.mono (by simp))⟩

/-- The table under a name. -/
theorem table_named (w : World) : Calls Try.prog 44 #[] w fun e w' => ∃ T, e = .returned (.agg T) ∧ Aside0 (T = tabCells 256) ∧ Below w.heap.size w w' :=
  (table_calls w).mono fun e w' h => ⟨_, h.1, ⟨rfl⟩, h.2⟩
theorem of_named (T : Array Value) (hT : Aside0 (T = tabCells 256)) (A : Option Addr) (c : Nat) (l : List Int) (w : World) (hr : Kd.C (Kd.int .u8) w A l.length l) :
    Calls Try.prog 43 #[.agg T, .slice A l.length c] w fun e w' => ∃ s, e = .returned (.int .u32 s) ∧ Aside0 (s = sumOf l) ∧ 0 ≤ s ∧ s < 4294967296 ∧ Below w.heap.size w w' := by
  obtain rfl := hT.out
  exact (of_calls A c l w hr).mono fun e w' h => ⟨_, h.1, ⟨rfl⟩, (sumOf_range l).1, (sumOf_range l).2, h.2⟩

/-- The four bytes behind. -/
def tailOf (s : Int) : List Int := [s % 256, s / 256 % 256, s / 65536 % 256, s / 16777216]

theorem info_u8 : (Try.prog.info? 5).map (fun i => (i.zero, i.size, i.bytes)) = some (some (.int .u8 0), 1, 1) := by kernel_rfl

theorem lit_reads (W : World) (e : TypeId) (k : IntKind) (xs : List Int) (hm : xs.length ≤ 9223372036854775807) : ReadsInt (W.alloc (.cells (nums k xs).toArray e)) k (some ⟨W.heap.size, 0, none⟩) xs.length xs := by
  obtain ⟨A, c, hv, hr⟩ := own_reads (own_lit W W.heap.size e k xs (Nat.le_refl _) hm)
  injection hv with h1 h2 h3
  subst h1
  exact hr

set_option maxHeartbeats 8000000 in
set_option maxRecDepth 100000 in
theorem sealed_calls (base : Nat) (v : Value) (l : List Int) (w : World) (hl : l.length < 140737488355000) (hbase : base ≤ w.heap.size) (ho : w.ownsRow base 5 1 v l.length (nums .u8 l)) :
    Calls Try.prog 52 #[v] w fun e w' => ∃ v', e = .returned v' ∧ w'.ownsRow base 5 1 v' (l ++ tailOf (sumOf l)).length (nums .u8 (l ++ tailOf (sumOf l))) ∧ w.grownBy w' v.ownBlock ∧ (v'.ownBlock = v.ownBlock ∨ ∃ b, v'.ownBlock = some b ∧ w.heap.size ≤ b) := by
  obtain ⟨A, c, rfl, hri⟩ := own_reads ho
  have HO := Aside0.mk ho
  clear ho
  have HR : Aside0 (Kd.C (Kd.int .u8) w A l.length l) := ⟨Kd.C_of_reads hri⟩
  clear hri
  go_enter Try.func52, Try.ntmps52
  go_wp2_with (first
    | (go_at_call 44; refine (table_named _).mono ?_; rintro e w1 ⟨T, rfl, HT, hb1⟩; have HB1 := Aside0.mk hb1; clear hb1)
    | (go_at_call 43; refine (of_named T HT A c l _ (Kd.C_below HR.out HB1.out)).mono ?_; rintro e w2 ⟨s, rfl, HS, hs0, hs1, hb2⟩; have HB2 := Aside0.mk (below_then HB1.out HB1.out.size hb2); clear hb2)
    | (at_builtin; refine print_append_row (w0 := w) base rfl _ _ 23 5 .u8 1 rfl Try.underlying23 info_u8 (by omega) (.slice A l.length c) l (tailOf s) _ _ _ rfl rfl (pw_own_below HO.out (below_alloc HB2.out _)) (lit_reads w2 5 .u8 (tailOf s) (by simp [tailOf])) ((below_alloc HB2.out _).mono hbase) (Nat.le_trans hbase (below_alloc HB2.out _).size) (by simp [tailOf]; omega) ?_; intro v1 wz hv1 hbz hgz haz; have HV1 := Aside0.mk hv1; clear hv1; have HGZ := Aside0.mk hgz; clear hgz; have HAZ := Aside0.mk haz; clear haz; clear hbz))
  go_ret
  refine ⟨_, rfl, ?_, ?_, ?_⟩
  · rw [← HS.out]; exact HV1.out
  · exact (grown_of_below (below_alloc HB2.out _) _).trans HGZ.out
  · rcases HAZ.out with h | ⟨b, h, hb⟩
    · exact .inl h
    · exact .inr ⟨b, h, Nat.le_trans (below_alloc HB2.out _).size hb⟩

set_option maxHeartbeats 8000000 in
set_option maxRecDepth 100000 in
theorem clone_calls (A : Option Addr) (c : Nat) (l : List Int) (w : World) (hl : l.length < 140737488355328) (hr : Kd.C (Kd.int .u8) w A l.length l) :
    Calls Try.prog 68 #[.slice A l.length c] w fun e w' => ∃ v, e = .returned v ∧ w'.ownsRow w.heap.size 5 1 v l.length (nums .u8 l) ∧ Below w.heap.size w w' := by
  have HR := Aside0.mk hr
  clear hr
  cases A with
  | none =>
    obtain rfl : l = [] := by
      rcases l with _ | ⟨x, l⟩
      · rfl
      · obtain ⟨ad, h, _⟩ := Kd.at_int HR.out 0 (by omega) (by simp)
        cases h
    have heq := fun w : World => Lib.run_eql_slice_nil (P := Try.prog) w 23 5 none 0 c 0 0 Try.underlying23
    go_enter Try.func68, Try.ntmps68
    go_wp2
    go_ret
    exact ⟨_, rfl, own_nil _ _ _ _, Below.refl _ _⟩
  | some ad =>
    have heq := fun w : World => Lib.run_eql_slice_nil (P := Try.prog) w 23 5 (some ad) l.length c 0 0 Try.underlying23
    go_enter Try.func68, Try.ntmps68
    go_wp2_with (at_builtin; refine print_append_row (w0 := w) w.heap.size rfl _ _ 23 5 .u8 1 rfl Try.underlying23 info_u8 (by omega) (.slice (some ⟨w.heap.size, 0, none⟩) 0 0) [] l _ _ _ rfl rfl (own_lit w w.heap.size 5 .u8 [] (Nat.le_refl _) (by simp)) (Kd.reads_of_C (Kd.C_alloc HR.out _)) (below_alloc (Below.refl _ _) _) (by simp) (by simp; omega) ?_; intro v1 wz hv1 hbz hgz haz; have HV1 := Aside0.mk hv1; clear hv1; clear hgz; clear haz; have HBZ := Aside0.mk hbz; clear hbz)
    go_ret
    exact ⟨_, rfl, by simpa using HV1.out, HBZ.out⟩

/-- An empty row with room. -/
theorem own_room (w : World) (base : Nat) (e : TypeId) {v : Value} {n : Nat} {xs : List Value} (h : w.ownsRow base e 1 v n xs) : ∃ A c, v = .slice A n c ∧ w.ownsRow base e 1 (.slice A 0 c) 0 [] := by
  obtain ⟨A, c, rfl⟩ := own_slice h
  have h2 := own_take h (Nat.zero_le n)
  exact ⟨A, c, rfl, by simpa using h2⟩

set_option maxHeartbeats 8000000 in
set_option maxRecDepth 100000 in
theorem grow_calls (n : Int) (w : World) (h0 : 0 ≤ n) (hn : n < 140737488355328) :
    Calls Try.prog 63 #[.slice none 0 0, .int .i64 n] w fun e w' => ∃ v, e = .returned v ∧ w'.ownsRow w.heap.size 5 1 v 0 [] ∧ Below w.heap.size w w' := by
  by_cases hz : n = 0
  · subst hz
    go_enter Try.func63, Try.ntmps63
    go_wp2
    go_ret
    exact ⟨_, rfl, own_nil _ _ _ _, Below.refl _ _⟩
  · have hd : decide (0 < n) = true := decide_eq_true (by omega)
    have hd2 : decide (n < 0) = false := decide_eq_false (by omega)
    go_enter Try.func63, Try.ntmps63
    go_wp2_with (at_builtin; refine Kd.R_append_zeros (Kd.int .u8) (w0 := w) w.heap.size rfl _ _ 23 3 5 _ 1 rfl Try.underlying23 Try.underlying3 info_u8 rfl Nat.one_pos Nat.one_pos (.slice none 0 0) [] 0 n (fun _ => True) rfl rfl rfl (fun _ _ => trivial) (Kd.R_nil _ _ _ _ _) h0 (Below.refl _ _) (Nat.le_refl _) (by simp; omega) ?_; intro v1 w1 hv1 hb1 hg1 ha1; obtain ⟨inner, hown⟩ := Kd.R_own hv1; obtain ⟨A1, c1, rfl, hroom⟩ := own_room w1 w.heap.size 5 hown; have HROOM := Aside0.mk hroom; have HB1 := Aside0.mk hb1; clear hroom hb1 hown hv1 hg1 ha1; rw [List.length_append, List.length_nil, List.length_replicate])
    go_ret
    exact ⟨_, rfl, HROOM.out, HB1.out⟩

def rdL (xs : List (List Int)) (i : Int) : List Int := xs.getD i.toNat []
theorem at_L {w : World} {A : Option Addr} {n : Nat} {xs : List (List Int)} (h : Kd.C (Kd.slice 5 (Kd.int .u8)) w A n xs) (i : Int) (h0 : 0 ≤ i) (h1 : i < n) : ∃ ad A0 c0, A = some ad ∧ w.cell? (ad.add i.toNat) = some (.slice A0 (rdL xs i).length c0) ∧ (rdL xs i).length ≤ c0 ∧ (Kd.int .u8).C w A0 (rdL xs i).length (rdL xs i) := by
  obtain ⟨ad, c, e, _, hK, hc0⟩ := Kd.C_get h ([] : List Int) i h0 h1
  have hc : ∀ j u, c[j]? = some u → w.cell? (ad.add (i.toNat * 1 + j)) = some u := hc0
  obtain ⟨A0, c0, rfl, l0, g0⟩ := hK
  exact ⟨ad, A0, c0, e, by have hq := hc 0 _ rfl; rwa [Nat.mul_one, Nat.add_zero] at hq, l0, g0⟩
theorem take_succ_rdL (l : List (List Int)) (k : Nat) (h : k < l.length) : l.take (k + 1) = l.take k ++ [rdL l k] := by
  rw [List.take_succ_eq_append_getElem h]
  simp [rdL, List.getD_eq_getElem?_getD, List.getElem?_eq_getElem h]
/-- What stands in the first ones. -/
def flat (l : List (List Int)) (k : Nat) : List Int := (l.take k).flatten
def flatN (l : List (List Int)) (k : Nat) : Nat := (flat l k).length
theorem flat_len (l : List (List Int)) (k : Nat) : (flat l k).length = flatN l k := rfl
theorem flat_succ (l : List (List Int)) (k : Nat) (h : k < l.length) : flat l (k + 1) = flat l k ++ rdL l k := by
  unfold flat
  rw [take_succ_rdL l k h, List.flatten_append]
  simp
theorem flatN_succ (l : List (List Int)) (k : Nat) (h : k < l.length) : flatN l (k + 1) = flatN l k + (rdL l k).length := by
  unfold flatN
  rw [flat_succ l k h, List.length_append]
theorem flatN_le (l : List (List Int)) (k : Nat) : flatN l k ≤ flatN l l.length := by
  unfold flatN flat
  rw [List.take_length]
  conv => rhs; rw [← List.take_append_drop k l]
  rw [List.flatten_append, List.length_append]
  omega

set_option maxHeartbeats 8000000 in
set_option maxRecDepth 100000 in
theorem concat_calls (A : Option Addr) (c : Nat) (ls : List (List Int)) (w : World) (hl : flatN ls ls.length < 140737488355328) (hr : Kd.C (Kd.slice 5 (Kd.int .u8)) w A ls.length ls) :
    Calls Try.prog 53 #[.slice A ls.length c] w fun e w' => ∃ v, e = .returned v ∧ w'.ownsRow w.heap.size 5 1 v (flat ls ls.length).length (nums .u8 (flat ls ls.length)) ∧ Below w.heap.size w w' := by
  have HR := Aside0.mk hr
  clear hr
  have hm := Kd.C_max HR.out
  go_enter Try.func53, Try.ntmps53
  go_wp2
  go_loopg [3, 11] ls.length (fun kq v3 v11 w' => ∃ k : Nat, v3 = .int .i64 (flatN ls k : Int) ∧ v11 = .int .i64 k ∧ Aside0 (k + kq = ls.length) ∧ Aside0 (w = w'))
  case atStart => exact ⟨0, rfl, rfl, ⟨by omega⟩, ⟨rfl⟩⟩
  case round =>
    obtain ⟨k, rfl, rfl, HK, HW⟩ := hrel
    obtain rfl := HW.out
    have hle := flatN_le ls k
    cases gk with
    | zero =>
      have hk : decide ((k : Int) < (ls.length : Int)) = false := decide_eq_false (by have := HK.out; omega)
      have hk' : decide (k < ls.length) = false := decide_eq_false (by have := HK.out; omega)
      go_wp2_with (go_at_call 63; refine (grow_calls _ _ (by omega) (by omega)).mono ?_; rintro e w1 ⟨v, rfl, hv, hb⟩; have HV := Aside0.mk hv; have HB := Aside0.mk hb; clear hv hb)
      clear hk hk'
      go_loopg [6, 27] ls.length (fun kq v6 v27 w' => ∃ k : Nat, v27 = .int .i64 k ∧ Aside0 (k + kq = ls.length) ∧ Aside0 (w'.ownsRow w.heap.size 5 1 v6 (flat ls k).length (nums .u8 (flat ls k))) ∧ Aside0 (Below w.heap.size w w'))
      case atStart => exact ⟨0, rfl, ⟨by omega⟩, ⟨by simpa [flat, nums] using HV.out⟩, HB⟩
      case round =>
        clear HV HB HK
        clear hle
        obtain ⟨k2, rfl, HK, HV, HB⟩ := hrel
        cases gk with
        | zero =>
          have hk : decide ((k2 : Int) < (ls.length : Int)) = false := decide_eq_false (by have := HK.out; omega)
          have hk' : decide (k2 < ls.length) = false := decide_eq_false (by have := HK.out; omega)
          go_wp2
          go_ret
          obtain rfl : k2 = ls.length := by have := HK.out; omega
          exact ⟨_, rfl, HV.out, HB.out⟩
        | succ gk =>
          have hk0 : k2 < ls.length := by have := HK.out; omega
          have hk : decide ((k2 : Int) < (ls.length : Int)) = true := decide_eq_true (by omega)
          have hk' : decide (k2 < ls.length) = true := decide_eq_true hk0
          have h0 : 0 ≤ (k2 : Int) := by omega
          have hle := flatN_le ls (k2 + 1)
          have HF := Aside0.mk (flat_succ ls k2 hk0)
          rw [flatN_succ ls k2 hk0] at hle
          have HRo := Aside0.mk (Kd.C_below HR.out HB.out)
          obtain ⟨ad, A0, c0, e1, hcell, hlc, hC⟩ := at_L HRo.out (k2 : Int) h0 (by omega)
          cases e1
          rw [Int.toNat_natCast] at hcell
          have HC := Aside0.mk hC
          clear hC
          go_wp2_with (at_builtin; refine print_append_row (w0 := w) w.heap.size rfl _ _ 23 5 .u8 1 rfl Try.underlying23 info_u8 (by omega) _ (flat ls k2) (rdL ls k2) _ _ _ rfl rfl HV.out (Kd.reads_of_C HC.out) HB.out HB.out.size (by rw [flat_len]; omega) ?_; intro v1 wz hv1 hbz hgz haz; have HV1 := Aside0.mk hv1; clear hv1; clear hgz; clear haz; have HBZ := Aside0.mk hbz; clear hbz)
          go_roundg gk
          case measure => omega
          case rel => exact ⟨k2 + 1, by go_num, ⟨by have := HK.out; omega⟩, ⟨by rw [HF.out]; exact HV1.out⟩, HBZ⟩
    | succ gk =>
      have hk0 : k < ls.length := by have := HK.out; omega
      have hk : decide ((k : Int) < (ls.length : Int)) = true := decide_eq_true (by omega)
      have hk' : decide (k < ls.length) = true := decide_eq_true hk0
      have h0 : 0 ≤ (k : Int) := by omega
      have hle2 := flatN_le ls (k + 1)
      have HF := Aside0.mk (flatN_succ ls k hk0)
      rw [HF.out] at hle2
      obtain ⟨ad, A0, c0, e1, hcell, hlc, hC⟩ := at_L HR.out (k : Int) h0 (by omega)
      cases e1
      rw [Int.toNat_natCast] at hcell
      have hnn : decide ((flatN ls k : Int) + ((rdL ls k).length : Int) < 0) = false := decide_eq_false (by omega)
      go_wp2
      go_roundg gk
      case measure => omega
      case rel => exact ⟨k + 1, by rw [HF.out]; go_num, by go_num, ⟨by have := HK.out; omega⟩, ⟨rfl⟩⟩
end Go.Proofs.Yteplnpedakdjkaa.Fr
end

section
/- Contracts of the frame layer's exported functions. -/
namespace Go.Proofs.Yteplnpedakdjkaa.Fr
open Go.RowKit Go.Proofs.YteplnpedakdjkaaW.PrintWords Go.Proofs.YteplnpedakdjkaaW.PrintMore
set_option linter.unusedVariables false
set_option linter.unusedSimpArgs false

def sizeI (n : Int) : Int := if n < 1 then 0 else if 8192 < n then 0 else n + 8
theorem size_calls (n : Int) (w : World) :
    Calls Try.prog 50 #[.int .i64 n] w fun e w' => e = .returned (.int .i64 (sizeI n)) ∧ w = w' := by
  unfold sizeI
  by_cases h1 : n < 1
  · have d1 : decide (n < 1) = true := decide_eq_true h1
    rw [if_pos h1]
    go_enter Try.func50, Try.ntmps50
    go_wp2
    go_ret
    exact ⟨rfl, rfl⟩
  · have d1 : decide (n < 1) = false := decide_eq_false h1
    rw [if_neg h1]
    by_cases h2 : 8192 < n
    · have d2 : decide (8192 < n) = true := decide_eq_true h2
      rw [if_pos h2]
      go_enter Try.func50, Try.ntmps50
      go_wp2
      go_ret
      exact ⟨rfl, rfl⟩
    · have d2 : decide (8192 < n) = false := decide_eq_false h2
      rw [if_neg h2, show n + 8 = 4 + n + 4 by omega]
      go_enter Try.func50, Try.ntmps50
      go_wp2
      go_ret
      exact ⟨rfl, rfl⟩

def hdr (n : Int) : List Int := [n / 256, n % 256, 255 - n / 256, 255 - n % 256]
def bodyOf (l : List Int) : List Int := hdr l.length ++ l
def frameOf (l : List Int) : List Int := bodyOf l ++ tailOf (sumOf (bodyOf l))
def putL (l : List Int) : List Int := if sizeI l.length = 0 then [] else frameOf l

theorem C_two (W : World) (A0 A1 : Option Addr) (n0 c0 c1 g t : Nat) (xs ys : List Int) (h0 : xs.length ≤ c0) (h1 : ys.length ≤ c1) (hn : xs.length = n0) (hg : g = W.heap.size) (hx : Kd.C (Kd.int .u8) W A0 xs.length xs) (hy : Kd.C (Kd.int .u8) W A1 ys.length ys) :
    Kd.C (Kd.slice 5 (Kd.int .u8)) (W.alloc (.cells #[.slice A0 n0 c0, .slice A1 ys.length c1] t)) (some ⟨g, 0, none⟩) [xs, ys].length [xs, ys] := by
  subst hn hg
  refine ⟨rfl, by simp, fun _ => ⟨_, rfl, fun j p hj => ?_⟩⟩
  have hb := heap_alloc_new W (.cells #[.slice A0 xs.length c0, .slice A1 ys.length c1] t)
  rcases j with _ | _ | j
  · obtain rfl : xs = p := by simpa using hj
    refine ⟨[.slice A0 xs.length c0], rfl, ⟨A0, c0, rfl, h0, Kd.C_alloc hx _⟩, fun i u hu => ?_⟩
    rcases i with _ | i
    · obtain rfl : Value.slice A0 xs.length c0 = u := by simpa using hu
      rw [add_plain, blk_cell hb]
      rfl
    · simp at hu
  · obtain rfl : ys = p := by simpa using hj
    refine ⟨[.slice A1 ys.length c1], rfl, ⟨A1, c1, rfl, h1, Kd.C_alloc hy _⟩, fun i u hu => ?_⟩
    rcases i with _ | i
    · obtain rfl : Value.slice A1 ys.length c1 = u := by simpa using hu
      rw [add_plain, blk_cell hb]
      rfl
    · simp at hu
  · simp at hj
/-- A header, as a row. -/
theorem hdr_reads (W : World) (n : Int) (t : Nat) : Kd.C (Kd.int .u8) (W.alloc (.cells #[.int .u8 (n / 256), .int .u8 (n % 256), .int .u8 (255 - n / 256), .int .u8 (255 - n % 256)] t)) (some ⟨W.heap.size, 0, none⟩) (hdr n).length (hdr n) :=
  Kd.C_of_reads (enc := Value.int .u8) (d := 0) (h1 := fun _ => rfl) (lit_reads W t .u8 (hdr n) (by simp [hdr]))
theorem flat_two (xs ys : List Int) : flat [xs, ys] [xs, ys].length = xs ++ ys := by simp [flat]

set_option maxHeartbeats 8000000 in
set_option maxRecDepth 100000 in
theorem put_calls (A : Option Addr) (c : Nat) (l : List Int) (w : World) (hc : l.length ≤ c) (hr : Kd.C (Kd.int .u8) w A l.length l) :
    Calls Try.prog 35 #[.slice A l.length c] w fun e w' => ∃ v, e = .returned v ∧ w'.ownsRow w.heap.size 5 1 v (putL l).length (nums .u8 (putL l)) ∧ Below w.heap.size w w' := by
  have HR := Aside0.mk hr
  clear hr
  unfold putL
  by_cases h0 : sizeI l.length = 0
  · rw [if_pos h0]
    have b0 : (sizeI (l.length : Int) == 0) = true := beq_iff_eq.mpr h0
    clear h0
    go_enter Try.func35, Try.ntmps35
    go_wp2_with (go_at_call 50; refine (size_calls _ _).mono ?_; rintro e w1 ⟨rfl, rfl⟩)
    go_ret
    exact ⟨_, rfl, own_nil _ _ _ _, Below.refl _ _⟩
  · rw [if_neg h0]
    have b0 : (sizeI (l.length : Int) == 0) = false := beq_eq_false_iff_ne.mpr h0
    have hn : 1 ≤ l.length ∧ l.length ≤ 8192 := by unfold sizeI at h0; split at h0 <;> (try split at h0) <;> omega
    obtain ⟨hn1, hn2⟩ := hn
    clear h0
    go_enter Try.func35, Try.ntmps35
    go_wp2_with (first
      | (go_at_call 50; refine (size_calls _ _).mono ?_; rintro e w1 ⟨rfl, rfl⟩)
      | (go_at_call 51; refine (length_calls _ (by omega) (by omega) _).mono ?_; rintro e w1 ⟨rfl, hb1⟩; have HB1 := Aside0.mk hb1; clear hb1)
      | (go_at_call 53; refine (concat_calls (some ⟨w1.heap.size + 1, 0, none⟩) 2 [hdr l.length, l] _ (by rw [flatN, flat_two]; simp [hdr]; omega) (C_two _ _ _ 4 4 c _ 23 (hdr l.length) l (by simp [hdr]) hc rfl (by simp) (hdr_reads w1 l.length 90) (Kd.C_alloc (Kd.C_below HR.out HB1.out) _))).mono ?_; rintro e w2 ⟨v2, rfl, hv2, hb2⟩; have HB2 := Aside0.mk hb2; have HV2 := Aside0.mk hv2; clear hb2 hv2)
      | (go_at_call 52; refine (sealed_calls _ _ _ _ (by rw [flat_two]; simp [hdr]; omega) HB2.out.size HV2.out).mono ?_; rintro e w3 ⟨v3, rfl, hv3, hg3, ha3⟩; have HV3 := Aside0.mk hv3; have HG3 := Aside0.mk hg3; clear hv3 hg3 ha3))
    go_ret
    rw [flat_two] at HV2 HV3
    have hb2 : Below w.heap.size w w2 := below_then (below_alloc (below_alloc HB1.out _) _) (below_alloc (below_alloc HB1.out _) _).size HB2.out
    have hbase := (below_alloc (below_alloc HB1.out (.cells #[.int .u8 ((l.length : Int) / 256), .int .u8 ((l.length : Int) % 256), .int .u8 (255 - (l.length : Int) / 256), .int .u8 (255 - (l.length : Int) % 256)] 90)) (.cells #[.slice (some ⟨w1.heap.size, 0, none⟩) 4 4, .slice A l.length c] 23)).size
    refine ⟨_, rfl, own_weaken HV3.out hbase, pw_below_grown hb2 _ hb2.size HG3.out fun k hk => ?_⟩
    exact Nat.le_trans hbase (own_base HV2.out k hk)

theorem rd_mem (l : List Int) (i : Int) (h0 : 0 ≤ i) (h1 : i < l.length) : rd l i ∈ l := by
  unfold rd
  rw [List.getD_eq_getElem?_getD, List.getElem?_eq_getElem (by omega)]
  exact List.getElem_mem _
theorem or_bytes (a b : Int) (h0 : 0 ≤ a) (h1 : a < 256) (g0 : 0 ≤ b) (g1 : b < 256) : bits .or .i64 (a * 256) b = a * 256 + b :=
  Go.bits_join .i64 63 (by decide) (fun n h h' => by rw [IntWalk.i64_in] <;> omega) 8 (a * 256) b (by omega) (by omega) (by omega) g0 (by omega) (by omega)

def nOf (l : List Int) : Int := rd l 0 * 256 + rd l 1
def firstL (l : List Int) : List Int × Int × Int :=
  if l.length < 4 then ([], 0, 21)
  else if sizeI (nOf l) = 0 ∨ l.take 4 ≠ hdr (nOf l) then ([], 0, 22)
  else if (l.length : Int) < sizeI (nOf l) then ([], 0, 21)
  else if l.take (nOf l + 4).toNat ++ tailOf (sumOf (l.take (nOf l + 4).toNat)) ≠ l.take (nOf l + 8).toNat then ([], nOf l + 8, 22)
  else ((l.take (nOf l + 4).toNat).drop 4, nOf l + 8, 0)

theorem all_range_eqI : ∀ (xs ys : List Int), xs.length = ys.length → (List.range xs.length).all (fun i => xs.getD i 0 == ys.getD i 0) = (xs == ys)
  | [], [], _ => rfl
  | x :: xs, y :: ys, h => by
    have ih := all_range_eqI xs ys (by simpa using h)
    rw [List.length_cons, List.range_succ_eq_map, List.all_cons, List.all_map]
    simp only [List.getD_cons_zero, Function.comp_def, List.getD_cons_succ, ih]
    simp [List.cons_beq_cons]
  | [], _ :: _, h => by simp at h
  | _ :: _, [], h => by simp at h
/-- Two arrays of whole numbers compared. -/
theorem run_equalIn_ints {P : Program} (w : World) (d : Nat) (t e : TypeId) (k : IntKind) (n : Nat) (ht : P.underlying t = some (.array n e)) (he : P.underlying e = some (.int k)) (hsz : ∀ w, (sizeOf e).run P w = .ok 1 w)
    (xs ys : List Int) (hx : xs.length = n) (hy : ys.length = n) :
    (Op.equalIn (d + 2) t (.agg (nums k xs).toArray) (.agg (nums k ys).toArray)).run P w = .ok (xs == ys) w := by
  rw [← all_range_eqI xs ys (hx.trans hy.symm), hx, List.range_eq_range', Op.equalIn]
  simp only [Sem.run_bind, run_underlying ht, Result.andThen_ok, hsz, Std.Legacy.Range.forIn_eq_forIn_range', Std.Legacy.Range.size, Nat.sub_zero, Nat.add_sub_cancel, Nat.div_one]
  have hl : ∀ i ∈ List.range' 0 n 1, i < n := fun i hi => by simpa using (List.mem_range'_1.1 hi).2
  generalize List.range' 0 n 1 = l at hl ⊢
  induction l with
  | nil => simp
  | cons i l ih =>
    have hi : i < n := hl i (by simp)
    have px : (part e (nums k xs).toArray (i * 1)).run P w = .ok (.int k (xs.getD i 0)) w := by
      simp [part, isAgg, nums, run_underlying he, List.getD, List.getElem?_eq_getElem (show i < xs.length by omega)]
    have py : (part e (nums k ys).toArray (i * 1)).run P w = .ok (.int k (ys.getD i 0)) w := by
      simp [part, isAgg, nums, run_underlying he, List.getD, List.getElem?_eq_getElem (show i < ys.length by omega)]
    have pe : (Op.equalIn (d + 1) e (.int k (xs.getD i 0)) (.int k (ys.getD i 0))).run P w = .ok (xs.getD i 0 == ys.getD i 0) w := by
      rw [Op.equalIn]
      simp [run_underlying he]
    simp only [List.forIn_cons, Sem.run_bind, px, py, pe, Result.andThen_ok, List.all_cons]
    cases hb : (xs.getD i 0 == ys.getD i 0)
    · simp
    · simp only [Bool.not_true, Bool.false_eq_true, if_false, Sem.run_pure, Result.andThen_ok, Bool.true_and]
      exact ih fun j hj => hl j (by simp [hj])
theorem size_u8 : ∀ w, (sizeOf 5).run Try.prog w = .ok 1 w := by
  obtain ⟨i0, hi, hz0, hz1, hz2⟩ := info_parts info_u8
  intro w
  simp [sizeOf, typeInfo, hi, hz1]
theorem take4 (l : List Int) (h : 4 ≤ l.length) : l.take 4 = [rd l 0, rd l 1, rd l 2, rd l 3] := by
  match l, h with
  | a :: b :: c :: d :: l, _ => rfl

/-- Do two rows agree in what is ahead of a place? -/
def eqTo (l0 l1 : List Int) (k : Nat) : Bool := l0.take k == l1.take k
theorem eqTo_zero (l0 l1 : List Int) : eqTo l0 l1 0 = true := by simp [eqTo]
theorem eqTo_all (l0 l1 : List Int) (h : l0.length = l1.length) : eqTo l0 l1 l0.length = (l0 == l1) := by
  unfold eqTo
  rw [List.take_length, h, List.take_length]
theorem eqTo_step (l0 l1 : List Int) (k : Nat) (h : l0.length = l1.length) (hk : k < l0.length) (he : eqTo l0 l1 k = true) (hr : rd l0 k = rd l1 k) : eqTo l0 l1 (k + 1) = true := by
  unfold eqTo at he ⊢
  have he := beq_iff_eq.mp he
  rw [take_succ_rd l0 k hk, take_succ_rd l1 k (by omega), he, hr]
  exact beq_self_eq_true _
theorem eqTo_stop (l0 l1 : List Int) (k : Nat) (hr : rd l0 k ≠ rd l1 k) : (l0 == l1) = false := by
  apply beq_eq_false_iff_ne.mpr
  rintro rfl
  exact hr rfl
theorem beq_len (l0 l1 : List Int) (h : l0.length ≠ l1.length) : (l0 == l1) = false := by
  apply beq_eq_false_iff_ne.mpr
  rintro rfl
  exact h rfl

set_option maxHeartbeats 8000000 in
set_option maxRecDepth 100000 in
theorem equal_calls (A0 A1 : Option Addr) (c0 c1 : Nat) (l0 l1 : List Int) (w : World) (hr0 : Kd.C (Kd.int .u8) w A0 l0.length l0) (hr1 : Kd.C (Kd.int .u8) w A1 l1.length l1) :
    Calls Try.prog 67 #[.slice A0 l0.length c0, .slice A1 l1.length c1] w fun e w' => e = .returned (.bool (l0 == l1)) ∧ Drawn0 w w' := by
  have HR0 := Aside0.mk hr0
  have HR1 := Aside0.mk hr1
  have hm := Kd.C_max hr0
  clear hr0 hr1
  by_cases hl : l0.length = l1.length
  · have b0 : ((l0.length : Int) == (l1.length : Int)) = true := beq_iff_eq.mpr (by omega)
    have b1 : ((l0.length : Int) != (l1.length : Int)) = false := bne_eq_false_iff_eq.mpr (by omega)
    have b2 : (l0.length == l1.length) = true := beq_iff_eq.mpr hl
    have b3 : (l0.length != l1.length) = false := bne_eq_false_iff_eq.mpr hl
    have HL := Aside0.mk hl
    have hl1 : l0.length ≤ l1.length := by omega
    clear hl
    go_enter Try.func67, Try.ntmps67
    go_wp2
    repeat (go_quiet (fail); try go_wp2)
    go_loopg [13] l0.length (fun kq v13 w' => ∃ k : Nat, v13 = .int .i64 k ∧ Aside0 (k + kq = l0.length) ∧ Aside0 (eqTo l0 l1 k = true) ∧ Drawn0 w w')
    case atStart => exact ⟨0, rfl, ⟨by omega⟩, ⟨eqTo_zero _ _⟩, Drawn0.refl _⟩
    case round =>
      obtain ⟨k, rfl, HK, HE, ⟨m, rfl⟩⟩ := hrel
      cases gk with
      | zero =>
        have hk : decide ((k : Int) < (l0.length : Int)) = false := decide_eq_false (by have := HK.out; omega)
        have hk' : decide (k < l0.length) = false := decide_eq_false (by have := HK.out; omega)
        go_wp2
        go_ret
        refine ⟨?_, by repeat (first | exact Drawn0.refl _ | apply Drawn0.step)⟩
        have e1 := HE.out
        rw [show k = l0.length by have := HK.out; omega, eqTo_all _ _ HL.out] at e1
        rw [e1]
        rfl
      | succ gk =>
        have hk0 : k < l0.length := by have := HK.out; omega
        have hk1 : (k < l0.length) = True := eq_true hk0
        have hk1' : (k < l1.length) = True := eq_true (by omega)
        have hk : decide ((k : Int) < (l0.length : Int)) = true := decide_eq_true (by omega)
        have hk' : decide (k < l0.length) = true := decide_eq_true hk0
        have h0 : 0 ≤ (k : Int) := by omega
        obtain ⟨a0, e0, x0⟩ := Kd.at_int HR0.out (k : Int) h0 (by omega)
        cases e0
        obtain ⟨a1, e1, x1⟩ := Kd.at_int HR1.out (k : Int) h0 (by omega)
        cases e1
        rw [Int.toNat_natCast] at x0 x1
        by_cases hq : rd l0 k = rd l1 k
        · have q0 : (rd l0 k == rd l1 k) = true := beq_iff_eq.mpr hq
          have q1 : (rd l0 k != rd l1 k) = false := bne_eq_false_iff_eq.mpr hq
          have HS := Aside0.mk (eqTo_step l0 l1 k HL.out hk0 HE.out hq)
          clear hq
          go_wp2
          repeat (go_quiet (fail); try go_wp2)
          go_roundg gk
          case measure => omega
          case rel => exact ⟨k + 1, by go_num, ⟨by have := HK.out; omega⟩, HS, by repeat (first | exact Drawn0.refl _ | apply Drawn0.step)⟩
        · have q0 : (rd l0 k == rd l1 k) = false := beq_eq_false_iff_ne.mpr hq
          have q1 : (rd l0 k != rd l1 k) = true := bne_iff_ne.mpr hq
          have HS := Aside0.mk (eqTo_stop l0 l1 k hq)
          clear hq
          go_wp2
          repeat (go_quiet (fail); try go_wp2)
          go_ret
          exact ⟨by rw [HS.out]; rfl, by repeat (first | exact Drawn0.refl _ | apply Drawn0.step)⟩
  · have b0 : ((l0.length : Int) == (l1.length : Int)) = false := beq_eq_false_iff_ne.mpr (by omega)
    have b1 : ((l0.length : Int) != (l1.length : Int)) = true := bne_iff_ne.mpr (by omega)
    have b2 : (l0.length == l1.length) = false := beq_eq_false_iff_ne.mpr hl
    have b3 : (l0.length != l1.length) = true := bne_iff_ne.mpr hl
    have HL := Aside0.mk (beq_len l0 l1 hl)
    clear hl
    go_enter Try.func67, Try.ntmps67
    go_wp2
    repeat (go_quiet (fail); try go_wp2)
    go_ret
    exact ⟨by rw [HL.out]; rfl, by repeat (first | exact Drawn0.refl _ | apply Drawn0.step)⟩

theorem firstL_short (l : List Int) (h : l.length < 4) : firstL l = ([], 0, 21) := by unfold firstL; rw [if_pos h]
theorem equal_named (A0 A1 : Option Addr) (c0 c1 : Nat) (l0 l1 : List Int) (w : World) (hr0 : Kd.C (Kd.int .u8) w A0 l0.length l0) (hr1 : Kd.C (Kd.int .u8) w A1 l1.length l1) :
    Calls Try.prog 67 #[.slice A0 l0.length c0, .slice A1 l1.length c1] w fun e w' => ∃ b, e = .returned (.bool b) ∧ Aside0 ((l0 == l1) = b) ∧ Drawn0 w w' :=
  (equal_calls A0 A1 c0 c1 l0 l1 w hr0 hr1).mono fun e w' h => ⟨_, h.1, ⟨rfl⟩, h.2⟩
theorem C_of_ints {w : World} {k : IntKind} {A : Option Addr} {n : Nat} {xs : List Int} (h : ReadsInt w k A n xs) : Kd.C (Kd.int k) w A n xs := Kd.C_of_reads h
theorem ints_of_C {w : World} {k : IntKind} {A : Option Addr} {n : Nat} {xs : List Int} (h : Kd.C (Kd.int k) w A n xs) : ReadsInt w k A n xs := Kd.reads_of_C h
theorem sealed_named (base : Nat) (v : Value) (l : List Int) (w : World) (hl : l.length < 140737488355000) (hbase : base ≤ w.heap.size) (ho : w.ownsRow base 5 1 v l.length (nums .u8 l)) :
    Calls Try.prog 52 #[v] w fun e w' => ∃ A c z, e = .returned (.slice A z.length c) ∧ Aside0 (l ++ tailOf (sumOf l) = z) ∧ w'.ownsRow base 5 1 (.slice A z.length c) z.length (nums .u8 z) ∧ w.grownBy w' v.ownBlock := by
  refine (sealed_calls base v l w hl hbase ho).mono ?_
  rintro e w' ⟨v', rfl, ho', hg, _⟩
  obtain ⟨A, c, rfl, _⟩ := own_reads ho'
  exact ⟨A, c, _, rfl, ⟨rfl⟩, ho', hg⟩
theorem sizeI_ne (n : Int) (hz : sizeI n ≠ 0) : sizeI n = n + 8 ∧ 1 ≤ n ∧ n ≤ 8192 := by
  unfold sizeI at hz ⊢
  split at hz
  · exact absurd rfl hz
  · split at hz
    · exact absurd rfl hz
    · rw [if_neg (by assumption), if_neg (by assumption)]
      omega
theorem firstL_cut (l : List Int) (h : ¬ l.length < 4) (hz : sizeI (nOf l) ≠ 0) (he : l.take 4 = hdr (nOf l)) (hs : (l.length : Int) < sizeI (nOf l)) : firstL l = ([], 0, 21) := by
  unfold firstL; rw [if_neg h, if_neg (by rintro (h | h); exact hz h; exact h he), if_pos hs]
theorem firstL_sum (l : List Int) (h : ¬ l.length < 4) (hz : sizeI (nOf l) ≠ 0) (he : l.take 4 = hdr (nOf l)) (hs : ¬ (l.length : Int) < sizeI (nOf l)) (hq : l.take (nOf l + 4).toNat ++ tailOf (sumOf (l.take (nOf l + 4).toNat)) ≠ l.take (nOf l + 8).toNat) : firstL l = ([], nOf l + 8, 22) := by
  unfold firstL; rw [if_neg h, if_neg (by rintro (h | h); exact hz h; exact h he), if_neg hs, if_pos hq]
theorem firstL_ok (l : List Int) (h : ¬ l.length < 4) (hz : sizeI (nOf l) ≠ 0) (he : l.take 4 = hdr (nOf l)) (hs : ¬ (l.length : Int) < sizeI (nOf l)) (hq : l.take (nOf l + 4).toNat ++ tailOf (sumOf (l.take (nOf l + 4).toNat)) = l.take (nOf l + 8).toNat) : firstL l = ((l.take (nOf l + 4).toNat).drop 4, nOf l + 8, 0) := by
  unfold firstL; rw [if_neg h, if_neg (by rintro (h | h); exact hz h; exact h he), if_neg hs, if_neg (fun h => h hq)]
theorem firstL_bad2 (l : List Int) (h : ¬ l.length < 4) (hz : l.take 4 ≠ hdr (nOf l)) : firstL l = ([], 0, 22) := by unfold firstL; rw [if_neg h, if_pos (Or.inr hz)]
theorem firstL_bad (l : List Int) (h : ¬ l.length < 4) (hz : sizeI (nOf l) = 0) : firstL l = ([], 0, 22) := by unfold firstL; rw [if_neg h, if_pos (Or.inl hz)]

set_option maxHeartbeats 8000000 in
set_option maxRecDepth 100000 in
theorem first_calls (A : Option Addr) (c : Nat) (l : List Int) (w : World) (hB : IsBytes l) (hc : l.length ≤ c) (hr : Kd.C (Kd.int .u8) w A l.length l) :
    Calls Try.prog 59 #[.slice A l.length c] w fun e w' => ∃ v xs k f, e = .returned (.tuple #[v, .int .i64 k, .int .i64 f]) ∧ Aside0 (firstL l = (xs, k, f)) ∧ w'.ownsRow w.heap.size 5 1 v xs.length (nums .u8 xs) ∧ Below w.heap.size w w' := by
  have HR := Aside0.mk hr
  clear hr
  by_cases h4 : l.length < 4
  · have HL := Aside0.mk (firstL_short l h4)
    have d4 : decide ((l.length : Int) < 4) = true := decide_eq_true (by omega)
    have d4' : decide (l.length < 4) = true := decide_eq_true (by omega)
    clear h4
    go_enter Try.func59, Try.ntmps59
    go_wp2
    go_ret3
    exact ⟨_, [], 0, 21, rfl, HL, own_nil _ _ _ _, Below.refl _ _⟩
  · have d4 : decide ((l.length : Int) < 4) = false := decide_eq_false (by omega)
    have d4' : decide (l.length < 4) = false := decide_eq_false (by omega)
    obtain ⟨ad, e1, c0⟩ := Kd.at_int HR.out 0 (by omega) (by omega)
    subst e1
    obtain ⟨ad', e1, c1⟩ := Kd.at_int HR.out 1 (by omega) (by omega)
    obtain rfl : ad = ad' := by injection e1
    obtain ⟨ad', e2, c2⟩ := Kd.at_int HR.out 2 (by omega) (by omega)
    obtain rfl : ad = ad' := by injection e2
    obtain ⟨ad', e3, c3⟩ := Kd.at_int HR.out 3 (by omega) (by omega)
    obtain rfl : ad = ad' := by injection e3
    clear e1 e2 e3
    have l0 : (0 < l.length) = True := eq_true (by omega)
    have l1 : (1 < l.length) = True := eq_true (by omega)
    have l1' : ((1 : Int) < (l.length : Int)) = True := eq_true (by omega)
    have l4 : (4 ≤ c) = True := eq_true (by omega)
    have l4' : ((4 : Int) ≤ (c : Int)) = True := eq_true (by omega)
    have hat : ∀ w, (Instr.arrayAt 90 (.slice (some ad) 4 c)).run Try.prog w = .ok (.pointer (some ad)) w := fun w => run_arrayAt w 90 _ 4 _ 4 c Try.underlying90 (by omega)
    obtain ⟨r0, r0'⟩ := hB _ (rd_mem l 0 (by omega) (by omega))
    obtain ⟨r1, r1'⟩ := hB _ (rd_mem l 1 (by omega) (by omega))
    have ho := or_bytes (rd l 0) (rd l 1) r0 r0' r1 r1'
    have w0 : IntKind.i64.wrap (rd l 0) = rd l 0 := IntWalk.i64_in _ (by omega)
    have w1 : IntKind.i64.wrap (rd l 1) = rd l 1 := IntWalk.i64_in _ (by omega)
    have w2 : IntKind.i64.wrap (rd l 0 * 256) = rd l 0 * 256 := IntWalk.i64_in _ (by omega)
    simp only [show (0 : Int).toNat = 0 from rfl, show (1 : Int).toNat = 1 from rfl, show (2 : Int).toNat = 2 from rfl, show (3 : Int).toNat = 3 from rfl, Addr.add_zero'] at c0 c1 c2 c3
    simp only [Nat.reduceEqDiff, Go.Addr.add, ↓reduceIte] at c1 c2 c3
    go_enter Try.func59, Try.ntmps59
    go_wp2
    go_quiet (fail)
    have hbw : Below w.heap.size w (w.drewN nq) := pw_below_drewN (Below.refl _ _) _
    have HRw := Aside0.mk (Kd.C_drewN HR.out nq)
    rw [← World.cell?_drewN (n := nq)] at c0 c1 c2 c3
    generalize w.drewN nq = wa at c0 c1 c2 c3 HRw hbw ⊢
    have HBA := Aside0.mk hbw
    clear hbw
    have hnof : rd l 0 * 256 + rd l 1 = nOf l := rfl
    rw [hnof]
    have HN := Aside0.mk hnof
    have n0 : 0 ≤ nOf l ∧ nOf l < 65536 := by unfold nOf; omega
    obtain ⟨n0, n1⟩ := n0
    clear ho w0 w1 w2 r0 r0' r1 r1' hnof
    by_cases hz : sizeI (nOf l) = 0
    · have HL := Aside0.mk (firstL_bad l h4 hz)
      have b0 : (sizeI (nOf l) == 0) = true := beq_iff_eq.mpr hz
      clear hz
      go_wp2_with (go_at_call 50; refine (size_calls _ _).mono ?_; rintro e w1 ⟨rfl, rfl⟩)
      go_ret3
      exact ⟨_, [], 0, 22, rfl, HL, own_nil _ _ _ _, HBA.out⟩
    · have b0 : (sizeI (nOf l) == 0) = false := beq_eq_false_iff_ne.mpr hz
      go_wp2_with (go_at_call 50; refine (size_calls _ _).mono ?_; rintro e w1 ⟨rfl, rfl⟩)
      obtain ⟨same, HS⟩ : ∃ b : Bool, Aside0 (b = (l.take 4 == hdr (nOf l))) := ⟨_, ⟨rfl⟩⟩
      have heq : ∀ w, (Op.equalIn 10000 90 (.agg #[.int .u8 (rd l 0), .int .u8 (rd l 1), .int .u8 (rd l 2), .int .u8 (rd l 3)]) (.agg #[.int .u8 (nOf l / 256), .int .u8 (nOf l % 256), .int .u8 (255 - nOf l / 256), .int .u8 (255 - nOf l % 256)])).run Try.prog w = .ok same w := by
        intro w
        rw [HS.out, take4 l (by omega)]
        exact run_equalIn_ints w 9998 90 5 .u8 4 Try.underlying90 Try.underlying5 size_u8 [rd l 0, rd l 1, rd l 2, rd l 3] (hdr (nOf l)) rfl rfl
      have hlt : ad.block < wa.heap.size := World.block_lt_of_cell? wa ad c0
      obtain ⟨hsz, hn1, hn2⟩ := sizeI_ne _ hz
      obtain ⟨n, HNN⟩ : ∃ n, Aside0 (nOf l = n) := ⟨_, ⟨rfl⟩⟩
      have hnn := HNN.out
      rw [hnn] at heq hsz hn1 hn2 n0 n1 b0 ⊢
      rw [hsz] at b0 ⊢
      clear hnn
      cases same with
      | false =>
        have HL := Aside0.mk (firstL_bad2 l h4 (beq_eq_false_iff_ne.mp HS.out.symm))
        go_region_held3 (fun w' => w'.cell? ad = some (.int .u8 (rd l 0)) ∧ w'.cell? ⟨ad.block, ad.off + 1, none⟩ = some (.int .u8 (rd l 1)) ∧ w'.cell? ⟨ad.block, ad.off + 2, none⟩ = some (.int .u8 (rd l 2)) ∧ w'.cell? ⟨ad.block, ad.off + 3, none⟩ = some (.int .u8 (rd l 3)))
          (first | go_keep | exact ⟨(hb1.cell (p := ad) hlt).trans c0, (hb1.cell (p := ⟨ad.block, ad.off + 1, none⟩) hlt).trans c1, (hb1.cell (p := ⟨ad.block, ad.off + 2, none⟩) hlt).trans c2, (hb1.cell (p := ⟨ad.block, ad.off + 3, none⟩) hlt).trans c3⟩)
          ((go_at_call 51; refine (length_calls _ n0 n1 _).mono ?_; rintro e w1 ⟨rfl, hb1⟩))
        all_goals
          go_wp2
          go_ret3
          exact ⟨_, [], 0, 22, rfl, HL, own_nil _ _ _ _, below_then HBA.out HBA.out.size (below_then (below_drew1 (Below.refl _ _)) (Nat.le_refl _) hb1)⟩
      | true =>
        have HE := Aside0.mk (beq_iff_eq.mp HS.out.symm)
        go_region_held3 (fun w' => w'.cell? ad = some (.int .u8 (rd l 0)) ∧ w'.cell? ⟨ad.block, ad.off + 1, none⟩ = some (.int .u8 (rd l 1)) ∧ w'.cell? ⟨ad.block, ad.off + 2, none⟩ = some (.int .u8 (rd l 2)) ∧ w'.cell? ⟨ad.block, ad.off + 3, none⟩ = some (.int .u8 (rd l 3)))
          (first | go_keep | exact ⟨(hb1.cell (p := ad) hlt).trans c0, (hb1.cell (p := ⟨ad.block, ad.off + 1, none⟩) hlt).trans c1, (hb1.cell (p := ⟨ad.block, ad.off + 2, none⟩) hlt).trans c2, (hb1.cell (p := ⟨ad.block, ad.off + 3, none⟩) hlt).trans c3⟩)
          ((go_at_call 51; refine (length_calls _ n0 n1 _).mono ?_; rintro e w1 ⟨rfl, hb1⟩))
        all_goals
          have HB1 := Aside0.mk (below_then HBA.out HBA.out.size (below_then (below_drew1 (Below.refl _ _)) (Nat.le_refl _) hb1))
          have HR1 := Aside0.mk (Kd.C_below HR.out HB1.out)
          clear hb1 heq hat hlt c0 c1 c2 c3
          by_cases hs : (l.length : Int) < n + 8
          · have HL := Aside0.mk (firstL_cut l h4 hz HE.out (by rw [HNN.out, hsz]; exact hs))
            have ds : decide ((l.length : Int) < n + 8) = true := decide_eq_true hs
            clear hs hsz
            go_wp2
            go_ret3
            exact ⟨_, [], 0, 21, rfl, HL, own_nil _ _ _ _, HB1.out⟩
          · have ds : decide ((l.length : Int) < n + 8) = false := decide_eq_false hs
            have hwr : IntKind.i64.wrap (n + 8 - 4) = n + 4 := by rw [IntWalk.i64_in _ (by omega)]; omega
            obtain ⟨i0, hi, hz0, hz1, hz2⟩ := info_parts info_u8
            have ht1 := print_take_int (P := Try.prog) (k := .u8) 23 5 Try.underlying23 hi hz1 (some ad) c l (n + 4) (by omega) (by omega) hc
            have ht2 := print_take_int (P := Try.prog) (k := .u8) 23 5 Try.underlying23 hi hz1 (some ad) c l (n + 8) (by omega) (by omega) hc
            obtain ⟨x, HX⟩ : ∃ x, Aside0 (l.take (n + 4).toNat = x) := ⟨_, ⟨rfl⟩⟩
            obtain ⟨y, HY⟩ : ∃ y, Aside0 (l.take (n + 8).toNat = y) := ⟨_, ⟨rfl⟩⟩
            rw [HX.out] at ht1
            rw [HY.out] at ht2
            obtain ⟨hx1, hx2, hx3⟩ := ht1
            obtain ⟨hy1, hy2, hy3⟩ := ht2
            have HX2 : Aside0 (∀ w, Kd.C (Kd.int .u8) w (some ad) l.length l → Kd.C (Kd.int .u8) w (some ad) x.length x) := ⟨fun w h => C_of_ints (hx2 w (ints_of_C h))⟩
            have HY2 : Aside0 (∀ w, Kd.C (Kd.int .u8) w (some ad) l.length l → Kd.C (Kd.int .u8) w (some ad) y.length y) := ⟨fun w h => C_of_ints (hy2 w (ints_of_C h))⟩
            obtain ⟨A5, hm1, hm2, hm3⟩ := print_mid_int (P := Try.prog) (k := .u8) 23 5 Try.underlying23 hi hz1 (some ad) c l 4 (n + 4) (by omega) (by omega) (by omega) hc
            obtain ⟨u, HU⟩ : ∃ u, Aside0 ((l.take (n + 4).toNat).drop (4 : Int).toNat = u) := ⟨_, ⟨rfl⟩⟩
            rw [HU.out] at hm1 hm2 hm3
            have HM2 : Aside0 (∀ w, Kd.C (Kd.int .u8) w (some ad) l.length l → Kd.C (Kd.int .u8) w A5 u.length u) := ⟨fun w h => C_of_ints (hm2 w (ints_of_C h))⟩
            rw [show c - (4 : Int).toNat = c - 4 from rfl] at hm1
            have hul : u.length ≤ 8200 := by rw [← HU.out, List.length_drop, List.length_take]; omega
            have hxl : x.length ≤ l.length := by rw [← HX.out]; exact List.length_take_le' _ _
            have hm := Kd.C_max HR.out
            have hxm : x.length ≤ 8200 := by rw [← HX.out, List.length_take]; omega
            clear hx2 hy2 hm2 hi hz0 hz1 hz2
            go_wp2
            go_region_held3 (fun _ => True) (first | trivial | fail)
              (first
                | (go_at_call 68; refine (clone_calls _ _ x _ (by omega) (HX2.out _ (Kd.C_below HR1.out (below_drew1 (Below.refl _ _))))).mono ?_; rintro e w2 ⟨v2, rfl, hv2, hb2⟩; have HB2 := Aside0.mk (below_then (below_drew1 HB1.out) (below_drew1 HB1.out).size hb2))
                | (go_at_call 52; (with_reducible refine (sealed_named _ _ x _ (by omega) hb2.size hv2).mono ?_); rintro e w3 ⟨A3, q3, z, rfl, HZ, hv3, hg3⟩; obtain ⟨_, _, hveq, hr3⟩ := own_reads hv3; injection hveq with h1 h2 h3; subst h1; have HR3 := Aside0.mk (C_of_ints hr3); have HB3 := Aside0.mk (pw_below_grown HB2.out _ HB2.out.size hg3 (fun k hk => Nat.le_trans (below_drew1 HB1.out).size (own_base hv2 k hk))); clear hg3 hr3 hv3 h2 h3)
                | (go_at_call 67; (with_reducible refine (equal_named A3 (some ad) q3 c z y _ HR3.out (HY2.out _ (Kd.C_below HR.out HB3.out))).mono ?_); rintro e w4 ⟨bq, rfl, HBQ, ⟨nz, rfl⟩⟩))
            all_goals
              have HB4 := Aside0.mk (pw_below_drewN HB3.out nz)
              clear HB2 HB3 HR3 hb2 hv2
              cases bq with
              | true =>
                have hq := beq_iff_eq.mp HBQ.out
                have HL := Aside0.mk (firstL_ok l h4 hz HE.out (by rw [HNN.out, hsz]; omega) (by rw [HNN.out, HX.out, HY.out, HZ.out]; exact hq))
                rw [HNN.out] at HL
                rw [show (l.take (n + 4).toNat).drop 4 = u from HU.out] at HL
                clear hq
                go_wp2_with (go_at_call 68; (with_reducible refine (clone_calls _ _ u _ (by omega) (HM2.out _ (Kd.C_below HR.out HB4.out))).mono ?_); rintro e w5 ⟨v5, rfl, hv5, hb5⟩)
                go_ret3
                exact ⟨_, u, n + 8, 0, rfl, HL, own_weaken hv5 HB4.out.size, below_then HB4.out HB4.out.size hb5⟩
              | false =>
                have hq := beq_eq_false_iff_ne.mp HBQ.out
                have HL := Aside0.mk (firstL_sum l h4 hz HE.out (by rw [HNN.out, hsz]; omega) (by rw [HNN.out, HX.out, HY.out, HZ.out]; exact hq))
                rw [HNN.out] at HL
                clear hq
                go_wp2
                go_ret3
                exact ⟨_, [], n + 8, 22, rfl, HL, own_nil _ _ _ _, HB4.out⟩
end Go.Proofs.Yteplnpedakdjkaa.Fr
end

section
/- Sums as words of 32 bits: a sum is linear; a bit that turns, turns the sum by a known word; that word is never zero for bits within 32. -/
namespace Go.Proofs.Yteplnpedakdjkaa.Fr
open Go.RowKit Go.Proofs.YteplnpedakdjkaaW.PrintWords Go.Proofs.YteplnpedakdjkaaW.PrintMore

def poly : BitVec 32 := 2197175160#32
def stp (s : BitVec 32) : BitVec 32 := (s >>> 1) ^^^ (if s.getLsbD 0 then poly else 0#32)
def stps : Nat → BitVec 32 → BitVec 32
  | 0, s => s
  | n + 1, s => stp (stps n s)
def toI (s : BitVec 32) : Int := (s.toNat : Int)
theorem toI_range (s : BitVec 32) : 0 ≤ toI s ∧ toI s < 4294967296 := by
  unfold toI
  have := s.isLt
  omega
theorem xor_toI (a b : BitVec 32) : bits .xor .u32 (toI a) (toI b) = toI (a ^^^ b) := by
  have h : bits .xor .u32 (toI a) (toI b) = IntKind.u32.wrap ((a ^^^ b).toNat : Int) := by
    simp only [bits, toI, IntKind.bits, BitVec.ofInt_natCast, BitVec.ofNat_toNat, BitVec.setWidth_eq]
    rfl
  rw [h, IntKind.wrap_u32]
  unfold toI
  have := (a ^^^ b).isLt
  omega
theorem and1_toI (a : BitVec 32) : bits .and .u32 (toI a) 1 = if a.getLsbD 0 then 1 else 0 := by
  have h : bits .and .u32 (toI a) 1 = IntKind.u32.wrap ((a &&& 1#32).toNat : Int) := by
    simp only [bits, toI, IntKind.bits, BitVec.ofInt_natCast, BitVec.ofNat_toNat, BitVec.setWidth_eq]
    rfl
  rw [h, IntKind.wrap_u32, BitVec.toNat_and]
  have e : a.toNat &&& 1 = a.toNat % 2 := Nat.and_two_pow_sub_one_eq_mod a.toNat 1
  rw [show (1#32).toNat = 1 from rfl, e]
  have e2 : a.getLsbD 0 = decide (a.toNat % 2 = 1) := by
    rw [BitVec.getLsbD, Nat.testBit_zero]
  rw [e2]
  by_cases h2 : a.toNat % 2 = 1
  · simp [h2]
  · have : a.toNat % 2 = 0 := by omega
    simp [this]
theorem stepI_toI (a : BitVec 32) : stepI (toI a) = toI (stp a) := by
  unfold stepI stp
  have e : toI a / (2 : Int) = toI (a >>> 1) := by
    unfold toI
    rw [BitVec.toNat_ushiftRight, Nat.shiftRight_eq_div_pow]
    omega
  have e2 : (if a.getLsbD 0 = true then (1 : Int) else 0) * 2197175160 % 4294967296 = toI (if a.getLsbD 0 = true then poly else 0#32) := by
    by_cases h : a.getLsbD 0 = true
    · rw [if_pos h, if_pos h]; rfl
    · rw [if_neg h, if_neg h]; rfl
  rw [and1_toI, ← xor_toI, e, e2]
theorem stepsI_toI (n : Nat) (a : BitVec 32) : stepsI n (toI a) = toI (stps n a) := by
  induction n with
  | zero => rfl
  | succ n ih => rw [stepsI, ih, stepI_toI, stps]

theorem stp_xor (a b : BitVec 32) : stp (a ^^^ b) = stp a ^^^ stp b := by
  unfold stp
  rw [BitVec.ushiftRight_xor_distrib, BitVec.getLsbD_xor]
  have hp : poly ^^^ poly = 0#32 := BitVec.xor_self
  cases a.getLsbD 0 <;> cases b.getLsbD 0
  · simp
  · simp only [Bool.bne_true, Bool.not_false, ↓reduceIte, Bool.false_eq_true, BitVec.xor_zero]; ac_rfl
  · simp only [Bool.bne_false, ↓reduceIte, Bool.false_eq_true, BitVec.xor_zero]; ac_rfl
  · simp only [bne_self_eq_false, ↓reduceIte, Bool.false_eq_true]
    rw [show (a >>> 1 ^^^ poly) ^^^ (b >>> 1 ^^^ poly) = (a >>> 1 ^^^ b >>> 1) ^^^ (poly ^^^ poly) by ac_rfl, hp]
theorem stps_xor (n : Nat) (a b : BitVec 32) : stps n (a ^^^ b) = stps n a ^^^ stps n b := by
  induction n with
  | zero => rfl
  | succ n ih => rw [stps, ih, stp_xor, stps, stps]
theorem stps_add (m n : Nat) (a : BitVec 32) : stps (m + n) a = stps m (stps n a) := by
  induction m with
  | zero => rw [Nat.zero_add]; rfl
  | succ m ih => rw [Nat.succ_add, stps, ih, stps]
/-- What has no low bits goes down by as many. -/
theorem stps_shift (n : Nat) (a : BitVec 32) (h : ∀ i, i < n → a.getLsbD i = false) : stps n a = a >>> n := by
  induction n with
  | zero => simp [stps]
  | succ n ih =>
    rw [stps, ih (fun i hi => h i (by omega)), stp]
    have h0 : (a >>> n).getLsbD 0 = false := by
      rw [BitVec.getLsbD_ushiftRight]
      exact h n (by omega)
    rw [h0]
    simp [BitVec.shiftRight_add]

/-! ### bytes -/
def toB (c : Int) : BitVec 32 := BitVec.ofNat 32 c.toNat
theorem toI_toB (c : Int) (h0 : 0 ≤ c) (h1 : c < 256) : toI (toB c) = c := by
  unfold toI toB
  rw [BitVec.toNat_ofNat, Nat.mod_eq_of_lt (by omega)]
  omega
theorem xor8 (s : BitVec 32) (c : Int) (h0 : 0 ≤ c) (h1 : c < 256) : bits .xor .u8 (toI s % 256) c = toI ((s &&& 255#32) ^^^ toB c) := by
  obtain ⟨m, rfl⟩ := Int.eq_ofNat_of_zero_le h0
  have hm : m < 256 := by omega
  have h : bits .xor .u8 (toI s % 256) (m : Int) = IntKind.u8.wrap ((BitVec.ofNat 8 (s.toNat % 256) ^^^ BitVec.ofNat 8 m).toNat : Int) := by
    have e : (toI s % 256) = ((s.toNat % 256 : Nat) : Int) := by unfold toI; omega
    rw [e]
    simp only [bits, IntKind.bits, BitVec.ofInt_natCast]
    rfl
  rw [h, IntKind.wrap_u8]
  unfold toI toB
  have e1 : (BitVec.ofNat 8 (s.toNat % 256) ^^^ BitVec.ofNat 8 m).toNat = (s.toNat % 256) ^^^ m := by
    rw [BitVec.toNat_xor, BitVec.toNat_ofNat, BitVec.toNat_ofNat]
    congr 1 <;> omega
  have e2 : ((s &&& 255#32) ^^^ BitVec.ofNat 32 (m : Int).toNat).toNat = (s.toNat % 256) ^^^ m := by
    rw [BitVec.toNat_xor, BitVec.toNat_and, BitVec.toNat_ofNat, BitVec.toNat_ofNat, show 255 % 2 ^ 32 = 2 ^ 8 - 1 from rfl, Nat.and_two_pow_sub_one_eq_mod, Int.toNat_natCast]
    congr 1
    omega
  rw [e2, ← e1]
  have := (BitVec.ofNat 8 (s.toNat % 256) ^^^ BitVec.ofNat 8 m).isLt
  omega
theorem low_high (s : BitVec 32) : s = (s &&& 255#32) ^^^ (s &&& 4294967040#32) := by
  apply BitVec.eq_of_getLsbD_eq
  intro i hi
  rw [BitVec.getLsbD_xor, BitVec.getLsbD_and, BitVec.getLsbD_and]
  have key : ∀ j : Fin 32, (255#32).getLsbD j = !(4294967040#32).getLsbD j := by decide
  have := key ⟨i, hi⟩
  simp only at this
  rw [this]
  cases s.getLsbD i <;> cases (4294967040#32).getLsbD i <;> rfl
/-- A byte taken in. -/
theorem crcByte_toI (s : BitVec 32) (c : Int) (h0 : 0 ≤ c) (h1 : c < 256) : crcByte (toI s) c = toI (stps 8 (s ^^^ toB c)) := by
  unfold crcByte
  rw [xor8 s c h0 h1, stepsI_toI]
  have e : toI s / (256 : Int) = toI (s >>> 8) := by
    unfold toI
    rw [BitVec.toNat_ushiftRight, Nat.shiftRight_eq_div_pow]
    omega
  rw [e, xor_toI]
  congr 1
  have hh : stps 8 (s &&& 4294967040#32) = s >>> 8 := by
    rw [stps_shift]
    · apply BitVec.eq_of_getLsbD_eq
      intro i hi
      rw [BitVec.getLsbD_ushiftRight, BitVec.getLsbD_ushiftRight, BitVec.getLsbD_and]
      by_cases hj : 8 + i < 32
      · have key : ∀ j : Fin 32, 8 ≤ j.val → (4294967040#32).getLsbD j = true := by decide
        have := key ⟨8 + i, hj⟩ (by simp)
        simp only at this
        rw [this]
        simp
      · rw [BitVec.getLsbD_of_ge s _ (by omega)]
        simp
    · intro i hi
      rw [BitVec.getLsbD_and]
      have key : ∀ j : Fin 8, (4294967040#32).getLsbD j = false := by decide
      have := key ⟨i, hi⟩
      simp only at this
      rw [this]
      simp
  conv => rhs; rw [low_high s]
  rw [← hh, ← stps_xor]
  congr 1
  ac_rfl

def run (s : BitVec 32) (l : List Int) : BitVec 32 := l.foldl (fun s c => stps 8 (s ^^^ toB c)) s
theorem crcFrom_toI (s : BitVec 32) (l : List Int) (h : IsBytes l) : crcFrom (toI s) l = toI (run s l) := by
  induction l generalizing s with
  | nil => rfl
  | cons c l ih =>
    have hc := h c (by simp)
    show crcFrom (crcByte (toI s) c) l = toI (run (stps 8 (s ^^^ toB c)) l)
    rw [crcByte_toI s c hc.1 hc.2]
    exact ih _ fun x hx => h x (by simp [hx])
end Go.Proofs.Yteplnpedakdjkaa.Fr
end

section
/- What frames are, in plain lists: a frame's parts, what is got of it, and what a frame's sum is. -/
namespace Go.Proofs.Yteplnpedakdjkaa.Fr
open Go.RowKit Go.Proofs.YteplnpedakdjkaaW.PrintWords Go.Proofs.YteplnpedakdjkaaW.PrintMore

def ones : BitVec 32 := 4294967295#32
theorem max_ones : IntKind.u32.max = toI ones := by decide +kernel
theorem sumOf_toI (l : List Int) (h : IsBytes l) : sumOf l = toI (ones ^^^ run ones l) := by
  unfold sumOf
  have e : bits .xor .u32 IntKind.u32.max 0 = toI ones := by
    rw [max_ones, show (0 : Int) = toI 0#32 from rfl, xor_toI]
    rfl
  rw [e, crcFrom_toI ones l h, max_ones, xor_toI]

/-! ### frames -/
theorem IsBytes.append {a b : List Int} (ha : IsBytes a) (hb : IsBytes b) : IsBytes (a ++ b) := fun x hx => (List.mem_append.mp hx).elim (ha x) (hb x)
theorem IsBytes.take {a : List Int} (ha : IsBytes a) (n : Nat) : IsBytes (a.take n) := fun x hx => ha x (List.mem_of_mem_take hx)
theorem IsBytes.drop {a : List Int} (ha : IsBytes a) (n : Nat) : IsBytes (a.drop n) := fun x hx => ha x (List.mem_of_mem_drop hx)
theorem hdr_bytes (n : Int) (h0 : 0 ≤ n) (h1 : n < 65536) : IsBytes (hdr n) := by
  intro x hx
  simp only [hdr, List.mem_cons, List.not_mem_nil, or_false] at hx
  rcases hx with rfl | rfl | rfl | rfl <;> omega
theorem tail_bytes (s : Int) (h0 : 0 ≤ s) (h1 : s < 4294967296) : IsBytes (tailOf s) := by
  intro x hx
  simp only [tailOf, List.mem_cons, List.not_mem_nil, or_false] at hx
  rcases hx with rfl | rfl | rfl | rfl <;> omega
theorem hdr_len (n : Int) : (hdr n).length = 4 := rfl
theorem tail_len (s : Int) : (tailOf s).length = 4 := rfl
theorem frame_len (l : List Int) : (frameOf l).length = l.length + 8 := by
  unfold frameOf bodyOf
  rw [List.length_append, List.length_append, hdr_len, tail_len]
  omega
theorem frame_bytes (l : List Int) (h : IsBytes l) (h1 : l.length ≤ 8192) : IsBytes (frameOf l) := by
  unfold frameOf bodyOf
  exact ((hdr_bytes _ (by omega) (by omega)).append h).append (tail_bytes _ (sumOf_range _).1 (sumOf_range _).2)
theorem sizeI_of (n : Int) (h1 : 1 ≤ n) (h2 : n ≤ 8192) : sizeI n = n + 8 := by
  unfold sizeI
  rw [if_neg (by omega), if_neg (by omega)]
theorem sizeI_no (n : Int) (h : n < 1 ∨ 8192 < n) : sizeI n = 0 := by
  unfold sizeI
  by_cases h1 : n < 1
  · rw [if_pos h1]
  · rw [if_neg h1, if_pos (by omega)]
theorem put_no (l : List Int) (h : l.length < 1 ∨ 8192 < l.length) : putL l = [] := by
  unfold putL
  rw [if_pos (sizeI_no _ (by omega))]
theorem put_yes (l : List Int) (h1 : 1 ≤ l.length) (h2 : l.length ≤ 8192) : putL l = frameOf l := by
  unfold putL
  rw [sizeI_of _ (by omega) (by omega), if_neg (by omega)]
theorem put_bytes (l : List Int) (h : IsBytes l) : IsBytes (putL l) := by
  by_cases h1 : l.length < 1 ∨ 8192 < l.length
  · rw [put_no l h1]
    intro x hx
    simp at hx
  · rw [put_yes l (by omega) (by omega)]
    exact frame_bytes l h (by omega)
theorem put_len (l : List Int) : ((putL l).length : Int) = sizeI l.length := by
  by_cases h1 : l.length < 1 ∨ 8192 < l.length
  · rw [put_no l h1, sizeI_no _ (by omega)]
    rfl
  · rw [put_yes l (by omega) (by omega), frame_len, sizeI_of _ (by omega) (by omega)]
    omega
theorem nOf_hdr (n : Int) (l : List Int) : nOf (hdr n ++ l) = n := by
  show n / 256 * 256 + n % 256 = n
  omega
theorem frame_shape (l more : List Int) : frameOf l ++ more = hdr l.length ++ (l ++ (tailOf (sumOf (bodyOf l)) ++ more)) := by
  unfold frameOf
  conv => lhs; unfold bodyOf
  simp only [List.append_assoc]
  rfl
theorem take_hdr (n : Int) (l : List Int) : (hdr n ++ l).take 4 = hdr n := by
  show (hdr n ++ l).take (hdr n).length = _
  exact List.take_left
theorem frame_take (l more : List Int) : (frameOf l ++ more).take (l.length + 4) = bodyOf l := by
  have e : l.length + 4 = (bodyOf l).length := by unfold bodyOf; rw [List.length_append, hdr_len]; omega
  unfold frameOf
  rw [List.append_assoc, e]
  exact List.take_left
theorem frame_whole (l more : List Int) : (frameOf l ++ more).take (l.length + 8) = frameOf l := by
  rw [← frame_len]
  exact List.take_left
theorem body_drop (l : List Int) : (bodyOf l).drop 4 = l := by
  unfold bodyOf
  show (hdr l.length ++ l).drop (hdr l.length).length = _
  exact List.drop_left
/-- What is in a frame is got of it. -/
theorem first_frame (l more : List Int) (h1 : 1 ≤ l.length) (h2 : l.length ≤ 8192) : firstL (frameOf l ++ more) = (l, (l.length : Int) + 8, 0) := by
  have hn : nOf (frameOf l ++ more) = l.length := by rw [frame_shape, nOf_hdr]
  have hlen : (frameOf l ++ more).length = l.length + 8 + more.length := by rw [List.length_append, frame_len]
  have h := firstL_ok (frameOf l ++ more) (by omega) (by rw [hn, sizeI_of _ (by omega) (by omega)]; omega) (by rw [hn, frame_shape, take_hdr]) (by rw [hn, sizeI_of _ (by omega) (by omega)]; omega)
    (by rw [hn, show ((l.length : Int) + 4).toNat = l.length + 4 by omega, show ((l.length : Int) + 8).toNat = l.length + 8 by omega, frame_take, frame_whole]; rfl)
  rw [h, hn, show ((l.length : Int) + 4).toNat = l.length + 4 by omega, frame_take, body_drop]
theorem eq_of_mid (l h : List Int) (hh : l.take 4 = h) (n : Nat) : l.take (n + 4) = h ++ (l.take (n + 4)).drop 4 := by
  conv => lhs; rw [← List.take_append_drop 4 (l.take (n + 4))]
  rw [List.take_take, show min 4 (n + 4) = 4 by omega, hh]
/-- What may come of bytes. -/
theorem first_cases (l : List Int) (hB : IsBytes l) : firstL l = ([], 0, 21) ∨ firstL l = ([], 0, 22) ∨
    (1 ≤ nOf l ∧ nOf l ≤ 8192 ∧ nOf l + 8 ≤ l.length ∧ l.take 4 = hdr (nOf l) ∧
      (firstL l = ([], nOf l + 8, 22) ∨ ∃ y, firstL l = (y, nOf l + 8, 0) ∧ (y.length : Int) = nOf l ∧ l.take (nOf l + 8).toNat = frameOf y ∧ IsBytes y)) := by
  by_cases h4 : l.length < 4
  · exact .inl (firstL_short l h4)
  by_cases hz : sizeI (nOf l) = 0
  · exact .inr (.inl (firstL_bad l h4 hz))
  by_cases he : l.take 4 = hdr (nOf l)
  case neg => exact .inr (.inl (firstL_bad2 l h4 he))
  obtain ⟨hs, hn1, hn2⟩ := sizeI_ne _ hz
  by_cases hl : (l.length : Int) < sizeI (nOf l)
  · exact .inl (firstL_cut l h4 hz he hl)
  refine .inr (.inr ⟨hn1, hn2, by omega, he, ?_⟩)
  by_cases hq : l.take (nOf l + 4).toNat ++ tailOf (sumOf (l.take (nOf l + 4).toNat)) = l.take (nOf l + 8).toNat
  case neg => exact .inl (firstL_sum l h4 hz he hl hq)
  refine .inr ⟨_, firstL_ok l h4 hz he hl hq, ?_, ?_, (hB.take _).drop _⟩
  · rw [List.length_drop, List.length_take]
    omega
  · rw [← hq]
    obtain ⟨n, hn⟩ := Int.eq_ofNat_of_zero_le (show 0 ≤ nOf l by omega)
    rw [hn, show ((n : Int) + 4).toNat = n + 4 by omega]
    have hlen : (((l.take (n + 4)).drop 4).length : Int) = n := by rw [List.length_drop, List.length_take]; omega
    have hb : bodyOf ((l.take (n + 4)).drop 4) = l.take (n + 4) := by
      unfold bodyOf
      rw [hlen, ← hn, ← eq_of_mid l _ he]
    unfold frameOf
    rw [hb]
end Go.Proofs.Yteplnpedakdjkaa.Fr
end

section
/- The frame layer's contracts, in the form that a printed text wants of a callee. -/
namespace Go.Proofs.Yteplnpedakdjkaa.Ext
open Go.RowKit Go.Proofs.YteplnpedakdjkaaW.PrintWords Go.Proofs.YteplnpedakdjkaaW.PrintMore Go.Proofs.Yteplnpedakdjkaa.Fr
set_option linter.unusedVariables false

def bytesB (l : List Int) : Bool := l.all fun x => decide (0 ≤ x) && decide (x < 256)
theorem bytesB_iff (l : List Int) : bytesB l = true ↔ IsBytes l := by
  simp [bytesB, IsBytes, List.all_eq_true]
def frame_Put.f (l0 : List Int) : Option (List Int) := some (putL l0)
theorem R_ints {w : World} {base : Nat} {v : Value} {xs : List Int} {e : TypeId} {k : IntKind} (h : w.ownsRow base e 1 v xs.length (nums k xs)) : Kd.R (Kd.int k) e w base (fun _ => True) v xs :=
  Kd.R_of_own h (fun _ _ => trivial)

theorem frame_Put.calls (A0 : Option Addr) (c0 : Nat) (l0 : List Int) (r : List Int) (w : World) (hr0 : Kd.C (Kd.int .u8) w A0 l0.length l0) (hc0 : l0.length ≤ c0) (h : frame_Put.f l0 = some r) :
    Calls Try.prog 35 #[.slice A0 l0.length c0] w fun e w' => ∃ v0_ : Value, e = .returned (v0_) ∧ Kd.R (Kd.int .u8) 5 w' w.heap.size (fun _ => True) v0_ r ∧ Below w.heap.size w w' := by
  obtain rfl := Option.some.inj h
  refine (put_calls A0 c0 l0 w hc0 hr0).mono ?_
  rintro e w' ⟨v, rfl, ho, hb⟩
  exact ⟨v, rfl, R_ints ho, hb⟩
end Go.Proofs.Yteplnpedakdjkaa.Ext
end

section
/- Small contracts of package frame in other words (a seat without law02). -/
namespace Go.Proofs.Yteplnpedakdjkaa.Ext
open Go.RowKit Go.Proofs.YteplnpedakdjkaaW.PrintWords Go.Proofs.YteplnpedakdjkaaW.PrintMore Go.Proofs.Yteplnpedakdjkaa.Fr
set_option linter.unusedVariables false
set_option linter.unusedSimpArgs false

end Go.Proofs.Yteplnpedakdjkaa.Ext
end

section
/- Small facts on numbers, for the laws over lists. -/
namespace Go.Proofs.Yteplnpedakdjkaa.Pure
open Go.RowKit Go.Proofs.YteplnpedakdjkaaW.PrintWords Go.Proofs.YteplnpedakdjkaaW.PrintMore Go.Proofs.Yteplnpedakdjkaa.Fr Go.Proofs.Yteplnpedakdjkaa.Ext

theorem bytes_of_wf (l : List Int) (h : ∀ x ∈ l, (Lit.int .u8 x).wf = true) : IsBytes l := by
  intro x hx
  have := h x hx
  simp [Lit.wf, IntKind.min, IntKind.max, IntKind.signed, IntKind.bits] at this
  omega
theorem w64 (a : Int) (h0 : -9223372036854775808 ≤ a) (h1 : a < 9223372036854775808) : wrap64 a = a := by
  unfold wrap64
  omega
theorem tmod_pos (a b : Int) (h0 : 0 ≤ a) : Int.tmod a b = a % b := Int.tmod_eq_emod_of_nonneg h0
theorem tdiv_pos (a b : Int) (h0 : 0 ≤ a) : Int.tdiv a b = a / b := Int.tdiv_eq_ediv_of_nonneg h0
end Go.Proofs.Yteplnpedakdjkaa.Pure
end

section
/- A string made of a row, the row's length told in other words. -/
namespace Go.Proofs.Yteplnpedakdjkaa.Ext
open Go.RowKit

theorem conv_len {P : Program} {w w2 : World} {T U : TypeId} {A : Option Addr} {n n' c : Nat} {s : Value} (h : (convert T U (.slice A n c)).run P w = .ok s w2) (e : n' = n) : (convert T U (.slice A n' c)).run P w = .ok s w2 := by
  subst e
  exact h
end Go.Proofs.Yteplnpedakdjkaa.Ext
end

section
/- What a scan tells: over numbers and lists alone. -/
namespace Go.Proofs.Yteplnpedakdjkaa.Pure
open Go.RowKit Go.Proofs.YteplnpedakdjkaaW.PrintWords Go.Proofs.YteplnpedakdjkaaW.PrintMore Go.Proofs.Yteplnpedakdjkaa.Fr Go.Proofs.Yteplnpedakdjkaa.Ext

/-- A body: where its frame begins, how long that is, what it has. -/
abbrev Itm := Nat × Nat × List Int
/-- What is told from a place on: the bodies, how many were passed by, where it ends, and why. -/
def scanGo : Nat → List Int → Nat → Nat → List Itm → List Itm × Nat × Nat × Int
  | 0, _, at_, bad, pre => (pre, bad, at_, 0)
  | k + 1, l, at_, bad, pre =>
    if at_ < l.length then
      if (firstL (l.drop at_)).2.1 = 0 then (pre, bad, at_, (firstL (l.drop at_)).2.2)
      else if (firstL (l.drop at_)).2.2 = 0 then scanGo k l (at_ + (firstL (l.drop at_)).2.1.toNat) bad (pre ++ [(at_, (firstL (l.drop at_)).2.1.toNat, (firstL (l.drop at_)).1)])
      else scanGo k l (at_ + (firstL (l.drop at_)).2.1.toNat) (bad + 1) pre
    else (pre, bad, at_, 0)
/-- What may be got of bytes: nothing, and why; or so many bytes of them. -/
theorem first_kinds (l : List Int) (hB : IsBytes l) : ∃ xs k e, firstL l = (xs, k, e) ∧ ((k = 0 ∧ xs = [] ∧ (e = 21 ∨ e = 22)) ∨ ∃ n : Nat, k = n ∧ 9 ≤ n ∧ n ≤ l.length ∧ ((e = 22 ∧ xs = []) ∨ (e = 0 ∧ xs.length + 8 = n ∧ 1 ≤ xs.length ∧ xs.length ≤ 8192 ∧ frameOf xs = l.take n ∧ IsBytes xs))) := by
  rcases first_cases l hB with h | h | ⟨g1, g2, g3, g4, h | ⟨z, h, hz, hzf, hzB⟩⟩
  · exact ⟨_, _, _, h, .inl ⟨rfl, rfl, .inl rfl⟩⟩
  · exact ⟨_, _, _, h, .inl ⟨rfl, rfl, .inr rfl⟩⟩
  · exact ⟨_, _, _, h, .inr ⟨(nOf l + 8).toNat, by omega, by omega, by omega, .inl ⟨rfl, rfl⟩⟩⟩
  · exact ⟨_, _, _, h, .inr ⟨(nOf l + 8).toNat, by omega, by omega, by omega, .inr ⟨rfl, by omega, by omega, by omega, hzf.symm, hzB⟩⟩⟩
end Go.Proofs.Yteplnpedakdjkaa.Pure
end

section
/- What a scan tells, as a relation: over numbers and lists alone. -/
namespace Go.Proofs.Yteplnpedakdjkaa.Pure
open Go.RowKit Go.Proofs.YteplnpedakdjkaaW.PrintWords Go.Proofs.YteplnpedakdjkaaW.PrintMore Go.Proofs.Yteplnpedakdjkaa.Fr Go.Proofs.Yteplnpedakdjkaa.Ext

/-- From a place on: the bodies, how many are passed by, where it ends, and why. -/
inductive Scan (l : List Int) : Nat → List Itm → Nat → Nat → Int → Prop
  | done (a : Nat) (h : a = l.length) : Scan l a [] 0 a 0
  | stop (a : Nat) (e : Int) (xs : List Int) (h : a < l.length) (hf : firstL (l.drop a) = (xs, 0, e)) (he : e = 21 ∨ e = 22) : Scan l a [] 0 a e
  | pass (a n : Nat) (I : List Itm) (B e : Nat) (f : Int) (h : a + n ≤ l.length) (hn : 9 ≤ n) (hf : firstL (l.drop a) = ([], (n : Int), 22)) (t : Scan l (a + n) I B e f) : Scan l a I (B + 1) e f
  | take (a n : Nat) (x : List Int) (I : List Itm) (B e : Nat) (f : Int) (h : a + n ≤ l.length) (hn : 9 ≤ n) (hf : firstL (l.drop a) = (x, (n : Int), 0)) (t : Scan l (a + n) I B e f) : Scan l a ((a, n, x) :: I) B e f
theorem scan_le {l : List Int} {a : Nat} {I : List Itm} {B e : Nat} {f : Int} (h : Scan l a I B e f) : a ≤ l.length ∧ a ≤ e ∧ e ≤ l.length ∧ (f = 0 ∨ f = 21 ∨ f = 22) ∧ (f = 0 → e = l.length) := by
  induction h with
  | done a h => omega
  | stop a e xs h hf he => omega
  | pass a n I B e f h hn hf t ih => omega
  | take a n x I B e f h hn hf t ih => omega
theorem scan_ex (l : List Int) (hB : IsBytes l) : ∀ (k a : Nat), a ≤ l.length → l.length < a + k → ∃ I B e f, Scan l a I B e f := by
  intro k
  induction k with
  | zero => intro a h1 h2; omega
  | succ k ih =>
    intro a h1 h2
    by_cases h : a < l.length
    · obtain ⟨xs, kk, ee, hf, ⟨rfl, rfl, he⟩ | ⟨n, rfl, hn, hl, ⟨rfl, rfl⟩ | ⟨rfl, h3, h4, h5, h6, h7⟩⟩⟩ := first_kinds (l.drop a) (hB.drop a)
      · exact ⟨_, _, _, _, .stop a ee [] h hf he⟩
      · rw [List.length_drop] at hl
        obtain ⟨I, B, e, f, t⟩ := ih (a + n) (by omega) (by omega)
        exact ⟨_, _, _, _, .pass a n I B e f (by omega) hn hf t⟩
      · rw [List.length_drop] at hl
        obtain ⟨I, B, e, f, t⟩ := ih (a + n) (by omega) (by omega)
        exact ⟨_, _, _, _, .take a n xs I B e f (by omega) hn hf t⟩
    · exact ⟨_, _, _, _, .done a (by omega)⟩
theorem scan_go {l : List Int} {a : Nat} {I : List Itm} {B e : Nat} {f : Int} (h : Scan l a I B e f) : ∀ (k bad : Nat) (pre : List Itm), l.length < a + k → scanGo k l a bad pre = (pre ++ I, bad + B, e, f) := by
  induction h with
  | done a h =>
    intro k bad pre hk
    obtain ⟨k, rfl⟩ : ∃ k', k = k' + 1 := ⟨k - 1, by omega⟩
    rw [scanGo, if_neg (by omega), List.append_nil]
    rfl
  | stop a e xs h hf he =>
    intro k bad pre hk
    obtain ⟨k, rfl⟩ : ∃ k', k = k' + 1 := ⟨k - 1, by omega⟩
    rw [scanGo, if_pos h, hf, if_pos rfl, List.append_nil]
    rfl
  | pass a n I B e f h hn hf t ih =>
    intro k bad pre hk
    obtain ⟨k, rfl⟩ : ∃ k', k = k' + 1 := ⟨k - 1, by omega⟩
    rw [scanGo, if_pos (by omega), hf]
    simp only [Int.toNat_natCast]
    rw [if_neg (by omega), if_neg (by decide), ih k (bad + 1) pre (by omega)]
    simp only [Prod.mk.injEq, true_and, and_true]
    omega
  | take a n x I B e f h hn hf t ih =>
    intro k bad pre hk
    obtain ⟨k, rfl⟩ : ∃ k', k = k' + 1 := ⟨k - 1, by omega⟩
    rw [scanGo, if_pos (by omega), hf]
    simp only [Int.toNat_natCast]
    rw [if_neg (by omega), if_pos trivial, ih k bad _ (by omega), List.append_assoc]
    rfl
end Go.Proofs.Yteplnpedakdjkaa.Pure
end

section
/- Two strings made of bytes are one only if the bytes are. -/
namespace Go.Proofs.Yteplnpedakdjkaa.Pure
open Go.RowKit Go.Proofs.Yteplnpedakdjkaa.Fr

theorem loop_list (s : ByteArray) (i : Nat) (r : List UInt8) : ByteArray.toList.loop s i r = r.reverse ++ s.data.toList.drop i := by
  unfold ByteArray.toList.loop
  split
  · rename_i h
    rw [loop_list s (i + 1)]
    have h' : i < s.data.toList.length := by simpa using h
    rw [List.drop_eq_getElem_cons h', List.reverse_cons, List.append_assoc]
    simp [ByteArray.get!, h]
  · rename_i h
    rw [List.drop_eq_nil_of_le (by simpa using h), List.append_nil]
termination_by s.size - i
theorem str_of_list {s t : ByteArray} (h : s.toList = t.toList) : s = t := by
  unfold ByteArray.toList at h
  rw [loop_list, loop_list] at h
  simp only [List.reverse_nil, List.nil_append, List.drop_zero] at h
  cases s
  cases t
  exact congrArg ByteArray.mk (Array.toList_inj.mp h)
theorem str_of_bytes {l m : List Int} (h : IsBytes l) (h' : IsBytes m) (e : strOfNums l = strOfNums m) : l = m := by
  have e2 := congrArg (fun s : ByteArray => s.data.toList) e
  simp only [strOfNums_data] at e2
  have g : ∀ (l : List Int), IsBytes l → (l.map fun n => UInt8.ofNat n.toNat).map (fun b => (b.toNat : Int)) = l := by
    intro l h
    rw [List.map_map]
    conv => rhs; rw [← List.map_id l]
    refine List.map_congr_left fun x hx => ?_
    have := h x hx
    simp only [Function.comp, UInt8.toNat_ofNat', id]
    omega
  rw [← g l h, ← g m h', e2]
theorem str_iff {l m : List Int} (h : IsBytes l) (h' : IsBytes m) : (strOfNums l).toList = (strOfNums m).toList ↔ l = m :=
  ⟨fun e => str_of_bytes h h' (str_of_list e), fun e => by rw [e]⟩
end Go.Proofs.Yteplnpedakdjkaa.Pure
end

