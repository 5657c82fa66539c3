/- Contracts of the frame layer's functions that make memory: the sum of bytes, bytes with their sum, a clone, what is joined, a frame. -/
import Derived.Test.YtjednkbgdbalnaaFrA
import Derived.Outline
import Derived.WalkSpells
import Derived.Test.YtjednkbgdbalnaaProg
import Derived.Below
import Derived.Deep.Draws
import Derived.Deep.AppendLies
import Derived.Maps.AppendAt
import Derived.OwnWalk
import Derived.Laws.BytesArg
import Derived.Laws.MakeOwn
import Derived.Laws.OwnMore
import Derived.Deep.OwnRows
import Derived.Tactics
import Derived.Lib.ConvBytes
import Derived.Laws.Slices
import Derived.WalkKit
import Derived.KernelRfl
import Derived.RowKit3
import Derived.Deep.LoopGhost
import Derived.Deep.QuietTactic
import Derived.BigQuiet
import Derived.WideLaws
import Derived.Deep.DeepCutAuto
import Derived.Deep.CutBlock
import Derived.Deep.RegionHeld3
import Derived.Laws.Rows
import Derived.Laws.Tables
import Derived.Lib.AppendStr
import Derived.ArgAppend
import Derived.Laws.IdiomCopy
import Derived.OrdersHeld
import Derived.Laws.BitsLemmas
import Derived.RowKit
import Derived.Test.YtjednkbgdbalnaaWWords
import Derived.Test.YtjednkbgdbalnaaWMore
import Derived.Test.YtjednkbgdbalnaaWZeros
namespace Go.Proofs.Ytjednkbgdbalnaa.Fr
open Go.RowKit Go.Proofs.YtjednkbgdbalnaaW.PrintWords Go.Proofs.YtjednkbgdbalnaaW.PrintMore
set_option linter.unusedVariables false
set_option linter.unusedSimpArgs false

/-- The sum of bytes. -/
def sumOf (l : List Int) : Int := bits .xor .u32 IntKind.u32.max (crcFrom (bits .xor .u32 IntKind.u32.max 0) l)
theorem sumOf_range (l : List Int) : 0 ≤ sumOf l ∧ sumOf l < 4294967296 := xor_u32_range _ _

set_option maxHeartbeats 8000000 in
set_option maxRecDepth 100000 in
theorem of_calls (A : Option Addr) (c : Nat) (l : List Int) (w : World) (hr : Kd.C (Kd.int .u8) w A l.length l) :
    Calls Try.prog 38 #[.agg (tabCells 256), .slice A l.length c] w fun e w' => e = .returned (.int .u32 (sumOf l)) ∧ Below w.heap.size w w' := by
  have HR := Aside0.mk hr
  clear hr
  have HT := Aside0.mk (heap_alloc_new w (.cells (tabCells 256) 67))
  go_enter Try.func38, Try.ntmps38
  go_wp2_with (first
    | (refine wpList_load_row rfl _ _ rfl _ rfl 67 _ (0, 0) _ HT.out Try.underlying67 rfl ?_ ?_; (rw [tabCells_size]; kernel_rfl))
    | (go_at_call 42; refine (on_calls 0 A c l _ (by omega) (by omega) (Kd.C_alloc HR.out _)).mono ?_; rintro e w1 ⟨rfl, hb⟩))
  go_ret
  exact ⟨rfl, (below_alloc (Below.refl _ _) _).trans (hb.mono (by simp))⟩

/-- The table under a name. -/
theorem table_named (w : World) : Calls Try.prog 39 #[] w fun e w' => ∃ T, e = .returned (.agg T) ∧ Aside0 (T = tabCells 256) ∧ Below w.heap.size w w' :=
  (table_calls w).mono fun e w' h => ⟨_, h.1, ⟨rfl⟩, h.2⟩
theorem of_named (T : Array Value) (hT : Aside0 (T = tabCells 256)) (A : Option Addr) (c : Nat) (l : List Int) (w : World) (hr : Kd.C (Kd.int .u8) w A l.length l) :
    Calls Try.prog 38 #[.agg T, .slice A l.length c] w fun e w' => ∃ s, e = .returned (.int .u32 s) ∧ Aside0 (s = sumOf l) ∧ 0 ≤ s ∧ s < 4294967296 ∧ Below w.heap.size w w' := by
  obtain rfl := hT.out
  exact (of_calls A c l w hr).mono fun e w' h => ⟨_, h.1, ⟨rfl⟩, (sumOf_range l).1, (sumOf_range l).2, h.2⟩

/-- The four bytes behind. -/
def tailOf (s : Int) : List Int := [s % 256, s / 256 % 256, s / 65536 % 256, s / 16777216]

theorem info_u8 : (Try.prog.info? 5).map (fun i => (i.zero, i.size, i.bytes)) = some (some (.int .u8 0), 1, 1) := by kernel_rfl

theorem lit_reads (W : World) (e : TypeId) (k : IntKind) (xs : List Int) (hm : xs.length ≤ 9223372036854775807) : ReadsInt (W.alloc (.cells (nums k xs).toArray e)) k (some ⟨W.heap.size, 0, none⟩) xs.length xs := by
  obtain ⟨A, c, hv, hr⟩ := own_reads (own_lit W W.heap.size e k xs (Nat.le_refl _) hm)
  injection hv with h1 h2 h3
  subst h1
  exact hr

set_option maxHeartbeats 8000000 in
set_option maxRecDepth 100000 in
theorem sealed_calls (base : Nat) (v : Value) (l : List Int) (w : World) (hl : l.length < 140737488355000) (hbase : base ≤ w.heap.size) (ho : w.ownsRow base 5 1 v l.length (nums .u8 l)) :
    Calls Try.prog 32 #[v] w fun e w' => ∃ v', e = .returned v' ∧ w'.ownsRow base 5 1 v' (l ++ tailOf (sumOf l)).length (nums .u8 (l ++ tailOf (sumOf l))) ∧ w.grownBy w' v.ownBlock ∧ (v'.ownBlock = v.ownBlock ∨ ∃ b, v'.ownBlock = some b ∧ w.heap.size ≤ b) := by
  obtain ⟨A, c, rfl, hri⟩ := own_reads ho
  have HO := Aside0.mk ho
  clear ho
  have HR : Aside0 (Kd.C (Kd.int .u8) w A l.length l) := ⟨Kd.C_of_reads hri⟩
  clear hri
  go_enter Try.func32, Try.ntmps32
  go_wp2_with (first
    | (go_at_call 39; refine (table_named _).mono ?_; rintro e w1 ⟨T, rfl, HT, hb1⟩; have HB1 := Aside0.mk hb1; clear hb1)
    | (go_at_call 38; refine (of_named T HT A c l _ (Kd.C_below HR.out HB1.out)).mono ?_; rintro e w2 ⟨s, rfl, HS, hs0, hs1, hb2⟩; have HB2 := Aside0.mk (below_then HB1.out HB1.out.size hb2); clear hb2)
    | (at_builtin; refine print_append_row (w0 := w) base rfl _ _ 22 5 .u8 1 rfl Try.underlying22 info_u8 (by omega) (.slice A l.length c) l (tailOf s) _ _ _ rfl rfl (pw_own_below HO.out (below_alloc HB2.out _)) (lit_reads w2 5 .u8 (tailOf s) (by simp [tailOf])) ((below_alloc HB2.out _).mono hbase) (Nat.le_trans hbase (below_alloc HB2.out _).size) (by simp [tailOf]; omega) ?_; intro v1 wz hv1 hbz hgz haz; have HV1 := Aside0.mk hv1; clear hv1; have HGZ := Aside0.mk hgz; clear hgz; have HAZ := Aside0.mk haz; clear haz; clear hbz))
  go_ret
  refine ⟨_, rfl, ?_, ?_, ?_⟩
  · rw [← HS.out]; exact HV1.out
  · exact (grown_of_below (below_alloc HB2.out _) _).trans HGZ.out
  · rcases HAZ.out with h | ⟨b, h, hb⟩
    · exact .inl h
    · exact .inr ⟨b, h, Nat.le_trans (below_alloc HB2.out _).size hb⟩

set_option maxHeartbeats 8000000 in
set_option maxRecDepth 100000 in
theorem clone_calls (A : Option Addr) (c : Nat) (l : List Int) (w : World) (hl : l.length < 140737488355328) (hr : Kd.C (Kd.int .u8) w A l.length l) :
    Calls Try.prog 33 #[.slice A l.length c] w fun e w' => ∃ v, e = .returned v ∧ w'.ownsRow w.heap.size 5 1 v l.length (nums .u8 l) ∧ Below w.heap.size w w' := by
  have HR := Aside0.mk hr
  clear hr
  cases A with
  | none =>
    obtain rfl : l = [] := by
      rcases l with _ | ⟨x, l⟩
      · rfl
      · obtain ⟨ad, h, _⟩ := Kd.at_int HR.out 0 (by omega) (by simp)
        cases h
    have heq := fun w : World => Lib.run_eql_slice_nil (P := Try.prog) w 22 5 none 0 c 0 0 Try.underlying22
    go_enter Try.func33, Try.ntmps33
    go_wp2
    go_ret
    exact ⟨_, rfl, own_nil _ _ _ _, Below.refl _ _⟩
  | some ad =>
    have heq := fun w : World => Lib.run_eql_slice_nil (P := Try.prog) w 22 5 (some ad) l.length c 0 0 Try.underlying22
    go_enter Try.func33, Try.ntmps33
    go_wp2_with (at_builtin; refine print_append_row (w0 := w) w.heap.size rfl _ _ 22 5 .u8 1 rfl Try.underlying22 info_u8 (by omega) (.slice (some ⟨w.heap.size, 0, none⟩) 0 0) [] l _ _ _ rfl rfl (own_lit w w.heap.size 5 .u8 [] (Nat.le_refl _) (by simp)) (Kd.reads_of_C (Kd.C_alloc HR.out _)) (below_alloc (Below.refl _ _) _) (by simp) (by simp; omega) ?_; intro v1 wz hv1 hbz hgz haz; have HV1 := Aside0.mk hv1; clear hv1; clear hgz; clear haz; have HBZ := Aside0.mk hbz; clear hbz)
    go_ret
    exact ⟨_, rfl, by simpa using HV1.out, HBZ.out⟩

/-- An empty row with room. -/
theorem own_room (w : World) (base : Nat) (e : TypeId) {v : Value} {n : Nat} {xs : List Value} (h : w.ownsRow base e 1 v n xs) : ∃ A c, v = .slice A n c ∧ w.ownsRow base e 1 (.slice A 0 c) 0 [] := by
  obtain ⟨A, c, rfl⟩ := own_slice h
  have h2 := own_take h (Nat.zero_le n)
  exact ⟨A, c, rfl, by simpa using h2⟩

set_option maxHeartbeats 8000000 in
set_option maxRecDepth 100000 in
theorem grow_calls (n : Int) (w : World) (h0 : 0 ≤ n) (hn : n < 140737488355328) :
    Calls Try.prog 40 #[.slice none 0 0, .int .i64 n] w fun e w' => ∃ v, e = .returned v ∧ w'.ownsRow w.heap.size 5 1 v 0 [] ∧ Below w.heap.size w w' := by
  by_cases hz : n = 0
  · subst hz
    go_enter Try.func40, Try.ntmps40
    go_wp2
    go_ret
    exact ⟨_, rfl, own_nil _ _ _ _, Below.refl _ _⟩
  · have hd : decide (0 < n) = true := decide_eq_true (by omega)
    have hd2 : decide (n < 0) = false := decide_eq_false (by omega)
    go_enter Try.func40, Try.ntmps40
    go_wp2_with (at_builtin; refine Kd.R_append_zeros (Kd.int .u8) (w0 := w) w.heap.size rfl _ _ 22 3 5 _ 1 rfl Try.underlying22 Try.underlying3 info_u8 rfl Nat.one_pos Nat.one_pos (.slice none 0 0) [] 0 n (fun _ => True) rfl rfl rfl (fun _ _ => trivial) (Kd.R_nil _ _ _ _ _) h0 (Below.refl _ _) (Nat.le_refl _) (by simp; omega) ?_; intro v1 w1 hv1 hb1 hg1 ha1; obtain ⟨inner, hown⟩ := Kd.R_own hv1; obtain ⟨A1, c1, rfl, hroom⟩ := own_room w1 w.heap.size 5 hown; have HROOM := Aside0.mk hroom; have HB1 := Aside0.mk hb1; clear hroom hb1 hown hv1 hg1 ha1; rw [List.length_append, List.length_nil, List.length_replicate])
    go_ret
    exact ⟨_, rfl, HROOM.out, HB1.out⟩

def rdL (xs : List (List Int)) (i : Int) : List Int := xs.getD i.toNat []
theorem at_L {w : World} {A : Option Addr} {n : Nat} {xs : List (List Int)} (h : Kd.C (Kd.slice 5 (Kd.int .u8)) w A n xs) (i : Int) (h0 : 0 ≤ i) (h1 : i < n) : ∃ ad A0 c0, A = some ad ∧ w.cell? (ad.add i.toNat) = some (.slice A0 (rdL xs i).length c0) ∧ (rdL xs i).length ≤ c0 ∧ (Kd.int .u8).C w A0 (rdL xs i).length (rdL xs i) := by
  obtain ⟨ad, c, e, _, hK, hc0⟩ := Kd.C_get h ([] : List Int) i h0 h1
  have hc : ∀ j u, c[j]? = some u → w.cell? (ad.add (i.toNat * 1 + j)) = some u := hc0
  obtain ⟨A0, c0, rfl, l0, g0⟩ := hK
  exact ⟨ad, A0, c0, e, by have hq := hc 0 _ rfl; rwa [Nat.mul_one, Nat.add_zero] at hq, l0, g0⟩
theorem take_succ_rdL (l : List (List Int)) (k : Nat) (h : k < l.length) : l.take (k + 1) = l.take k ++ [rdL l k] := by
  rw [List.take_succ_eq_append_getElem h]
  simp [rdL, List.getD_eq_getElem?_getD, List.getElem?_eq_getElem h]
/-- What stands in the first ones. -/
def flat (l : List (List Int)) (k : Nat) : List Int := (l.take k).flatten
def flatN (l : List (List Int)) (k : Nat) : Nat := (flat l k).length
theorem flat_len (l : List (List Int)) (k : Nat) : (flat l k).length = flatN l k := rfl
theorem flat_succ (l : List (List Int)) (k : Nat) (h : k < l.length) : flat l (k + 1) = flat l k ++ rdL l k := by
  unfold flat
  rw [take_succ_rdL l k h, List.flatten_append]
  simp
theorem flatN_succ (l : List (List Int)) (k : Nat) (h : k < l.length) : flatN l (k + 1) = flatN l k + (rdL l k).length := by
  unfold flatN
  rw [flat_succ l k h, List.length_append]
theorem flatN_le (l : List (List Int)) (k : Nat) : flatN l k ≤ flatN l l.length := by
  unfold flatN flat
  rw [List.take_length]
  conv => rhs; rw [← List.take_append_drop k l]
  rw [List.flatten_append, List.length_append]
  omega

set_option maxHeartbeats 8000000 in
set_option maxRecDepth 100000 in
theorem concat_calls (A : Option Addr) (c : Nat) (ls : List (List Int)) (w : World) (hl : flatN ls ls.length < 140737488355328) (hr : Kd.C (Kd.slice 5 (Kd.int .u8)) w A ls.length ls) :
    Calls Try.prog 34 #[.slice A ls.length c] w fun e w' => ∃ v, e = .returned v ∧ w'.ownsRow w.heap.size 5 1 v (flat ls ls.length).length (nums .u8 (flat ls ls.length)) ∧ Below w.heap.size w w' := by
  have HR := Aside0.mk hr
  clear hr
  have hm := Kd.C_max HR.out
  go_enter Try.func34, Try.ntmps34
  go_wp2
  go_loopg [3, 11] ls.length (fun kq v3 v11 w' => ∃ k : Nat, v3 = .int .i64 (flatN ls k : Int) ∧ v11 = .int .i64 k ∧ Aside0 (k + kq = ls.length) ∧ Aside0 (w = w'))
  case atStart => exact ⟨0, rfl, rfl, ⟨by omega⟩, ⟨rfl⟩⟩
  case round =>
    obtain ⟨k, rfl, rfl, HK, HW⟩ := hrel
    obtain rfl := HW.out
    have hle := flatN_le ls k
    cases gk with
    | zero =>
      have hk : decide ((k : Int) < (ls.length : Int)) = false := decide_eq_false (by have := HK.out; omega)
      have hk' : decide (k < ls.length) = false := decide_eq_false (by have := HK.out; omega)
      go_wp2_with (go_at_call 40; refine (grow_calls _ _ (by omega) (by omega)).mono ?_; rintro e w1 ⟨v, rfl, hv, hb⟩; have HV := Aside0.mk hv; have HB := Aside0.mk hb; clear hv hb)
      clear hk hk'
      go_loopg [6, 27] ls.length (fun kq v6 v27 w' => ∃ k : Nat, v27 = .int .i64 k ∧ Aside0 (k + kq = ls.length) ∧ Aside0 (w'.ownsRow w.heap.size 5 1 v6 (flat ls k).length (nums .u8 (flat ls k))) ∧ Aside0 (Below w.heap.size w w'))
      case atStart => exact ⟨0, rfl, ⟨by omega⟩, ⟨by simpa [flat, nums] using HV.out⟩, HB⟩
      case round =>
        clear HV HB HK
        clear hle
        obtain ⟨k2, rfl, HK, HV, HB⟩ := hrel
        cases gk with
        | zero =>
          have hk : decide ((k2 : Int) < (ls.length : Int)) = false := decide_eq_false (by have := HK.out; omega)
          have hk' : decide (k2 < ls.length) = false := decide_eq_false (by have := HK.out; omega)
          go_wp2
          go_ret
          obtain rfl : k2 = ls.length := by have := HK.out; omega
          exact ⟨_, rfl, HV.out, HB.out⟩
        | succ gk =>
          have hk0 : k2 < ls.length := by have := HK.out; omega
          have hk : decide ((k2 : Int) < (ls.length : Int)) = true := decide_eq_true (by omega)
          have hk' : decide (k2 < ls.length) = true := decide_eq_true hk0
          have h0 : 0 ≤ (k2 : Int) := by omega
          have hle := flatN_le ls (k2 + 1)
          have HF := Aside0.mk (flat_succ ls k2 hk0)
          rw [flatN_succ ls k2 hk0] at hle
          have HRo := Aside0.mk (Kd.C_below HR.out HB.out)
          obtain ⟨ad, A0, c0, e1, hcell, hlc, hC⟩ := at_L HRo.out (k2 : Int) h0 (by omega)
          cases e1
          rw [Int.toNat_natCast] at hcell
          have HC := Aside0.mk hC
          clear hC
          go_wp2_with (at_builtin; refine print_append_row (w0 := w) w.heap.size rfl _ _ 22 5 .u8 1 rfl Try.underlying22 info_u8 (by omega) _ (flat ls k2) (rdL ls k2) _ _ _ rfl rfl HV.out (Kd.reads_of_C HC.out) HB.out HB.out.size (by rw [flat_len]; omega) ?_; intro v1 wz hv1 hbz hgz haz; have HV1 := Aside0.mk hv1; clear hv1; clear hgz; clear haz; have HBZ := Aside0.mk hbz; clear hbz)
          go_roundg gk
          case measure => omega
          case rel => exact ⟨k2 + 1, by go_num, ⟨by have := HK.out; omega⟩, ⟨by rw [HF.out]; exact HV1.out⟩, HBZ⟩
    | succ gk =>
      have hk0 : k < ls.length := by have := HK.out; omega
      have hk : decide ((k : Int) < (ls.length : Int)) = true := decide_eq_true (by omega)
      have hk' : decide (k < ls.length) = true := decide_eq_true hk0
      have h0 : 0 ≤ (k : Int) := by omega
      have hle2 := flatN_le ls (k + 1)
      have HF := Aside0.mk (flatN_succ ls k hk0)
      rw [HF.out] at hle2
      obtain ⟨ad, A0, c0, e1, hcell, hlc, hC⟩ := at_L HR.out (k : Int) h0 (by omega)
      cases e1
      rw [Int.toNat_natCast] at hcell
      have hnn : decide ((flatN ls k : Int) + ((rdL ls k).length : Int) < 0) = false := decide_eq_false (by omega)
      go_wp2
      go_roundg gk
      case measure => omega
      case rel => exact ⟨k + 1, by rw [HF.out]; go_num, by go_num, ⟨by have := HK.out; omega⟩, ⟨rfl⟩⟩
end Go.Proofs.Ytjednkbgdbalnaa.Fr
