/- Texts of this claim, joined: Lw, HnP, HnE, HnC, HnL, Pkx0, Pkx1, HnR, HnS, HnQ, HnK, HnV. -/
import Derived.Test.YteplnpedakdjkaaZGa
import Derived.WalkSpells
import Derived.Test.YteplnpedakdjkaaZPtx0
import Derived.Lib.Bytealg
import Derived.Shelf.GgSortFunc.InsertionK
import Derived.Shelf.SlSortCmp.WholeK
import Derived.Test.YteplnpedakdjkaaProg
import Derived.Below
import Derived.Deep.Draws
import Derived.Deep.AppendLies
import Derived.Maps.AppendAt
import Derived.OwnWalk
import Derived.Laws.BytesArg
import Derived.Laws.MakeOwn
import Derived.Laws.OwnMore
import Derived.Deep.OwnRows
import Derived.Tactics
import Derived.Lib.ConvBytes
import Derived.Laws.Slices
import Derived.WalkKit
import Derived.KernelRfl
import Derived.RowKit3
import Derived.Deep.LoopGhost
import Derived.Deep.QuietTactic
import Derived.BigQuiet
import Derived.WideLaws
import Derived.Deep.DeepCutAuto
import Derived.Deep.CutBlock
import Derived.Deep.RegionHeld3
import Derived.Laws.Rows
import Derived.Lib.AppendStr
import Derived.ArgAppend
import Derived.Laws.IdiomCopy
import Derived.OrdersHeld
import Derived.Laws.BitsLemmas
import Derived.RowKit
import Derived.Test.YteplnpedakdjkaaZWWords
import Derived.Test.YteplnpedakdjkaaZWLast
import Derived.Test.YteplnpedakdjkaaZWTab
import Derived.Test.YteplnpedakdjkaaZWFour
import Derived.Test.YteplnpedakdjkaaZWQPut
import Derived.Test.YteplnpedakdjkaaZWApart
import Derived.Test.YteplnpedakdjkaaZWArr
import Derived.Test.YteplnpedakdjkaaZWZeros
import Derived.Test.YteplnpedakdjkaaZWFoot
import Derived.Test.YteplnpedakdjkaaZWKept
import Derived.Test.YteplnpedakdjkaaZWShare
import Derived.Test.YteplnpedakdjkaaZWN
import Derived.Test.YteplnpedakdjkaaZWFootNe
import Derived.Test.YteplnpedakdjkaaZWAt
import Derived.Test.YteplnpedakdjkaaZWEqStruct
import Derived.Test.YteplnpedakdjkaaZWRepsOne
import Derived.Test.YteplnpedakdjkaaZWInv
import Derived.Test.YteplnpedakdjkaaZWInvWords
import Derived.Test.YteplnpedakdjkaaZWGuard
import Derived.Test.YteplnpedakdjkaaZWNEv
import Derived.Test.YteplnpedakdjkaaZWMore
import Derived.Shelf.SlSortCmp.NoneTotal
import Derived.Shelf.SlIter.AllValuesS
section
/- The frame layer's contracts with what they answer under names, for the walks of laws. -/
namespace Go.Proofs.Yteplnpedakdjkaa.Lw
open Go.RowKit Go.Proofs.YteplnpedakdjkaaW.PrintWords Go.Proofs.YteplnpedakdjkaaW.PrintMore Go.Proofs.Yteplnpedakdjkaa.Fr Go.Proofs.Yteplnpedakdjkaa.Ext Go.Proofs.Yteplnpedakdjkaa.Pure
set_option linter.unusedVariables false
set_option linter.unusedSimpArgs false

/-- A row of bytes of the call's own. -/
def Own (w : World) (base : Nat) (v : Value) (l : List Int) : Prop := w.ownsRow base 5 1 v l.length (nums .u8 l)
/-- A row of bytes that is read. -/
def Rd (w : World) (A : Option Addr) (l : List Int) : Prop := Kd.C (Kd.int .u8) w A l.length l
/-- What is got of bytes. -/
theorem first_n (A : Option Addr) (c n : Nat) (l xs : List Int) (k f : Int) (hr' : firstL l = (xs, k, f)) (hn : l.length = n) (hB : IsBytes l) (w : World) (hc : n ≤ c) (hr : Rd w A l) :
    Calls Try.prog 59 #[.slice A n c] w fun e w' => ∃ A' c', e = .returned (.tuple #[.slice A' xs.length c', .int .i64 k, .int .i64 f]) ∧ xs.length ≤ c' ∧ Aside0 (Own w' w.heap.size (.slice A' xs.length c') xs) ∧ Aside0 (Rd w' A' xs) ∧ Aside0 (Below w.heap.size w w') := by
  subst hn
  refine (first_calls A c l w hB hc hr).mono ?_
  rintro e w' ⟨v, xs', k', f', rfl, HL, ho, hb⟩
  have h := HL.out
  rw [hr'] at h
  simp only [Prod.mk.injEq] at h
  obtain ⟨rfl, rfl, rfl⟩ := h
  obtain ⟨A', c', rfl, hle, hC⟩ := Kd.R_reads (R_ints ho)
  exact ⟨A', c', rfl, hle, ⟨ho⟩, ⟨hC⟩, ⟨hb⟩⟩
theorem Rd.below {w w' : World} {A : Option Addr} {l : List Int} (h : Rd w A l) (hb : Below w.heap.size w w') : Rd w' A l := Kd.C_below h hb
end Go.Proofs.Yteplnpedakdjkaa.Lw
end

section
/- What hints are, over lists alone. -/
namespace Go.Proofs.Yteplnpedakdjkaa.Hn
set_option linter.unusedVariables false
set_option linter.unusedSimpArgs false
open Go.RowKit Go.Proofs.Yteplnpedakdjkaa.Pt Go.Proofs.YteplnpedakdjkaaW.PrintWords Go.Proofs.Yteplnpedakdjkaa.Fr Go.Proofs.Yteplnpedakdjkaa.Ext

abbrev Hi := S41
abbrev Fo := S39
/-- A key's bytes. -/
def keyL (s : ByteArray) : List UInt8 := s.data.toList
/-- May one be told? -/
def fineH (h : Hi) : Bool := decide (2 ≤ h.f0 ∧ h.f0 ≤ 4) && decide (1 ≤ h.f1.size ∧ h.f1.size ≤ 64) && decide (0 ≤ h.f2 ∧ h.f2 ≤ 1073741824) && decide (9 ≤ h.f3 ∧ h.f3 ≤ 8200)
/-- Do the keys rise? -/
def risesL : List Hi → Bool
  | a :: b :: l => decide (keyL a.f1 < keyL b.f1) && risesL (b :: l)
  | _ => true
def rightL (l : List Hi) : Bool := risesL l && l.all fineH
/-- A number's four bytes. -/
def four4 (n : Int) : List Int := [(n / 16777216) % 256, (n / 65536) % 256, (n / 256) % 256, n % 256]
def endL (fr : List Int) (many size : Int) : List Int := 7 :: (four4 many ++ (four4 size ++ four4 (sumOf fr)))
/-- One put among others: in its place, or in that of its key. -/
def insH (h : Hi) : List Hi → List Hi
  | [] => [h]
  | a :: l => if keyL h.f1 < keyL a.f1 then h :: a :: l else if keyL h.f1 = keyL a.f1 then h :: l else a :: insH h l
def tellsF (x : Fo) : Bool := decide (2 ≤ x.f2.f0 ∧ x.f2.f0 ≤ 4)
def hintF (x : Fo) : Hi := ⟨x.f2.f0, x.f2.f1, x.f0, x.f1⟩
def ofGo : List Fo → List Hi → List Hi
  | [], acc => acc
  | x :: l, acc => ofGo l (if tellsF x then insH (hintF x) acc else acc)
def ofL (l : List Fo) : List Hi := ofGo l []
end Go.Proofs.Yteplnpedakdjkaa.Hn
end

section
/- Package hint: a number's four bytes, and the last body. -/
namespace Go.Proofs.Yteplnpedakdjkaa.Hn
set_option linter.unusedVariables false
set_option linter.unusedSimpArgs false
open Go.RowKit Go.Proofs.Yteplnpedakdjkaa.Pt Go.Proofs.YteplnpedakdjkaaW.PrintWords Go.Proofs.YteplnpedakdjkaaW.PrintMore Go.Proofs.Yteplnpedakdjkaa.Fr Go.Proofs.Yteplnpedakdjkaa.Ext
set_option linter.unusedVariables false

set_option maxHeartbeats 8000000 in
set_option maxRecDepth 100000 in
theorem four_calls (base : Nat) (v : Value) (l : List Int) (n : Int) (w : World) (hl : l.length < 140737488355000) (hbase : base ≤ w.heap.size) (ho : w.ownsRow base 5 1 v l.length (nums .u8 l)) :
    Calls Try.prog 45 #[v, .int .i64 n] w fun e w' => ∃ v', e = .returned v' ∧ w'.ownsRow base 5 1 v' (l ++ four4 n).length (nums .u8 (l ++ four4 n)) ∧ w.grownBy w' v.ownBlock ∧ (v'.ownBlock = v.ownBlock ∨ ∃ b, v'.ownBlock = some b ∧ w.heap.size ≤ b) := by
  obtain ⟨A, c, rfl, hri⟩ := own_reads ho
  have HO := Aside0.mk ho
  clear ho hri
  go_enter Try.func45, Try.ntmps45
  go_wp2_with (first
    | (at_builtin; refine print_append_row (w0 := w) base rfl _ _ 23 5 .u8 1 rfl Try.underlying23 info_u8 (by omega) (.slice A l.length c) l (four4 n) _ _ _ rfl rfl (pw_own_below HO.out (below_alloc (Below.refl _ _) _)) (lit_reads w 5 .u8 (four4 n) (by simp [four4])) ((below_alloc (Below.refl _ _) _).mono hbase) (Nat.le_trans hbase (by simp)) (by simp [four4]; omega) ?_; intro v1 wz hv1 hbz hgz haz; have HV1 := Aside0.mk hv1; clear hv1; have HGZ := Aside0.mk hgz; clear hgz; have HAZ := Aside0.mk haz; clear haz; clear hbz))
  go_ret
  refine ⟨_, rfl, HV1.out, ?_, ?_⟩
  · exact (grown_of_below (below_alloc (Below.refl _ _) _) _).trans HGZ.out
  · rcases HAZ.out with h | ⟨b, h, hb⟩
    · exact .inl h
    · exact .inr ⟨b, h, Nat.le_trans (by simp) hb⟩

set_option maxHeartbeats 8000000 in
set_option maxRecDepth 100000 in
theorem end_calls (A : Option Addr) (c : Nat) (l : List Int) (m n : Int) (w : World) (hr : Kd.C (Kd.int .u8) w A l.length l) :
    Calls Try.prog 26 #[.slice A l.length c, .int .i64 m, .int .i64 n] w fun e w' => ∃ v', e = .returned v' ∧ w'.ownsRow w.heap.size 5 1 v' (endL l m n).length (nums .u8 (endL l m n)) ∧ Below w.heap.size w w' := by
  have HR := Aside0.mk hr
  clear hr
  go_enter Try.func26, Try.ntmps26
  go_wp2_with (first
    | (go_at_call 44; refine (table_named _).mono ?_; rintro e w1 ⟨T, rfl, HT, hb1⟩; have HB1 := Aside0.mk hb1; clear hb1)
    | (go_at_call 43; refine (of_named T HT A c l _ (Kd.C_below HR.out HB1.out)).mono ?_; rintro e w2 ⟨s, rfl, HS, hs0, hs1, hb2⟩; have HB2 := Aside0.mk (below_then HB1.out HB1.out.size hb2); clear hb2; have HL := Aside0.mk (own_lit w2 w.heap.size 5 .u8 [7] HB2.out.size (by simp)))
    | (go_at_call 45; refine (four_calls w.heap.size v4 _ s w4 (by simp [four4]) HB4.out.size HV4.out).mono ?_; rintro e w5 ⟨v5, rfl, ho5, hg5, -⟩; have HB5 := Aside0.mk (HB4.out.grown hg5 HB4.out.size (own_base HV4.out)); have HV5 := Aside0.mk ho5; clear ho5 hg5)
    | (go_at_call 45; refine (four_calls w.heap.size v3 _ n w3 (by simp [four4]) HB3.out.size HV3.out).mono ?_; rintro e w4 ⟨v4, rfl, ho4, hg4, -⟩; have HB4 := Aside0.mk (HB3.out.grown hg4 HB3.out.size (own_base HV3.out)); have HV4 := Aside0.mk ho4; clear ho4 hg4)
    | (go_at_call 45; refine (four_calls w.heap.size _ [7] m _ (by simp) ((below_alloc HB2.out _).size) HL.out).mono ?_; rintro e w3 ⟨v3, rfl, ho3, hg3, -⟩; have HB3 := Aside0.mk ((below_alloc HB2.out _).grown hg3 (below_alloc HB2.out _).size (own_base HL.out)); have HV3 := Aside0.mk ho3; clear ho3 hg3))
  go_ret
  refine ⟨_, rfl, ?_, HB5.out⟩
  have := HV5.out
  rw [HS.out] at this
  exact this
end Go.Proofs.Yteplnpedakdjkaa.Hn
end

section
/- Package hint: two hints' keys compared. -/
namespace Go.Proofs.Yteplnpedakdjkaa.Hn
set_option linter.unusedVariables false
set_option linter.unusedSimpArgs false
open Go.RowKit Go.Shelf Go.Lib Go.Sort Go.Proofs.Yteplnpedakdjkaa.Pt Go.Proofs.YteplnpedakdjkaaW.PrintWords Go.Proofs.Yteplnpedakdjkaa.Fr Go.Proofs.Yteplnpedakdjkaa.Ext
set_option linter.unusedVariables false

def encH (x : Hi) : List Value := [.int .i64 x.f0, .string x.f1, .int .i64 x.f2, .int .i64 x.f3]
def cmpH (x y : Hi) : Int := compareBytes (keyL x.f1) (keyL y.f1)
theorem compareString_calls (a b : ByteArray) (w : World) :
    Calls Try.prog 62 #[.string a, .string b] w fun e w' => e = .returned (.int .i64 (compareBytes a.data.toList b.data.toList)) ∧ w' = w := by
  go_enter Try.func62, Try.ntmps62
  go_wp2
  rw [run_callFunc_extern Try.func69 (by kernel_rfl) (by kernel_rfl) (by kernel_rfl) (e := Extern.BytealgCompare.compare) (by kernel_rfl), Lib.run_compareString]
  simp only [Result.andThen]
  rw [Oper.upon_value]
  go_wp2
  go_ret
  exact ⟨rfl, rfl⟩
theorem compare_calls (a b : ByteArray) (w : World) :
    Calls Try.prog 48 #[.string a, .string b] w fun e w' => e = .returned (.int .i64 (compareBytes a.data.toList b.data.toList)) ∧ w' = w := by
  go_enter Try.func48, Try.ntmps48
  go_wp2_with (go_at_call 62; refine (compareString_calls _ _ _).mono ?_; rintro e w' ⟨rfl, rfl⟩)
  go_ret
  exact ⟨rfl, rfl⟩
set_option maxHeartbeats 1000000 in
theorem byKey_calls (x y : Hi) (W : World) : Calls Try.prog 32 #[.agg (encH x).toArray, .agg (encH y).toArray] W fun e w' => e = .returned (.int .i64 (cmpH x y)) ∧ ∃ q os', w' = grow (W.drewN q) os' := by
  have hcon := fun W' => compare_calls x.f1 y.f1 W'
  change Calls Try.prog 32 #[.agg #[.int .i64 x.f0, .string x.f1, .int .i64 x.f2, .int .i64 x.f3], .agg #[.int .i64 y.f0, .string y.f1, .int .i64 y.f2, .int .i64 y.f3]] W _
  change ∀ W', Calls Try.prog 48 #[.string x.f1, .string y.f1] W' fun e w' => e = .returned (.int .i64 (cmpH x y)) ∧ w' = W' at hcon
  generalize cmpH x y = r at hcon ⊢
  go_enter Try.func32, Try.ntmps32
  go_wp2_with (go_at_call 48; refine (hcon _).mono ?_; rintro e w' ⟨rfl, rfl⟩)
  go_ret
  exact ⟨rfl, 0, _, by rw [alloc_eq_grow, alloc_eq_grow, grow_grow]; rfl⟩
theorem below_grow {w0 w : World} (os : Array Obj) (h : RowKit.Below w0.heap.size w0 w) : RowKit.Below w0.heap.size w0 (grow w os) :=
  ⟨h.os, h.tape, h.output, Nat.le_trans h.size (by simp), fun k hk => by
    rw [← h.block k hk]
    exact Array.getElem?_append_left (Nat.lt_of_lt_of_le hk h.size)⟩
theorem byKey_below (x y : Hi) (W : World) : Calls Try.prog 32 #[.agg #[.int .i64 x.f0, .string x.f1, .int .i64 x.f2, .int .i64 x.f3], .agg #[.int .i64 y.f0, .string y.f1, .int .i64 y.f2, .int .i64 y.f3]] W fun e w' => e = .returned (.int .i64 (cmpH x y)) ∧ RowKit.Below W.heap.size W w' := by
  refine (byKey_calls x y W).mono ?_
  rintro e w' ⟨he, q, os, rfl⟩
  exact ⟨he, below_grow os (pw_below_drewN (RowKit.Below.refl _ _) q)⟩
end Go.Proofs.Yteplnpedakdjkaa.Hn
end

section
/- The library's sort of hints by a function, tied to its shelf contract (laid by the shelf's tool, in plain words). -/
namespace Go.Proofs.Yteplnpedakdjkaa.Hn
set_option linter.unusedVariables false
set_option linter.unusedSimpArgs false
open Go.Shelf
def sortH_ren : Go.Shelf.Ren := ⟨fun | 6 => 56 | 15 => 66 | 14 => 65 | 28 => 78 | 29 => 79 | 20 => 70 | 21 => 71 | 22 => 72 | 23 => 73 | 24 => 74 | 25 => 75 | 26 => 76 | 27 => 77 | 46 => 80 | 47 => 81 | 48 => 82 | 49 => 83 | 50 => 84 | 57 => 85 | n => n, fun | 22 => 22 | 24 => 41 | 25 => 62 | 3 => 3 | 39 => 80 | 0 => 0 | 53 => 67 | 55 => 113 | 4 => 4 | 46 => 105 | 45 => 104 | 50 => 109 | 5 => 5 | 9 => 9 | 66 => 114 | 70 => 118 | 76 => 120 | 77 => 121 | n => n, fun | n => n⟩
theorem sortH : Go.Proofs.SlLaysF0.n6 Try.prog sortH_ren := {
  mixed := by kernel_rfl
  f6 := ⟨Try.f56.name, by decide, Try.func56.trans (congrArg some (by kernel_rfl))⟩
  f14 := ⟨Try.f65.name, by decide, Try.func65.trans (congrArg some (by kernel_rfl))⟩
  f15 := Try.func66.trans (congrArg some (by kernel_rfl))
  f20 := ⟨Try.f70.name, by decide, Try.func70.trans (congrArg some (by kernel_rfl))⟩
  f21 := ⟨Try.f71.name, by decide, Try.func71.trans (congrArg some (by kernel_rfl))⟩
  f22 := ⟨Try.f72.name, by decide, Try.func72.trans (congrArg some (by kernel_rfl))⟩
  f23 := ⟨Try.f73.name, by decide, Try.func73.trans (congrArg some (by kernel_rfl))⟩
  f24 := ⟨Try.f74.name, by decide, Try.func74.trans (congrArg some (by kernel_rfl))⟩
  f25 := ⟨Try.f75.name, by decide, Try.func75.trans (congrArg some (by kernel_rfl))⟩
  f26 := ⟨Try.f76.name, by decide, Try.func76.trans (congrArg some (by kernel_rfl))⟩
  f27 := ⟨Try.f77.name, by decide, Try.func77.trans (congrArg some (by kernel_rfl))⟩
  f28 := Try.func78.trans (congrArg some (by kernel_rfl))
  f29 := Try.func79.trans (congrArg some (by kernel_rfl))
  f46 := ⟨Try.f80.name, by decide, Try.func80.trans (congrArg some (by kernel_rfl))⟩
  f47 := Try.func81.trans (congrArg some (by kernel_rfl))
  f48 := Try.func82.trans (congrArg some (by kernel_rfl))
  f49 := ⟨Try.f83.name, by decide, Try.func83.trans (congrArg some (by kernel_rfl))⟩
  f50 := ⟨Try.f84.name, by decide, Try.func84.trans (congrArg some (by kernel_rfl))⟩
  f57 := ⟨Try.f85.name, by decide, Try.func85.trans (congrArg some (by kernel_rfl))⟩
  t0 := Try.underlying0
  a0 := Try.isAgg0
  z0 := Try.sizeOf0
  v0 := Try.zeroValue0
  t3 := Try.underlying3
  a3 := Try.isAgg3
  z3 := Try.sizeOf3
  v3 := Try.zeroValue3
  t4 := Try.underlying4
  a4 := Try.isAgg4
  z4 := Try.sizeOf4
  v4 := Try.zeroValue4
  t5 := Try.underlying5
  a5 := Try.isAgg5
  z5 := Try.sizeOf5
  v5 := Try.zeroValue5
  t9 := Try.underlying9
  a9 := Try.isAgg9
  z9 := Try.sizeOf9
  v9 := Try.zeroValue9
  t22 := Try.underlying22
  a22 := Try.isAgg22
  z22 := Try.sizeOf22
  v22 := Try.zeroValue22
  t25 := Try.underlying62
  a25 := Try.isAgg62
  z25 := Try.sizeOf62
  v25 := Try.zeroValue62
  t39 := Try.underlying80
  a39 := Try.isAgg80
  z39 := Try.sizeOf80
  v39 := Try.zeroValue80
  t45 := Try.underlying104
  a45 := Try.isAgg104
  z45 := Try.sizeOf104
  v45 := Try.zeroValue104
  t46 := Try.underlying105
  a46 := Try.isAgg105
  z46 := Try.sizeOf105
  v46 := Try.zeroValue105
  t50 := Try.underlying109
  a50 := Try.isAgg109
  z50 := Try.sizeOf109
  v50 := Try.zeroValue109
  t53 := Try.underlying67
  a53 := Try.isAgg67
  z53 := Try.sizeOf67
  v53 := Try.zeroValue67
  t55 := Try.underlying113
  a55 := Try.isAgg113
  z55 := Try.sizeOf113
  v55 := Try.zeroValue113
  t66 := Try.underlying114
  a66 := Try.isAgg114
  z66 := Try.sizeOf114
  v66 := Try.zeroValue114
  t70 := Try.underlying118
  a70 := Try.isAgg118
  z70 := Try.sizeOf118
  v70 := Try.zeroValue118
  t76 := Try.underlying120
  a76 := Try.isAgg120
  z76 := Try.sizeOf120
  v76 := Try.zeroValue120
  t77 := Try.underlying121
  a77 := Try.isAgg121
  z77 := Try.sizeOf121
  v77 := Try.zeroValue121 }
end Go.Proofs.Yteplnpedakdjkaa.Hn
end

section
-- Written by a program of this session over the translation (a turned copy of the kit's printer). Lean checks it.
namespace Go.Proofs.Yteplnpedakdjkaa.Pk
open Go.RowKit Go.Proofs.YteplnpedakdjkaaW.PrintWords Go.Proofs.YteplnpedakdjkaaW.PrintLast Go.Proofs.YteplnpedakdjkaaW.PrintMore
attribute [local go_sem] max2_int min2_int max_two min_two max_three min_three max_four min_four   -- for this text's walks alone
set_option linter.unusedVariables false
set_option linter.unusedSimpArgs false



def errW : Option Int → Value
  | none => .nilIface
  | some c => .iface 0 (.int .i64 c)
theorem errW_none : errW none = .nilIface := rfl
theorem errW_some (c : Int) : errW (some c) = .iface 0 (.int .i64 c) := rfl

-- the values' own types

end Go.Proofs.Yteplnpedakdjkaa.Pk
end

section
-- Written by a program of this session over the translation (a turned copy of the kit's printer). Lean checks it.
namespace Go.Proofs.Yteplnpedakdjkaa.Pk
open Go.RowKit Go.Proofs.YteplnpedakdjkaaW.PrintWords Go.Proofs.YteplnpedakdjkaaW.PrintLast Go.Proofs.YteplnpedakdjkaaW.PrintMore
attribute [local go_sem] max2_int min2_int max_two min_two max_three min_three max_four min_four   -- for this text's walks alone
set_option linter.unusedVariables false
set_option linter.unusedSimpArgs false

open Go.Proofs.Yteplnpedakdjkaa.Ext
/-! ### hint_within: function 23 -/
def hint_within.f (a0 : Int) (a1 : Int) (a2 : Int) : Option (Bool) := if a0 ≥ a1 then (some (decide (a0 ≤ a2))) else (some false)
set_option maxHeartbeats 8000000 in
set_option maxRecDepth 100000 in
theorem hint_within.calls (a0 : Int) (a1 : Int) (a2 : Int) (r : Bool) (w : World) (h : hint_within.f a0 a1 a2 = some r) :
    Calls Try.prog 23 #[.int .i64 a0, .int .i64 a1, .int .i64 a2] w fun e w' => e = .returned (.bool r) ∧ Drawn0 w w' := by
  have H : (if a0 ≥ a1 then (some (decide (a0 ≤ a2))) else (some false)) = some r := h
  clear h
  by_cases c4 : a0 ≥ a1
  · rw [if_pos c4] at H
    have c4b0 : decide (a1 ≤ a0) = true := decide_eq_true c4
    clear c4
    obtain rfl := Option.some.inj H
    go_enter Try.func23, Try.ntmps23
    go_wp2
    go_ret
    exact ⟨by first | rfl | (simp; done) | (simp [*]; done), by repeat (first | exact Drawn0.refl _ | apply Drawn0.step)⟩
  · rw [if_neg c4] at H
    have c4b0 : decide (a1 ≤ a0) = false := decide_eq_false c4
    clear c4
    obtain rfl := Option.some.inj H
    go_enter Try.func23, Try.ntmps23
    go_wp2
    go_ret
    exact ⟨by first | rfl | (simp; done) | (simp [*]; done), by repeat (first | exact Drawn0.refl _ | apply Drawn0.step)⟩

/-! ### hint_tells: function 30 -/
def hint_tells.f (a0 : Int) : Option (Bool) := (hint_within.f a0 2 4).bind fun t101 => (some t101)
set_option maxHeartbeats 8000000 in
set_option maxRecDepth 100000 in
theorem hint_tells.calls (a0 : Int) (r : Bool) (w : World) (h : hint_tells.f a0 = some r) :
    Calls Try.prog 30 #[.int .i64 a0] w fun e w' => e = .returned (.bool r) ∧ Drawn0 w w' := by
  have H : ((hint_within.f a0 2 4).bind fun t101 => (some t101)) = some r := h
  clear h
  replace H := Option.bind_eq_some_iff.mp H
  obtain ⟨t101, A20, H⟩ := H
  replace H : (some t101) = some r := H
  have A2 := Aside0.mk A20
  clear A20
  obtain rfl := Option.some.inj H
  go_enter Try.func30, Try.ntmps30
  go_wp2_with (first | ((with_reducible refine gate_callee (f := 23) rfl ?_); refine goesL_ (some 4) rfl rfl Try.func23 (by kernel_rfl) rfl #[.int .i64 a0, .int .i64 2, .int .i64 4] rfl (by (try simp only [List.map_toArray, List.map_cons, List.map_nil]); first | done | rfl | (simp only [List.length_drop, List.length_take]; rfl)) ?_; (with_reducible refine (hint_within.calls a0 2 4 t101 _ A2.out).mono ?_); rintro e w' ⟨rfl, ⟨nd, rfl⟩⟩; refine ⟨_, rfl, ?_⟩))
  go_ret
  exact ⟨by first | rfl | (simp; done) | (simp [*]; done), by repeat (first | exact Drawn0.refl _ | apply Drawn0.step)⟩

/-! ### rec_within: function 47 -/
def rec_within.f (a0 : Int) (a1 : Int) (a2 : Int) : Option (Bool) := if a0 ≥ a1 then (some (decide (a0 ≤ a2))) else (some false)
set_option maxHeartbeats 8000000 in
set_option maxRecDepth 100000 in
theorem rec_within.calls (a0 : Int) (a1 : Int) (a2 : Int) (r : Bool) (w : World) (h : rec_within.f a0 a1 a2 = some r) :
    Calls Try.prog 47 #[.int .i64 a0, .int .i64 a1, .int .i64 a2] w fun e w' => e = .returned (.bool r) ∧ Drawn0 w w' := by
  have H : (if a0 ≥ a1 then (some (decide (a0 ≤ a2))) else (some false)) = some r := h
  clear h
  by_cases c4 : a0 ≥ a1
  · rw [if_pos c4] at H
    have c4b0 : decide (a1 ≤ a0) = true := decide_eq_true c4
    clear c4
    obtain rfl := Option.some.inj H
    go_enter Try.func47, Try.ntmps47
    go_wp2
    go_ret
    exact ⟨by first | rfl | (simp; done) | (simp [*]; done), by repeat (first | exact Drawn0.refl _ | apply Drawn0.step)⟩
  · rw [if_neg c4] at H
    have c4b0 : decide (a1 ≤ a0) = false := decide_eq_false c4
    clear c4
    obtain rfl := Option.some.inj H
    go_enter Try.func47, Try.ntmps47
    go_wp2
    go_ret
    exact ⟨by first | rfl | (simp; done) | (simp [*]; done), by repeat (first | exact Drawn0.refl _ | apply Drawn0.step)⟩

/-! ### rec_Key: function 31 -/
def rec_Key.f (a0 : ByteArray) : Option (Bool) := (rec_within.f (a0.size : Int) 1 64).bind fun t102 => (some t102)
set_option maxHeartbeats 8000000 in
set_option maxRecDepth 100000 in
theorem rec_Key.calls (a0 : ByteArray) (r : Bool) (w : World) (h : rec_Key.f a0 = some r) :
    Calls Try.prog 31 #[.string a0] w fun e w' => e = .returned (.bool r) ∧ Drawn0 w w' := by
  have H : ((rec_within.f (a0.size : Int) 1 64).bind fun t102 => (some t102)) = some r := h
  clear h
  replace H := Option.bind_eq_some_iff.mp H
  obtain ⟨t102, A20, H⟩ := H
  replace H : (some t102) = some r := H
  have A2 := Aside0.mk A20
  clear A20
  obtain rfl := Option.some.inj H
  go_enter Try.func31, Try.ntmps31
  go_wp2_with (first | ((with_reducible refine gate_callee (f := 47) rfl ?_); refine goesL_ (some 5) rfl rfl Try.func47 (by kernel_rfl) rfl #[.int .i64 (a0.size : Int), .int .i64 1, .int .i64 64] rfl (by (try simp only [List.map_toArray, List.map_cons, List.map_nil]); first | done | rfl | (simp only [List.length_drop, List.length_take]; rfl)) ?_; (with_reducible refine (rec_within.calls (a0.size : Int) 1 64 t102 _ A2.out).mono ?_); rintro e w' ⟨rfl, ⟨nd, rfl⟩⟩; refine ⟨_, rfl, ?_⟩))
  go_ret
  exact ⟨by first | rfl | (simp; done) | (simp [*]; done), by repeat (first | exact Drawn0.refl _ | apply Drawn0.step)⟩

/-! ### hint_Right_1: function 29 -/
def hint_Right_1.f (a0_0 : Int) (a0_1 : ByteArray) (a0_2 : Int) (a0_3 : Int) : Option (Bool) := (hint_tells.f a0_0).bind fun t104 => (if t104 = true then ((rec_Key.f a0_1).bind fun t105 => (if t105 = true then ((hint_within.f a0_2 0 1073741824).bind fun t106 => (if t106 = true then ((hint_within.f a0_3 9 8200).bind fun t107 => (some (!t107))) else (some true))) else (some true))) else (some true))
set_option maxHeartbeats 8000000 in
set_option maxRecDepth 100000 in
theorem hint_Right_1.calls (a0_0 : Int) (a0_1 : ByteArray) (a0_2 : Int) (a0_3 : Int) (r : Bool) (w : World) (h : hint_Right_1.f a0_0 a0_1 a0_2 a0_3 = some r) :
    Calls Try.prog 29 #[.agg #[.int .i64 a0_0, .string a0_1, .int .i64 a0_2, .int .i64 a0_3]] w fun e w' => e = .returned (.bool r) ∧ Below w.heap.size w w' := by
  have hu41 := Try.underlying41
  have HB := Aside0.mk (Below.refl w.heap.size w)
  have H : ((hint_tells.f a0_0).bind fun t104 => (if t104 = true then ((rec_Key.f a0_1).bind fun t105 => (if t105 = true then ((hint_within.f a0_2 0 1073741824).bind fun t106 => (if t106 = true then ((hint_within.f a0_3 9 8200).bind fun t107 => (some (!t107))) else (some true))) else (some true))) else (some true))) = some r := h
  clear h
  replace H := Option.bind_eq_some_iff.mp H
  obtain ⟨t104, A20, H⟩ := H
  replace H : (if t104 = true then ((rec_Key.f a0_1).bind fun t105 => (if t105 = true then ((hint_within.f a0_2 0 1073741824).bind fun t106 => (if t106 = true then ((hint_within.f a0_3 9 8200).bind fun t107 => (some (!t107))) else (some true))) else (some true))) else (some true)) = some r := H
  have A2 := Aside0.mk A20
  clear A20
  by_cases c3 : t104 = true
  · subst c3
    have H1 : ((rec_Key.f a0_1).bind fun t105 => (if t105 = true then ((hint_within.f a0_2 0 1073741824).bind fun t106 => (if t106 = true then ((hint_within.f a0_3 9 8200).bind fun t107 => (some (!t107))) else (some true))) else (some true))) = some r := by rw [if_pos rfl] at H; exact H
    clear H
    have H := H1
    clear H1
    replace H := Option.bind_eq_some_iff.mp H
    obtain ⟨t105, A40, H⟩ := H
    replace H : (if t105 = true then ((hint_within.f a0_2 0 1073741824).bind fun t106 => (if t106 = true then ((hint_within.f a0_3 9 8200).bind fun t107 => (some (!t107))) else (some true))) else (some true)) = some r := H
    have A4 := Aside0.mk A40
    clear A40
    by_cases c5 : t105 = true
    · subst c5
      have H1 : ((hint_within.f a0_2 0 1073741824).bind fun t106 => (if t106 = true then ((hint_within.f a0_3 9 8200).bind fun t107 => (some (!t107))) else (some true))) = some r := by rw [if_pos rfl] at H; exact H
      clear H
      have H := H1
      clear H1
      replace H := Option.bind_eq_some_iff.mp H
      obtain ⟨t106, A60, H⟩ := H
      replace H : (if t106 = true then ((hint_within.f a0_3 9 8200).bind fun t107 => (some (!t107))) else (some true)) = some r := H
      have A6 := Aside0.mk A60
      clear A60
      by_cases c7 : t106 = true
      · subst c7
        have H1 : ((hint_within.f a0_3 9 8200).bind fun t107 => (some (!t107))) = some r := by rw [if_pos rfl] at H; exact H
        clear H
        have H := H1
        clear H1
        replace H := Option.bind_eq_some_iff.mp H
        obtain ⟨t107, A80, H⟩ := H
        replace H : (some (!t107)) = some r := H
        have A8 := Aside0.mk A80
        clear A80
        obtain rfl := Option.some.inj H
        go_enter Try.func29, Try.ntmps29
        go_wp2_with (first | ((with_reducible refine gate_dst (N := 1) rfl ?_); refine box_event ?hg (N := 1) ?hd (cs := #[.int .i64 a0_0, .string a0_1, .int .i64 a0_2, .int .i64 a0_3]) (t := 41) ?hr ?_; (case hd => rfl); (case hg => rfl); (case hr => first | (go_simp; done) | (go_simp; rfl)); intro gb103 hg w9 hbox hb; have n0_ := Aside0.mk (below_step (by repeat (first | (with_reducible first | exact HB.out | apply below_alloc | apply pw_below_drewN | apply below_drew1) | exact HB.out)) hb); have n1_ := Aside0.mk (hbox); have n2_ := Aside0.mk ((by rw [hg]; exact (below_size (by repeat (first | (with_reducible first | exact HB.out | apply below_alloc | apply pw_below_drewN | apply below_drew1) | exact HB.out))) : w.heap.size ≤ gb103)); have n3_ := Aside0.mk ((by rw [hg]; exact (below_size (by repeat (first | (with_reducible first | exact HB.out | apply below_alloc | apply pw_below_drewN | apply below_drew1) | exact HB.out))) : w.heap.size ≤ gb103)); clear HB; have HB := n0_; have BK103 := n1_; have GW103 := n2_; have GE103 := n3_; clear n0_ n1_ n2_ n3_; clear hb hbox hg; have hcz10_0 : w9.cell? ⟨gb103, 0, none⟩ = some (.int .i64 a0_0) := (blk_cell BK103.out 0).trans rfl; have hcz10_1 : w9.cell? ⟨gb103, 1, none⟩ = some (.string a0_1) := (blk_cell BK103.out 1).trans rfl; have hcz10_2 : w9.cell? ⟨gb103, 2, none⟩ = some (.int .i64 a0_2) := (blk_cell BK103.out 2).trans rfl; have hcz10_3 : w9.cell? ⟨gb103, 3, none⟩ = some (.int .i64 a0_3) := (blk_cell BK103.out 3).trans rfl; have hfz10_0 := blk_frozen BK103.out 0; have hfz10_1 := blk_frozen BK103.out 1; have hfz10_2 := blk_frozen BK103.out 2; have hfz10_3 := blk_frozen BK103.out 3) | ((with_reducible refine gate_callee (f := 30) rfl ?_); refine goesL_ (some 5) rfl rfl Try.func30 (by kernel_rfl) rfl #[.int .i64 a0_0] rfl (by (try simp only [List.map_toArray, List.map_cons, List.map_nil]); first | done | rfl | (simp only [List.length_drop, List.length_take]; rfl)) ?_; (with_reducible refine (hint_tells.calls a0_0 true _ A2.out).mono ?_); rintro e w' ⟨rfl, ⟨nd, rfl⟩⟩; refine ⟨_, rfl, ?_⟩) | (go_at_call 31; (with_reducible refine (rec_Key.calls a0_1 true _ A4.out).mono ?_); rintro e w' ⟨rfl, ⟨nd, rfl⟩⟩) | (go_at_call 23; (with_reducible refine (hint_within.calls a0_2 0 1073741824 true _ A6.out).mono ?_); rintro e w' ⟨rfl, ⟨nd, rfl⟩⟩) | (go_at_call 23; (with_reducible refine (hint_within.calls a0_3 9 8200 t107 _ A8.out).mono ?_); rintro e w' ⟨rfl, ⟨nd, rfl⟩⟩))
        go_ret
        exact ⟨by first | rfl | (simp [errW_none, errW_some] <;> rfl) | (simp [*, errW_none, errW_some] <;> rfl), by repeat (first | (with_reducible first | exact HB.out | apply below_alloc | apply pw_below_drewN | apply below_drew1 | refine below_set ?_ GE103.out) | exact HB.out)⟩
      · replace c7 := Bool.eq_false_iff.mpr c7
        subst c7
        have H1 : (some true) = some r := by rw [if_neg (show ¬ (false = true) by decide)] at H; exact H
        clear H
        have H := H1
        clear H1
        obtain rfl := Option.some.inj H
        go_enter Try.func29, Try.ntmps29
        go_wp2_with (first | ((with_reducible refine gate_dst (N := 1) rfl ?_); refine box_event ?hg (N := 1) ?hd (cs := #[.int .i64 a0_0, .string a0_1, .int .i64 a0_2, .int .i64 a0_3]) (t := 41) ?hr ?_; (case hd => rfl); (case hg => rfl); (case hr => first | (go_simp; done) | (go_simp; rfl)); intro gb103 hg w11 hbox hb; have n0_ := Aside0.mk (below_step (by repeat (first | (with_reducible first | exact HB.out | apply below_alloc | apply pw_below_drewN | apply below_drew1) | exact HB.out)) hb); have n1_ := Aside0.mk (hbox); have n2_ := Aside0.mk ((by rw [hg]; exact (below_size (by repeat (first | (with_reducible first | exact HB.out | apply below_alloc | apply pw_below_drewN | apply below_drew1) | exact HB.out))) : w.heap.size ≤ gb103)); have n3_ := Aside0.mk ((by rw [hg]; exact (below_size (by repeat (first | (with_reducible first | exact HB.out | apply below_alloc | apply pw_below_drewN | apply below_drew1) | exact HB.out))) : w.heap.size ≤ gb103)); clear HB; have HB := n0_; have BK103 := n1_; have GW103 := n2_; have GE103 := n3_; clear n0_ n1_ n2_ n3_; clear hb hbox hg; have hcz12_0 : w11.cell? ⟨gb103, 0, none⟩ = some (.int .i64 a0_0) := (blk_cell BK103.out 0).trans rfl; have hcz12_1 : w11.cell? ⟨gb103, 1, none⟩ = some (.string a0_1) := (blk_cell BK103.out 1).trans rfl; have hcz12_2 : w11.cell? ⟨gb103, 2, none⟩ = some (.int .i64 a0_2) := (blk_cell BK103.out 2).trans rfl; have hcz12_3 : w11.cell? ⟨gb103, 3, none⟩ = some (.int .i64 a0_3) := (blk_cell BK103.out 3).trans rfl; have hfz12_0 := blk_frozen BK103.out 0; have hfz12_1 := blk_frozen BK103.out 1; have hfz12_2 := blk_frozen BK103.out 2; have hfz12_3 := blk_frozen BK103.out 3) | ((with_reducible refine gate_callee (f := 30) rfl ?_); refine goesL_ (some 5) rfl rfl Try.func30 (by kernel_rfl) rfl #[.int .i64 a0_0] rfl (by (try simp only [List.map_toArray, List.map_cons, List.map_nil]); first | done | rfl | (simp only [List.length_drop, List.length_take]; rfl)) ?_; (with_reducible refine (hint_tells.calls a0_0 true _ A2.out).mono ?_); rintro e w' ⟨rfl, ⟨nd, rfl⟩⟩; refine ⟨_, rfl, ?_⟩) | (go_at_call 31; (with_reducible refine (rec_Key.calls a0_1 true _ A4.out).mono ?_); rintro e w' ⟨rfl, ⟨nd, rfl⟩⟩) | (go_at_call 23; (with_reducible refine (hint_within.calls a0_2 0 1073741824 false _ A6.out).mono ?_); rintro e w' ⟨rfl, ⟨nd, rfl⟩⟩))
        go_ret
        exact ⟨by first | rfl | (simp [errW_none, errW_some] <;> rfl) | (simp [*, errW_none, errW_some] <;> rfl), by repeat (first | (with_reducible first | exact HB.out | apply below_alloc | apply pw_below_drewN | apply below_drew1 | refine below_set ?_ GE103.out) | exact HB.out)⟩
    · replace c5 := Bool.eq_false_iff.mpr c5
      subst c5
      have H1 : (some true) = some r := by rw [if_neg (show ¬ (false = true) by decide)] at H; exact H
      clear H
      have H := H1
      clear H1
      obtain rfl := Option.some.inj H
      go_enter Try.func29, Try.ntmps29
      go_wp2_with (first | ((with_reducible refine gate_dst (N := 1) rfl ?_); refine box_event ?hg (N := 1) ?hd (cs := #[.int .i64 a0_0, .string a0_1, .int .i64 a0_2, .int .i64 a0_3]) (t := 41) ?hr ?_; (case hd => rfl); (case hg => rfl); (case hr => first | (go_simp; done) | (go_simp; rfl)); intro gb103 hg w13 hbox hb; have n0_ := Aside0.mk (below_step (by repeat (first | (with_reducible first | exact HB.out | apply below_alloc | apply pw_below_drewN | apply below_drew1) | exact HB.out)) hb); have n1_ := Aside0.mk (hbox); have n2_ := Aside0.mk ((by rw [hg]; exact (below_size (by repeat (first | (with_reducible first | exact HB.out | apply below_alloc | apply pw_below_drewN | apply below_drew1) | exact HB.out))) : w.heap.size ≤ gb103)); have n3_ := Aside0.mk ((by rw [hg]; exact (below_size (by repeat (first | (with_reducible first | exact HB.out | apply below_alloc | apply pw_below_drewN | apply below_drew1) | exact HB.out))) : w.heap.size ≤ gb103)); clear HB; have HB := n0_; have BK103 := n1_; have GW103 := n2_; have GE103 := n3_; clear n0_ n1_ n2_ n3_; clear hb hbox hg; have hcz14_0 : w13.cell? ⟨gb103, 0, none⟩ = some (.int .i64 a0_0) := (blk_cell BK103.out 0).trans rfl; have hcz14_1 : w13.cell? ⟨gb103, 1, none⟩ = some (.string a0_1) := (blk_cell BK103.out 1).trans rfl; have hcz14_2 : w13.cell? ⟨gb103, 2, none⟩ = some (.int .i64 a0_2) := (blk_cell BK103.out 2).trans rfl; have hcz14_3 : w13.cell? ⟨gb103, 3, none⟩ = some (.int .i64 a0_3) := (blk_cell BK103.out 3).trans rfl; have hfz14_0 := blk_frozen BK103.out 0; have hfz14_1 := blk_frozen BK103.out 1; have hfz14_2 := blk_frozen BK103.out 2; have hfz14_3 := blk_frozen BK103.out 3) | ((with_reducible refine gate_callee (f := 30) rfl ?_); refine goesL_ (some 5) rfl rfl Try.func30 (by kernel_rfl) rfl #[.int .i64 a0_0] rfl (by (try simp only [List.map_toArray, List.map_cons, List.map_nil]); first | done | rfl | (simp only [List.length_drop, List.length_take]; rfl)) ?_; (with_reducible refine (hint_tells.calls a0_0 true _ A2.out).mono ?_); rintro e w' ⟨rfl, ⟨nd, rfl⟩⟩; refine ⟨_, rfl, ?_⟩) | (go_at_call 31; (with_reducible refine (rec_Key.calls a0_1 false _ A4.out).mono ?_); rintro e w' ⟨rfl, ⟨nd, rfl⟩⟩))
      go_ret
      exact ⟨by first | rfl | (simp [errW_none, errW_some] <;> rfl) | (simp [*, errW_none, errW_some] <;> rfl), by repeat (first | (with_reducible first | exact HB.out | apply below_alloc | apply pw_below_drewN | apply below_drew1 | refine below_set ?_ GE103.out) | exact HB.out)⟩
  · replace c3 := Bool.eq_false_iff.mpr c3
    subst c3
    have H1 : (some true) = some r := by rw [if_neg (show ¬ (false = true) by decide)] at H; exact H
    clear H
    have H := H1
    clear H1
    obtain rfl := Option.some.inj H
    go_enter Try.func29, Try.ntmps29
    go_wp2_with (first | ((with_reducible refine gate_dst (N := 1) rfl ?_); refine box_event ?hg (N := 1) ?hd (cs := #[.int .i64 a0_0, .string a0_1, .int .i64 a0_2, .int .i64 a0_3]) (t := 41) ?hr ?_; (case hd => rfl); (case hg => rfl); (case hr => first | (go_simp; done) | (go_simp; rfl)); intro gb103 hg w15 hbox hb; have n0_ := Aside0.mk (below_step (by repeat (first | (with_reducible first | exact HB.out | apply below_alloc | apply pw_below_drewN | apply below_drew1) | exact HB.out)) hb); have n1_ := Aside0.mk (hbox); have n2_ := Aside0.mk ((by rw [hg]; exact (below_size (by repeat (first | (with_reducible first | exact HB.out | apply below_alloc | apply pw_below_drewN | apply below_drew1) | exact HB.out))) : w.heap.size ≤ gb103)); have n3_ := Aside0.mk ((by rw [hg]; exact (below_size (by repeat (first | (with_reducible first | exact HB.out | apply below_alloc | apply pw_below_drewN | apply below_drew1) | exact HB.out))) : w.heap.size ≤ gb103)); clear HB; have HB := n0_; have BK103 := n1_; have GW103 := n2_; have GE103 := n3_; clear n0_ n1_ n2_ n3_; clear hb hbox hg; have hcz16_0 : w15.cell? ⟨gb103, 0, none⟩ = some (.int .i64 a0_0) := (blk_cell BK103.out 0).trans rfl; have hcz16_1 : w15.cell? ⟨gb103, 1, none⟩ = some (.string a0_1) := (blk_cell BK103.out 1).trans rfl; have hcz16_2 : w15.cell? ⟨gb103, 2, none⟩ = some (.int .i64 a0_2) := (blk_cell BK103.out 2).trans rfl; have hcz16_3 : w15.cell? ⟨gb103, 3, none⟩ = some (.int .i64 a0_3) := (blk_cell BK103.out 3).trans rfl; have hfz16_0 := blk_frozen BK103.out 0; have hfz16_1 := blk_frozen BK103.out 1; have hfz16_2 := blk_frozen BK103.out 2; have hfz16_3 := blk_frozen BK103.out 3) | ((with_reducible refine gate_callee (f := 30) rfl ?_); refine goesL_ (some 5) rfl rfl Try.func30 (by kernel_rfl) rfl #[.int .i64 a0_0] rfl (by (try simp only [List.map_toArray, List.map_cons, List.map_nil]); first | done | rfl | (simp only [List.length_drop, List.length_take]; rfl)) ?_; (with_reducible refine (hint_tells.calls a0_0 false _ A2.out).mono ?_); rintro e w' ⟨rfl, ⟨nd, rfl⟩⟩; refine ⟨_, rfl, ?_⟩))
    go_ret
    exact ⟨by first | rfl | (simp [errW_none, errW_some] <;> rfl) | (simp [*, errW_none, errW_some] <;> rfl), by repeat (first | (with_reducible first | exact HB.out | apply below_alloc | apply pw_below_drewN | apply below_drew1 | refine below_set ?_ GE103.out) | exact HB.out)⟩

end Go.Proofs.Yteplnpedakdjkaa.Pk
end

section
/- hint.Right: its walk. -/
namespace Go.Proofs.Yteplnpedakdjkaa.Hn
set_option linter.unusedVariables false
set_option linter.unusedSimpArgs false
open Go.RowKit Go.Shelf Go.Lib Go.Sort Go.Proofs.Yteplnpedakdjkaa.Pure Go.Proofs.Yteplnpedakdjkaa.Pt Go.Proofs.YteplnpedakdjkaaW.PrintWords Go.Proofs.YteplnpedakdjkaaW.PrintMore Go.Proofs.Yteplnpedakdjkaa.Fr Go.Proofs.Yteplnpedakdjkaa.Ext
set_option linter.unusedVariables false

theorem fine_calls (x : Hi) (w : World) : Calls Try.prog 29 #[.agg #[.int .i64 x.f0, .string x.f1, .int .i64 x.f2, .int .i64 x.f3]] w fun e w' => e = .returned (.bool (!fineH x)) ∧ Below w.heap.size w w' := by
  refine Pk.hint_Right_1.calls x.f0 x.f1 x.f2 x.f3 (!fineH x) w ?_
  unfold Pk.hint_Right_1.f Pk.hint_tells.f Pk.rec_Key.f Pk.rec_within.f Pk.hint_within.f fineH
  by_cases h0 : x.f0 ≥ 2
  · by_cases h1 : x.f0 ≤ 4
    · by_cases h2 : (x.f1.size : Int) ≥ 1
      · by_cases h3 : (x.f1.size : Int) ≤ 64
        · by_cases h4 : x.f2 ≥ 0
          · by_cases h5 : x.f2 ≤ 1073741824
            · by_cases h6 : x.f3 ≥ 9
              · by_cases h7 : x.f3 ≤ 8200
                · have g1 : 1 ≤ x.f1.size := by omega
                  have g2 : x.f1.size ≤ 64 := by omega
                  simp [h0, h1, h2, h3, h4, h5, h6, h7, g1, g2]
                · have g1 : 1 ≤ x.f1.size := by omega
                  have g2 : x.f1.size ≤ 64 := by omega
                  simp [h0, h1, h2, h3, h4, h5, h6, h7, g1, g2]
              · have g1 : 1 ≤ x.f1.size := by omega
                have g2 : x.f1.size ≤ 64 := by omega
                simp [h0, h1, h2, h3, h4, h5, h6, g1, g2]
            · simp [h0, h1, h2, h3, h4, h5]
          · simp [h0, h1, h2, h3, h4]
        · have g2 : ¬ x.f1.size ≤ 64 := by omega
          simp [h0, h1, h2, h3, g2]
      · have g1 : ¬ 1 ≤ x.f1.size := by omega
        simp [h0, h1, h2, g1]
    · simp [h0, h1]
  · simp [h0]

set_option maxHeartbeats 8000000 in
set_option maxRecDepth 100000 in
theorem index_calls (A : Option Addr) (c : Nat) (l : List Hi) (w : World) (hr : Kd.C k41 w A l.length l) :
    Calls Try.prog 49 #[.slice A l.length c, .func (.func 29) #[] #[]] w fun e w' => ∃ r : Int, e = .returned (.int .i64 r) ∧ Aside0 (decide (r ≥ 0) = !l.all fineH) ∧ Below w.heap.size w w' := by
  have HR := Aside0.mk hr
  have HM := Aside0.mk (Kd.C_max hr)
  clear hr
  go_enter Try.func49, Try.ntmps49
  go_wp2
  go_loopg [8] l.length (fun kq v8 wr => ∃ k : Nat, v8 = .int .i64 k ∧ Aside0 (k + kq = l.length) ∧ Aside0 ((l.take k).all fineH = true) ∧ Aside0 (Below w.heap.size w wr))
  case atStart => exact ⟨0, rfl, ⟨by omega⟩, ⟨rfl⟩, ⟨Below.refl _ _⟩⟩
  case round =>
    obtain ⟨k, rfl, HK, HA, HB⟩ := hrel
    cases gk with
    | zero =>
      have hk : decide ((k : Int) < (l.length : Int)) = false := decide_eq_false (by have := HK.out; omega)
      have hk' : decide (k < l.length) = false := decide_eq_false (by have := HK.out; omega)
      go_wp2
      go_ret
      refine ⟨_, rfl, ⟨?_⟩, HB.out⟩
      have e1 := HA.out
      rw [List.take_of_length_le (by have := HK.out; omega)] at e1
      rw [e1]
      rfl
    | succ gk =>
      have hk0 : k < l.length := by have := HK.out; omega
      have hk : decide ((k : Int) < (l.length : Int)) = true := decide_eq_true (by omega)
      have hk' : decide (k < l.length) = true := decide_eq_true hk0
      have hk1 : (k < l.length) = True := eq_true hk0
      obtain ⟨ad, e0, x0, x1, x2, x3⟩ := at_T41 (Kd.C_below HR.out HB.out) (k : Int) (by omega) (by omega)
      cases e0
      rw [Int.toNat_natCast] at x0 x1 x2 x3
      obtain ⟨x, hx⟩ : ∃ x, rd_T41 l (k : Int) = x := ⟨_, rfl⟩
      rw [hx] at x0 x1 x2 x3
      have HX := Aside0.mk hx
      clear hx
      have htk : l.take (k + 1) = l.take k ++ [x] := by
        rw [List.take_add_one, List.getElem?_eq_getElem hk0]
        have := HX.out
        unfold rd_T41 at this
        rw [Int.toNat_natCast, List.getD_eq_getElem?_getD, List.getElem?_eq_getElem hk0] at this
        rw [← this]; rfl
      by_cases hf : fineH x = true
      · have hb0 : (!fineH x) = false := by rw [hf]; rfl
        have HF := Aside0.mk hf
        have HT := Aside0.mk htk
        clear hf htk
        have hcon := fun W => fine_calls x W
        rw [hb0] at hcon
        clear hb0
        go_wp2_with (go_at_call 29; refine (hcon _).mono ?_; rintro e w2 ⟨rfl, hb⟩; have HB2 := Aside0.mk (below_then HB.out HB.out.size hb); clear hb)
        go_roundg gk
        case measure => omega
        case rel => exact ⟨k + 1, by rw [w64 _ (by omega) (by have := HM.out; omega)]; rfl, ⟨by have := HK.out; omega⟩, ⟨by rw [HT.out, List.all_append, HA.out]; simp [HF.out]⟩, HB2⟩
      · have hb0 : (!fineH x) = true := by simp [hf]
        have HF := Aside0.mk hf
        have HT := Aside0.mk htk
        clear hf htk
        have hcon := fun W => fine_calls x W
        rw [hb0] at hcon
        clear hb0
        go_wp2_with (go_at_call 29; refine (hcon _).mono ?_; rintro e w2 ⟨rfl, hb⟩; have HB2 := Aside0.mk (below_then HB.out HB.out.size hb); clear hb)
        go_ret
        refine ⟨_, rfl, ⟨?_⟩, HB2.out⟩
        have hall : l.all fineH = false := by
          rw [← List.take_append_drop (k + 1) l, List.all_append, HT.out, List.all_append]
          simp [HF.out]
        rw [hall]
        exact decide_eq_true (by omega)

theorem contains_calls (A : Option Addr) (c : Nat) (l : List Hi) (w : World) (hr : Kd.C k41 w A l.length l) :
    Calls Try.prog 33 #[.slice A l.length c, .func (.func 29) #[] #[]] w fun e w' => e = .returned (.bool (!l.all fineH)) ∧ Below w.heap.size w w' := by
  have HR := Aside0.mk hr
  clear hr
  go_enter Try.func33, Try.ntmps33
  go_wp2_with (go_at_call 49; refine (index_calls A c l _ HR.out).mono ?_; rintro e w2 ⟨r, rfl, hd, hb⟩; have HB := Aside0.mk hb; clear hb)
  go_ret
  exact ⟨by rw [← hd.out]; simp, HB.out⟩
end Go.Proofs.Yteplnpedakdjkaa.Hn
end

section
/- hint.Right: do the keys rise, and may all be told? -/
namespace Go.Proofs.Yteplnpedakdjkaa.Hn
set_option linter.unusedVariables false
set_option linter.unusedSimpArgs false
open Go.RowKit Go.Shelf Go.Lib Go.Sort Go.Proofs.Yteplnpedakdjkaa.Pure Go.Proofs.Yteplnpedakdjkaa.Pt Go.Proofs.YteplnpedakdjkaaW.PrintWords Go.Proofs.YteplnpedakdjkaaW.PrintMore Go.Proofs.Yteplnpedakdjkaa.Fr Go.Proofs.Yteplnpedakdjkaa.Ext
attribute [local go_sem] max2_int min2_int max_two min_two max_three min_three max_four min_four
set_option linter.unusedVariables false

theorem compareBytes_lt : ∀ a b : List UInt8, compareBytes a b < 0 ↔ a < b
  | [], [] => by simp [compareBytes]
  | [], _ :: _ => by simp [compareBytes]
  | _ :: _, [] => by simp [compareBytes]
  | x :: a, y :: b => by
    have ih := compareBytes_lt a b
    rw [compareBytes, List.cons_lt_cons_iff]
    by_cases h1 : x < y
    · simp [h1]
    · by_cases h2 : y < x
      · have h3 : x ≠ y := by intro e; subst e; exact h1 h2
        simp [h1, h2, h3]
      · have h3 : x = y := UInt8.le_antisymm (UInt8.not_lt.mp h2) (UInt8.not_lt.mp h1)
        subst h3
        simp only [h1, if_false, ih, false_or, true_and]
abbrev rdH (l : List Hi) (i : Int) : Hi := rd_T41 l i
def risesTo (l : List Hi) (k : Nat) : Prop := ∀ i : Nat, i < k → keyL (rdH l i).f1 < keyL (rdH l ((i : Int) + 1)).f1
theorem rdH_at (l : List Hi) (i : Nat) (h : i < l.length) : rdH l i = l[i] := by
  unfold rdH rd_T41
  rw [Int.toNat_natCast, List.getD_eq_getElem?_getD, List.getElem?_eq_getElem h]; rfl
theorem rises_iff : ∀ l : List Hi, risesL l = true ↔ ∀ i : Nat, ∀ h : i + 1 < l.length, keyL (l[i]'(by omega)).f1 < keyL l[i + 1].f1
  | [] => by simp [risesL]
  | [a] => by simp [risesL]
  | a :: b :: l => by
    rw [risesL, Bool.and_eq_true, decide_eq_true_iff, rises_iff (b :: l)]
    constructor
    · rintro ⟨h1, h2⟩ i hi
      rcases i with _ | i
      · exact h1
      · exact h2 i (by simpa using hi)
    · intro h
      exact ⟨h 0 (by simp), fun i hi => h (i + 1) (by simpa using hi)⟩
theorem rises_of (l : List Hi) (h : risesTo l (l.length - 1)) : risesL l = true := by
  rw [rises_iff]
  intro i hi
  have := h i (by omega)
  rw [show (i : Int) + 1 = ((i + 1 : Nat) : Int) by omega, rdH_at l i (by omega), rdH_at l (i + 1) hi] at this
  exact this
theorem rises_not (l : List Hi) (i : Nat) (hi : i + 1 < l.length) (h : ¬ keyL (rdH l i).f1 < keyL (rdH l ((i : Int) + 1)).f1) : risesL l = false := by
  rw [Bool.eq_false_iff]
  intro hr
  rw [rises_iff] at hr
  apply h
  rw [show (i : Int) + 1 = ((i + 1 : Nat) : Int) by omega, rdH_at l i (by omega), rdH_at l (i + 1) hi]
  exact hr i hi

set_option maxHeartbeats 8000000 in
set_option maxRecDepth 100000 in
theorem right_calls (A : Option Addr) (c : Nat) (l : List Hi) (w : World) (hc : l.length ≤ c) (hr : Kd.C k41 w A l.length l) :
    Calls Try.prog 14 #[.slice A l.length c] w fun e w' => e = .returned (.bool (rightL l)) ∧ Below w.heap.size w w' := by
  have HR := Aside0.mk hr
  have HM := Aside0.mk (Kd.C_max hr)
  obtain ⟨i0, hi0, _, hsz, _⟩ := info_parts info41
  have hmin : (if (l.length : Int) < 1 then (l.length : Int) else 1) = ((min 1 l.length : Nat) : Int) := by split <;> omega
  obtain ⟨m, hm⟩ : ∃ m, min 1 l.length = m := ⟨_, rfl⟩
  rw [hm] at hmin
  have hmle : m ≤ l.length := by omega
  have hcut := cut_from (P := Try.prog) 22 41 .i64 Try.underlying22 hi0 4 hsz A l.length c (m : Int) (by omega) (by omega)
  obtain ⟨A1, hA1⟩ : ∃ A1, A1 = (if c = (m : Int).toNat then A else A.map (·.add ((m : Int).toNat * 4))) := ⟨_, rfl⟩
  rw [← hA1, Int.toNat_natCast] at hcut
  clear hA1 hr
  go_enter Try.func14, Try.ntmps14
  go_wp2
  clear hcut hi0 hsz hmin
  have HMM := Aside0.mk hm
  clear hm hc
  go_loopg [11] (l.length - m) (fun kq v11 wr => ∃ k : Nat, v11 = .int .i64 k ∧ Aside0 (k + kq = l.length - m) ∧ Aside0 (risesTo l k) ∧ Aside0 (Below w.heap.size w wr))
  case atStart => exact ⟨0, rfl, ⟨by omega⟩, ⟨fun i hi => absurd hi (Nat.not_lt_zero _)⟩, ⟨Below.refl _ _⟩⟩
  case round =>
    obtain ⟨k, rfl, HK, HA, HB⟩ := hrel
    cases gk with
    | zero =>
      have hk : decide ((k : Int) < ((l.length - m : Nat) : Int)) = false := decide_eq_false (by have := HK.out; omega)
      have hk' : decide (k < l.length - m) = false := decide_eq_false (by have := HK.out; omega)
      have HE := Aside0.mk (rises_of l (by have e1 := HK.out; have e2 := HMM.out; rw [show l.length - 1 = k by omega]; exact HA.out))
      go_wp2_with (go_at_call 33; refine (contains_calls A c l _ (Kd.C_below HR.out HB.out)).mono ?_; rintro e w2 ⟨rfl, hb⟩; have HB2 := Aside0.mk (below_then HB.out HB.out.size hb); clear hb)
      go_ret
      exact ⟨by rw [rightL, HE.out]; simp, HB2.out⟩
    | succ gk =>
      have hk0 : k + 1 < l.length := by have := HK.out; have := HMM.out; omega
      have hk : decide ((k : Int) < ((l.length - m : Nat) : Int)) = true := decide_eq_true (by have := HK.out; omega)
      have hk' : decide (k < l.length - m) = true := decide_eq_true (by have := HK.out; omega)
      have hw : wrap64 ((k : Int) + 1) = (k : Int) + 1 := by rw [w64 _ (by omega) (by have := HM.out; omega)]
      have hw2 : IntKind.i64.wrap ((k : Int) + 1) = (k : Int) + 1 := by rw [IntWalk.i64_in _ (by have := HM.out; omega)]
      have b0 : (0 : Int) ≤ (k : Int) := by omega
      have b1 : (k : Int) < (l.length : Int) := by omega
      have b2 : (0 : Int) ≤ (k : Int) + 1 := by omega
      have b3 : (k : Int) + 1 < (l.length : Int) := by omega
      have b4 : ((k : Int) + 1).toNat = k + 1 := by omega
      have hk1 : (k < l.length) = True := eq_true (by omega)
      have hk2 : (k + 1 < l.length) = True := eq_true hk0
      obtain ⟨ad, e0, x0, x1, x2, x3⟩ := at_T41 (Kd.C_below HR.out HB.out) (k : Int) (by omega) (by omega)
      cases e0
      obtain ⟨ad', e0, y0, y1, y2, y3⟩ := at_T41 (Kd.C_below HR.out HB.out) ((k + 1 : Nat) : Int) (by omega) (by omega)
      cases e0
      rw [Int.toNat_natCast] at x0 x1 x2 x3 y0 y1 y2 y3
      obtain ⟨x, hx⟩ : ∃ x, rd_T41 l (k : Int) = x := ⟨_, rfl⟩
      obtain ⟨y, hy⟩ : ∃ y, rd_T41 l ((k + 1 : Nat) : Int) = y := ⟨_, rfl⟩
      rw [hx] at x0 x1 x2 x3
      rw [hy] at y0 y1 y2 y3
      have HX := Aside0.mk hx
      have HY := Aside0.mk hy
      clear hx hy
      obtain ⟨r, hr⟩ : ∃ r, cmpH x y = r := ⟨_, rfl⟩
      have hcon := fun W => byKey_below x y W
      rw [hr] at hcon
      have HC := Aside0.mk hcon
      have HRR := Aside0.mk hr
      clear hcon hr
      go_wp2
      have hlt : (ad.add (k * 4)).block < wr.heap.size := World.block_lt_of_cell? wr _ x0
      have hlt2 : (ad.add ((k + 1) * 4)).block < wr.heap.size := World.block_lt_of_cell? wr _ y0
      go_region_held3 (fun w' => w'.cell? (ad.add (k * 4)) = some (.int .i64 x.f0) ∧ w'.cell? ⟨(ad.add (k * 4)).block, (ad.add (k * 4)).off + 1, none⟩ = some (.string x.f1) ∧ w'.cell? ⟨(ad.add (k * 4)).block, (ad.add (k * 4)).off + 2, none⟩ = some (.int .i64 x.f2) ∧ w'.cell? ⟨(ad.add (k * 4)).block, (ad.add (k * 4)).off + 3, none⟩ = some (.int .i64 x.f3) ∧ w'.cell? (ad.add ((k + 1) * 4)) = some (.int .i64 y.f0) ∧ w'.cell? ⟨(ad.add ((k + 1) * 4)).block, (ad.add ((k + 1) * 4)).off + 1, none⟩ = some (.string y.f1) ∧ w'.cell? ⟨(ad.add ((k + 1) * 4)).block, (ad.add ((k + 1) * 4)).off + 2, none⟩ = some (.int .i64 y.f2) ∧ w'.cell? ⟨(ad.add ((k + 1) * 4)).block, (ad.add ((k + 1) * 4)).off + 3, none⟩ = some (.int .i64 y.f3))
        (first | go_keep | exact ⟨(hb1.cell (p := ad.add (k * 4)) hlt).trans x0, (hb1.cell (p := ⟨(ad.add (k * 4)).block, (ad.add (k * 4)).off + 1, none⟩) hlt).trans x1, (hb1.cell (p := ⟨(ad.add (k * 4)).block, (ad.add (k * 4)).off + 2, none⟩) hlt).trans x2, (hb1.cell (p := ⟨(ad.add (k * 4)).block, (ad.add (k * 4)).off + 3, none⟩) hlt).trans x3, (hb1.cell (p := ad.add ((k + 1) * 4)) hlt2).trans y0, (hb1.cell (p := ⟨(ad.add ((k + 1) * 4)).block, (ad.add ((k + 1) * 4)).off + 1, none⟩) hlt2).trans y1, (hb1.cell (p := ⟨(ad.add ((k + 1) * 4)).block, (ad.add ((k + 1) * 4)).off + 2, none⟩) hlt2).trans y2, (hb1.cell (p := ⟨(ad.add ((k + 1) * 4)).block, (ad.add ((k + 1) * 4)).off + 3, none⟩) hlt2).trans y3⟩)
        ((go_at_call 32; refine (HC.out _).mono ?_; rintro e w1 ⟨rfl, hb1⟩))
      have HB1 := Aside0.mk (below_then HB.out HB.out.size (below_then (below_drew1 (Below.refl _ _)) (Nat.le_refl _) hb1))
      clear hb1 x0 x1 x2 x3 y0 y1 y2 y3 hlt hlt2 hk1 hk2 hk hk'
      obtain ⟨bq, hbq⟩ : ∃ b, decide (0 ≤ r) = b := ⟨_, rfl⟩
      rw [hbq]
      have HN := Aside0.mk hbq
      clear hbq
      cases bq with
      | true =>
        go_wp2
        go_ret
        refine ⟨?_, HB1.out⟩
        rw [rightL, rises_not l k hk0 ?_]
        · rfl
        · rw [show rdH l (k : Int) = x from HX.out, show rdH l ((k : Int) + 1) = y from HY.out]
          intro hlt
          have := (compareBytes_lt (keyL x.f1) (keyL y.f1)).mpr hlt
          have e1 : compareBytes (keyL x.f1) (keyL y.f1) = r := HRR.out
          have := of_decide_eq_true HN.out
          omega
      | false =>
        go_wp2
        go_roundg gk
        case measure => omega
        case rel =>
          refine ⟨k + 1, rfl, ⟨by have := HK.out; omega⟩, ⟨fun i hi => ?_⟩, HB1⟩
          by_cases hik : i < k
          · exact HA.out i hik
          · obtain rfl : i = k := by omega
            rw [show rdH l (i : Int) = x from HX.out, show rdH l ((i : Int) + 1) = y from HY.out]
            have e1 : compareBytes (keyL x.f1) (keyL y.f1) = r := HRR.out
            have := of_decide_eq_false HN.out
            exact (compareBytes_lt (keyL x.f1) (keyL y.f1)).mp (by omega)
end Go.Proofs.Yteplnpedakdjkaa.Hn
end

section
/- slices.SortFunc over hints: its contract at this program. -/
namespace Go.Proofs.Yteplnpedakdjkaa.Hn
set_option linter.unusedVariables false
set_option linter.unusedSimpArgs false
open Go.RowKit Go.Shelf Go.Lib Go.Sort Go.Proofs.Yteplnpedakdjkaa.Pure Go.Proofs.Yteplnpedakdjkaa.Pt Go.Proofs.YteplnpedakdjkaaW.PrintWords Go.Proofs.YteplnpedakdjkaaW.PrintMore Go.Proofs.Yteplnpedakdjkaa.Fr Go.Proofs.Yteplnpedakdjkaa.Ext
set_option linter.unusedVariables false

instance : Inhabited Hi := ⟨⟨0, ByteArray.empty, 0, 0⟩⟩
theorem ltH (x y : Hi) : ltOf cmpH x y = decide (keyL x.f1 < keyL y.f1) := by
  unfold ltOf cmpH
  exact decide_eq_decide.mpr (compareBytes_lt _ _)
theorem swoH : SWO (ltOf cmpH) where
  irrefl x := by rw [ltH]; exact decide_eq_false (List.lt_irrefl _)
  trans x y z h1 h2 := by
    rw [ltH] at *
    exact decide_eq_true (List.lt_trans (of_decide_eq_true h1) (of_decide_eq_true h2))
  ntrans x y z h1 h2 := by
    rw [ltH] at *
    have h1 := of_decide_eq_false h1
    have h2 := of_decide_eq_false h2
    refine decide_eq_false fun h3 => ?_
    exact absurd h3 (List.not_lt.mpr (List.le_trans (List.not_lt.mp h2) (List.not_lt.mp h1)))
theorem cmpLays (blk off size : Nat) (w : World) : CmpLays Try.prog 32 #[] encH 4 cmpH blk off size w := fun _ _ _ _ x y => byKey_calls x y _
theorem sort_calls (blk off cap : Nat) (d : Array Hi) (w : World) (hH : HoldsK encH 4 w blk off d) (hblk : blk < w.heap.size) (hsz : d.size < 4611686018427387904) :
    Calls Try.prog 56 #[.slice (some ⟨blk, off, none⟩) d.size cap, .func (.func 32) #[] #[]] w fun e w' => e = .returned (.tuple #[]) ∧ ∃ d' n os, PermIn 0 d.size d d' ∧ SortedIn (ltOf cmpH) 0 d.size d' ∧ w' = sortWorldK encH 4 w blk off n d' os := by
  have eg : ∀ args w, (callFunc 32 args).run Try.prog w = .ok (.enter 32 args) w := enters_of Try.func32 (by kernel_rfl) rfl
  have hcon := AnyQ.slices_SortFunc sortH 4 Try.isAgg41 Try.sizeOf41 encH (fun _ => rfl) (fun x v hv => by simp [encH] at hv; rcases hv with rfl | rfl | rfl | rfl <;> rfl) cmpH swoH 32 #[] blk off cap d w eg (cmpLays blk off d.size w) hH hblk hsz
  exact hcon
end Go.Proofs.Yteplnpedakdjkaa.Hn
end

section
/- A row of hints of the call's own, sorted in its place. -/
namespace Go.Proofs.Yteplnpedakdjkaa.Hn
set_option linter.unusedVariables false
set_option linter.unusedSimpArgs false
open Go.RowKit Go.Shelf Go.Lib Go.Sort Go.Proofs.Yteplnpedakdjkaa.Pure Go.Proofs.Yteplnpedakdjkaa.Pt Go.Proofs.YteplnpedakdjkaaW.PrintWords Go.Proofs.YteplnpedakdjkaaW.PrintMore Go.Proofs.Yteplnpedakdjkaa.Fr Go.Proofs.Yteplnpedakdjkaa.Ext
set_option linter.unusedVariables false

abbrev RowH (w : World) (base : Nat) (ok : Nat → Prop) (v : Value) (l : List Hi) : Prop := Kd.R k41 41 w base ok v l
theorem enc_len (x : Hi) : (encH x).length = 4 := rfl
theorem flat_get (d : List Hi) (j i : Nat) (hj : j < d.length) (hi : i < 4) : (flatK encH 4 d.toArray)[j * 4 + i]! = (encH d[j])[i]'(by rw [enc_len]; exact hi) := by
  rw [get_flatK _ _ _ _ (by simp; omega), show (j * 4 + i) / 4 = j by omega, show (j * 4 + i) % 4 = i by omega]
  have e : (d.toArray)[j]! = d[j] := by simp [hj]
  rw [e, getElem!_pos (encH d[j]) i (by rw [enc_len]; exact hi)]
theorem row_cells {w : World} {base : Nat} {ok : Nat → Prop} {g cap : Nat} {l : List Hi} (h : RowH w base ok (.slice (some ⟨g, 0, none⟩) l.length cap) l) :
    ∃ cur, w.heap[g]? = some (.cells cur 41 (0, 0)) ∧ base ≤ g ∧ l.length ≤ cap ∧ cap ≤ maxLen ∧ cur.size = cap * 4 ∧ ∀ j, ∀ hj : j < l.length, ∀ i, ∀ hi : i < 4, cur[j * 4 + i]? = some ((encH l[j])[i]'(by rw [enc_len]; exact hi)) := by
  obtain ⟨_, inner, ⟨hlen, hown⟩, hr⟩ := h
  rcases hown with ⟨h1, _⟩ | ⟨g', cap', cur, he, hb, hh, hn, hm, hs, ht⟩
  · cases h1
  · injection he with e1 e2 e3
    injection e1 with e1
    injection e1 with e1
    subst e1 e3
    refine ⟨cur, hh, hb, hn, hm, hs, fun j hj i hi => ?_⟩
    have h2 := k41_openM (hr.2 j l[j] (List.getElem?_eq_getElem hj))
    change (inner.drop (j * 4)).take 4 = encH l[j] at h2
    have h3 : ((inner.drop (j * 4)).take 4)[i]? = (encH l[j])[i]? := by rw [h2]
    rw [List.getElem?_take_of_lt hi, List.getElem?_drop, List.getElem?_eq_getElem (l := encH l[j]) (by rw [enc_len]; exact hi)] at h3
    change cur.toList.take (l.length * 4) = inner at ht
    rw [← ht, List.getElem?_take_of_lt (by omega), Array.getElem?_toList] at h3
    exact h3
theorem row_holds {w : World} {base : Nat} {ok : Nat → Prop} {g cap : Nat} {l : List Hi} (h : RowH w base ok (.slice (some ⟨g, 0, none⟩) l.length cap) l) : HoldsK encH 4 w g 0 l.toArray := by
  obtain ⟨cur, hh, _, _, _, _, hc⟩ := row_cells h
  intro j hj
  have hj' : j < l.length * 4 := by simpa using hj
  refine ⟨?_, by simp [World.frozen?, hh]⟩
  have h1 := hc (j / 4) (by omega) (j % 4) (by omega)
  have h2 := flat_get l (j / 4) (j % 4) (by omega) (by omega)
  rw [show j / 4 * 4 + j % 4 = j by omega] at h1 h2
  simp only [World.cell?, hh, Nat.zero_add]
  simp only [Option.isSome_none, Bool.false_eq_true, if_false]
  rw [h1, h2]
  rfl
theorem row_sorted {w : World} {base : Nat} {ok : Nat → Prop} {g cap : Nat} {l : List Hi} (h : RowH w base ok (.slice (some ⟨g, 0, none⟩) l.length cap) l) (d : List Hi) (hl : d.length = l.length) (n : Nat) (os : Array Obj) :
    RowH (sortWorldK encH 4 w g 0 n d.toArray os) base ok (.slice (some ⟨g, 0, none⟩) l.length cap) d ∧ w.grownBy (sortWorldK encH 4 w g 0 n d.toArray os) (some g) := by
  obtain ⟨cur, hh, hb, hn, hm, hs, hc⟩ := row_cells h
  have hok := h.1
  have hg : g < w.heap.size := (Array.getElem?_eq_some_iff.1 hh).1
  have hfs : (flatK encH 4 d.toArray).size = d.length * 4 := by simp
  have hheap : (sortWorldK encH 4 w g 0 n d.toArray os).heap[g]? = some (.cells (putCells id 0 (flatK encH 4 d.toArray) cur) 41 (0, 0)) := by
    unfold sortWorldK putRowK
    rw [heap_grow_old _ _ (by simpa using hg)]
    simp [putRow, mapBlock, Sort.ahead, Array.getElem?_modify, hh, onCells]
  have hput : ∀ j, j < d.length * 4 → (putCells id 0 (flatK encH 4 d.toArray) cur)[j]? = some ((flatK encH 4 d.toArray)[j]!) := by
    intro j hj
    have hj2 : j < (flatK encH 4 d.toArray).size := by omega
    have hj3 : j < cur.size := by rw [hs]; omega
    simp only [putCells]
    rw [Array.getElem?_mapIdx, Array.getElem?_eq_getElem hj3, Option.map_some, if_pos (by omega)]
    rfl
  constructor
  · refine ⟨hok, (putCells id 0 (flatK encH 4 d.toArray) cur).toList.take (d.length * 4), ⟨?_, .inr ⟨g, cap, _, by rw [hl], hb, hheap, by omega, hm, ?_, rfl⟩⟩, ?_, ?_⟩
    · have e2 : (putCells id 0 (flatK encH 4 d.toArray) cur).toList.length = cap * 4 := by simp [putCells, hs]
      rw [List.length_take, e2]
      show _ = d.length * 4
      omega
    · show (putCells id 0 (flatK encH 4 d.toArray) cur).size = cap * 4
      simp [putCells, hs]
    · have e2 : (putCells id 0 (flatK encH 4 d.toArray) cur).toList.length = cap * 4 := by simp [putCells, hs]
      rw [List.length_take, e2]
      show _ = d.length * 4
      omega
    · intro j p hj
      obtain ⟨hj1, rfl⟩ := List.getElem?_eq_some_iff.1 hj
      have e : (((putCells id 0 (flatK encH 4 d.toArray) cur).toList.take (d.length * 4)).drop (j * 4)).take 4 = encH d[j] := by
        apply List.ext_getElem?
        intro i
        by_cases hi : i < 4
        · rw [List.getElem?_take_of_lt hi, List.getElem?_drop, List.getElem?_take_of_lt (by omega), Array.getElem?_toList, hput _ (by omega), flat_get d j i hj1 hi, List.getElem?_eq_getElem (l := encH d[j]) (by rw [enc_len]; exact hi)]
        · rw [List.getElem?_take_eq_none (by omega), List.getElem?_eq_none (by rw [enc_len]; omega)]
      show k41.M _ _ _ d[j] ((((putCells id 0 (flatK encH 4 d.toArray) cur).toList.take (d.length * 4)).drop (j * 4)).take 4)
      rw [e]
      exact k41_mkM _ _ _ _
  · refine ⟨rfl, rfl, rfl, by simp [sortWorldK, putRowK, putRow, mapBlock, Sort.ahead], fun k hk hne => ?_⟩
    unfold sortWorldK putRowK
    rw [heap_grow_old _ _ (by simpa using hk)]
    have : g ≠ k := fun e => hne (by rw [e])
    simp [putRow, mapBlock, Sort.ahead, Array.getElem?_modify, this]
end Go.Proofs.Yteplnpedakdjkaa.Hn
end

section
/- maps.Values over a map of hints: the iterator, for whatever rounds. -/
namespace Go.Proofs.Yteplnpedakdjkaa.Hn
set_option linter.unusedVariables false
set_option linter.unusedSimpArgs false
open Go.RowKit Go.Maps Go.Shelf Go.Lib Go.Sort Go.Proofs.Yteplnpedakdjkaa.Pure Go.Proofs.Yteplnpedakdjkaa.Pt Go.Proofs.YteplnpedakdjkaaW.PrintWords Go.Proofs.YteplnpedakdjkaaW.PrintMore Go.Proofs.Yteplnpedakdjkaa.Fr Go.Proofs.Yteplnpedakdjkaa.Ext
attribute [local go_sem] Oper.semAt_some
set_option linter.unusedVariables false

abbrev valH (x : Hi) : Value := .agg #[.int .i64 x.f0, .string x.f1, .int .i64 x.f2, .int .i64 x.f3]
theorem valH_inj {x y : Hi} (h : valH x = valH y) : x = y := by
  cases x; cases y
  simpa [valH] using h
open Classical in
/-- How a hint reads as a map's element: as itself. -/
noncomputable def RH (v : Value) : Option (DataW Hi × List MemPlace) := if h : ∃ x, v = valH x then some (.held h.choose, []) else none
theorem RH_enc (x : Hi) : RH (valH x) = some (.held x, []) := by
  have h : ∃ y, valH x = valH y := ⟨x, rfl⟩
  unfold RH
  rw [dif_pos h, valH_inj h.choose_spec.symm]
theorem RH_inv {v : Value} {y : DataW Hi × List MemPlace} (h : RH v = some y) : ∃ x : Hi, v = valH x ∧ y = (.held x, []) := by
  unfold RH at h
  split at h
  · rename_i hx
    exact ⟨hx.choose, hx.choose_spec, (Option.some.inj h).symm⟩
  · cases h
def ValAt (D0 : DataW Hi) (p : List UInt8 × Hi) : Prop := ∀ zd, D0.atKey (.string p.1) zd = .held p.2
def AllOf (D0 : DataW Hi) (ps : List (List UInt8 × Hi)) : Prop := (ps.map (·.1)).Nodup ∧ (∀ x, x ∈ ps.map (·.1) ↔ has D0 (.string x) = true) ∧ ∀ p ∈ ps, ValAt D0 p

set_option maxHeartbeats 8000000 in
set_option maxRecDepth 100000 in
theorem values1_in (F : Fence) (n : Nat) (h8 : F.fn 57) (hro : F.round = none) (hn : 1 ≤ n) (l Bm b nn : Nat) (D0 : DataW Hi) (J : List Hi → World → Prop)
    (hY : ∀ pre x W, J pre W → pre.length < Maps.size D0 → YieldAt F (n - 1) Try.prog l #[valH x] W fun e W' => e = .returned (.bool true) ∧ J (pre ++ [x]) W' ∧ KeepsWalks W W')
    (W : World) (hJ : AbidesFrom W.heap.size J) (hm : W.cell? ⟨Bm, 0, none⟩ = some (.map (some b))) (hown : W.ownsMap Try.prog 9 RH b nn D0) (h0 : J [] W) :
    CallsIn F n Try.prog 57 #[.func (.yield l) #[] #[], .pointer (some ⟨Bm, 0, none⟩)] W fun e W' => (∃ v, e = .returned v) ∧
      (∃ ps, AllOf D0 ps ∧ J (ps.map (·.2)) W') := by
  refine callsIn_of_wp Try.func57 rfl h8 ?_ hro
  simp only [Try.ntmps57, List.size_toArray, List.length_cons, List.length_nil, Nat.reduceAdd, Nat.reduceSub, Array.replicate_succ, Array.replicate_zero, List.push_toArray, List.append_toArray, List.nil_append, List.cons_append]
  gi_wp2_with (first
    | (gi_at_range; refine wpListIn_range_own _ rfl _ 69 rfl 9 41 (string_keyed Try.underlying9) Try.underlying69 _ b nn _ rfl hown ?_; intro w0 hrg0 hg0 hs0)
    | gi_in)
  go_frame
  gi_loopw [4] (fun _ wr => ∃ (left : Lit → Bool) (cnt : Nat) (ps : List (List UInt8 × Hi)), wr.ranges Try.prog 9 RH b W.heap.size nn D0 left cnt ∧ ps.length + cnt ≤ Maps.size D0 ∧ Collected D0 left (ps.map (·.1)) ∧ (∀ p ∈ ps, ValAt D0 p) ∧ J (ps.map (·.2)) wr)
    (fun _ wr => wr.rangeLeft b W.heap.size)
  case atStart =>
    exact ⟨_, _, [], hrg0, by simp, Collected.start D0, by simp, hJ [] W w0 none h0 hg0 (fun r e => by cases e)⟩
  case round =>
    obtain ⟨left, cnt, ps, hrg, hcs, hC, hV, hJs⟩ := hrel
    gi_wp2_with (first
      | (gi_at_next; refine wpListIn_next_ranges _ rfl _ rfl 9 (string_keyed Try.underlying9) RH encStr valH (fun key kl hk => by obtain ⟨x, hx, _⟩ := Maps.keyOf_str Try.underlying9 hk; exact ⟨x, hx⟩) (fun v y hv => by obtain ⟨c, rfl, _⟩ := RH_inv hv; exact ⟨c, rfl⟩) b W.heap.size nn _ _ _ rfl hrg ?_ ?_)
      | gi_in)
    · intro hc0 hl0
      gi_wp2
      go_end0
      exact ⟨⟨_, rfl⟩, ps, ⟨hC.1, fun x => by rw [hC.2 x, hl0]; simp, hV⟩, hJs⟩
    · intro x c kl yd yp w2 cnt2 hkey hlk hv hat hrg2 hlt hg2 hs2 hen
      obtain ⟨x', ex, rfl, _⟩ := Maps.keyOf_str Try.underlying9 hkey
      obtain rfl : x = x' := encStr_inj ex
      obtain ⟨c', ec, ez⟩ := RH_inv hv
      obtain rfl : c = c' := valH_inj ec
      obtain rfl : yd = .held c := (Prod.mk.inj ez).1
      have hJ2 : J (ps.map (·.2)) w2 := hJ _ wr w2 (some W.heap.size) hJs hg2 (fun r e => by cases e; exact ⟨Nat.le_refl _, hrg.iter_walk⟩)
      have hJ3 : J (ps.map (·.2)) (w2.alloc (.cells #[.int .i64 c.f0, .string c.f1, .int .i64 c.f2, .int .i64 c.f3] 41)) := hJ _ w2 _ none hJ2 (World.grownBy_alloc w2 _ _) (fun r e => by cases e)
      obtain ⟨fn, tmps, assign, body, hy, hR⟩ := hY (ps.map (·.2)) c _ hJ3 (by simp; omega)
      clear hs2
      gi_wp2
      refine hR.mono ?_
      have hC2 : Collected D0 (fun z => left z && !z.sameKey (.string x)) ((ps ++ [(x, c)]).map (·.1)) := by simpa using hC.step hlk hat
      have hV2 : ∀ p ∈ ps ++ [(x, c)], ValAt D0 p := fun p hp => (List.mem_append.1 hp).elim (hV p) (fun e => by simp at e; subst e; exact hat)
      rintro e W3 ⟨rfl, hJ4, hk3⟩
      gi_wp2
      have hrg3 := (hrg2.alloc (.cells #[.int .i64 c.f0, .string c.f1, .int .i64 c.f2, .int .i64 c.f3] 41)).of_walks hk3
      go_roundw
      case rel => exact ⟨_, cnt2, ps ++ [(x, c)], hrg3, by simp; omega, hC2, hV2, by simpa using hJ4⟩
      case measure => rw [hrg3.left_eq, hrg.left_eq]; exact hlt
end Go.Proofs.Yteplnpedakdjkaa.Hn
end

