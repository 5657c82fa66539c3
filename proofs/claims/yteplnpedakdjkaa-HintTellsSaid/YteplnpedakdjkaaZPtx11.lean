-- Written by a program of this session over the translation (a turned copy of the kit's printer). Lean checks it.
import Derived.Test.YteplnpedakdjkaaZPtx0
import Derived.Test.YteplnpedakdjkaaZHnW
import Derived.Test.YteplnpedakdjkaaZPtx10
import Derived.Test.YteplnpedakdjkaaZGa
namespace Go.Proofs.Yteplnpedakdjkaa.Pt
open Go.RowKit Go.Proofs.YteplnpedakdjkaaW.PrintWords Go.Proofs.YteplnpedakdjkaaW.PrintLast Go.Proofs.YteplnpedakdjkaaW.PrintMore
attribute [local go_sem] max2_int min2_int max_two min_two max_three min_three max_four min_four   -- for this text's walks alone
attribute [local go_sem] Go.Proofs.Yteplnpedakdjkaa.Hw.leq_sem
set_option linter.unusedVariables false
set_option linter.unusedSimpArgs false

open Go.Proofs.Yteplnpedakdjkaa.Ext
/-! ### souterrainref11_Right: function 15 -/
abbrev mk0 : Array Bool := #[false, false, false, false, false, false, false, false, false, false, false, false, false, false, false, false, false, false, false, false, false, false, false, false, false, false, false, false, false, false, false, false, false, false, false, false, false, false, false, false, false, false, false, false, false, false, false, false, false]
abbrev mk1 : Array Bool := #[true, false, false, false, false, false, false, false, false, false, false, false, false, false, false, false, false, false, false, false, false, false, false, false, false, false, false, false, false, false, false, false, false, false, false, false, false, false, false, false, false, false, false, false, false, false, false, false, false]
abbrev mk2 : Array Bool := #[true, true, false, false, false, false, false, false, false, false, false, false, false, false, false, false, false, false, false, false, false, false, false, false, false, false, false, false, false, false, false, false, false, false, false, false, false, false, false, false, false, false, false, false, false, false, false, false, false]
abbrev mk3 : Array Bool := #[true, true, true, false, false, false, false, false, false, false, false, false, false, false, false, false, false, false, false, false, false, false, false, false, false, false, false, false, false, false, false, false, false, false, false, false, false, false, false, false, false, false, false, false, false, false, false, false, false]
abbrev mk4 : Array Bool := #[true, true, true, true, false, false, false, false, false, false, false, false, false, false, false, false, false, false, false, false, false, false, false, false, false, false, false, false, false, false, false, false, false, false, false, false, false, false, false, false, false, false, false, false, false, false, false, false, false]
abbrev mk5 : Array Bool := #[true, true, true, true, true, false, false, false, false, false, false, false, false, false, false, false, false, false, false, false, false, false, false, false, false, false, false, false, false, false, false, false, false, false, false, false, false, false, false, false, false, false, false, false, false, false, false, false, false]
abbrev mk6 : Array Bool := #[true, true, true, true, true, true, false, false, false, false, false, false, false, false, false, false, false, false, false, false, false, false, false, false, false, false, false, false, false, false, false, false, false, false, false, false, false, false, false, false, false, false, false, false, false, false, false, false, false]
abbrev mk7 : Array Bool := #[true, true, true, true, true, true, true, false, false, false, false, false, false, false, false, false, false, false, false, false, false, false, false, false, false, false, false, false, false, false, false, false, false, false, false, false, false, false, false, false, false, false, false, false, false, false, false, false, false]
abbrev mk8 : Array Bool := #[true, true, true, true, true, true, true, true, false, false, false, false, false, false, false, false, false, false, false, false, false, false, false, false, false, false, false, false, false, false, false, false, false, false, false, false, false, false, false, false, false, false, false, false, false, false, false, false, false]
abbrev mk9 : Array Bool := #[true, true, true, true, true, true, true, true, true, false, false, false, false, false, false, false, false, false, false, false, false, false, false, false, false, false, false, false, false, false, false, false, false, false, false, false, false, false, false, false, false, false, false, false, false, false, false, false, false]
abbrev mk10 : Array Bool := #[true, true, true, true, true, true, true, true, true, true, false, false, false, false, false, false, false, false, false, false, false, false, false, false, false, false, false, false, false, false, false, false, false, false, false, false, false, false, false, false, false, false, false, false, false, false, false, false, false]
abbrev mk11 : Array Bool := #[true, true, true, true, true, true, true, true, true, true, true, false, false, false, false, false, false, false, false, false, false, false, false, false, false, false, false, false, false, false, false, false, false, false, false, false, false, false, false, false, false, false, false, false, false, false, false, false, false]
abbrev mk12 : Array Bool := #[true, true, true, true, true, true, true, true, true, true, true, true, false, false, false, false, false, false, false, false, false, false, false, false, false, false, false, false, false, false, false, false, false, false, false, false, false, false, false, false, false, false, false, false, false, false, false, false, false]
abbrev mk13 : Array Bool := #[true, true, true, true, true, true, true, true, true, true, true, true, true, false, false, false, false, false, false, false, false, false, false, false, false, false, false, false, false, false, false, false, false, false, false, false, false, false, false, false, false, false, false, false, false, false, false, false, false]
abbrev mk14 : Array Bool := #[true, true, true, true, true, true, true, true, true, true, true, true, true, true, false, false, false, false, false, false, false, false, false, false, false, false, false, false, false, false, false, false, false, false, false, false, false, false, false, false, false, false, false, false, false, false, false, false, false]
abbrev mk15 : Array Bool := #[true, true, true, true, true, true, true, true, true, true, true, true, true, true, true, false, false, false, false, false, false, false, false, false, false, false, false, false, false, false, false, false, false, false, false, false, false, false, false, false, false, false, false, false, false, false, false, false, false]
abbrev mk16 : Array Bool := #[true, true, true, true, true, true, true, true, true, true, true, true, true, true, true, true, false, false, false, false, false, false, false, false, false, false, false, false, false, false, false, false, false, false, false, false, false, false, false, false, false, false, false, false, false, false, false, false, false]
abbrev mk17 : Array Bool := #[true, true, true, true, true, true, true, true, true, true, true, true, true, true, true, true, true, false, false, false, false, false, false, false, false, false, false, false, false, false, false, false, false, false, false, false, false, false, false, false, false, false, false, false, false, false, false, false, false]
abbrev mk18 : Array Bool := #[true, true, true, true, true, true, true, true, true, true, true, true, true, true, true, true, true, true, false, false, false, false, false, false, false, false, false, false, false, false, false, false, false, false, false, false, false, false, false, false, false, false, false, false, false, false, false, false, false]
abbrev mk19 : Array Bool := #[true, true, true, true, true, true, true, true, true, true, true, true, true, true, true, true, true, true, true, false, false, false, false, false, false, false, false, false, false, false, false, false, false, false, false, false, false, false, false, false, false, false, false, false, false, false, false, false, false]
abbrev mk20 : Array Bool := #[true, true, true, true, true, true, true, true, true, true, true, true, true, true, true, true, true, true, true, true, false, false, false, false, false, false, false, false, false, false, false, false, false, false, false, false, false, false, false, false, false, false, false, false, false, false, false, false, false]
abbrev mk21 : Array Bool := #[true, true, true, true, true, true, true, true, true, true, true, true, true, true, true, true, true, true, true, true, true, false, false, false, false, false, false, false, false, false, false, false, false, false, false, false, false, false, false, false, false, false, false, false, false, false, false, false, false]
abbrev mk22 : Array Bool := #[true, true, true, true, true, true, true, true, true, true, true, true, true, true, true, true, true, true, true, true, true, true, false, false, false, false, false, false, false, false, false, false, false, false, false, false, false, false, false, false, false, false, false, false, false, false, false, false, false]
abbrev mk23 : Array Bool := #[true, true, true, true, true, true, true, true, true, true, true, true, true, true, true, true, true, true, true, true, true, true, true, false, false, false, false, false, false, false, false, false, false, false, false, false, false, false, false, false, false, false, false, false, false, false, false, false, false]
abbrev mk24 : Array Bool := #[true, true, true, true, true, true, true, true, true, true, true, true, true, true, true, true, true, true, true, true, true, true, true, true, false, false, false, false, false, false, false, false, false, false, false, false, false, false, false, false, false, false, false, false, false, false, false, false, false]
abbrev mk25 : Array Bool := #[true, true, true, true, true, true, true, true, true, true, true, true, true, true, true, true, true, true, true, true, true, true, true, true, true, false, false, false, false, false, false, false, false, false, false, false, false, false, false, false, false, false, false, false, false, false, false, false, false]
abbrev mk26 : Array Bool := #[true, true, true, true, true, true, true, true, true, true, true, true, true, true, true, true, true, true, true, true, true, true, true, true, true, true, false, false, false, false, false, false, false, false, false, false, false, false, false, false, false, false, false, false, false, false, false, false, false]
abbrev mk27 : Array Bool := #[true, true, true, true, true, true, true, true, true, true, true, true, true, true, true, true, true, true, true, true, true, true, true, true, true, true, true, false, false, false, false, false, false, false, false, false, false, false, false, false, false, false, false, false, false, false, false, false, false]
abbrev mk28 : Array Bool := #[true, true, true, true, true, true, true, true, true, true, true, true, true, true, true, true, true, true, true, true, true, true, true, true, true, true, true, true, false, false, false, false, false, false, false, false, false, false, false, false, false, false, false, false, false, false, false, false, false]
abbrev mk29 : Array Bool := #[true, true, true, true, true, true, true, true, true, true, true, true, true, true, true, true, true, true, true, true, true, true, true, true, true, true, true, true, true, false, false, false, false, false, false, false, false, false, false, false, false, false, false, false, false, false, false, false, false]
abbrev mk30 : Array Bool := #[true, true, true, true, true, true, true, true, true, true, true, true, true, true, true, true, true, true, true, true, true, true, true, true, true, true, true, true, true, true, false, false, false, false, false, false, false, false, false, false, false, false, false, false, false, false, false, false, false]
abbrev mk31 : Array Bool := #[true, true, true, true, true, true, true, true, true, true, true, true, true, true, true, true, true, true, true, true, true, true, true, true, true, true, true, true, true, true, true, false, false, false, false, false, false, false, false, false, false, false, false, false, false, false, false, false, false]
abbrev mk32 : Array Bool := #[true, true, true, true, true, true, true, true, true, true, true, true, true, true, true, true, true, true, true, true, true, true, true, true, true, true, true, true, true, true, true, true, false, false, false, false, false, false, false, false, false, false, false, false, false, false, false, false, false]
abbrev mk33 : Array Bool := #[true, true, true, true, true, true, true, true, true, true, true, true, true, true, true, true, true, true, true, true, true, true, true, true, true, true, true, true, true, true, true, true, true, false, false, false, false, false, false, false, false, false, false, false, false, false, false, false, false]
abbrev mk34 : Array Bool := #[true, true, true, true, true, true, true, true, true, true, true, true, true, true, true, true, true, true, true, true, true, true, true, true, true, true, true, true, true, true, true, true, true, true, false, false, false, false, false, false, false, false, false, false, false, false, false, false, false]
abbrev mk35 : Array Bool := #[true, true, true, true, true, true, true, true, true, true, true, true, true, true, true, true, true, true, true, true, true, true, true, true, true, true, true, true, true, true, true, true, true, true, true, false, false, false, false, false, false, false, false, false, false, false, false, false, false]
abbrev mk36 : Array Bool := #[true, true, true, true, true, true, true, true, true, true, true, true, true, true, true, true, true, true, true, true, true, true, true, true, true, true, true, true, true, true, true, true, true, true, true, true, false, false, false, false, false, false, false, false, false, false, false, false, false]
abbrev mk37 : Array Bool := #[true, true, true, true, true, true, true, true, true, true, true, true, true, true, true, true, true, true, true, true, true, true, true, true, true, true, true, true, true, true, true, true, true, true, true, true, true, false, false, false, false, false, false, false, false, false, false, false, false]
abbrev mk38 : Array Bool := #[true, true, true, true, true, true, true, true, true, true, true, true, true, true, true, true, true, true, true, true, true, true, true, true, true, true, true, true, true, true, true, true, true, true, true, true, true, true, false, false, false, false, false, false, false, false, false, false, false]
abbrev mk39 : Array Bool := #[true, true, true, true, true, true, true, true, true, true, true, true, true, true, true, true, true, true, true, true, true, true, true, true, true, true, true, true, true, true, true, true, true, true, true, true, true, true, true, false, false, false, false, false, false, false, false, false, false]
abbrev mk40 : Array Bool := #[true, true, true, true, true, true, true, true, true, true, true, true, true, true, true, true, true, true, true, true, true, true, true, true, true, true, true, true, true, true, true, true, true, true, true, true, true, true, true, true, false, false, false, false, false, false, false, false, false]
abbrev mk41 : Array Bool := #[true, true, true, true, true, true, true, true, true, true, true, true, true, true, true, true, true, true, true, true, true, true, true, true, true, true, true, true, true, true, true, true, true, true, true, true, true, true, true, true, true, false, false, false, false, false, false, false, false]
abbrev mk42 : Array Bool := #[true, true, true, true, true, true, true, true, true, true, true, true, true, true, true, true, true, true, true, true, true, true, true, true, true, true, true, true, true, true, true, true, true, true, true, true, true, true, true, true, true, true, false, false, false, false, false, false, false]
abbrev mk43 : Array Bool := #[true, true, true, true, true, true, true, true, true, true, true, true, true, true, true, true, true, true, true, true, true, true, true, true, true, true, true, true, true, true, true, true, true, true, true, true, true, true, true, true, true, true, true, false, false, false, false, false, false]
abbrev mk44 : Array Bool := #[true, true, true, true, true, true, true, true, true, true, true, true, true, true, true, true, true, true, true, true, true, true, true, true, true, true, true, true, true, true, true, true, true, true, true, true, true, true, true, true, true, true, true, true, false, false, false, false, false]
abbrev mk45 : Array Bool := #[true, true, true, true, true, true, true, true, true, true, true, true, true, true, true, true, true, true, true, true, true, true, true, true, true, true, true, true, true, true, true, true, true, true, true, true, true, true, true, true, true, true, true, true, true, false, false, false, false]
abbrev mk46 : Array Bool := #[true, true, true, true, true, true, true, true, true, true, true, true, true, true, true, true, true, true, true, true, true, true, true, true, true, true, true, true, true, true, true, true, true, true, true, true, true, true, true, true, true, true, true, true, true, true, false, false, false]
abbrev mk47 : Array Bool := #[true, true, true, true, true, true, true, true, true, true, true, true, true, true, true, true, true, true, true, true, true, true, true, true, true, true, true, true, true, true, true, true, true, true, true, true, true, true, true, true, true, true, true, true, true, true, true, false, false]
abbrev mk48 : Array Bool := #[true, true, true, true, true, true, true, true, true, true, true, true, true, true, true, true, true, true, true, true, true, true, true, true, true, true, true, true, true, true, true, true, true, true, true, true, true, true, true, true, true, true, true, true, true, true, true, true, false]
abbrev mk49 : Array Bool := #[true, true, true, true, true, true, true, true, true, true, true, true, true, true, true, true, true, true, true, true, true, true, true, true, true, true, true, true, true, true, true, true, true, true, true, true, true, true, true, true, true, true, true, true, true, true, true, true, true]
abbrev mk50 : Array Bool := #[true, true, true, true, true, true, true, true, true, true, true, true, true, true, true, true, true, true, true, false, true, false, false, false, false, false, false, false, false, false, false, false, false, false, false, false, false, false, false, false, false, false, false, false, false, false, false, false, false]
abbrev mk51 : Array Bool := #[true, true, true, true, true, true, true, true, true, true, true, true, true, true, true, true, true, true, true, false, true, true, false, false, false, false, false, false, false, false, false, false, false, false, false, false, false, false, false, false, false, false, false, false, false, false, false, false, false]
abbrev mk52 : Array Bool := #[true, true, true, true, true, true, true, true, true, true, true, true, true, true, true, true, true, true, true, false, true, true, true, false, false, false, false, false, false, false, false, false, false, false, false, false, false, false, false, false, false, false, false, false, false, false, false, false, false]
abbrev mk53 : Array Bool := #[true, true, true, true, true, true, true, true, true, true, true, true, true, true, true, true, true, true, true, false, true, true, true, true, false, false, false, false, false, false, false, false, false, false, false, false, false, false, false, false, false, false, false, false, false, false, false, false, false]
abbrev mk54 : Array Bool := #[true, true, true, true, true, true, true, true, true, true, true, true, true, true, true, true, true, true, true, false, true, true, true, true, true, false, false, false, false, false, false, false, false, false, false, false, false, false, false, false, false, false, false, false, false, false, false, false, false]
section
variable {P : Program} {ops : Array Oper} {Q : Exit → Act → World → Prop} {md : Region.Mode} {S : World → Prop} {ds : List Nat}
theorem py_ (i N : Nat) {oi : Oper} (v : Value) {fuel : Nat} {l : Array Bool} {a : Act} {w : World} (l' : Array Bool) {T : Bool × List (List Nat × List Nat)} (HT : Aside0 (rtab md ops = T)) (hi : ops[i]? = some oi) (hN : oi.dst = some N) (hc : anyT T l.toList l'.toList i = true)
  (hQ : ∀ c a w, Q (.panic c) (a.put oi.dst v) w → Q (.panic c) a w) (hy : Yields P ops oi v a) {a' : Act} (ha : a.put (some N) v = a')
  (h : wpAnyLast P md ops Q S ds fuel l' a' w) : wpAnyLast P md ops Q S ds (fuel + 1) l a w :=
 pure_ l' hi hN (any_of HT.out hc) hQ hy ha h
theorem pS : (∀ (l : List Value) (i : Nat) (a : Value), l.toArray.setIfInBounds i a = (l.set i a).toArray) ∧ (∀ (x : Value) (l : List Value) (a : Value), (x :: l).set 0 a = a :: l) ∧ (∀ (x : Value) (l : List Value) (i : Nat) (a : Value), (x :: l).set (i + 1) a = x :: l.set i a) ∧ (∀ n : Int, IntKind.i64.wrap n = Go.RowKit.wrap64 n) ∧ (∀ n : Int, IntKind.i32.wrap n = Go.RowKit.wrap32 n) :=
 ⟨fun l i a => List.setIfInBounds_toArray .., fun x l a => List.set_cons_zero .., fun x l i a => List.set_cons_succ .., i64_w, i32_w⟩
end
def souterrainref11_Right.l0 : Nat → List (S41) → Int → Option (Bool)
 | 0, _, _ => none
 | k + 1, x0, x3 => if x3 < (x0.length : Int) then (if 0 ≤ x3 then (if ((rd_T41 x0 x3).f0) < 2 then (some false) else (if ((rd_T41 x0 x3).f0) > 4 then (some false) else ((souterrainref04_Key.f ((rd_T41 x0 x3).f1)).bind fun t267 => (if t267 = true then (if x3 > 0 then (if 0 ≤ (wrap64 (x3 - 1)) then (if (wrap64 (x3 - 1)) < (x0.length : Int) then (if ((Op.bytesLess (((rd_T41 x0 (wrap64 (x3 - 1))).f1).toList) (((rd_T41 x0 x3).f1).toList)) = true) then (if ((rd_T41 x0 x3).f2) < 0 then (some false) else (if ((rd_T41 x0 x3).f2) > 1073741824 then (some false) else (if ((rd_T41 x0 x3).f3) < 9 then (some false) else (if ((rd_T41 x0 x3).f3) > 8200 then (some false) else (souterrainref11_Right.l0 k x0 (wrap64 (x3 + 1))))))) else (some false)) else (none)) else (none)) else (if ((rd_T41 x0 x3).f2) < 0 then (some false) else (if ((rd_T41 x0 x3).f2) > 1073741824 then (some false) else (if ((rd_T41 x0 x3).f3) < 9 then (some false) else (if ((rd_T41 x0 x3).f3) > 8200 then (some false) else (souterrainref11_Right.l0 k x0 (wrap64 (x3 + 1)))))))) else (some false))))) else (none)) else (some true)
def souterrainref11_Right.f (k : Nat) (l0 : List (S41)) : Option (Bool) := souterrainref11_Right.l0 k l0 0
def souterrainref11_Right.T5 : Bool × List (List Nat × List Nat) := (true, [([], []), ([0], [0]), ([1], [1]), ([2], [2]), ([3], [3]), ([4, 3], [3, 4]), ([5, 3], [3, 5]), ([3, 6], [3, 6]), ([7, 3], [7]), ([8], [8]), ([9, 8], [8, 9]), ([10, 8, 8], [8, 10]), ([11, 8], [8, 11]), ([8, 12], [8, 12]), ([13, 11], [13]), ([14], [14]), ([15, 14], [14, 15]), ([16, 14, 14], [14, 16]), ([17], [17]), ([18, 17], [17, 18]), ([17], [17]), ([17], [17]), ([21, 17], [17, 21]), ([20, 22, 17], [17, 20, 22]), ([23, 17], [17, 23]), ([24, 17], [17, 24]), ([19, 25, 17], [17, 19, 25]), ([17, 26, 14], [14, 17, 26]), ([14, 27], [14, 27]), ([28, 17], [28]), ([29], [29]), ([30, 29], [29, 30]), ([31, 29], [29, 31]), ([29, 32], [29, 32]), ([33, 29], [33]), ([34], [34]), ([35, 34], [34, 35]), ([36, 34], [34, 36]), ([34, 37], [34, 37]), ([38, 34], [38]), ([39], [39]), ([40, 39], [39, 40]), ([41, 39], [39, 41]), ([39, 42], [39, 42]), ([43, 39], [43]), ([44], [44]), ([45, 44], [44, 45]), ([46, 44], [44, 46]), ([44, 47], [44, 47])])
def souterrainref11_Right.B5 : List Nat := [0, 1, 3, 7, 15, 31, 63, 127, 255, 511, 1023, 2047, 4095, 8191, 16383, 32767, 65535, 131071, 262143, 524287, 262143, 262143, 2359295, 7602175, 15990783, 32767999, 67108863, 134217727, 268435455, 536870911, 1073741823, 2147483647, 4294967295, 8589934591, 17179869183, 34359738367, 68719476735, 137438953471, 274877906943, 549755813887, 1099511627775, 2199023255551, 4398046511103, 8796093022207, 17592186044415, 35184372088831, 70368744177663, 140737488355327, 281474976710655]
theorem souterrainref11_Right.tab5 : rtab .any (opsOf Try.f15 5) = souterrainref11_Right.T5 := by kernel_rfl
theorem souterrainref11_Right.bits5 : waitsOk souterrainref11_Right.T5.2 souterrainref11_Right.B5 = true := by kernel_rfl
set_option maxHeartbeats 8000000 in
set_option maxRecDepth 100000 in
theorem souterrainref11_Right.calls (k : Nat) (A0 : Option Addr) (c0 : Nat) (l0 : List (S41)) (r : Bool) (w : World) (hr0 : Kd.C k41 w A0 l0.length l0) (hc0 : l0.length ≤ c0) (h : souterrainref11_Right.f k l0 = some r) :
  Calls Try.prog 15 #[.slice A0 l0.length c0] w fun e w' => e = .returned (.bool r) ∧ Below w.heap.size w w' := by
 have hu41 := Try.underlying41
 have HR0 := Aside0.mk hr0
 have HC0 := Aside0.mk hc0
 clear hr0 hc0
 have HB := Aside0.mk (Below.refl w.heap.size w)
 have H : (souterrainref11_Right.l0 k l0 0) = some r := h
 clear h
 have H' := Aside0.mk H
 clear H
 go_enter Try.func15, Try.ntmps15
 go_wp2
 go_loopg [3] k (fun kq v3 w' => ∃ (x3_1 : Int), v3 = .int .i64 x3_1 ∧ Aside0 (souterrainref11_Right.l0 kq l0 x3_1 = some r) ∧ Aside0 (kq ≤ k) ∧ Aside0 (Below w.heap.size w w'))
 case atStart => exact ⟨(0), (by first | rfl | (simp; done) | (simp [*]; done)), H', ⟨Nat.le_refl _⟩, ⟨by repeat (first | (with_reducible first | exact HB.out | apply below_alloc | apply pw_below_drewN | apply below_drew1) | exact HB.out)⟩⟩
 case round =>
  clear H'
  try clear c1
  obtain ⟨x3_1, rfl, HA, HK1, HB⟩ := hrel
  cases gk with
  | zero => exact absurd HA.out (by simp [souterrainref11_Right.l0])
  | succ k1 =>
   have H := HA.out
   clear HA
   simp only [souterrainref11_Right.l0] at H
   by_cases c2 : x3_1 < (l0.length : Int)
   ·rw [if_pos c2] at H
    have c2b0 : decide (x3_1 < (l0.length : Int)) = true := decide_eq_true c2
    clear c2
    by_cases c3 : 0 ≤ x3_1
    ·rw [if_pos c3] at H
     have c3b0 : decide (0 ≤ x3_1) = true := decide_eq_true c3
     clear c3
     have p265 : 0 ≤ (x3_1 : Int) := of_decide_eq_true (by first | (with_reducible assumption) | assumption)
     have q265 : x3_1 < (l0.length : Int) := of_decide_eq_true (by first | (with_reducible assumption) | assumption)
     obtain ⟨ad265, e265, hx265_0, hx265_1, hx265_2, hx265_3⟩ := at_T41 HR0.out x3_1 p265 q265
     cases e265
     replace hx265_0 := (HB.out.cell (World.block_lt_of_cell? w _ hx265_0)).trans hx265_0
     replace hx265_1 := (HB.out.cell (World.block_lt_of_cell? w _ hx265_1)).trans hx265_1
     replace hx265_2 := (HB.out.cell (World.block_lt_of_cell? w _ hx265_2)).trans hx265_2
     replace hx265_3 := (HB.out.cell (World.block_lt_of_cell? w _ hx265_3)).trans hx265_3
     replace p265 := eq_true p265
     replace q265 := eq_true q265
     try go_wp2_with (first | ((with_reducible refine gate_dst (N := 4) rfl ?_); refine box_event ?hg (N := 4) ?hd (cs := #[.int .i64 0, .string (⟨#[]⟩ : ByteArray), .int .i64 0, .int .i64 0]) (t := 41) ?hr ?_; (case hd => rfl); (case hg => rfl); (case hr => first | (go_simp; done) | (go_simp; rfl)); intro gb266 hg w5 hbox hb; have n0_ := Aside0.mk (below_step (by repeat (first | (with_reducible first | exact HB.out | apply below_alloc | apply pw_below_drewN | apply below_drew1) | exact HB.out)) hb); have n1_ := Aside0.mk (hbox); have n2_ := Aside0.mk ((by rw [hg]; exact (below_size (by repeat (first | (with_reducible first | exact HB.out | apply below_alloc | apply pw_below_drewN | apply below_drew1) | exact HB.out))) : w.heap.size ≤ gb266)); have n3_ := Aside0.mk ((by rw [hg]; exact (below_size (by repeat (first | (with_reducible first | exact HB.out | apply below_alloc | apply pw_below_drewN | apply below_drew1) | exact HB.out))) : w.heap.size ≤ gb266)); clear HB; have HB := n0_; have BK266 := n1_; have GW266 := n2_; have GE266 := n3_; clear n0_ n1_ n2_ n3_; clear hb hbox hg; have hcz6_0 : w5.cell? ⟨gb266, 0, none⟩ = some (.int .i64 0) := (blk_cell BK266.out 0).trans rfl; have hcz6_1 : w5.cell? ⟨gb266, 1, none⟩ = some (.string (⟨#[]⟩ : ByteArray)) := (blk_cell BK266.out 1).trans rfl; have hcz6_2 : w5.cell? ⟨gb266, 2, none⟩ = some (.int .i64 0) := (blk_cell BK266.out 2).trans rfl; have hcz6_3 : w5.cell? ⟨gb266, 3, none⟩ = some (.int .i64 0) := (blk_cell BK266.out 3).trans rfl; have hfz6_0 := blk_frozen BK266.out 0; have hfz6_1 := blk_frozen BK266.out 1; have hfz6_2 := blk_frozen BK266.out 2; have hfz6_3 := blk_frozen BK266.out 3))
     have n0_ : Aside0 (((((w5.setCell ⟨gb266, 0, none⟩ (.int .i64 ((rd_T41 l0 x3_1).f0))).setCell ⟨gb266, 1, none⟩ (.string ((rd_T41 l0 x3_1).f1))).setCell ⟨gb266, 2, none⟩ (.int .i64 ((rd_T41 l0 x3_1).f2))).setCell ⟨gb266, 3, none⟩ (.int .i64 ((rd_T41 l0 x3_1).f3))).heap[gb266]? = some (.cells #[.int .i64 ((rd_T41 l0 x3_1).f0), .string ((rd_T41 l0 x3_1).f1), .int .i64 ((rd_T41 l0 x3_1).f2), .int .i64 ((rd_T41 l0 x3_1).f3)] 41 (0, 0))) := ⟨by (with_reducible repeat (first | refine blk_drewN ?_ _ | refine blk_drew ?_ | refine blk_alloc ?_ _)); refine blk_put (cs := #[.int .i64 ((rd_T41 l0 x3_1).f0), .string ((rd_T41 l0 x3_1).f1), .int .i64 ((rd_T41 l0 x3_1).f2), .int .i64 0]) ?_ 3 _ rfl; (with_reducible repeat (first | refine blk_drewN ?_ _ | refine blk_drew ?_ | refine blk_alloc ?_ _)); refine blk_put (cs := #[.int .i64 ((rd_T41 l0 x3_1).f0), .string ((rd_T41 l0 x3_1).f1), .int .i64 0, .int .i64 0]) ?_ 2 _ rfl; (with_reducible repeat (first | refine blk_drewN ?_ _ | refine blk_drew ?_ | refine blk_alloc ?_ _)); refine blk_put (cs := #[.int .i64 ((rd_T41 l0 x3_1).f0), .string (⟨#[]⟩ : ByteArray), .int .i64 0, .int .i64 0]) ?_ 1 _ rfl; (with_reducible repeat (first | refine blk_drewN ?_ _ | refine blk_drew ?_ | refine blk_alloc ?_ _)); refine blk_put (cs := #[.int .i64 0, .string (⟨#[]⟩ : ByteArray), .int .i64 0, .int .i64 0]) ?_ 0 _ rfl; (with_reducible repeat (first | refine blk_drewN ?_ _ | refine blk_drew ?_ | refine blk_alloc ?_ _)); exact BK266.out⟩
     have n1_ : Aside0 (Below w.heap.size w ((((w5.setCell ⟨gb266, 0, none⟩ (.int .i64 ((rd_T41 l0 x3_1).f0))).setCell ⟨gb266, 1, none⟩ (.string ((rd_T41 l0 x3_1).f1))).setCell ⟨gb266, 2, none⟩ (.int .i64 ((rd_T41 l0 x3_1).f2))).setCell ⟨gb266, 3, none⟩ (.int .i64 ((rd_T41 l0 x3_1).f3)))) := ⟨by repeat (first | (with_reducible first | exact HB.out | apply below_alloc | apply pw_below_drewN | apply below_drew1 | refine below_set ?_ GE266.out) | exact HB.out)⟩
     (try clear BK266)
     (try clear HB)
     generalize ((((w5.setCell ⟨gb266, 0, none⟩ (.int .i64 ((rd_T41 l0 x3_1).f0))).setCell ⟨gb266, 1, none⟩ (.string ((rd_T41 l0 x3_1).f1))).setCell ⟨gb266, 2, none⟩ (.int .i64 ((rd_T41 l0 x3_1).f2))).setCell ⟨gb266, 3, none⟩ (.int .i64 ((rd_T41 l0 x3_1).f3))) = w7 at n0_ n1_ ⊢
     have BK266 := n0_
     have HB := n1_
     clear n0_ n1_
     by_cases c4 : ((rd_T41 l0 x3_1).f0) < 2
     ·rw [if_pos c4] at H
      have c4b0 : decide (((rd_T41 l0 x3_1).f0) < 2) = true := decide_eq_true c4
      clear c4
      obtain rfl := Option.some.inj H
      have n0_ := Aside0.mk (blk_drew BK266.out)
      have n1_ := Aside0.mk (below_drew1 HB.out)
      clear BK266
      clear HB
      have BK266 := n0_
      have HB := n1_
      clear n0_ n1_
      refine start_ (n := 49) (S := fun w' => w'.cell? ⟨gb266, 0, none⟩ = some (.int .i64 ((rd_T41 l0 x3_1).f0)) ∧ w'.cell? ⟨gb266, 1, none⟩ = some (.string ((rd_T41 l0 x3_1).f1)) ∧ w'.cell? ⟨gb266, 2, none⟩ = some (.int .i64 ((rd_T41 l0 x3_1).f2)) ∧ w'.cell? ⟨gb266, 3, none⟩ = some (.int .i64 ((rd_T41 l0 x3_1).f3))) (ds := []) mk0 (by kernel_rfl) rfl rfl ⟨(blk_cell BK266.out 0).trans rfl, (blk_cell BK266.out 1).trans rfl, (blk_cell BK266.out 2).trans rfl, (blk_cell BK266.out 3).trans rfl⟩ (fun hHeld => ?_); refine with_tabW souterrainref11_Right.tab5 souterrainref11_Right.bits5 (fun HT_ HW_ => ?_)
      generalize w7.drew = w8 at BK266 HB hHeld ⊢
      refine py_ (a' := ?_) 0 15 ?_ mk1 HT_ rfl rfl (by kernel_rfl) (fun _ _ _ h => h) (Or.inl ⟨by rfl, ?_⟩) ?_ ?_; rotate_left; (focus intro w'; go_simp; with_reducible rfl); rotate_left; (focus simp only [Act.put, pS]; rfl)
      refine take_ (i := 1) (N := some 16) (v := ?_) (a' := ?_) mk2 rfl rfl (take_ofW HT_.out HW_.out (by kernel_rfl)) (fun _ _ _ h => h) (Or.inl ⟨by rfl, ?_⟩) hHeld ?_ ?_; rotate_left; (focus rintro w' ⟨s0, s1, s2, s3⟩; go_simp; with_reducible rfl); rotate_left; (focus simp only [Act.put, pS]; rfl)
      refine py_ (a' := ?_) 2 17 ?_ mk3 HT_ rfl rfl (by kernel_rfl) (fun _ _ _ h => h) (Or.inl ⟨by rfl, ?_⟩) ?_ ?_; rotate_left; (focus intro w'; go_simp; with_reducible rfl); rotate_left; (focus simp only [Act.put, pS]; rfl)
      refine py_ (a' := ?_) 3 18 ?_ mk4 HT_ rfl rfl (by kernel_rfl) (fun _ _ _ h => h) (Or.inl ⟨by rfl, ?_⟩) ?_ ?_; rotate_left; (focus intro w'; go_simp; with_reducible rfl); rotate_left; (focus simp only [Act.put, pS]; rfl)
      refine py_ (a' := ?_) 4 19 undef mk5 HT_ rfl rfl (by kernel_rfl) (fun _ _ _ h => h) (Or.inr ⟨by rfl, rfl⟩) ?_ ?_; rotate_left; (focus simp only [Act.put, pS]; rfl)
      refine py_ (a' := ?_) 5 20 undef mk6 HT_ rfl rfl (by kernel_rfl) (fun _ _ _ h => h) (Or.inr ⟨by rfl, rfl⟩) ?_ ?_; rotate_left; (focus simp only [Act.put, pS]; rfl)
      refine py_ (a' := ?_) 6 21 undef mk7 HT_ rfl rfl (by kernel_rfl) (fun _ _ _ h => h) (Or.inr ⟨by rfl, rfl⟩) ?_ ?_; rotate_left; (focus simp only [Act.put, pS]; rfl)
      refine py_ (a' := ?_) 7 22 ?_ mk8 HT_ rfl rfl (by kernel_rfl) (fun _ _ _ h => h) (Or.inl ⟨by rfl, ?_⟩) ?_ ?_; rotate_left; (focus intro w'; go_simp; with_reducible rfl); rotate_left; (focus simp only [Act.put, pS]; rfl)
      refine py_ (a' := ?_) 8 23 ?_ mk9 HT_ rfl rfl (by kernel_rfl) (fun _ _ _ h => h) (Or.inl ⟨by rfl, ?_⟩) ?_ ?_; rotate_left; (focus intro w'; go_simp; with_reducible rfl); rotate_left; (focus simp only [Act.put, pS]; rfl)
      refine py_ (a' := ?_) 9 24 undef mk10 HT_ rfl rfl (by kernel_rfl) (fun _ _ _ h => h) (Or.inr ⟨by rfl, rfl⟩) ?_ ?_; rotate_left; (focus simp only [Act.put, pS]; rfl)
      refine py_ (a' := ?_) 10 25 undef mk11 HT_ rfl rfl (by kernel_rfl) (fun _ _ _ h => h) (Or.inr ⟨by rfl, rfl⟩) ?_ ?_; rotate_left; (focus simp only [Act.put, pS]; rfl)
      refine py_ (a' := ?_) 11 26 undef mk12 HT_ rfl rfl (by kernel_rfl) (fun _ _ _ h => h) (Or.inr ⟨by rfl, rfl⟩) ?_ ?_; rotate_left; (focus simp only [Act.put, pS]; rfl)
      refine py_ (a' := ?_) 12 27 undef mk13 HT_ rfl rfl (by kernel_rfl) (fun _ _ _ h => h) (Or.inr ⟨by rfl, rfl⟩) ?_ ?_; rotate_left; (focus simp only [Act.put, pS]; rfl)
      refine py_ (a' := ?_) 13 28 ?_ mk14 HT_ rfl rfl (by kernel_rfl) (fun _ _ _ h => h) (Or.inl ⟨by rfl, ?_⟩) ?_ ?_; rotate_left; (focus intro w'; go_simp; with_reducible rfl); rotate_left; (focus simp only [Act.put, pS]; rfl)
      refine py_ (a' := ?_) 14 29 ?_ mk15 HT_ rfl rfl (by kernel_rfl) (fun _ _ _ h => h) (Or.inl ⟨by rfl, ?_⟩) ?_ ?_; rotate_left; (focus intro w'; go_simp; with_reducible rfl); rotate_left; (focus simp only [Act.put, pS]; rfl)
      refine py_ (a' := ?_) 15 30 undef mk16 HT_ rfl rfl (by kernel_rfl) (fun _ _ _ h => h) (Or.inr ⟨by rfl, rfl⟩) ?_ ?_; rotate_left; (focus simp only [Act.put, pS]; rfl)
      refine py_ (a' := ?_) 16 31 undef mk17 HT_ rfl rfl (by kernel_rfl) (fun _ _ _ h => h) (Or.inr ⟨by rfl, rfl⟩) ?_ ?_; rotate_left; (focus simp only [Act.put, pS]; rfl)
      refine py_ (a' := ?_) 17 32 undef mk18 HT_ rfl rfl (by kernel_rfl) (fun _ _ _ h => h) (Or.inr ⟨by rfl, rfl⟩) ?_ ?_; rotate_left; (focus simp only [Act.put, pS]; rfl)
      refine py_ (a' := ?_) 18 33 undef mk19 HT_ rfl rfl (by kernel_rfl) (fun _ _ _ h => h) (Or.inr ⟨by rfl, rfl⟩) ?_ ?_; rotate_left; (focus simp only [Act.put, pS]; rfl)
      refine py_ (a' := ?_) 19 34 undef mk20 HT_ rfl rfl (by kernel_rfl) (fun _ _ _ h => h) (Or.inr ⟨by rfl, rfl⟩) ?_ ?_; rotate_left; (focus simp only [Act.put, pS]; rfl)
      refine py_ (a' := ?_) 20 35 undef mk21 HT_ rfl rfl (by kernel_rfl) (fun _ _ _ h => h) (Or.inr ⟨by rfl, rfl⟩) ?_ ?_; rotate_left; (focus simp only [Act.put, pS]; rfl)
      refine py_ (a' := ?_) 21 36 undef mk22 HT_ rfl rfl (by kernel_rfl) (fun _ _ _ h => h) (Or.inr ⟨by rfl, rfl⟩) ?_ ?_; rotate_left; (focus simp only [Act.put, pS]; rfl)
      refine py_ (a' := ?_) 22 37 undef mk23 HT_ rfl rfl (by kernel_rfl) (fun _ _ _ h => h) (Or.inr ⟨by rfl, rfl⟩) ?_ ?_; rotate_left; (focus simp only [Act.put, pS]; rfl)
      refine py_ (a' := ?_) 23 38 undef mk24 HT_ rfl rfl (by kernel_rfl) (fun _ _ _ h => h) (Or.inr ⟨by rfl, rfl⟩) ?_ ?_; rotate_left; (focus simp only [Act.put, pS]; rfl)
      refine py_ (a' := ?_) 24 39 undef mk25 HT_ rfl rfl (by kernel_rfl) (fun _ _ _ h => h) (Or.inr ⟨by rfl, rfl⟩) ?_ ?_; rotate_left; (focus simp only [Act.put, pS]; rfl)
      refine py_ (a' := ?_) 25 40 undef mk26 HT_ rfl rfl (by kernel_rfl) (fun _ _ _ h => h) (Or.inr ⟨by rfl, rfl⟩) ?_ ?_; rotate_left; (focus simp only [Act.put, pS]; rfl)
      refine py_ (a' := ?_) 26 41 undef mk27 HT_ rfl rfl (by kernel_rfl) (fun _ _ _ h => h) (Or.inr ⟨by rfl, rfl⟩) ?_ ?_; rotate_left; (focus simp only [Act.put, pS]; rfl)
      refine py_ (a' := ?_) 27 42 undef mk28 HT_ rfl rfl (by kernel_rfl) (fun _ _ _ h => h) (Or.inr ⟨by rfl, rfl⟩) ?_ ?_; rotate_left; (focus simp only [Act.put, pS]; rfl)
      refine py_ (a' := ?_) 28 43 ?_ mk29 HT_ rfl rfl (by kernel_rfl) (fun _ _ _ h => h) (Or.inl ⟨by rfl, ?_⟩) ?_ ?_; rotate_left; (focus intro w'; go_simp; with_reducible rfl); rotate_left; (focus simp only [Act.put, pS]; rfl)
      refine py_ (a' := ?_) 29 44 ?_ mk30 HT_ rfl rfl (by kernel_rfl) (fun _ _ _ h => h) (Or.inl ⟨by rfl, ?_⟩) ?_ ?_; rotate_left; (focus intro w'; go_simp; with_reducible rfl); rotate_left; (focus simp only [Act.put, pS]; rfl)
      refine py_ (a' := ?_) 30 45 undef mk31 HT_ rfl rfl (by kernel_rfl) (fun _ _ _ h => h) (Or.inr ⟨by rfl, rfl⟩) ?_ ?_; rotate_left; (focus simp only [Act.put, pS]; rfl)
      refine py_ (a' := ?_) 31 46 undef mk32 HT_ rfl rfl (by kernel_rfl) (fun _ _ _ h => h) (Or.inr ⟨by rfl, rfl⟩) ?_ ?_; rotate_left; (focus simp only [Act.put, pS]; rfl)
      refine py_ (a' := ?_) 32 47 undef mk33 HT_ rfl rfl (by kernel_rfl) (fun _ _ _ h => h) (Or.inr ⟨by rfl, rfl⟩) ?_ ?_; rotate_left; (focus simp only [Act.put, pS]; rfl)
      refine py_ (a' := ?_) 33 48 ?_ mk34 HT_ rfl rfl (by kernel_rfl) (fun _ _ _ h => h) (Or.inl ⟨by rfl, ?_⟩) ?_ ?_; rotate_left; (focus intro w'; go_simp; with_reducible rfl); rotate_left; (focus simp only [Act.put, pS]; rfl)
      refine py_ (a' := ?_) 34 49 ?_ mk35 HT_ rfl rfl (by kernel_rfl) (fun _ _ _ h => h) (Or.inl ⟨by rfl, ?_⟩) ?_ ?_; rotate_left; (focus intro w'; go_simp; with_reducible rfl); rotate_left; (focus simp only [Act.put, pS]; rfl)
      refine py_ (a' := ?_) 35 50 undef mk36 HT_ rfl rfl (by kernel_rfl) (fun _ _ _ h => h) (Or.inr ⟨by rfl, rfl⟩) ?_ ?_; rotate_left; (focus simp only [Act.put, pS]; rfl)
      refine py_ (a' := ?_) 36 51 undef mk37 HT_ rfl rfl (by kernel_rfl) (fun _ _ _ h => h) (Or.inr ⟨by rfl, rfl⟩) ?_ ?_; rotate_left; (focus simp only [Act.put, pS]; rfl)
      refine py_ (a' := ?_) 37 52 undef mk38 HT_ rfl rfl (by kernel_rfl) (fun _ _ _ h => h) (Or.inr ⟨by rfl, rfl⟩) ?_ ?_; rotate_left; (focus simp only [Act.put, pS]; rfl)
      refine py_ (a' := ?_) 38 53 ?_ mk39 HT_ rfl rfl (by kernel_rfl) (fun _ _ _ h => h) (Or.inl ⟨by rfl, ?_⟩) ?_ ?_; rotate_left; (focus intro w'; go_simp; with_reducible rfl); rotate_left; (focus simp only [Act.put, pS]; rfl)
      refine py_ (a' := ?_) 39 54 ?_ mk40 HT_ rfl rfl (by kernel_rfl) (fun _ _ _ h => h) (Or.inl ⟨by rfl, ?_⟩) ?_ ?_; rotate_left; (focus intro w'; go_simp; with_reducible rfl); rotate_left; (focus simp only [Act.put, pS]; rfl)
      refine py_ (a' := ?_) 40 55 undef mk41 HT_ rfl rfl (by kernel_rfl) (fun _ _ _ h => h) (Or.inr ⟨by rfl, rfl⟩) ?_ ?_; rotate_left; (focus simp only [Act.put, pS]; rfl)
      refine py_ (a' := ?_) 41 56 undef mk42 HT_ rfl rfl (by kernel_rfl) (fun _ _ _ h => h) (Or.inr ⟨by rfl, rfl⟩) ?_ ?_; rotate_left; (focus simp only [Act.put, pS]; rfl)
      refine py_ (a' := ?_) 42 57 undef mk43 HT_ rfl rfl (by kernel_rfl) (fun _ _ _ h => h) (Or.inr ⟨by rfl, rfl⟩) ?_ ?_; rotate_left; (focus simp only [Act.put, pS]; rfl)
      refine py_ (a' := ?_) 43 58 ?_ mk44 HT_ rfl rfl (by kernel_rfl) (fun _ _ _ h => h) (Or.inl ⟨by rfl, ?_⟩) ?_ ?_; rotate_left; (focus intro w'; go_simp; with_reducible rfl); rotate_left; (focus simp only [Act.put, pS]; rfl)
      refine py_ (a' := ?_) 44 59 ?_ mk45 HT_ rfl rfl (by kernel_rfl) (fun _ _ _ h => h) (Or.inl ⟨by rfl, ?_⟩) ?_ ?_; rotate_left; (focus intro w'; go_simp; with_reducible rfl); rotate_left; (focus simp only [Act.put, pS]; rfl)
      refine py_ (a' := ?_) 45 60 undef mk46 HT_ rfl rfl (by kernel_rfl) (fun _ _ _ h => h) (Or.inr ⟨by rfl, rfl⟩) ?_ ?_; rotate_left; (focus simp only [Act.put, pS]; rfl)
      refine py_ (a' := ?_) 46 61 undef mk47 HT_ rfl rfl (by kernel_rfl) (fun _ _ _ h => h) (Or.inr ⟨by rfl, rfl⟩) ?_ ?_; rotate_left; (focus simp only [Act.put, pS]; rfl)
      refine py_ (a' := ?_) 47 62 undef mk48 HT_ rfl rfl (by kernel_rfl) (fun _ _ _ h => h) (Or.inr ⟨by rfl, rfl⟩) ?_ ?_; rotate_left; (focus simp only [Act.put, pS]; rfl)
      refine py_ (a' := ?_) 48 63 ?_ mk49 HT_ rfl rfl (by kernel_rfl) (fun _ _ _ h => h) (Or.inl ⟨by rfl, ?_⟩) ?_ ?_; rotate_left; (focus intro w'; go_simp; with_reducible rfl); rotate_left; (focus simp only [Act.put, pS]; rfl)
      refine done_ (done_of HT_.out (by kernel_rfl)) ?_
      try go_wp2
      go_ret
      exact ⟨by first | rfl | (simp [errW_none, errW_some] <;> rfl) | (simp [*, errW_none, errW_some] <;> rfl), by repeat (first | (with_reducible first | exact HB.out | apply below_alloc | apply pw_below_drewN | apply below_drew1 | refine below_set ?_ GE266.out) | exact HB.out)⟩
     ·rw [if_neg c4] at H
      have c4b0 : decide (((rd_T41 l0 x3_1).f0) < 2) = false := decide_eq_false c4
      clear c4
      by_cases c9 : ((rd_T41 l0 x3_1).f0) > 4
      ·rw [if_pos c9] at H
       have c9b0 : decide (4 < ((rd_T41 l0 x3_1).f0)) = true := decide_eq_true c9
       clear c9
       obtain rfl := Option.some.inj H
       have n0_ := Aside0.mk (blk_drew BK266.out)
       have n1_ := Aside0.mk (below_drew1 HB.out)
       clear BK266
       clear HB
       have BK266 := n0_
       have HB := n1_
       clear n0_ n1_
       refine start_ (n := 49) (S := fun w' => w'.cell? ⟨gb266, 0, none⟩ = some (.int .i64 ((rd_T41 l0 x3_1).f0)) ∧ w'.cell? ⟨gb266, 1, none⟩ = some (.string ((rd_T41 l0 x3_1).f1)) ∧ w'.cell? ⟨gb266, 2, none⟩ = some (.int .i64 ((rd_T41 l0 x3_1).f2)) ∧ w'.cell? ⟨gb266, 3, none⟩ = some (.int .i64 ((rd_T41 l0 x3_1).f3))) (ds := []) mk0 (by kernel_rfl) rfl rfl ⟨(blk_cell BK266.out 0).trans rfl, (blk_cell BK266.out 1).trans rfl, (blk_cell BK266.out 2).trans rfl, (blk_cell BK266.out 3).trans rfl⟩ (fun hHeld => ?_); refine with_tabW souterrainref11_Right.tab5 souterrainref11_Right.bits5 (fun HT_ HW_ => ?_)
       generalize w7.drew = w13 at BK266 HB hHeld ⊢
       refine py_ (a' := ?_) 0 15 ?_ mk1 HT_ rfl rfl (by kernel_rfl) (fun _ _ _ h => h) (Or.inl ⟨by rfl, ?_⟩) ?_ ?_; rotate_left; (focus intro w'; go_simp; with_reducible rfl); rotate_left; (focus simp only [Act.put, pS]; rfl)
       refine take_ (i := 1) (N := some 16) (v := ?_) (a' := ?_) mk2 rfl rfl (take_ofW HT_.out HW_.out (by kernel_rfl)) (fun _ _ _ h => h) (Or.inl ⟨by rfl, ?_⟩) hHeld ?_ ?_; rotate_left; (focus rintro w' ⟨s0, s1, s2, s3⟩; go_simp; with_reducible rfl); rotate_left; (focus simp only [Act.put, pS]; rfl)
       refine py_ (a' := ?_) 2 17 ?_ mk3 HT_ rfl rfl (by kernel_rfl) (fun _ _ _ h => h) (Or.inl ⟨by rfl, ?_⟩) ?_ ?_; rotate_left; (focus intro w'; go_simp; with_reducible rfl); rotate_left; (focus simp only [Act.put, pS]; rfl)
       refine py_ (a' := ?_) 3 18 ?_ mk4 HT_ rfl rfl (by kernel_rfl) (fun _ _ _ h => h) (Or.inl ⟨by rfl, ?_⟩) ?_ ?_; rotate_left; (focus intro w'; go_simp; with_reducible rfl); rotate_left; (focus simp only [Act.put, pS]; rfl)
       refine py_ (a' := ?_) 4 19 ?_ mk5 HT_ rfl rfl (by kernel_rfl) (fun _ _ _ h => h) (Or.inl ⟨by rfl, ?_⟩) ?_ ?_; rotate_left; (focus intro w'; go_simp; with_reducible rfl); rotate_left; (focus simp only [Act.put, pS]; rfl)
       refine take_ (i := 5) (N := some 20) (v := ?_) (a' := ?_) mk6 rfl rfl (take_ofW HT_.out HW_.out (by kernel_rfl)) (fun _ _ _ h => h) (Or.inl ⟨by rfl, ?_⟩) hHeld ?_ ?_; rotate_left; (focus rintro w' ⟨s0, s1, s2, s3⟩; go_simp; with_reducible rfl); rotate_left; (focus simp only [Act.put, pS]; rfl)
       refine py_ (a' := ?_) 6 21 ?_ mk7 HT_ rfl rfl (by kernel_rfl) (fun _ _ _ h => h) (Or.inl ⟨by rfl, ?_⟩) ?_ ?_; rotate_left; (focus intro w'; go_simp; with_reducible rfl); rotate_left; (focus simp only [Act.put, pS]; rfl)
       refine py_ (a' := ?_) 7 22 ?_ mk8 HT_ rfl rfl (by kernel_rfl) (fun _ _ _ h => h) (Or.inl ⟨by rfl, ?_⟩) ?_ ?_; rotate_left; (focus intro w'; go_simp; with_reducible rfl); rotate_left; (focus simp only [Act.put, pS]; rfl)
       refine py_ (a' := ?_) 8 23 ?_ mk9 HT_ rfl rfl (by kernel_rfl) (fun _ _ _ h => h) (Or.inl ⟨by rfl, ?_⟩) ?_ ?_; rotate_left; (focus intro w'; go_simp; with_reducible rfl); rotate_left; (focus simp only [Act.put, pS]; rfl)
       refine py_ (a' := ?_) 9 24 undef mk10 HT_ rfl rfl (by kernel_rfl) (fun _ _ _ h => h) (Or.inr ⟨by rfl, rfl⟩) ?_ ?_; rotate_left; (focus simp only [Act.put, pS]; rfl)
       refine py_ (a' := ?_) 10 25 undef mk11 HT_ rfl rfl (by kernel_rfl) (fun _ _ _ h => h) (Or.inr ⟨by rfl, rfl⟩) ?_ ?_; rotate_left; (focus simp only [Act.put, pS]; rfl)
       refine py_ (a' := ?_) 11 26 undef mk12 HT_ rfl rfl (by kernel_rfl) (fun _ _ _ h => h) (Or.inr ⟨by rfl, rfl⟩) ?_ ?_; rotate_left; (focus simp only [Act.put, pS]; rfl)
       refine py_ (a' := ?_) 12 27 undef mk13 HT_ rfl rfl (by kernel_rfl) (fun _ _ _ h => h) (Or.inr ⟨by rfl, rfl⟩) ?_ ?_; rotate_left; (focus simp only [Act.put, pS]; rfl)
       refine py_ (a' := ?_) 13 28 ?_ mk14 HT_ rfl rfl (by kernel_rfl) (fun _ _ _ h => h) (Or.inl ⟨by rfl, ?_⟩) ?_ ?_; rotate_left; (focus intro w'; go_simp; with_reducible rfl); rotate_left; (focus simp only [Act.put, pS]; rfl)
       refine py_ (a' := ?_) 14 29 ?_ mk15 HT_ rfl rfl (by kernel_rfl) (fun _ _ _ h => h) (Or.inl ⟨by rfl, ?_⟩) ?_ ?_; rotate_left; (focus intro w'; go_simp; with_reducible rfl); rotate_left; (focus simp only [Act.put, pS]; rfl)
       refine py_ (a' := ?_) 15 30 undef mk16 HT_ rfl rfl (by kernel_rfl) (fun _ _ _ h => h) (Or.inr ⟨by rfl, rfl⟩) ?_ ?_; rotate_left; (focus simp only [Act.put, pS]; rfl)
       refine py_ (a' := ?_) 16 31 undef mk17 HT_ rfl rfl (by kernel_rfl) (fun _ _ _ h => h) (Or.inr ⟨by rfl, rfl⟩) ?_ ?_; rotate_left; (focus simp only [Act.put, pS]; rfl)
       refine py_ (a' := ?_) 17 32 undef mk18 HT_ rfl rfl (by kernel_rfl) (fun _ _ _ h => h) (Or.inr ⟨by rfl, rfl⟩) ?_ ?_; rotate_left; (focus simp only [Act.put, pS]; rfl)
       refine py_ (a' := ?_) 18 33 undef mk19 HT_ rfl rfl (by kernel_rfl) (fun _ _ _ h => h) (Or.inr ⟨by rfl, rfl⟩) ?_ ?_; rotate_left; (focus simp only [Act.put, pS]; rfl)
       refine py_ (a' := ?_) 19 34 undef mk20 HT_ rfl rfl (by kernel_rfl) (fun _ _ _ h => h) (Or.inr ⟨by rfl, rfl⟩) ?_ ?_; rotate_left; (focus simp only [Act.put, pS]; rfl)
       refine py_ (a' := ?_) 20 35 undef mk21 HT_ rfl rfl (by kernel_rfl) (fun _ _ _ h => h) (Or.inr ⟨by rfl, rfl⟩) ?_ ?_; rotate_left; (focus simp only [Act.put, pS]; rfl)
       refine py_ (a' := ?_) 21 36 undef mk22 HT_ rfl rfl (by kernel_rfl) (fun _ _ _ h => h) (Or.inr ⟨by rfl, rfl⟩) ?_ ?_; rotate_left; (focus simp only [Act.put, pS]; rfl)
       refine py_ (a' := ?_) 22 37 undef mk23 HT_ rfl rfl (by kernel_rfl) (fun _ _ _ h => h) (Or.inr ⟨by rfl, rfl⟩) ?_ ?_; rotate_left; (focus simp only [Act.put, pS]; rfl)
       refine py_ (a' := ?_) 23 38 undef mk24 HT_ rfl rfl (by kernel_rfl) (fun _ _ _ h => h) (Or.inr ⟨by rfl, rfl⟩) ?_ ?_; rotate_left; (focus simp only [Act.put, pS]; rfl)
       refine py_ (a' := ?_) 24 39 undef mk25 HT_ rfl rfl (by kernel_rfl) (fun _ _ _ h => h) (Or.inr ⟨by rfl, rfl⟩) ?_ ?_; rotate_left; (focus simp only [Act.put, pS]; rfl)
       refine py_ (a' := ?_) 25 40 undef mk26 HT_ rfl rfl (by kernel_rfl) (fun _ _ _ h => h) (Or.inr ⟨by rfl, rfl⟩) ?_ ?_; rotate_left; (focus simp only [Act.put, pS]; rfl)
       refine py_ (a' := ?_) 26 41 undef mk27 HT_ rfl rfl (by kernel_rfl) (fun _ _ _ h => h) (Or.inr ⟨by rfl, rfl⟩) ?_ ?_; rotate_left; (focus simp only [Act.put, pS]; rfl)
       refine py_ (a' := ?_) 27 42 undef mk28 HT_ rfl rfl (by kernel_rfl) (fun _ _ _ h => h) (Or.inr ⟨by rfl, rfl⟩) ?_ ?_; rotate_left; (focus simp only [Act.put, pS]; rfl)
       refine py_ (a' := ?_) 28 43 ?_ mk29 HT_ rfl rfl (by kernel_rfl) (fun _ _ _ h => h) (Or.inl ⟨by rfl, ?_⟩) ?_ ?_; rotate_left; (focus intro w'; go_simp; with_reducible rfl); rotate_left; (focus simp only [Act.put, pS]; rfl)
       refine py_ (a' := ?_) 29 44 ?_ mk30 HT_ rfl rfl (by kernel_rfl) (fun _ _ _ h => h) (Or.inl ⟨by rfl, ?_⟩) ?_ ?_; rotate_left; (focus intro w'; go_simp; with_reducible rfl); rotate_left; (focus simp only [Act.put, pS]; rfl)
       refine py_ (a' := ?_) 30 45 undef mk31 HT_ rfl rfl (by kernel_rfl) (fun _ _ _ h => h) (Or.inr ⟨by rfl, rfl⟩) ?_ ?_; rotate_left; (focus simp only [Act.put, pS]; rfl)
       refine py_ (a' := ?_) 31 46 undef mk32 HT_ rfl rfl (by kernel_rfl) (fun _ _ _ h => h) (Or.inr ⟨by rfl, rfl⟩) ?_ ?_; rotate_left; (focus simp only [Act.put, pS]; rfl)
       refine py_ (a' := ?_) 32 47 undef mk33 HT_ rfl rfl (by kernel_rfl) (fun _ _ _ h => h) (Or.inr ⟨by rfl, rfl⟩) ?_ ?_; rotate_left; (focus simp only [Act.put, pS]; rfl)
       refine py_ (a' := ?_) 33 48 ?_ mk34 HT_ rfl rfl (by kernel_rfl) (fun _ _ _ h => h) (Or.inl ⟨by rfl, ?_⟩) ?_ ?_; rotate_left; (focus intro w'; go_simp; with_reducible rfl); rotate_left; (focus simp only [Act.put, pS]; rfl)
       refine py_ (a' := ?_) 34 49 ?_ mk35 HT_ rfl rfl (by kernel_rfl) (fun _ _ _ h => h) (Or.inl ⟨by rfl, ?_⟩) ?_ ?_; rotate_left; (focus intro w'; go_simp; with_reducible rfl); rotate_left; (focus simp only [Act.put, pS]; rfl)
       refine py_ (a' := ?_) 35 50 undef mk36 HT_ rfl rfl (by kernel_rfl) (fun _ _ _ h => h) (Or.inr ⟨by rfl, rfl⟩) ?_ ?_; rotate_left; (focus simp only [Act.put, pS]; rfl)
       refine py_ (a' := ?_) 36 51 undef mk37 HT_ rfl rfl (by kernel_rfl) (fun _ _ _ h => h) (Or.inr ⟨by rfl, rfl⟩) ?_ ?_; rotate_left; (focus simp only [Act.put, pS]; rfl)
       refine py_ (a' := ?_) 37 52 undef mk38 HT_ rfl rfl (by kernel_rfl) (fun _ _ _ h => h) (Or.inr ⟨by rfl, rfl⟩) ?_ ?_; rotate_left; (focus simp only [Act.put, pS]; rfl)
       refine py_ (a' := ?_) 38 53 ?_ mk39 HT_ rfl rfl (by kernel_rfl) (fun _ _ _ h => h) (Or.inl ⟨by rfl, ?_⟩) ?_ ?_; rotate_left; (focus intro w'; go_simp; with_reducible rfl); rotate_left; (focus simp only [Act.put, pS]; rfl)
       refine py_ (a' := ?_) 39 54 ?_ mk40 HT_ rfl rfl (by kernel_rfl) (fun _ _ _ h => h) (Or.inl ⟨by rfl, ?_⟩) ?_ ?_; rotate_left; (focus intro w'; go_simp; with_reducible rfl); rotate_left; (focus simp only [Act.put, pS]; rfl)
       refine py_ (a' := ?_) 40 55 undef mk41 HT_ rfl rfl (by kernel_rfl) (fun _ _ _ h => h) (Or.inr ⟨by rfl, rfl⟩) ?_ ?_; rotate_left; (focus simp only [Act.put, pS]; rfl)
       refine py_ (a' := ?_) 41 56 undef mk42 HT_ rfl rfl (by kernel_rfl) (fun _ _ _ h => h) (Or.inr ⟨by rfl, rfl⟩) ?_ ?_; rotate_left; (focus simp only [Act.put, pS]; rfl)
       refine py_ (a' := ?_) 42 57 undef mk43 HT_ rfl rfl (by kernel_rfl) (fun _ _ _ h => h) (Or.inr ⟨by rfl, rfl⟩) ?_ ?_; rotate_left; (focus simp only [Act.put, pS]; rfl)
       refine py_ (a' := ?_) 43 58 ?_ mk44 HT_ rfl rfl (by kernel_rfl) (fun _ _ _ h => h) (Or.inl ⟨by rfl, ?_⟩) ?_ ?_; rotate_left; (focus intro w'; go_simp; with_reducible rfl); rotate_left; (focus simp only [Act.put, pS]; rfl)
       refine py_ (a' := ?_) 44 59 ?_ mk45 HT_ rfl rfl (by kernel_rfl) (fun _ _ _ h => h) (Or.inl ⟨by rfl, ?_⟩) ?_ ?_; rotate_left; (focus intro w'; go_simp; with_reducible rfl); rotate_left; (focus simp only [Act.put, pS]; rfl)
       refine py_ (a' := ?_) 45 60 undef mk46 HT_ rfl rfl (by kernel_rfl) (fun _ _ _ h => h) (Or.inr ⟨by rfl, rfl⟩) ?_ ?_; rotate_left; (focus simp only [Act.put, pS]; rfl)
       refine py_ (a' := ?_) 46 61 undef mk47 HT_ rfl rfl (by kernel_rfl) (fun _ _ _ h => h) (Or.inr ⟨by rfl, rfl⟩) ?_ ?_; rotate_left; (focus simp only [Act.put, pS]; rfl)
       refine py_ (a' := ?_) 47 62 undef mk48 HT_ rfl rfl (by kernel_rfl) (fun _ _ _ h => h) (Or.inr ⟨by rfl, rfl⟩) ?_ ?_; rotate_left; (focus simp only [Act.put, pS]; rfl)
       refine py_ (a' := ?_) 48 63 ?_ mk49 HT_ rfl rfl (by kernel_rfl) (fun _ _ _ h => h) (Or.inl ⟨by rfl, ?_⟩) ?_ ?_; rotate_left; (focus intro w'; go_simp; with_reducible rfl); rotate_left; (focus simp only [Act.put, pS]; rfl)
       refine done_ (done_of HT_.out (by kernel_rfl)) ?_
       try go_wp2
       go_ret
       exact ⟨by first | rfl | (simp [errW_none, errW_some] <;> rfl) | (simp [*, errW_none, errW_some] <;> rfl), by repeat (first | (with_reducible first | exact HB.out | apply below_alloc | apply pw_below_drewN | apply below_drew1 | refine below_set ?_ GE266.out) | exact HB.out)⟩
      ·rw [if_neg c9] at H
       have c9b0 : decide (4 < ((rd_T41 l0 x3_1).f0)) = false := decide_eq_false c9
       clear c9
       replace H := Option.bind_eq_some_iff.mp H
       obtain ⟨t267, A140, H⟩ := H
       replace H : (if t267 = true then (if x3_1 > 0 then (if 0 ≤ (wrap64 (x3_1 - 1)) then (if (wrap64 (x3_1 - 1)) < (l0.length : Int) then (if ((Op.bytesLess (((rd_T41 l0 (wrap64 (x3_1 - 1))).f1).toList) (((rd_T41 l0 x3_1).f1).toList)) = true) then (if ((rd_T41 l0 x3_1).f2) < 0 then (some false) else (if ((rd_T41 l0 x3_1).f2) > 1073741824 then (some false) else (if ((rd_T41 l0 x3_1).f3) < 9 then (some false) else (if ((rd_T41 l0 x3_1).f3) > 8200 then (some false) else (souterrainref11_Right.l0 k1 l0 (wrap64 (x3_1 + 1))))))) else (some false)) else (none)) else (none)) else (if ((rd_T41 l0 x3_1).f2) < 0 then (some false) else (if ((rd_T41 l0 x3_1).f2) > 1073741824 then (some false) else (if ((rd_T41 l0 x3_1).f3) < 9 then (some false) else (if ((rd_T41 l0 x3_1).f3) > 8200 then (some false) else (souterrainref11_Right.l0 k1 l0 (wrap64 (x3_1 + 1)))))))) else (some false)) = some r := H
       have A14 := Aside0.mk A140
       clear A140
       by_cases c15 : t267 = true
       ·subst c15
        have H1 : (if x3_1 > 0 then (if 0 ≤ (wrap64 (x3_1 - 1)) then (if (wrap64 (x3_1 - 1)) < (l0.length : Int) then (if ((Op.bytesLess (((rd_T41 l0 (wrap64 (x3_1 - 1))).f1).toList) (((rd_T41 l0 x3_1).f1).toList)) = true) then (if ((rd_T41 l0 x3_1).f2) < 0 then (some false) else (if ((rd_T41 l0 x3_1).f2) > 1073741824 then (some false) else (if ((rd_T41 l0 x3_1).f3) < 9 then (some false) else (if ((rd_T41 l0 x3_1).f3) > 8200 then (some false) else (souterrainref11_Right.l0 k1 l0 (wrap64 (x3_1 + 1))))))) else (some false)) else (none)) else (none)) else (if ((rd_T41 l0 x3_1).f2) < 0 then (some false) else (if ((rd_T41 l0 x3_1).f2) > 1073741824 then (some false) else (if ((rd_T41 l0 x3_1).f3) < 9 then (some false) else (if ((rd_T41 l0 x3_1).f3) > 8200 then (some false) else (souterrainref11_Right.l0 k1 l0 (wrap64 (x3_1 + 1)))))))) = some r := by rw [if_pos rfl] at H; exact H
        clear H
        have H := H1
        clear H1
        by_cases c16 : x3_1 > 0
        ·rw [if_pos c16] at H
         have c16b0 : decide (0 < x3_1) = true := decide_eq_true c16
         clear c16
         obtain ⟨ji17, hji17⟩ : ∃ j_ : Int, (wrap64 (x3_1 - 1)) = j_ := ⟨_, rfl⟩
         replace H : (if 0 ≤ (ji17) then (if (ji17) < (l0.length : Int) then (if ((Op.bytesLess (((rd_T41 l0 (ji17)).f1).toList) (((rd_T41 l0 x3_1).f1).toList)) = true) then (if ((rd_T41 l0 x3_1).f2) < 0 then (some false) else (if ((rd_T41 l0 x3_1).f2) > 1073741824 then (some false) else (if ((rd_T41 l0 x3_1).f3) < 9 then (some false) else (if ((rd_T41 l0 x3_1).f3) > 8200 then (some false) else (souterrainref11_Right.l0 k1 l0 (wrap64 (x3_1 + 1))))))) else (some false)) else (none)) else (none)) = some r := by first | (rw [hji17] at H; exact H) | (simp only [hji17] at H ⊢; exact H)
         (try rw [hji17] at A14)
         have hji17w : (IntKind.i64.wrap (x3_1 - 1)) = ji17 := (i64_w _).trans hji17
         by_cases c18 : 0 ≤ (ji17)
         ·rw [if_pos c18] at H
          have c18b0 : decide (0 ≤ (ji17)) = true := decide_eq_true c18
          clear c18
          by_cases c19 : (ji17) < (l0.length : Int)
          ·rw [if_pos c19] at H
           have c19b0 : decide ((ji17) < (l0.length : Int)) = true := decide_eq_true c19
           clear c19
           by_cases c20 : ((Op.bytesLess (((rd_T41 l0 (ji17)).f1).toList) (((rd_T41 l0 x3_1).f1).toList)) = true)
           ·rw [if_pos c20] at H
            have c20b0 : (Op.bytesLess (((rd_T41 l0 (ji17)).f1).toList) (((rd_T41 l0 x3_1).f1).toList)) = true := c20
            clear c20
            by_cases c21 : ((rd_T41 l0 x3_1).f2) < 0
            ·rw [if_pos c21] at H
             have c21b0 : decide (((rd_T41 l0 x3_1).f2) < 0) = true := decide_eq_true c21
             clear c21
             obtain rfl := Option.some.inj H
             have n0_ := Aside0.mk (blk_drew BK266.out)
             have n1_ := Aside0.mk (below_drew1 HB.out)
             clear BK266
             clear HB
             have BK266 := n0_
             have HB := n1_
             clear n0_ n1_
             have p268 : 0 ≤ ((ji17) : Int) := of_decide_eq_true (by first | (with_reducible assumption) | assumption)
             have q268 : (ji17) < (l0.length : Int) := of_decide_eq_true (by first | (with_reducible assumption) | assumption)
             obtain ⟨ad268, e268, hx268_0, hx268_1, hx268_2, hx268_3⟩ := at_T41 HR0.out (ji17) p268 q268
             have hw268_3 := hx268_3
             have hw268_2 := hx268_2
             have hw268_1 := hx268_1
             have hw268_0 := hx268_0
             obtain rfl : ad265 = ad268 := (by injection e268)
             replace hx268_0 := (HB.out.cell (World.block_lt_of_cell? w _ hx268_0)).trans hx268_0
             replace hx268_1 := (HB.out.cell (World.block_lt_of_cell? w _ hx268_1)).trans hx268_1
             replace hx268_2 := (HB.out.cell (World.block_lt_of_cell? w _ hx268_2)).trans hx268_2
             replace hx268_3 := (HB.out.cell (World.block_lt_of_cell? w _ hx268_3)).trans hx268_3
             replace p268 := eq_true p268
             replace q268 := eq_true q268
             refine start_ (n := 49) (S := fun w' => w'.cell? ⟨gb266, 0, none⟩ = some (.int .i64 ((rd_T41 l0 x3_1).f0)) ∧ w'.cell? ⟨gb266, 1, none⟩ = some (.string ((rd_T41 l0 x3_1).f1)) ∧ w'.cell? ⟨gb266, 2, none⟩ = some (.int .i64 ((rd_T41 l0 x3_1).f2)) ∧ w'.cell? ⟨gb266, 3, none⟩ = some (.int .i64 ((rd_T41 l0 x3_1).f3)) ∧ w'.cell? (ad265.add (((ji17)).toNat * 4)) = some (.int .i64 ((rd_T41 l0 (ji17)).f0)) ∧ w'.cell? ⟨(ad265.add (((ji17)).toNat * 4)).block, (ad265.add (((ji17)).toNat * 4)).off + 1, none⟩ = some (.string ((rd_T41 l0 (ji17)).f1)) ∧ w'.cell? ⟨(ad265.add (((ji17)).toNat * 4)).block, (ad265.add (((ji17)).toNat * 4)).off + 2, none⟩ = some (.int .i64 ((rd_T41 l0 (ji17)).f2)) ∧ w'.cell? ⟨(ad265.add (((ji17)).toNat * 4)).block, (ad265.add (((ji17)).toNat * 4)).off + 3, none⟩ = some (.int .i64 ((rd_T41 l0 (ji17)).f3))) (ds := []) mk0 (by kernel_rfl) rfl rfl ⟨(blk_cell BK266.out 0).trans rfl, (blk_cell BK266.out 1).trans rfl, (blk_cell BK266.out 2).trans rfl, (blk_cell BK266.out 3).trans rfl, ((HB.out.cell (World.block_lt_of_cell? w _ hw268_0)).trans hw268_0), ((HB.out.cell (World.block_lt_of_cell? w _ hw268_1)).trans hw268_1), ((HB.out.cell (World.block_lt_of_cell? w _ hw268_2)).trans hw268_2), ((HB.out.cell (World.block_lt_of_cell? w _ hw268_3)).trans hw268_3)⟩ (fun hHeld => ?_); refine with_tabW souterrainref11_Right.tab5 souterrainref11_Right.bits5 (fun HT_ HW_ => ?_)
             generalize w7.drew = w25 at BK266 HB hx268_0 hx268_1 hx268_2 hx268_3 hHeld ⊢
             refine py_ (a' := ?_) 0 15 ?_ mk1 HT_ rfl rfl (by kernel_rfl) (fun _ _ _ h => h) (Or.inl ⟨by rfl, ?_⟩) ?_ ?_; rotate_left; (focus intro w'; go_simp; with_reducible rfl); rotate_left; (focus simp only [Act.put, pS]; rfl)
             refine take_ (i := 1) (N := some 16) (v := ?_) (a' := ?_) mk2 rfl rfl (take_ofW HT_.out HW_.out (by kernel_rfl)) (fun _ _ _ h => h) (Or.inl ⟨by rfl, ?_⟩) hHeld ?_ ?_; rotate_left; (focus rintro w' ⟨s0, s1, s2, s3, s4, s5, s6, s7⟩; go_simp; with_reducible rfl); rotate_left; (focus simp only [Act.put, pS]; rfl)
             refine py_ (a' := ?_) 2 17 ?_ mk3 HT_ rfl rfl (by kernel_rfl) (fun _ _ _ h => h) (Or.inl ⟨by rfl, ?_⟩) ?_ ?_; rotate_left; (focus intro w'; go_simp; with_reducible rfl); rotate_left; (focus simp only [Act.put, pS]; rfl)
             refine py_ (a' := ?_) 3 18 ?_ mk4 HT_ rfl rfl (by kernel_rfl) (fun _ _ _ h => h) (Or.inl ⟨by rfl, ?_⟩) ?_ ?_; rotate_left; (focus intro w'; go_simp; with_reducible rfl); rotate_left; (focus simp only [Act.put, pS]; rfl)
             refine py_ (a' := ?_) 4 19 ?_ mk5 HT_ rfl rfl (by kernel_rfl) (fun _ _ _ h => h) (Or.inl ⟨by rfl, ?_⟩) ?_ ?_; rotate_left; (focus intro w'; go_simp; with_reducible rfl); rotate_left; (focus simp only [Act.put, pS]; rfl)
             refine take_ (i := 5) (N := some 20) (v := ?_) (a' := ?_) mk6 rfl rfl (take_ofW HT_.out HW_.out (by kernel_rfl)) (fun _ _ _ h => h) (Or.inl ⟨by rfl, ?_⟩) hHeld ?_ ?_; rotate_left; (focus rintro w' ⟨s0, s1, s2, s3, s4, s5, s6, s7⟩; go_simp; with_reducible rfl); rotate_left; (focus simp only [Act.put, pS]; rfl)
             refine py_ (a' := ?_) 6 21 ?_ mk7 HT_ rfl rfl (by kernel_rfl) (fun _ _ _ h => h) (Or.inl ⟨by rfl, ?_⟩) ?_ ?_; rotate_left; (focus intro w'; go_simp; with_reducible rfl); rotate_left; (focus simp only [Act.put, pS]; rfl)
             refine py_ (a' := ?_) 7 22 ?_ mk8 HT_ rfl rfl (by kernel_rfl) (fun _ _ _ h => h) (Or.inl ⟨by rfl, ?_⟩) ?_ ?_; rotate_left; (focus intro w'; go_simp; with_reducible rfl); rotate_left; (focus simp only [Act.put, pS]; rfl)
             refine py_ (a' := ?_) 8 23 ?_ mk9 HT_ rfl rfl (by kernel_rfl) (fun _ _ _ h => h) (Or.inl ⟨by rfl, ?_⟩) ?_ ?_; rotate_left; (focus intro w'; go_simp; with_reducible rfl); rotate_left; (focus simp only [Act.put, pS]; rfl)
             refine py_ (a' := ?_) 9 24 ?_ mk10 HT_ rfl rfl (by kernel_rfl) (fun _ _ _ h => h) (Or.inl ⟨by rfl, ?_⟩) ?_ ?_; rotate_left; (focus intro w'; go_simp; with_reducible rfl); rotate_left; (focus simp only [Act.put, pS]; rfl)
             refine take_ (i := 10) (N := some 25) (v := ?_) (a' := ?_) mk11 rfl rfl (take_ofW HT_.out HW_.out (by kernel_rfl)) (fun _ _ _ h => h) (Or.inl ⟨by rfl, ?_⟩) hHeld ?_ ?_; rotate_left; (focus rintro w' ⟨s0, s1, s2, s3, s4, s5, s6, s7⟩; go_simp; with_reducible rfl); rotate_left; (focus simp only [Act.put, pS]; rfl)
             refine one_ (i := 11) (N := some 26) mk12 rfl rfl (one_of HT_.out (by kernel_rfl)) (by decide) (fun K hK => ?_)
             refine goes_ Try.func34 (by kernel_rfl) rfl #[.string ((rd_T41 l0 x3_1).f1)] (by rfl) rfl rfl (by (try simp only [List.map_toArray, List.map_cons, List.map_nil]); first | done | rfl | (simp only [List.length_drop, List.length_take]; rfl)) ?_
             with_reducible refine (souterrainref04_Key.calls ((rd_T41 l0 x3_1).f1) true _ A14.out).mono ?_
             rintro e w' ⟨rfl, ⟨nd, rfl⟩⟩
             refine ⟨_, rfl, ?_⟩
             refine hK.out _ _ ⟨(blk_cell BK266.out 0).trans rfl, (blk_cell BK266.out 1).trans rfl, (blk_cell BK266.out 2).trans rfl, (blk_cell BK266.out 3).trans rfl, ((HB.out.cell (World.block_lt_of_cell? w _ hw268_0)).trans hw268_0), ((HB.out.cell (World.block_lt_of_cell? w _ hw268_1)).trans hw268_1), ((HB.out.cell (World.block_lt_of_cell? w _ hw268_2)).trans hw268_2), ((HB.out.cell (World.block_lt_of_cell? w _ hw268_3)).trans hw268_3)⟩ (fun hHeld => ?_)
             clear hK K
             refine norm_ (a' := ?_) ?_ ?_
             rotate_left
             ·show Act.put _ (some 26) _ = _
              simp only [Act.put, pS]
              rfl
             refine py_ (a' := ?_) 12 27 ?_ mk13 HT_ rfl rfl (by kernel_rfl) (fun _ _ _ h => h) (Or.inl ⟨by rfl, ?_⟩) ?_ ?_; rotate_left; (focus intro w'; go_simp; with_reducible rfl); rotate_left; (focus simp only [Act.put, pS]; rfl)
             refine py_ (a' := ?_) 13 28 ?_ mk14 HT_ rfl rfl (by kernel_rfl) (fun _ _ _ h => h) (Or.inl ⟨by rfl, ?_⟩) ?_ ?_; rotate_left; (focus intro w'; go_simp; with_reducible rfl); rotate_left; (focus simp only [Act.put, pS]; rfl)
             refine py_ (a' := ?_) 14 29 ?_ mk15 HT_ rfl rfl (by kernel_rfl) (fun _ _ _ h => h) (Or.inl ⟨by rfl, ?_⟩) ?_ ?_; rotate_left; (focus intro w'; go_simp; with_reducible rfl); rotate_left; (focus simp only [Act.put, pS]; rfl)
             refine py_ (a' := ?_) 15 30 ?_ mk16 HT_ rfl rfl (by kernel_rfl) (fun _ _ _ h => h) (Or.inl ⟨by rfl, ?_⟩) ?_ ?_; rotate_left; (focus intro w'; go_simp; with_reducible rfl); rotate_left; (focus simp only [Act.put, pS]; rfl)
             refine py_ (a' := ?_) 16 31 ?_ mk17 HT_ rfl rfl (by kernel_rfl) (fun _ _ _ h => h) (Or.inl ⟨by rfl, ?_⟩) ?_ ?_; rotate_left; (focus intro w'; go_simp; with_reducible rfl); rotate_left; (focus simp only [Act.put, pS]; rfl)
             refine py_ (a' := ?_) 17 32 ?_ mk18 HT_ rfl rfl (by kernel_rfl) (fun _ _ _ h => h) (Or.inl ⟨by rfl, ?_⟩) ?_ ?_; rotate_left; (focus intro w'; go_simp; with_reducible rfl); rotate_left; (focus simp only [Act.put, pS]; rfl)
             refine py_ (a' := ?_) 18 33 ?_ mk19 HT_ rfl rfl (by kernel_rfl) (fun _ _ _ h => h) (Or.inl ⟨by rfl, ?_⟩) ?_ ?_; rotate_left; (focus intro w'; go_simp; with_reducible rfl); rotate_left; (focus simp only [Act.put, pS]; rfl)
             refine py_ (a' := ?_) 20 35 ?_ mk50 HT_ rfl rfl (by kernel_rfl) (fun _ _ _ h => h) (Or.inl ⟨by rfl, ?_⟩) ?_ ?_; rotate_left; (focus intro w'; go_simp; with_reducible rfl); rotate_left; (focus simp only [Act.put, pS]; rfl)
             refine py_ (a' := ?_) 21 36 ?_ mk51 HT_ rfl rfl (by kernel_rfl) (fun _ _ _ h => h) (Or.inl ⟨by rfl, ?_⟩) ?_ ?_; rotate_left; (focus intro w'; go_simp; with_reducible rfl); rotate_left; (focus simp only [Act.put, pS]; rfl)
             refine py_ (a' := ?_) 22 37 ?_ mk52 HT_ rfl rfl (by kernel_rfl) (fun _ _ _ h => h) (Or.inl ⟨by rfl, ?_⟩) ?_ ?_; rotate_left; (focus intro w'; go_simp; with_reducible rfl); rotate_left; (focus simp only [Act.put, pS]; rfl)
             refine py_ (a' := ?_) 23 38 ?_ mk53 HT_ rfl rfl (by kernel_rfl) (fun _ _ _ h => h) (Or.inl ⟨by rfl, ?_⟩) ?_ ?_; rotate_left; (focus intro w'; go_simp; with_reducible rfl); rotate_left; (focus simp only [Act.put, pS]; rfl)
             refine py_ (a' := ?_) 24 39 ?_ mk54 HT_ rfl rfl (by kernel_rfl) (fun _ _ _ h => h) (Or.inl ⟨by rfl, ?_⟩) ?_ ?_; rotate_left; (focus intro w'; go_simp; with_reducible rfl); rotate_left; (focus simp only [Act.put, pS]; rfl)
             refine take_ (i := 19) (N := some 34) (v := ?_) (a' := ?_) mk25 rfl rfl (take_ofW HT_.out HW_.out (by kernel_rfl)) (fun _ _ _ h => h) (Or.inl ⟨by rfl, ?_⟩) hHeld ?_ ?_; rotate_left; (focus rintro w' ⟨s0, s1, s2, s3, s4, s5, s6, s7⟩; go_simp; with_reducible rfl); rotate_left; (focus simp only [Act.put, pS]; rfl)
             refine take_ (i := 25) (N := some 40) (v := ?_) (a' := ?_) mk26 rfl rfl (take_ofW HT_.out HW_.out (by kernel_rfl)) (fun _ _ _ h => h) (Or.inl ⟨by rfl, ?_⟩) hHeld ?_ ?_; rotate_left; (focus rintro w' ⟨s0, s1, s2, s3, s4, s5, s6, s7⟩; go_simp; with_reducible rfl); rotate_left; (focus simp only [Act.put, pS]; rfl)
             refine py_ (a' := ?_) 26 41 ?_ mk27 HT_ rfl rfl (by kernel_rfl) (fun _ _ _ h => h) (Or.inl ⟨by rfl, ?_⟩) ?_ ?_; rotate_left; (focus intro w'; go_simp; with_reducible rfl); rotate_left; (focus simp only [Act.put, pS]; rfl)
             refine py_ (a' := ?_) 27 42 ?_ mk28 HT_ rfl rfl (by kernel_rfl) (fun _ _ _ h => h) (Or.inl ⟨by rfl, ?_⟩) ?_ ?_; rotate_left; (focus intro w'; go_simp; with_reducible rfl); rotate_left; (focus simp only [Act.put, pS]; rfl)
             refine py_ (a' := ?_) 28 43 ?_ mk29 HT_ rfl rfl (by kernel_rfl) (fun _ _ _ h => h) (Or.inl ⟨by rfl, ?_⟩) ?_ ?_; rotate_left; (focus intro w'; go_simp; with_reducible rfl); rotate_left; (focus simp only [Act.put, pS]; rfl)
             refine py_ (a' := ?_) 29 44 ?_ mk30 HT_ rfl rfl (by kernel_rfl) (fun _ _ _ h => h) (Or.inl ⟨by rfl, ?_⟩) ?_ ?_; rotate_left; (focus intro w'; go_simp; with_reducible rfl); rotate_left; (focus simp only [Act.put, pS]; rfl)
             refine py_ (a' := ?_) 30 45 ?_ mk31 HT_ rfl rfl (by kernel_rfl) (fun _ _ _ h => h) (Or.inl ⟨by rfl, ?_⟩) ?_ ?_; rotate_left; (focus intro w'; go_simp; with_reducible rfl); rotate_left; (focus simp only [Act.put, pS]; rfl)
             refine take_ (i := 31) (N := some 46) (v := ?_) (a' := ?_) mk32 rfl rfl (take_ofW HT_.out HW_.out (by kernel_rfl)) (fun _ _ _ h => h) (Or.inl ⟨by rfl, ?_⟩) hHeld ?_ ?_; rotate_left; (focus rintro w' ⟨s0, s1, s2, s3, s4, s5, s6, s7⟩; go_simp; with_reducible rfl); rotate_left; (focus simp only [Act.put, pS]; rfl)
             refine py_ (a' := ?_) 32 47 ?_ mk33 HT_ rfl rfl (by kernel_rfl) (fun _ _ _ h => h) (Or.inl ⟨by rfl, ?_⟩) ?_ ?_; rotate_left; (focus intro w'; go_simp; with_reducible rfl); rotate_left; (focus simp only [Act.put, pS]; rfl)
             refine py_ (a' := ?_) 33 48 ?_ mk34 HT_ rfl rfl (by kernel_rfl) (fun _ _ _ h => h) (Or.inl ⟨by rfl, ?_⟩) ?_ ?_; rotate_left; (focus intro w'; go_simp; with_reducible rfl); rotate_left; (focus simp only [Act.put, pS]; rfl)
             refine py_ (a' := ?_) 34 49 ?_ mk35 HT_ rfl rfl (by kernel_rfl) (fun _ _ _ h => h) (Or.inl ⟨by rfl, ?_⟩) ?_ ?_; rotate_left; (focus intro w'; go_simp; with_reducible rfl); rotate_left; (focus simp only [Act.put, pS]; rfl)
             refine py_ (a' := ?_) 35 50 undef mk36 HT_ rfl rfl (by kernel_rfl) (fun _ _ _ h => h) (Or.inr ⟨by rfl, rfl⟩) ?_ ?_; rotate_left; (focus simp only [Act.put, pS]; rfl)
             refine py_ (a' := ?_) 36 51 undef mk37 HT_ rfl rfl (by kernel_rfl) (fun _ _ _ h => h) (Or.inr ⟨by rfl, rfl⟩) ?_ ?_; rotate_left; (focus simp only [Act.put, pS]; rfl)
             refine py_ (a' := ?_) 37 52 undef mk38 HT_ rfl rfl (by kernel_rfl) (fun _ _ _ h => h) (Or.inr ⟨by rfl, rfl⟩) ?_ ?_; rotate_left; (focus simp only [Act.put, pS]; rfl)
             refine py_ (a' := ?_) 38 53 ?_ mk39 HT_ rfl rfl (by kernel_rfl) (fun _ _ _ h => h) (Or.inl ⟨by rfl, ?_⟩) ?_ ?_; rotate_left; (focus intro w'; go_simp; with_reducible rfl); rotate_left; (focus simp only [Act.put, pS]; rfl)
             refine py_ (a' := ?_) 39 54 ?_ mk40 HT_ rfl rfl (by kernel_rfl) (fun _ _ _ h => h) (Or.inl ⟨by rfl, ?_⟩) ?_ ?_; rotate_left; (focus intro w'; go_simp; with_reducible rfl); rotate_left; (focus simp only [Act.put, pS]; rfl)
             refine py_ (a' := ?_) 40 55 undef mk41 HT_ rfl rfl (by kernel_rfl) (fun _ _ _ h => h) (Or.inr ⟨by rfl, rfl⟩) ?_ ?_; rotate_left; (focus simp only [Act.put, pS]; rfl)
             refine py_ (a' := ?_) 41 56 undef mk42 HT_ rfl rfl (by kernel_rfl) (fun _ _ _ h => h) (Or.inr ⟨by rfl, rfl⟩) ?_ ?_; rotate_left; (focus simp only [Act.put, pS]; rfl)
             refine py_ (a' := ?_) 42 57 undef mk43 HT_ rfl rfl (by kernel_rfl) (fun _ _ _ h => h) (Or.inr ⟨by rfl, rfl⟩) ?_ ?_; rotate_left; (focus simp only [Act.put, pS]; rfl)
             refine py_ (a' := ?_) 43 58 ?_ mk44 HT_ rfl rfl (by kernel_rfl) (fun _ _ _ h => h) (Or.inl ⟨by rfl, ?_⟩) ?_ ?_; rotate_left; (focus intro w'; go_simp; with_reducible rfl); rotate_left; (focus simp only [Act.put, pS]; rfl)
             refine py_ (a' := ?_) 44 59 ?_ mk45 HT_ rfl rfl (by kernel_rfl) (fun _ _ _ h => h) (Or.inl ⟨by rfl, ?_⟩) ?_ ?_; rotate_left; (focus intro w'; go_simp; with_reducible rfl); rotate_left; (focus simp only [Act.put, pS]; rfl)
             refine py_ (a' := ?_) 45 60 undef mk46 HT_ rfl rfl (by kernel_rfl) (fun _ _ _ h => h) (Or.inr ⟨by rfl, rfl⟩) ?_ ?_; rotate_left; (focus simp only [Act.put, pS]; rfl)
             refine py_ (a' := ?_) 46 61 undef mk47 HT_ rfl rfl (by kernel_rfl) (fun _ _ _ h => h) (Or.inr ⟨by rfl, rfl⟩) ?_ ?_; rotate_left; (focus simp only [Act.put, pS]; rfl)
             refine py_ (a' := ?_) 47 62 undef mk48 HT_ rfl rfl (by kernel_rfl) (fun _ _ _ h => h) (Or.inr ⟨by rfl, rfl⟩) ?_ ?_; rotate_left; (focus simp only [Act.put, pS]; rfl)
             refine py_ (a' := ?_) 48 63 ?_ mk49 HT_ rfl rfl (by kernel_rfl) (fun _ _ _ h => h) (Or.inl ⟨by rfl, ?_⟩) ?_ ?_; rotate_left; (focus intro w'; go_simp; with_reducible rfl); rotate_left; (focus simp only [Act.put, pS]; rfl)
             refine done_ (done_of HT_.out (by kernel_rfl)) ?_
             try go_wp2
             go_ret
             exact ⟨by first | rfl | (simp [errW_none, errW_some] <;> rfl) | (simp only [← hji17]; first | rfl | (simp [errW_none, errW_some] <;> rfl)) | (simp [*, errW_none, errW_some] <;> rfl), by repeat (first | (with_reducible first | exact HB.out | apply below_alloc | apply pw_below_drewN | apply below_drew1 | refine below_set ?_ GE266.out) | exact HB.out)⟩
            ·rw [if_neg c21] at H
             have c21b0 : decide (((rd_T41 l0 x3_1).f2) < 0) = false := decide_eq_false c21
             clear c21
             by_cases c26 : ((rd_T41 l0 x3_1).f2) > 1073741824
             ·rw [if_pos c26] at H
              have c26b0 : decide (1073741824 < ((rd_T41 l0 x3_1).f2)) = true := decide_eq_true c26
              clear c26
              obtain rfl := Option.some.inj H
              have n0_ := Aside0.mk (blk_drew BK266.out)
              have n1_ := Aside0.mk (below_drew1 HB.out)
              clear BK266
              clear HB
              have BK266 := n0_
              have HB := n1_
              clear n0_ n1_
              have p268 : 0 ≤ ((ji17) : Int) := of_decide_eq_true (by first | (with_reducible assumption) | assumption)
              have q268 : (ji17) < (l0.length : Int) := of_decide_eq_true (by first | (with_reducible assumption) | assumption)
              obtain ⟨ad268, e268, hx268_0, hx268_1, hx268_2, hx268_3⟩ := at_T41 HR0.out (ji17) p268 q268
              have hw268_3 := hx268_3
              have hw268_2 := hx268_2
              have hw268_1 := hx268_1
              have hw268_0 := hx268_0
              obtain rfl : ad265 = ad268 := (by injection e268)
              replace hx268_0 := (HB.out.cell (World.block_lt_of_cell? w _ hx268_0)).trans hx268_0
              replace hx268_1 := (HB.out.cell (World.block_lt_of_cell? w _ hx268_1)).trans hx268_1
              replace hx268_2 := (HB.out.cell (World.block_lt_of_cell? w _ hx268_2)).trans hx268_2
              replace hx268_3 := (HB.out.cell (World.block_lt_of_cell? w _ hx268_3)).trans hx268_3
              replace p268 := eq_true p268
              replace q268 := eq_true q268
              refine start_ (n := 49) (S := fun w' => w'.cell? ⟨gb266, 0, none⟩ = some (.int .i64 ((rd_T41 l0 x3_1).f0)) ∧ w'.cell? ⟨gb266, 1, none⟩ = some (.string ((rd_T41 l0 x3_1).f1)) ∧ w'.cell? ⟨gb266, 2, none⟩ = some (.int .i64 ((rd_T41 l0 x3_1).f2)) ∧ w'.cell? ⟨gb266, 3, none⟩ = some (.int .i64 ((rd_T41 l0 x3_1).f3)) ∧ w'.cell? (ad265.add (((ji17)).toNat * 4)) = some (.int .i64 ((rd_T41 l0 (ji17)).f0)) ∧ w'.cell? ⟨(ad265.add (((ji17)).toNat * 4)).block, (ad265.add (((ji17)).toNat * 4)).off + 1, none⟩ = some (.string ((rd_T41 l0 (ji17)).f1)) ∧ w'.cell? ⟨(ad265.add (((ji17)).toNat * 4)).block, (ad265.add (((ji17)).toNat * 4)).off + 2, none⟩ = some (.int .i64 ((rd_T41 l0 (ji17)).f2)) ∧ w'.cell? ⟨(ad265.add (((ji17)).toNat * 4)).block, (ad265.add (((ji17)).toNat * 4)).off + 3, none⟩ = some (.int .i64 ((rd_T41 l0 (ji17)).f3))) (ds := []) mk0 (by kernel_rfl) rfl rfl ⟨(blk_cell BK266.out 0).trans rfl, (blk_cell BK266.out 1).trans rfl, (blk_cell BK266.out 2).trans rfl, (blk_cell BK266.out 3).trans rfl, ((HB.out.cell (World.block_lt_of_cell? w _ hw268_0)).trans hw268_0), ((HB.out.cell (World.block_lt_of_cell? w _ hw268_1)).trans hw268_1), ((HB.out.cell (World.block_lt_of_cell? w _ hw268_2)).trans hw268_2), ((HB.out.cell (World.block_lt_of_cell? w _ hw268_3)).trans hw268_3)⟩ (fun hHeld => ?_); refine with_tabW souterrainref11_Right.tab5 souterrainref11_Right.bits5 (fun HT_ HW_ => ?_)
              generalize w7.drew = w30 at BK266 HB hx268_0 hx268_1 hx268_2 hx268_3 hHeld ⊢
              refine py_ (a' := ?_) 0 15 ?_ mk1 HT_ rfl rfl (by kernel_rfl) (fun _ _ _ h => h) (Or.inl ⟨by rfl, ?_⟩) ?_ ?_; rotate_left; (focus intro w'; go_simp; with_reducible rfl); rotate_left; (focus simp only [Act.put, pS]; rfl)
              refine take_ (i := 1) (N := some 16) (v := ?_) (a' := ?_) mk2 rfl rfl (take_ofW HT_.out HW_.out (by kernel_rfl)) (fun _ _ _ h => h) (Or.inl ⟨by rfl, ?_⟩) hHeld ?_ ?_; rotate_left; (focus rintro w' ⟨s0, s1, s2, s3, s4, s5, s6, s7⟩; go_simp; with_reducible rfl); rotate_left; (focus simp only [Act.put, pS]; rfl)
              refine py_ (a' := ?_) 2 17 ?_ mk3 HT_ rfl rfl (by kernel_rfl) (fun _ _ _ h => h) (Or.inl ⟨by rfl, ?_⟩) ?_ ?_; rotate_left; (focus intro w'; go_simp; with_reducible rfl); rotate_left; (focus simp only [Act.put, pS]; rfl)
              refine py_ (a' := ?_) 3 18 ?_ mk4 HT_ rfl rfl (by kernel_rfl) (fun _ _ _ h => h) (Or.inl ⟨by rfl, ?_⟩) ?_ ?_; rotate_left; (focus intro w'; go_simp; with_reducible rfl); rotate_left; (focus simp only [Act.put, pS]; rfl)
              refine py_ (a' := ?_) 4 19 ?_ mk5 HT_ rfl rfl (by kernel_rfl) (fun _ _ _ h => h) (Or.inl ⟨by rfl, ?_⟩) ?_ ?_; rotate_left; (focus intro w'; go_simp; with_reducible rfl); rotate_left; (focus simp only [Act.put, pS]; rfl)
              refine take_ (i := 5) (N := some 20) (v := ?_) (a' := ?_) mk6 rfl rfl (take_ofW HT_.out HW_.out (by kernel_rfl)) (fun _ _ _ h => h) (Or.inl ⟨by rfl, ?_⟩) hHeld ?_ ?_; rotate_left; (focus rintro w' ⟨s0, s1, s2, s3, s4, s5, s6, s7⟩; go_simp; with_reducible rfl); rotate_left; (focus simp only [Act.put, pS]; rfl)
              refine py_ (a' := ?_) 6 21 ?_ mk7 HT_ rfl rfl (by kernel_rfl) (fun _ _ _ h => h) (Or.inl ⟨by rfl, ?_⟩) ?_ ?_; rotate_left; (focus intro w'; go_simp; with_reducible rfl); rotate_left; (focus simp only [Act.put, pS]; rfl)
              refine py_ (a' := ?_) 7 22 ?_ mk8 HT_ rfl rfl (by kernel_rfl) (fun _ _ _ h => h) (Or.inl ⟨by rfl, ?_⟩) ?_ ?_; rotate_left; (focus intro w'; go_simp; with_reducible rfl); rotate_left; (focus simp only [Act.put, pS]; rfl)
              refine py_ (a' := ?_) 8 23 ?_ mk9 HT_ rfl rfl (by kernel_rfl) (fun _ _ _ h => h) (Or.inl ⟨by rfl, ?_⟩) ?_ ?_; rotate_left; (focus intro w'; go_simp; with_reducible rfl); rotate_left; (focus simp only [Act.put, pS]; rfl)
              refine py_ (a' := ?_) 9 24 ?_ mk10 HT_ rfl rfl (by kernel_rfl) (fun _ _ _ h => h) (Or.inl ⟨by rfl, ?_⟩) ?_ ?_; rotate_left; (focus intro w'; go_simp; with_reducible rfl); rotate_left; (focus simp only [Act.put, pS]; rfl)
              refine take_ (i := 10) (N := some 25) (v := ?_) (a' := ?_) mk11 rfl rfl (take_ofW HT_.out HW_.out (by kernel_rfl)) (fun _ _ _ h => h) (Or.inl ⟨by rfl, ?_⟩) hHeld ?_ ?_; rotate_left; (focus rintro w' ⟨s0, s1, s2, s3, s4, s5, s6, s7⟩; go_simp; with_reducible rfl); rotate_left; (focus simp only [Act.put, pS]; rfl)
              refine one_ (i := 11) (N := some 26) mk12 rfl rfl (one_of HT_.out (by kernel_rfl)) (by decide) (fun K hK => ?_)
              refine goes_ Try.func34 (by kernel_rfl) rfl #[.string ((rd_T41 l0 x3_1).f1)] (by rfl) rfl rfl (by (try simp only [List.map_toArray, List.map_cons, List.map_nil]); first | done | rfl | (simp only [List.length_drop, List.length_take]; rfl)) ?_
              with_reducible refine (souterrainref04_Key.calls ((rd_T41 l0 x3_1).f1) true _ A14.out).mono ?_
              rintro e w' ⟨rfl, ⟨nd, rfl⟩⟩
              refine ⟨_, rfl, ?_⟩
              refine hK.out _ _ ⟨(blk_cell BK266.out 0).trans rfl, (blk_cell BK266.out 1).trans rfl, (blk_cell BK266.out 2).trans rfl, (blk_cell BK266.out 3).trans rfl, ((HB.out.cell (World.block_lt_of_cell? w _ hw268_0)).trans hw268_0), ((HB.out.cell (World.block_lt_of_cell? w _ hw268_1)).trans hw268_1), ((HB.out.cell (World.block_lt_of_cell? w _ hw268_2)).trans hw268_2), ((HB.out.cell (World.block_lt_of_cell? w _ hw268_3)).trans hw268_3)⟩ (fun hHeld => ?_)
              clear hK K
              refine norm_ (a' := ?_) ?_ ?_
              rotate_left
              ·show Act.put _ (some 26) _ = _
               simp only [Act.put, pS]
               rfl
              refine py_ (a' := ?_) 12 27 ?_ mk13 HT_ rfl rfl (by kernel_rfl) (fun _ _ _ h => h) (Or.inl ⟨by rfl, ?_⟩) ?_ ?_; rotate_left; (focus intro w'; go_simp; with_reducible rfl); rotate_left; (focus simp only [Act.put, pS]; rfl)
              refine py_ (a' := ?_) 13 28 ?_ mk14 HT_ rfl rfl (by kernel_rfl) (fun _ _ _ h => h) (Or.inl ⟨by rfl, ?_⟩) ?_ ?_; rotate_left; (focus intro w'; go_simp; with_reducible rfl); rotate_left; (focus simp only [Act.put, pS]; rfl)
              refine py_ (a' := ?_) 14 29 ?_ mk15 HT_ rfl rfl (by kernel_rfl) (fun _ _ _ h => h) (Or.inl ⟨by rfl, ?_⟩) ?_ ?_; rotate_left; (focus intro w'; go_simp; with_reducible rfl); rotate_left; (focus simp only [Act.put, pS]; rfl)
              refine py_ (a' := ?_) 15 30 ?_ mk16 HT_ rfl rfl (by kernel_rfl) (fun _ _ _ h => h) (Or.inl ⟨by rfl, ?_⟩) ?_ ?_; rotate_left; (focus intro w'; go_simp; with_reducible rfl); rotate_left; (focus simp only [Act.put, pS]; rfl)
              refine py_ (a' := ?_) 16 31 ?_ mk17 HT_ rfl rfl (by kernel_rfl) (fun _ _ _ h => h) (Or.inl ⟨by rfl, ?_⟩) ?_ ?_; rotate_left; (focus intro w'; go_simp; with_reducible rfl); rotate_left; (focus simp only [Act.put, pS]; rfl)
              refine py_ (a' := ?_) 17 32 ?_ mk18 HT_ rfl rfl (by kernel_rfl) (fun _ _ _ h => h) (Or.inl ⟨by rfl, ?_⟩) ?_ ?_; rotate_left; (focus intro w'; go_simp; with_reducible rfl); rotate_left; (focus simp only [Act.put, pS]; rfl)
              refine py_ (a' := ?_) 18 33 ?_ mk19 HT_ rfl rfl (by kernel_rfl) (fun _ _ _ h => h) (Or.inl ⟨by rfl, ?_⟩) ?_ ?_; rotate_left; (focus intro w'; go_simp; with_reducible rfl); rotate_left; (focus simp only [Act.put, pS]; rfl)
              refine py_ (a' := ?_) 20 35 ?_ mk50 HT_ rfl rfl (by kernel_rfl) (fun _ _ _ h => h) (Or.inl ⟨by rfl, ?_⟩) ?_ ?_; rotate_left; (focus intro w'; go_simp; with_reducible rfl); rotate_left; (focus simp only [Act.put, pS]; rfl)
              refine py_ (a' := ?_) 21 36 ?_ mk51 HT_ rfl rfl (by kernel_rfl) (fun _ _ _ h => h) (Or.inl ⟨by rfl, ?_⟩) ?_ ?_; rotate_left; (focus intro w'; go_simp; with_reducible rfl); rotate_left; (focus simp only [Act.put, pS]; rfl)
              refine py_ (a' := ?_) 22 37 ?_ mk52 HT_ rfl rfl (by kernel_rfl) (fun _ _ _ h => h) (Or.inl ⟨by rfl, ?_⟩) ?_ ?_; rotate_left; (focus intro w'; go_simp; with_reducible rfl); rotate_left; (focus simp only [Act.put, pS]; rfl)
              refine py_ (a' := ?_) 23 38 ?_ mk53 HT_ rfl rfl (by kernel_rfl) (fun _ _ _ h => h) (Or.inl ⟨by rfl, ?_⟩) ?_ ?_; rotate_left; (focus intro w'; go_simp; with_reducible rfl); rotate_left; (focus simp only [Act.put, pS]; rfl)
              refine py_ (a' := ?_) 24 39 ?_ mk54 HT_ rfl rfl (by kernel_rfl) (fun _ _ _ h => h) (Or.inl ⟨by rfl, ?_⟩) ?_ ?_; rotate_left; (focus intro w'; go_simp; with_reducible rfl); rotate_left; (focus simp only [Act.put, pS]; rfl)
              refine take_ (i := 19) (N := some 34) (v := ?_) (a' := ?_) mk25 rfl rfl (take_ofW HT_.out HW_.out (by kernel_rfl)) (fun _ _ _ h => h) (Or.inl ⟨by rfl, ?_⟩) hHeld ?_ ?_; rotate_left; (focus rintro w' ⟨s0, s1, s2, s3, s4, s5, s6, s7⟩; go_simp; with_reducible rfl); rotate_left; (focus simp only [Act.put, pS]; rfl)
              refine take_ (i := 25) (N := some 40) (v := ?_) (a' := ?_) mk26 rfl rfl (take_ofW HT_.out HW_.out (by kernel_rfl)) (fun _ _ _ h => h) (Or.inl ⟨by rfl, ?_⟩) hHeld ?_ ?_; rotate_left; (focus rintro w' ⟨s0, s1, s2, s3, s4, s5, s6, s7⟩; go_simp; with_reducible rfl); rotate_left; (focus simp only [Act.put, pS]; rfl)
              refine py_ (a' := ?_) 26 41 ?_ mk27 HT_ rfl rfl (by kernel_rfl) (fun _ _ _ h => h) (Or.inl ⟨by rfl, ?_⟩) ?_ ?_; rotate_left; (focus intro w'; go_simp; with_reducible rfl); rotate_left; (focus simp only [Act.put, pS]; rfl)
              refine py_ (a' := ?_) 27 42 ?_ mk28 HT_ rfl rfl (by kernel_rfl) (fun _ _ _ h => h) (Or.inl ⟨by rfl, ?_⟩) ?_ ?_; rotate_left; (focus intro w'; go_simp; with_reducible rfl); rotate_left; (focus simp only [Act.put, pS]; rfl)
              refine py_ (a' := ?_) 28 43 ?_ mk29 HT_ rfl rfl (by kernel_rfl) (fun _ _ _ h => h) (Or.inl ⟨by rfl, ?_⟩) ?_ ?_; rotate_left; (focus intro w'; go_simp; with_reducible rfl); rotate_left; (focus simp only [Act.put, pS]; rfl)
              refine py_ (a' := ?_) 29 44 ?_ mk30 HT_ rfl rfl (by kernel_rfl) (fun _ _ _ h => h) (Or.inl ⟨by rfl, ?_⟩) ?_ ?_; rotate_left; (focus intro w'; go_simp; with_reducible rfl); rotate_left; (focus simp only [Act.put, pS]; rfl)
              refine py_ (a' := ?_) 30 45 ?_ mk31 HT_ rfl rfl (by kernel_rfl) (fun _ _ _ h => h) (Or.inl ⟨by rfl, ?_⟩) ?_ ?_; rotate_left; (focus intro w'; go_simp; with_reducible rfl); rotate_left; (focus simp only [Act.put, pS]; rfl)
              refine take_ (i := 31) (N := some 46) (v := ?_) (a' := ?_) mk32 rfl rfl (take_ofW HT_.out HW_.out (by kernel_rfl)) (fun _ _ _ h => h) (Or.inl ⟨by rfl, ?_⟩) hHeld ?_ ?_; rotate_left; (focus rintro w' ⟨s0, s1, s2, s3, s4, s5, s6, s7⟩; go_simp; with_reducible rfl); rotate_left; (focus simp only [Act.put, pS]; rfl)
              refine py_ (a' := ?_) 32 47 ?_ mk33 HT_ rfl rfl (by kernel_rfl) (fun _ _ _ h => h) (Or.inl ⟨by rfl, ?_⟩) ?_ ?_; rotate_left; (focus intro w'; go_simp; with_reducible rfl); rotate_left; (focus simp only [Act.put, pS]; rfl)
              refine py_ (a' := ?_) 33 48 ?_ mk34 HT_ rfl rfl (by kernel_rfl) (fun _ _ _ h => h) (Or.inl ⟨by rfl, ?_⟩) ?_ ?_; rotate_left; (focus intro w'; go_simp; with_reducible rfl); rotate_left; (focus simp only [Act.put, pS]; rfl)
              refine py_ (a' := ?_) 34 49 ?_ mk35 HT_ rfl rfl (by kernel_rfl) (fun _ _ _ h => h) (Or.inl ⟨by rfl, ?_⟩) ?_ ?_; rotate_left; (focus intro w'; go_simp; with_reducible rfl); rotate_left; (focus simp only [Act.put, pS]; rfl)
              refine py_ (a' := ?_) 35 50 ?_ mk36 HT_ rfl rfl (by kernel_rfl) (fun _ _ _ h => h) (Or.inl ⟨by rfl, ?_⟩) ?_ ?_; rotate_left; (focus intro w'; go_simp; with_reducible rfl); rotate_left; (focus simp only [Act.put, pS]; rfl)
              refine take_ (i := 36) (N := some 51) (v := ?_) (a' := ?_) mk37 rfl rfl (take_ofW HT_.out HW_.out (by kernel_rfl)) (fun _ _ _ h => h) (Or.inl ⟨by rfl, ?_⟩) hHeld ?_ ?_; rotate_left; (focus rintro w' ⟨s0, s1, s2, s3, s4, s5, s6, s7⟩; go_simp; with_reducible rfl); rotate_left; (focus simp only [Act.put, pS]; rfl)
              refine py_ (a' := ?_) 37 52 ?_ mk38 HT_ rfl rfl (by kernel_rfl) (fun _ _ _ h => h) (Or.inl ⟨by rfl, ?_⟩) ?_ ?_; rotate_left; (focus intro w'; go_simp; with_reducible rfl); rotate_left; (focus simp only [Act.put, pS]; rfl)
              refine py_ (a' := ?_) 38 53 ?_ mk39 HT_ rfl rfl (by kernel_rfl) (fun _ _ _ h => h) (Or.inl ⟨by rfl, ?_⟩) ?_ ?_; rotate_left; (focus intro w'; go_simp; with_reducible rfl); rotate_left; (focus simp only [Act.put, pS]; rfl)
              refine py_ (a' := ?_) 39 54 ?_ mk40 HT_ rfl rfl (by kernel_rfl) (fun _ _ _ h => h) (Or.inl ⟨by rfl, ?_⟩) ?_ ?_; rotate_left; (focus intro w'; go_simp; with_reducible rfl); rotate_left; (focus simp only [Act.put, pS]; rfl)
              refine py_ (a' := ?_) 40 55 undef mk41 HT_ rfl rfl (by kernel_rfl) (fun _ _ _ h => h) (Or.inr ⟨by rfl, rfl⟩) ?_ ?_; rotate_left; (focus simp only [Act.put, pS]; rfl)
              refine py_ (a' := ?_) 41 56 undef mk42 HT_ rfl rfl (by kernel_rfl) (fun _ _ _ h => h) (Or.inr ⟨by rfl, rfl⟩) ?_ ?_; rotate_left; (focus simp only [Act.put, pS]; rfl)
              refine py_ (a' := ?_) 42 57 undef mk43 HT_ rfl rfl (by kernel_rfl) (fun _ _ _ h => h) (Or.inr ⟨by rfl, rfl⟩) ?_ ?_; rotate_left; (focus simp only [Act.put, pS]; rfl)
              refine py_ (a' := ?_) 43 58 ?_ mk44 HT_ rfl rfl (by kernel_rfl) (fun _ _ _ h => h) (Or.inl ⟨by rfl, ?_⟩) ?_ ?_; rotate_left; (focus intro w'; go_simp; with_reducible rfl); rotate_left; (focus simp only [Act.put, pS]; rfl)
              refine py_ (a' := ?_) 44 59 ?_ mk45 HT_ rfl rfl (by kernel_rfl) (fun _ _ _ h => h) (Or.inl ⟨by rfl, ?_⟩) ?_ ?_; rotate_left; (focus intro w'; go_simp; with_reducible rfl); rotate_left; (focus simp only [Act.put, pS]; rfl)
              refine py_ (a' := ?_) 45 60 undef mk46 HT_ rfl rfl (by kernel_rfl) (fun _ _ _ h => h) (Or.inr ⟨by rfl, rfl⟩) ?_ ?_; rotate_left; (focus simp only [Act.put, pS]; rfl)
              refine py_ (a' := ?_) 46 61 undef mk47 HT_ rfl rfl (by kernel_rfl) (fun _ _ _ h => h) (Or.inr ⟨by rfl, rfl⟩) ?_ ?_; rotate_left; (focus simp only [Act.put, pS]; rfl)
              refine py_ (a' := ?_) 47 62 undef mk48 HT_ rfl rfl (by kernel_rfl) (fun _ _ _ h => h) (Or.inr ⟨by rfl, rfl⟩) ?_ ?_; rotate_left; (focus simp only [Act.put, pS]; rfl)
              refine py_ (a' := ?_) 48 63 ?_ mk49 HT_ rfl rfl (by kernel_rfl) (fun _ _ _ h => h) (Or.inl ⟨by rfl, ?_⟩) ?_ ?_; rotate_left; (focus intro w'; go_simp; with_reducible rfl); rotate_left; (focus simp only [Act.put, pS]; rfl)
              refine done_ (done_of HT_.out (by kernel_rfl)) ?_
              try go_wp2
              go_ret
              exact ⟨by first | rfl | (simp [errW_none, errW_some] <;> rfl) | (simp only [← hji17]; first | rfl | (simp [errW_none, errW_some] <;> rfl)) | (simp [*, errW_none, errW_some] <;> rfl), by repeat (first | (with_reducible first | exact HB.out | apply below_alloc | apply pw_below_drewN | apply below_drew1 | refine below_set ?_ GE266.out) | exact HB.out)⟩
             ·rw [if_neg c26] at H
              have c26b0 : decide (1073741824 < ((rd_T41 l0 x3_1).f2)) = false := decide_eq_false c26
              clear c26
              by_cases c31 : ((rd_T41 l0 x3_1).f3) < 9
              ·rw [if_pos c31] at H
               have c31b0 : decide (((rd_T41 l0 x3_1).f3) < 9) = true := decide_eq_true c31
               clear c31
               obtain rfl := Option.some.inj H
               have n0_ := Aside0.mk (blk_drew BK266.out)
               have n1_ := Aside0.mk (below_drew1 HB.out)
               clear BK266
               clear HB
               have BK266 := n0_
               have HB := n1_
               clear n0_ n1_
               have p268 : 0 ≤ ((ji17) : Int) := of_decide_eq_true (by first | (with_reducible assumption) | assumption)
               have q268 : (ji17) < (l0.length : Int) := of_decide_eq_true (by first | (with_reducible assumption) | assumption)
               obtain ⟨ad268, e268, hx268_0, hx268_1, hx268_2, hx268_3⟩ := at_T41 HR0.out (ji17) p268 q268
               have hw268_3 := hx268_3
               have hw268_2 := hx268_2
               have hw268_1 := hx268_1
               have hw268_0 := hx268_0
               obtain rfl : ad265 = ad268 := (by injection e268)
               replace hx268_0 := (HB.out.cell (World.block_lt_of_cell? w _ hx268_0)).trans hx268_0
               replace hx268_1 := (HB.out.cell (World.block_lt_of_cell? w _ hx268_1)).trans hx268_1
               replace hx268_2 := (HB.out.cell (World.block_lt_of_cell? w _ hx268_2)).trans hx268_2
               replace hx268_3 := (HB.out.cell (World.block_lt_of_cell? w _ hx268_3)).trans hx268_3
               replace p268 := eq_true p268
               replace q268 := eq_true q268
               refine start_ (n := 49) (S := fun w' => w'.cell? ⟨gb266, 0, none⟩ = some (.int .i64 ((rd_T41 l0 x3_1).f0)) ∧ w'.cell? ⟨gb266, 1, none⟩ = some (.string ((rd_T41 l0 x3_1).f1)) ∧ w'.cell? ⟨gb266, 2, none⟩ = some (.int .i64 ((rd_T41 l0 x3_1).f2)) ∧ w'.cell? ⟨gb266, 3, none⟩ = some (.int .i64 ((rd_T41 l0 x3_1).f3)) ∧ w'.cell? (ad265.add (((ji17)).toNat * 4)) = some (.int .i64 ((rd_T41 l0 (ji17)).f0)) ∧ w'.cell? ⟨(ad265.add (((ji17)).toNat * 4)).block, (ad265.add (((ji17)).toNat * 4)).off + 1, none⟩ = some (.string ((rd_T41 l0 (ji17)).f1)) ∧ w'.cell? ⟨(ad265.add (((ji17)).toNat * 4)).block, (ad265.add (((ji17)).toNat * 4)).off + 2, none⟩ = some (.int .i64 ((rd_T41 l0 (ji17)).f2)) ∧ w'.cell? ⟨(ad265.add (((ji17)).toNat * 4)).block, (ad265.add (((ji17)).toNat * 4)).off + 3, none⟩ = some (.int .i64 ((rd_T41 l0 (ji17)).f3))) (ds := []) mk0 (by kernel_rfl) rfl rfl ⟨(blk_cell BK266.out 0).trans rfl, (blk_cell BK266.out 1).trans rfl, (blk_cell BK266.out 2).trans rfl, (blk_cell BK266.out 3).trans rfl, ((HB.out.cell (World.block_lt_of_cell? w _ hw268_0)).trans hw268_0), ((HB.out.cell (World.block_lt_of_cell? w _ hw268_1)).trans hw268_1), ((HB.out.cell (World.block_lt_of_cell? w _ hw268_2)).trans hw268_2), ((HB.out.cell (World.block_lt_of_cell? w _ hw268_3)).trans hw268_3)⟩ (fun hHeld => ?_); refine with_tabW souterrainref11_Right.tab5 souterrainref11_Right.bits5 (fun HT_ HW_ => ?_)
               generalize w7.drew = w35 at BK266 HB hx268_0 hx268_1 hx268_2 hx268_3 hHeld ⊢
               refine py_ (a' := ?_) 0 15 ?_ mk1 HT_ rfl rfl (by kernel_rfl) (fun _ _ _ h => h) (Or.inl ⟨by rfl, ?_⟩) ?_ ?_; rotate_left; (focus intro w'; go_simp; with_reducible rfl); rotate_left; (focus simp only [Act.put, pS]; rfl)
               refine take_ (i := 1) (N := some 16) (v := ?_) (a' := ?_) mk2 rfl rfl (take_ofW HT_.out HW_.out (by kernel_rfl)) (fun _ _ _ h => h) (Or.inl ⟨by rfl, ?_⟩) hHeld ?_ ?_; rotate_left; (focus rintro w' ⟨s0, s1, s2, s3, s4, s5, s6, s7⟩; go_simp; with_reducible rfl); rotate_left; (focus simp only [Act.put, pS]; rfl)
               refine py_ (a' := ?_) 2 17 ?_ mk3 HT_ rfl rfl (by kernel_rfl) (fun _ _ _ h => h) (Or.inl ⟨by rfl, ?_⟩) ?_ ?_; rotate_left; (focus intro w'; go_simp; with_reducible rfl); rotate_left; (focus simp only [Act.put, pS]; rfl)
               refine py_ (a' := ?_) 3 18 ?_ mk4 HT_ rfl rfl (by kernel_rfl) (fun _ _ _ h => h) (Or.inl ⟨by rfl, ?_⟩) ?_ ?_; rotate_left; (focus intro w'; go_simp; with_reducible rfl); rotate_left; (focus simp only [Act.put, pS]; rfl)
               refine py_ (a' := ?_) 4 19 ?_ mk5 HT_ rfl rfl (by kernel_rfl) (fun _ _ _ h => h) (Or.inl ⟨by rfl, ?_⟩) ?_ ?_; rotate_left; (focus intro w'; go_simp; with_reducible rfl); rotate_left; (focus simp only [Act.put, pS]; rfl)
               refine take_ (i := 5) (N := some 20) (v := ?_) (a' := ?_) mk6 rfl rfl (take_ofW HT_.out HW_.out (by kernel_rfl)) (fun _ _ _ h => h) (Or.inl ⟨by rfl, ?_⟩) hHeld ?_ ?_; rotate_left; (focus rintro w' ⟨s0, s1, s2, s3, s4, s5, s6, s7⟩; go_simp; with_reducible rfl); rotate_left; (focus simp only [Act.put, pS]; rfl)
               refine py_ (a' := ?_) 6 21 ?_ mk7 HT_ rfl rfl (by kernel_rfl) (fun _ _ _ h => h) (Or.inl ⟨by rfl, ?_⟩) ?_ ?_; rotate_left; (focus intro w'; go_simp; with_reducible rfl); rotate_left; (focus simp only [Act.put, pS]; rfl)
               refine py_ (a' := ?_) 7 22 ?_ mk8 HT_ rfl rfl (by kernel_rfl) (fun _ _ _ h => h) (Or.inl ⟨by rfl, ?_⟩) ?_ ?_; rotate_left; (focus intro w'; go_simp; with_reducible rfl); rotate_left; (focus simp only [Act.put, pS]; rfl)
               refine py_ (a' := ?_) 8 23 ?_ mk9 HT_ rfl rfl (by kernel_rfl) (fun _ _ _ h => h) (Or.inl ⟨by rfl, ?_⟩) ?_ ?_; rotate_left; (focus intro w'; go_simp; with_reducible rfl); rotate_left; (focus simp only [Act.put, pS]; rfl)
               refine py_ (a' := ?_) 9 24 ?_ mk10 HT_ rfl rfl (by kernel_rfl) (fun _ _ _ h => h) (Or.inl ⟨by rfl, ?_⟩) ?_ ?_; rotate_left; (focus intro w'; go_simp; with_reducible rfl); rotate_left; (focus simp only [Act.put, pS]; rfl)
               refine take_ (i := 10) (N := some 25) (v := ?_) (a' := ?_) mk11 rfl rfl (take_ofW HT_.out HW_.out (by kernel_rfl)) (fun _ _ _ h => h) (Or.inl ⟨by rfl, ?_⟩) hHeld ?_ ?_; rotate_left; (focus rintro w' ⟨s0, s1, s2, s3, s4, s5, s6, s7⟩; go_simp; with_reducible rfl); rotate_left; (focus simp only [Act.put, pS]; rfl)
               refine one_ (i := 11) (N := some 26) mk12 rfl rfl (one_of HT_.out (by kernel_rfl)) (by decide) (fun K hK => ?_)
               refine goes_ Try.func34 (by kernel_rfl) rfl #[.string ((rd_T41 l0 x3_1).f1)] (by rfl) rfl rfl (by (try simp only [List.map_toArray, List.map_cons, List.map_nil]); first | done | rfl | (simp only [List.length_drop, List.length_take]; rfl)) ?_
               with_reducible refine (souterrainref04_Key.calls ((rd_T41 l0 x3_1).f1) true _ A14.out).mono ?_
               rintro e w' ⟨rfl, ⟨nd, rfl⟩⟩
               refine ⟨_, rfl, ?_⟩
               refine hK.out _ _ ⟨(blk_cell BK266.out 0).trans rfl, (blk_cell BK266.out 1).trans rfl, (blk_cell BK266.out 2).trans rfl, (blk_cell BK266.out 3).trans rfl, ((HB.out.cell (World.block_lt_of_cell? w _ hw268_0)).trans hw268_0), ((HB.out.cell (World.block_lt_of_cell? w _ hw268_1)).trans hw268_1), ((HB.out.cell (World.block_lt_of_cell? w _ hw268_2)).trans hw268_2), ((HB.out.cell (World.block_lt_of_cell? w _ hw268_3)).trans hw268_3)⟩ (fun hHeld => ?_)
               clear hK K
               refine norm_ (a' := ?_) ?_ ?_
               rotate_left
               ·show Act.put _ (some 26) _ = _
                simp only [Act.put, pS]
                rfl
               refine py_ (a' := ?_) 12 27 ?_ mk13 HT_ rfl rfl (by kernel_rfl) (fun _ _ _ h => h) (Or.inl ⟨by rfl, ?_⟩) ?_ ?_; rotate_left; (focus intro w'; go_simp; with_reducible rfl); rotate_left; (focus simp only [Act.put, pS]; rfl)
               refine py_ (a' := ?_) 13 28 ?_ mk14 HT_ rfl rfl (by kernel_rfl) (fun _ _ _ h => h) (Or.inl ⟨by rfl, ?_⟩) ?_ ?_; rotate_left; (focus intro w'; go_simp; with_reducible rfl); rotate_left; (focus simp only [Act.put, pS]; rfl)
               refine py_ (a' := ?_) 14 29 ?_ mk15 HT_ rfl rfl (by kernel_rfl) (fun _ _ _ h => h) (Or.inl ⟨by rfl, ?_⟩) ?_ ?_; rotate_left; (focus intro w'; go_simp; with_reducible rfl); rotate_left; (focus simp only [Act.put, pS]; rfl)
               refine py_ (a' := ?_) 15 30 ?_ mk16 HT_ rfl rfl (by kernel_rfl) (fun _ _ _ h => h) (Or.inl ⟨by rfl, ?_⟩) ?_ ?_; rotate_left; (focus intro w'; go_simp; with_reducible rfl); rotate_left; (focus simp only [Act.put, pS]; rfl)
               refine py_ (a' := ?_) 16 31 ?_ mk17 HT_ rfl rfl (by kernel_rfl) (fun _ _ _ h => h) (Or.inl ⟨by rfl, ?_⟩) ?_ ?_; rotate_left; (focus intro w'; go_simp; with_reducible rfl); rotate_left; (focus simp only [Act.put, pS]; rfl)
               refine py_ (a' := ?_) 17 32 ?_ mk18 HT_ rfl rfl (by kernel_rfl) (fun _ _ _ h => h) (Or.inl ⟨by rfl, ?_⟩) ?_ ?_; rotate_left; (focus intro w'; go_simp; with_reducible rfl); rotate_left; (focus simp only [Act.put, pS]; rfl)
               refine py_ (a' := ?_) 18 33 ?_ mk19 HT_ rfl rfl (by kernel_rfl) (fun _ _ _ h => h) (Or.inl ⟨by rfl, ?_⟩) ?_ ?_; rotate_left; (focus intro w'; go_simp; with_reducible rfl); rotate_left; (focus simp only [Act.put, pS]; rfl)
               refine py_ (a' := ?_) 20 35 ?_ mk50 HT_ rfl rfl (by kernel_rfl) (fun _ _ _ h => h) (Or.inl ⟨by rfl, ?_⟩) ?_ ?_; rotate_left; (focus intro w'; go_simp; with_reducible rfl); rotate_left; (focus simp only [Act.put, pS]; rfl)
               refine py_ (a' := ?_) 21 36 ?_ mk51 HT_ rfl rfl (by kernel_rfl) (fun _ _ _ h => h) (Or.inl ⟨by rfl, ?_⟩) ?_ ?_; rotate_left; (focus intro w'; go_simp; with_reducible rfl); rotate_left; (focus simp only [Act.put, pS]; rfl)
               refine py_ (a' := ?_) 22 37 ?_ mk52 HT_ rfl rfl (by kernel_rfl) (fun _ _ _ h => h) (Or.inl ⟨by rfl, ?_⟩) ?_ ?_; rotate_left; (focus intro w'; go_simp; with_reducible rfl); rotate_left; (focus simp only [Act.put, pS]; rfl)
               refine py_ (a' := ?_) 23 38 ?_ mk53 HT_ rfl rfl (by kernel_rfl) (fun _ _ _ h => h) (Or.inl ⟨by rfl, ?_⟩) ?_ ?_; rotate_left; (focus intro w'; go_simp; with_reducible rfl); rotate_left; (focus simp only [Act.put, pS]; rfl)
               refine py_ (a' := ?_) 24 39 ?_ mk54 HT_ rfl rfl (by kernel_rfl) (fun _ _ _ h => h) (Or.inl ⟨by rfl, ?_⟩) ?_ ?_; rotate_left; (focus intro w'; go_simp; with_reducible rfl); rotate_left; (focus simp only [Act.put, pS]; rfl)
               refine take_ (i := 19) (N := some 34) (v := ?_) (a' := ?_) mk25 rfl rfl (take_ofW HT_.out HW_.out (by kernel_rfl)) (fun _ _ _ h => h) (Or.inl ⟨by rfl, ?_⟩) hHeld ?_ ?_; rotate_left; (focus rintro w' ⟨s0, s1, s2, s3, s4, s5, s6, s7⟩; go_simp; with_reducible rfl); rotate_left; (focus simp only [Act.put, pS]; rfl)
               refine take_ (i := 25) (N := some 40) (v := ?_) (a' := ?_) mk26 rfl rfl (take_ofW HT_.out HW_.out (by kernel_rfl)) (fun _ _ _ h => h) (Or.inl ⟨by rfl, ?_⟩) hHeld ?_ ?_; rotate_left; (focus rintro w' ⟨s0, s1, s2, s3, s4, s5, s6, s7⟩; go_simp; with_reducible rfl); rotate_left; (focus simp only [Act.put, pS]; rfl)
               refine py_ (a' := ?_) 26 41 ?_ mk27 HT_ rfl rfl (by kernel_rfl) (fun _ _ _ h => h) (Or.inl ⟨by rfl, ?_⟩) ?_ ?_; rotate_left; (focus intro w'; go_simp; with_reducible rfl); rotate_left; (focus simp only [Act.put, pS]; rfl)
               refine py_ (a' := ?_) 27 42 ?_ mk28 HT_ rfl rfl (by kernel_rfl) (fun _ _ _ h => h) (Or.inl ⟨by rfl, ?_⟩) ?_ ?_; rotate_left; (focus intro w'; go_simp; with_reducible rfl); rotate_left; (focus simp only [Act.put, pS]; rfl)
               refine py_ (a' := ?_) 28 43 ?_ mk29 HT_ rfl rfl (by kernel_rfl) (fun _ _ _ h => h) (Or.inl ⟨by rfl, ?_⟩) ?_ ?_; rotate_left; (focus intro w'; go_simp; with_reducible rfl); rotate_left; (focus simp only [Act.put, pS]; rfl)
               refine py_ (a' := ?_) 29 44 ?_ mk30 HT_ rfl rfl (by kernel_rfl) (fun _ _ _ h => h) (Or.inl ⟨by rfl, ?_⟩) ?_ ?_; rotate_left; (focus intro w'; go_simp; with_reducible rfl); rotate_left; (focus simp only [Act.put, pS]; rfl)
               refine py_ (a' := ?_) 30 45 ?_ mk31 HT_ rfl rfl (by kernel_rfl) (fun _ _ _ h => h) (Or.inl ⟨by rfl, ?_⟩) ?_ ?_; rotate_left; (focus intro w'; go_simp; with_reducible rfl); rotate_left; (focus simp only [Act.put, pS]; rfl)
               refine take_ (i := 31) (N := some 46) (v := ?_) (a' := ?_) mk32 rfl rfl (take_ofW HT_.out HW_.out (by kernel_rfl)) (fun _ _ _ h => h) (Or.inl ⟨by rfl, ?_⟩) hHeld ?_ ?_; rotate_left; (focus rintro w' ⟨s0, s1, s2, s3, s4, s5, s6, s7⟩; go_simp; with_reducible rfl); rotate_left; (focus simp only [Act.put, pS]; rfl)
               refine py_ (a' := ?_) 32 47 ?_ mk33 HT_ rfl rfl (by kernel_rfl) (fun _ _ _ h => h) (Or.inl ⟨by rfl, ?_⟩) ?_ ?_; rotate_left; (focus intro w'; go_simp; with_reducible rfl); rotate_left; (focus simp only [Act.put, pS]; rfl)
               refine py_ (a' := ?_) 33 48 ?_ mk34 HT_ rfl rfl (by kernel_rfl) (fun _ _ _ h => h) (Or.inl ⟨by rfl, ?_⟩) ?_ ?_; rotate_left; (focus intro w'; go_simp; with_reducible rfl); rotate_left; (focus simp only [Act.put, pS]; rfl)
               refine py_ (a' := ?_) 34 49 ?_ mk35 HT_ rfl rfl (by kernel_rfl) (fun _ _ _ h => h) (Or.inl ⟨by rfl, ?_⟩) ?_ ?_; rotate_left; (focus intro w'; go_simp; with_reducible rfl); rotate_left; (focus simp only [Act.put, pS]; rfl)
               refine py_ (a' := ?_) 35 50 ?_ mk36 HT_ rfl rfl (by kernel_rfl) (fun _ _ _ h => h) (Or.inl ⟨by rfl, ?_⟩) ?_ ?_; rotate_left; (focus intro w'; go_simp; with_reducible rfl); rotate_left; (focus simp only [Act.put, pS]; rfl)
               refine take_ (i := 36) (N := some 51) (v := ?_) (a' := ?_) mk37 rfl rfl (take_ofW HT_.out HW_.out (by kernel_rfl)) (fun _ _ _ h => h) (Or.inl ⟨by rfl, ?_⟩) hHeld ?_ ?_; rotate_left; (focus rintro w' ⟨s0, s1, s2, s3, s4, s5, s6, s7⟩; go_simp; with_reducible rfl); rotate_left; (focus simp only [Act.put, pS]; rfl)
               refine py_ (a' := ?_) 37 52 ?_ mk38 HT_ rfl rfl (by kernel_rfl) (fun _ _ _ h => h) (Or.inl ⟨by rfl, ?_⟩) ?_ ?_; rotate_left; (focus intro w'; go_simp; with_reducible rfl); rotate_left; (focus simp only [Act.put, pS]; rfl)
               refine py_ (a' := ?_) 38 53 ?_ mk39 HT_ rfl rfl (by kernel_rfl) (fun _ _ _ h => h) (Or.inl ⟨by rfl, ?_⟩) ?_ ?_; rotate_left; (focus intro w'; go_simp; with_reducible rfl); rotate_left; (focus simp only [Act.put, pS]; rfl)
               refine py_ (a' := ?_) 39 54 ?_ mk40 HT_ rfl rfl (by kernel_rfl) (fun _ _ _ h => h) (Or.inl ⟨by rfl, ?_⟩) ?_ ?_; rotate_left; (focus intro w'; go_simp; with_reducible rfl); rotate_left; (focus simp only [Act.put, pS]; rfl)
               refine py_ (a' := ?_) 40 55 ?_ mk41 HT_ rfl rfl (by kernel_rfl) (fun _ _ _ h => h) (Or.inl ⟨by rfl, ?_⟩) ?_ ?_; rotate_left; (focus intro w'; go_simp; with_reducible rfl); rotate_left; (focus simp only [Act.put, pS]; rfl)
               refine take_ (i := 41) (N := some 56) (v := ?_) (a' := ?_) mk42 rfl rfl (take_ofW HT_.out HW_.out (by kernel_rfl)) (fun _ _ _ h => h) (Or.inl ⟨by rfl, ?_⟩) hHeld ?_ ?_; rotate_left; (focus rintro w' ⟨s0, s1, s2, s3, s4, s5, s6, s7⟩; go_simp; with_reducible rfl); rotate_left; (focus simp only [Act.put, pS]; rfl)
               refine py_ (a' := ?_) 42 57 ?_ mk43 HT_ rfl rfl (by kernel_rfl) (fun _ _ _ h => h) (Or.inl ⟨by rfl, ?_⟩) ?_ ?_; rotate_left; (focus intro w'; go_simp; with_reducible rfl); rotate_left; (focus simp only [Act.put, pS]; rfl)
               refine py_ (a' := ?_) 43 58 ?_ mk44 HT_ rfl rfl (by kernel_rfl) (fun _ _ _ h => h) (Or.inl ⟨by rfl, ?_⟩) ?_ ?_; rotate_left; (focus intro w'; go_simp; with_reducible rfl); rotate_left; (focus simp only [Act.put, pS]; rfl)
               refine py_ (a' := ?_) 44 59 ?_ mk45 HT_ rfl rfl (by kernel_rfl) (fun _ _ _ h => h) (Or.inl ⟨by rfl, ?_⟩) ?_ ?_; rotate_left; (focus intro w'; go_simp; with_reducible rfl); rotate_left; (focus simp only [Act.put, pS]; rfl)
               refine py_ (a' := ?_) 45 60 undef mk46 HT_ rfl rfl (by kernel_rfl) (fun _ _ _ h => h) (Or.inr ⟨by rfl, rfl⟩) ?_ ?_; rotate_left; (focus simp only [Act.put, pS]; rfl)
               refine py_ (a' := ?_) 46 61 undef mk47 HT_ rfl rfl (by kernel_rfl) (fun _ _ _ h => h) (Or.inr ⟨by rfl, rfl⟩) ?_ ?_; rotate_left; (focus simp only [Act.put, pS]; rfl)
               refine py_ (a' := ?_) 47 62 undef mk48 HT_ rfl rfl (by kernel_rfl) (fun _ _ _ h => h) (Or.inr ⟨by rfl, rfl⟩) ?_ ?_; rotate_left; (focus simp only [Act.put, pS]; rfl)
               refine py_ (a' := ?_) 48 63 ?_ mk49 HT_ rfl rfl (by kernel_rfl) (fun _ _ _ h => h) (Or.inl ⟨by rfl, ?_⟩) ?_ ?_; rotate_left; (focus intro w'; go_simp; with_reducible rfl); rotate_left; (focus simp only [Act.put, pS]; rfl)
               refine done_ (done_of HT_.out (by kernel_rfl)) ?_
               try go_wp2
               go_ret
               exact ⟨by first | rfl | (simp [errW_none, errW_some] <;> rfl) | (simp only [← hji17]; first | rfl | (simp [errW_none, errW_some] <;> rfl)) | (simp [*, errW_none, errW_some] <;> rfl), by repeat (first | (with_reducible first | exact HB.out | apply below_alloc | apply pw_below_drewN | apply below_drew1 | refine below_set ?_ GE266.out) | exact HB.out)⟩
              ·rw [if_neg c31] at H
               have c31b0 : decide (((rd_T41 l0 x3_1).f3) < 9) = false := decide_eq_false c31
               clear c31
               by_cases c36 : ((rd_T41 l0 x3_1).f3) > 8200
               ·rw [if_pos c36] at H
                have c36b0 : decide (8200 < ((rd_T41 l0 x3_1).f3)) = true := decide_eq_true c36
                clear c36
                obtain rfl := Option.some.inj H
                have n0_ := Aside0.mk (blk_drew BK266.out)
                have n1_ := Aside0.mk (below_drew1 HB.out)
                clear BK266
                clear HB
                have BK266 := n0_
                have HB := n1_
                clear n0_ n1_
                have p268 : 0 ≤ ((ji17) : Int) := of_decide_eq_true (by first | (with_reducible assumption) | assumption)
                have q268 : (ji17) < (l0.length : Int) := of_decide_eq_true (by first | (with_reducible assumption) | assumption)
                obtain ⟨ad268, e268, hx268_0, hx268_1, hx268_2, hx268_3⟩ := at_T41 HR0.out (ji17) p268 q268
                have hw268_3 := hx268_3
                have hw268_2 := hx268_2
                have hw268_1 := hx268_1
                have hw268_0 := hx268_0
                obtain rfl : ad265 = ad268 := (by injection e268)
                replace hx268_0 := (HB.out.cell (World.block_lt_of_cell? w _ hx268_0)).trans hx268_0
                replace hx268_1 := (HB.out.cell (World.block_lt_of_cell? w _ hx268_1)).trans hx268_1
                replace hx268_2 := (HB.out.cell (World.block_lt_of_cell? w _ hx268_2)).trans hx268_2
                replace hx268_3 := (HB.out.cell (World.block_lt_of_cell? w _ hx268_3)).trans hx268_3
                replace p268 := eq_true p268
                replace q268 := eq_true q268
                refine start_ (n := 49) (S := fun w' => w'.cell? ⟨gb266, 0, none⟩ = some (.int .i64 ((rd_T41 l0 x3_1).f0)) ∧ w'.cell? ⟨gb266, 1, none⟩ = some (.string ((rd_T41 l0 x3_1).f1)) ∧ w'.cell? ⟨gb266, 2, none⟩ = some (.int .i64 ((rd_T41 l0 x3_1).f2)) ∧ w'.cell? ⟨gb266, 3, none⟩ = some (.int .i64 ((rd_T41 l0 x3_1).f3)) ∧ w'.cell? (ad265.add (((ji17)).toNat * 4)) = some (.int .i64 ((rd_T41 l0 (ji17)).f0)) ∧ w'.cell? ⟨(ad265.add (((ji17)).toNat * 4)).block, (ad265.add (((ji17)).toNat * 4)).off + 1, none⟩ = some (.string ((rd_T41 l0 (ji17)).f1)) ∧ w'.cell? ⟨(ad265.add (((ji17)).toNat * 4)).block, (ad265.add (((ji17)).toNat * 4)).off + 2, none⟩ = some (.int .i64 ((rd_T41 l0 (ji17)).f2)) ∧ w'.cell? ⟨(ad265.add (((ji17)).toNat * 4)).block, (ad265.add (((ji17)).toNat * 4)).off + 3, none⟩ = some (.int .i64 ((rd_T41 l0 (ji17)).f3))) (ds := []) mk0 (by kernel_rfl) rfl rfl ⟨(blk_cell BK266.out 0).trans rfl, (blk_cell BK266.out 1).trans rfl, (blk_cell BK266.out 2).trans rfl, (blk_cell BK266.out 3).trans rfl, ((HB.out.cell (World.block_lt_of_cell? w _ hw268_0)).trans hw268_0), ((HB.out.cell (World.block_lt_of_cell? w _ hw268_1)).trans hw268_1), ((HB.out.cell (World.block_lt_of_cell? w _ hw268_2)).trans hw268_2), ((HB.out.cell (World.block_lt_of_cell? w _ hw268_3)).trans hw268_3)⟩ (fun hHeld => ?_); refine with_tabW souterrainref11_Right.tab5 souterrainref11_Right.bits5 (fun HT_ HW_ => ?_)
                generalize w7.drew = w40 at BK266 HB hx268_0 hx268_1 hx268_2 hx268_3 hHeld ⊢
                refine py_ (a' := ?_) 0 15 ?_ mk1 HT_ rfl rfl (by kernel_rfl) (fun _ _ _ h => h) (Or.inl ⟨by rfl, ?_⟩) ?_ ?_; rotate_left; (focus intro w'; go_simp; with_reducible rfl); rotate_left; (focus simp only [Act.put, pS]; rfl)
                refine take_ (i := 1) (N := some 16) (v := ?_) (a' := ?_) mk2 rfl rfl (take_ofW HT_.out HW_.out (by kernel_rfl)) (fun _ _ _ h => h) (Or.inl ⟨by rfl, ?_⟩) hHeld ?_ ?_; rotate_left; (focus rintro w' ⟨s0, s1, s2, s3, s4, s5, s6, s7⟩; go_simp; with_reducible rfl); rotate_left; (focus simp only [Act.put, pS]; rfl)
                refine py_ (a' := ?_) 2 17 ?_ mk3 HT_ rfl rfl (by kernel_rfl) (fun _ _ _ h => h) (Or.inl ⟨by rfl, ?_⟩) ?_ ?_; rotate_left; (focus intro w'; go_simp; with_reducible rfl); rotate_left; (focus simp only [Act.put, pS]; rfl)
                refine py_ (a' := ?_) 3 18 ?_ mk4 HT_ rfl rfl (by kernel_rfl) (fun _ _ _ h => h) (Or.inl ⟨by rfl, ?_⟩) ?_ ?_; rotate_left; (focus intro w'; go_simp; with_reducible rfl); rotate_left; (focus simp only [Act.put, pS]; rfl)
                refine py_ (a' := ?_) 4 19 ?_ mk5 HT_ rfl rfl (by kernel_rfl) (fun _ _ _ h => h) (Or.inl ⟨by rfl, ?_⟩) ?_ ?_; rotate_left; (focus intro w'; go_simp; with_reducible rfl); rotate_left; (focus simp only [Act.put, pS]; rfl)
                refine take_ (i := 5) (N := some 20) (v := ?_) (a' := ?_) mk6 rfl rfl (take_ofW HT_.out HW_.out (by kernel_rfl)) (fun _ _ _ h => h) (Or.inl ⟨by rfl, ?_⟩) hHeld ?_ ?_; rotate_left; (focus rintro w' ⟨s0, s1, s2, s3, s4, s5, s6, s7⟩; go_simp; with_reducible rfl); rotate_left; (focus simp only [Act.put, pS]; rfl)
                refine py_ (a' := ?_) 6 21 ?_ mk7 HT_ rfl rfl (by kernel_rfl) (fun _ _ _ h => h) (Or.inl ⟨by rfl, ?_⟩) ?_ ?_; rotate_left; (focus intro w'; go_simp; with_reducible rfl); rotate_left; (focus simp only [Act.put, pS]; rfl)
                refine py_ (a' := ?_) 7 22 ?_ mk8 HT_ rfl rfl (by kernel_rfl) (fun _ _ _ h => h) (Or.inl ⟨by rfl, ?_⟩) ?_ ?_; rotate_left; (focus intro w'; go_simp; with_reducible rfl); rotate_left; (focus simp only [Act.put, pS]; rfl)
                refine py_ (a' := ?_) 8 23 ?_ mk9 HT_ rfl rfl (by kernel_rfl) (fun _ _ _ h => h) (Or.inl ⟨by rfl, ?_⟩) ?_ ?_; rotate_left; (focus intro w'; go_simp; with_reducible rfl); rotate_left; (focus simp only [Act.put, pS]; rfl)
                refine py_ (a' := ?_) 9 24 ?_ mk10 HT_ rfl rfl (by kernel_rfl) (fun _ _ _ h => h) (Or.inl ⟨by rfl, ?_⟩) ?_ ?_; rotate_left; (focus intro w'; go_simp; with_reducible rfl); rotate_left; (focus simp only [Act.put, pS]; rfl)
                refine take_ (i := 10) (N := some 25) (v := ?_) (a' := ?_) mk11 rfl rfl (take_ofW HT_.out HW_.out (by kernel_rfl)) (fun _ _ _ h => h) (Or.inl ⟨by rfl, ?_⟩) hHeld ?_ ?_; rotate_left; (focus rintro w' ⟨s0, s1, s2, s3, s4, s5, s6, s7⟩; go_simp; with_reducible rfl); rotate_left; (focus simp only [Act.put, pS]; rfl)
                refine one_ (i := 11) (N := some 26) mk12 rfl rfl (one_of HT_.out (by kernel_rfl)) (by decide) (fun K hK => ?_)
                refine goes_ Try.func34 (by kernel_rfl) rfl #[.string ((rd_T41 l0 x3_1).f1)] (by rfl) rfl rfl (by (try simp only [List.map_toArray, List.map_cons, List.map_nil]); first | done | rfl | (simp only [List.length_drop, List.length_take]; rfl)) ?_
                with_reducible refine (souterrainref04_Key.calls ((rd_T41 l0 x3_1).f1) true _ A14.out).mono ?_
                rintro e w' ⟨rfl, ⟨nd, rfl⟩⟩
                refine ⟨_, rfl, ?_⟩
                refine hK.out _ _ ⟨(blk_cell BK266.out 0).trans rfl, (blk_cell BK266.out 1).trans rfl, (blk_cell BK266.out 2).trans rfl, (blk_cell BK266.out 3).trans rfl, ((HB.out.cell (World.block_lt_of_cell? w _ hw268_0)).trans hw268_0), ((HB.out.cell (World.block_lt_of_cell? w _ hw268_1)).trans hw268_1), ((HB.out.cell (World.block_lt_of_cell? w _ hw268_2)).trans hw268_2), ((HB.out.cell (World.block_lt_of_cell? w _ hw268_3)).trans hw268_3)⟩ (fun hHeld => ?_)
                clear hK K
                refine norm_ (a' := ?_) ?_ ?_
                rotate_left
                ·show Act.put _ (some 26) _ = _
                 simp only [Act.put, pS]
                 rfl
                refine py_ (a' := ?_) 12 27 ?_ mk13 HT_ rfl rfl (by kernel_rfl) (fun _ _ _ h => h) (Or.inl ⟨by rfl, ?_⟩) ?_ ?_; rotate_left; (focus intro w'; go_simp; with_reducible rfl); rotate_left; (focus simp only [Act.put, pS]; rfl)
                refine py_ (a' := ?_) 13 28 ?_ mk14 HT_ rfl rfl (by kernel_rfl) (fun _ _ _ h => h) (Or.inl ⟨by rfl, ?_⟩) ?_ ?_; rotate_left; (focus intro w'; go_simp; with_reducible rfl); rotate_left; (focus simp only [Act.put, pS]; rfl)
                refine py_ (a' := ?_) 14 29 ?_ mk15 HT_ rfl rfl (by kernel_rfl) (fun _ _ _ h => h) (Or.inl ⟨by rfl, ?_⟩) ?_ ?_; rotate_left; (focus intro w'; go_simp; with_reducible rfl); rotate_left; (focus simp only [Act.put, pS]; rfl)
                refine py_ (a' := ?_) 15 30 ?_ mk16 HT_ rfl rfl (by kernel_rfl) (fun _ _ _ h => h) (Or.inl ⟨by rfl, ?_⟩) ?_ ?_; rotate_left; (focus intro w'; go_simp; with_reducible rfl); rotate_left; (focus simp only [Act.put, pS]; rfl)
                refine py_ (a' := ?_) 16 31 ?_ mk17 HT_ rfl rfl (by kernel_rfl) (fun _ _ _ h => h) (Or.inl ⟨by rfl, ?_⟩) ?_ ?_; rotate_left; (focus intro w'; go_simp; with_reducible rfl); rotate_left; (focus simp only [Act.put, pS]; rfl)
                refine py_ (a' := ?_) 17 32 ?_ mk18 HT_ rfl rfl (by kernel_rfl) (fun _ _ _ h => h) (Or.inl ⟨by rfl, ?_⟩) ?_ ?_; rotate_left; (focus intro w'; go_simp; with_reducible rfl); rotate_left; (focus simp only [Act.put, pS]; rfl)
                refine py_ (a' := ?_) 18 33 ?_ mk19 HT_ rfl rfl (by kernel_rfl) (fun _ _ _ h => h) (Or.inl ⟨by rfl, ?_⟩) ?_ ?_; rotate_left; (focus intro w'; go_simp; with_reducible rfl); rotate_left; (focus simp only [Act.put, pS]; rfl)
                refine py_ (a' := ?_) 20 35 ?_ mk50 HT_ rfl rfl (by kernel_rfl) (fun _ _ _ h => h) (Or.inl ⟨by rfl, ?_⟩) ?_ ?_; rotate_left; (focus intro w'; go_simp; with_reducible rfl); rotate_left; (focus simp only [Act.put, pS]; rfl)
                refine py_ (a' := ?_) 21 36 ?_ mk51 HT_ rfl rfl (by kernel_rfl) (fun _ _ _ h => h) (Or.inl ⟨by rfl, ?_⟩) ?_ ?_; rotate_left; (focus intro w'; go_simp; with_reducible rfl); rotate_left; (focus simp only [Act.put, pS]; rfl)
                refine py_ (a' := ?_) 22 37 ?_ mk52 HT_ rfl rfl (by kernel_rfl) (fun _ _ _ h => h) (Or.inl ⟨by rfl, ?_⟩) ?_ ?_; rotate_left; (focus intro w'; go_simp; with_reducible rfl); rotate_left; (focus simp only [Act.put, pS]; rfl)
                refine py_ (a' := ?_) 23 38 ?_ mk53 HT_ rfl rfl (by kernel_rfl) (fun _ _ _ h => h) (Or.inl ⟨by rfl, ?_⟩) ?_ ?_; rotate_left; (focus intro w'; go_simp; with_reducible rfl); rotate_left; (focus simp only [Act.put, pS]; rfl)
                refine py_ (a' := ?_) 24 39 ?_ mk54 HT_ rfl rfl (by kernel_rfl) (fun _ _ _ h => h) (Or.inl ⟨by rfl, ?_⟩) ?_ ?_; rotate_left; (focus intro w'; go_simp; with_reducible rfl); rotate_left; (focus simp only [Act.put, pS]; rfl)
                refine take_ (i := 19) (N := some 34) (v := ?_) (a' := ?_) mk25 rfl rfl (take_ofW HT_.out HW_.out (by kernel_rfl)) (fun _ _ _ h => h) (Or.inl ⟨by rfl, ?_⟩) hHeld ?_ ?_; rotate_left; (focus rintro w' ⟨s0, s1, s2, s3, s4, s5, s6, s7⟩; go_simp; with_reducible rfl); rotate_left; (focus simp only [Act.put, pS]; rfl)
                refine take_ (i := 25) (N := some 40) (v := ?_) (a' := ?_) mk26 rfl rfl (take_ofW HT_.out HW_.out (by kernel_rfl)) (fun _ _ _ h => h) (Or.inl ⟨by rfl, ?_⟩) hHeld ?_ ?_; rotate_left; (focus rintro w' ⟨s0, s1, s2, s3, s4, s5, s6, s7⟩; go_simp; with_reducible rfl); rotate_left; (focus simp only [Act.put, pS]; rfl)
                refine py_ (a' := ?_) 26 41 ?_ mk27 HT_ rfl rfl (by kernel_rfl) (fun _ _ _ h => h) (Or.inl ⟨by rfl, ?_⟩) ?_ ?_; rotate_left; (focus intro w'; go_simp; with_reducible rfl); rotate_left; (focus simp only [Act.put, pS]; rfl)
                refine py_ (a' := ?_) 27 42 ?_ mk28 HT_ rfl rfl (by kernel_rfl) (fun _ _ _ h => h) (Or.inl ⟨by rfl, ?_⟩) ?_ ?_; rotate_left; (focus intro w'; go_simp; with_reducible rfl); rotate_left; (focus simp only [Act.put, pS]; rfl)
                refine py_ (a' := ?_) 28 43 ?_ mk29 HT_ rfl rfl (by kernel_rfl) (fun _ _ _ h => h) (Or.inl ⟨by rfl, ?_⟩) ?_ ?_; rotate_left; (focus intro w'; go_simp; with_reducible rfl); rotate_left; (focus simp only [Act.put, pS]; rfl)
                refine py_ (a' := ?_) 29 44 ?_ mk30 HT_ rfl rfl (by kernel_rfl) (fun _ _ _ h => h) (Or.inl ⟨by rfl, ?_⟩) ?_ ?_; rotate_left; (focus intro w'; go_simp; with_reducible rfl); rotate_left; (focus simp only [Act.put, pS]; rfl)
                refine py_ (a' := ?_) 30 45 ?_ mk31 HT_ rfl rfl (by kernel_rfl) (fun _ _ _ h => h) (Or.inl ⟨by rfl, ?_⟩) ?_ ?_; rotate_left; (focus intro w'; go_simp; with_reducible rfl); rotate_left; (focus simp only [Act.put, pS]; rfl)
                refine take_ (i := 31) (N := some 46) (v := ?_) (a' := ?_) mk32 rfl rfl (take_ofW HT_.out HW_.out (by kernel_rfl)) (fun _ _ _ h => h) (Or.inl ⟨by rfl, ?_⟩) hHeld ?_ ?_; rotate_left; (focus rintro w' ⟨s0, s1, s2, s3, s4, s5, s6, s7⟩; go_simp; with_reducible rfl); rotate_left; (focus simp only [Act.put, pS]; rfl)
                refine py_ (a' := ?_) 32 47 ?_ mk33 HT_ rfl rfl (by kernel_rfl) (fun _ _ _ h => h) (Or.inl ⟨by rfl, ?_⟩) ?_ ?_; rotate_left; (focus intro w'; go_simp; with_reducible rfl); rotate_left; (focus simp only [Act.put, pS]; rfl)
                refine py_ (a' := ?_) 33 48 ?_ mk34 HT_ rfl rfl (by kernel_rfl) (fun _ _ _ h => h) (Or.inl ⟨by rfl, ?_⟩) ?_ ?_; rotate_left; (focus intro w'; go_simp; with_reducible rfl); rotate_left; (focus simp only [Act.put, pS]; rfl)
                refine py_ (a' := ?_) 34 49 ?_ mk35 HT_ rfl rfl (by kernel_rfl) (fun _ _ _ h => h) (Or.inl ⟨by rfl, ?_⟩) ?_ ?_; rotate_left; (focus intro w'; go_simp; with_reducible rfl); rotate_left; (focus simp only [Act.put, pS]; rfl)
                refine py_ (a' := ?_) 35 50 ?_ mk36 HT_ rfl rfl (by kernel_rfl) (fun _ _ _ h => h) (Or.inl ⟨by rfl, ?_⟩) ?_ ?_; rotate_left; (focus intro w'; go_simp; with_reducible rfl); rotate_left; (focus simp only [Act.put, pS]; rfl)
                refine take_ (i := 36) (N := some 51) (v := ?_) (a' := ?_) mk37 rfl rfl (take_ofW HT_.out HW_.out (by kernel_rfl)) (fun _ _ _ h => h) (Or.inl ⟨by rfl, ?_⟩) hHeld ?_ ?_; rotate_left; (focus rintro w' ⟨s0, s1, s2, s3, s4, s5, s6, s7⟩; go_simp; with_reducible rfl); rotate_left; (focus simp only [Act.put, pS]; rfl)
                refine py_ (a' := ?_) 37 52 ?_ mk38 HT_ rfl rfl (by kernel_rfl) (fun _ _ _ h => h) (Or.inl ⟨by rfl, ?_⟩) ?_ ?_; rotate_left; (focus intro w'; go_simp; with_reducible rfl); rotate_left; (focus simp only [Act.put, pS]; rfl)
                refine py_ (a' := ?_) 38 53 ?_ mk39 HT_ rfl rfl (by kernel_rfl) (fun _ _ _ h => h) (Or.inl ⟨by rfl, ?_⟩) ?_ ?_; rotate_left; (focus intro w'; go_simp; with_reducible rfl); rotate_left; (focus simp only [Act.put, pS]; rfl)
                refine py_ (a' := ?_) 39 54 ?_ mk40 HT_ rfl rfl (by kernel_rfl) (fun _ _ _ h => h) (Or.inl ⟨by rfl, ?_⟩) ?_ ?_; rotate_left; (focus intro w'; go_simp; with_reducible rfl); rotate_left; (focus simp only [Act.put, pS]; rfl)
                refine py_ (a' := ?_) 40 55 ?_ mk41 HT_ rfl rfl (by kernel_rfl) (fun _ _ _ h => h) (Or.inl ⟨by rfl, ?_⟩) ?_ ?_; rotate_left; (focus intro w'; go_simp; with_reducible rfl); rotate_left; (focus simp only [Act.put, pS]; rfl)
                refine take_ (i := 41) (N := some 56) (v := ?_) (a' := ?_) mk42 rfl rfl (take_ofW HT_.out HW_.out (by kernel_rfl)) (fun _ _ _ h => h) (Or.inl ⟨by rfl, ?_⟩) hHeld ?_ ?_; rotate_left; (focus rintro w' ⟨s0, s1, s2, s3, s4, s5, s6, s7⟩; go_simp; with_reducible rfl); rotate_left; (focus simp only [Act.put, pS]; rfl)
                refine py_ (a' := ?_) 42 57 ?_ mk43 HT_ rfl rfl (by kernel_rfl) (fun _ _ _ h => h) (Or.inl ⟨by rfl, ?_⟩) ?_ ?_; rotate_left; (focus intro w'; go_simp; with_reducible rfl); rotate_left; (focus simp only [Act.put, pS]; rfl)
                refine py_ (a' := ?_) 43 58 ?_ mk44 HT_ rfl rfl (by kernel_rfl) (fun _ _ _ h => h) (Or.inl ⟨by rfl, ?_⟩) ?_ ?_; rotate_left; (focus intro w'; go_simp; with_reducible rfl); rotate_left; (focus simp only [Act.put, pS]; rfl)
                refine py_ (a' := ?_) 44 59 ?_ mk45 HT_ rfl rfl (by kernel_rfl) (fun _ _ _ h => h) (Or.inl ⟨by rfl, ?_⟩) ?_ ?_; rotate_left; (focus intro w'; go_simp; with_reducible rfl); rotate_left; (focus simp only [Act.put, pS]; rfl)
                refine py_ (a' := ?_) 45 60 ?_ mk46 HT_ rfl rfl (by kernel_rfl) (fun _ _ _ h => h) (Or.inl ⟨by rfl, ?_⟩) ?_ ?_; rotate_left; (focus intro w'; go_simp; with_reducible rfl); rotate_left; (focus simp only [Act.put, pS]; rfl)
                refine take_ (i := 46) (N := some 61) (v := ?_) (a' := ?_) mk47 rfl rfl (take_ofW HT_.out HW_.out (by kernel_rfl)) (fun _ _ _ h => h) (Or.inl ⟨by rfl, ?_⟩) hHeld ?_ ?_; rotate_left; (focus rintro w' ⟨s0, s1, s2, s3, s4, s5, s6, s7⟩; go_simp; with_reducible rfl); rotate_left; (focus simp only [Act.put, pS]; rfl)
                refine py_ (a' := ?_) 47 62 ?_ mk48 HT_ rfl rfl (by kernel_rfl) (fun _ _ _ h => h) (Or.inl ⟨by rfl, ?_⟩) ?_ ?_; rotate_left; (focus intro w'; go_simp; with_reducible rfl); rotate_left; (focus simp only [Act.put, pS]; rfl)
                refine py_ (a' := ?_) 48 63 ?_ mk49 HT_ rfl rfl (by kernel_rfl) (fun _ _ _ h => h) (Or.inl ⟨by rfl, ?_⟩) ?_ ?_; rotate_left; (focus intro w'; go_simp; with_reducible rfl); rotate_left; (focus simp only [Act.put, pS]; rfl)
                refine done_ (done_of HT_.out (by kernel_rfl)) ?_
                try go_wp2
                go_ret
                exact ⟨by first | rfl | (simp [errW_none, errW_some] <;> rfl) | (simp only [← hji17]; first | rfl | (simp [errW_none, errW_some] <;> rfl)) | (simp [*, errW_none, errW_some] <;> rfl), by repeat (first | (with_reducible first | exact HB.out | apply below_alloc | apply pw_below_drewN | apply below_drew1 | refine below_set ?_ GE266.out) | exact HB.out)⟩
               ·rw [if_neg c36] at H
                have c36b0 : decide (8200 < ((rd_T41 l0 x3_1).f3)) = false := decide_eq_false c36
                clear c36
                have H' := Aside0.mk H
                clear H
                have n0_ := Aside0.mk (blk_drew BK266.out)
                have n1_ := Aside0.mk (below_drew1 HB.out)
                clear BK266
                clear HB
                have BK266 := n0_
                have HB := n1_
                clear n0_ n1_
                have p268 : 0 ≤ ((ji17) : Int) := of_decide_eq_true (by first | (with_reducible assumption) | assumption)
                have q268 : (ji17) < (l0.length : Int) := of_decide_eq_true (by first | (with_reducible assumption) | assumption)
                obtain ⟨ad268, e268, hx268_0, hx268_1, hx268_2, hx268_3⟩ := at_T41 HR0.out (ji17) p268 q268
                have hw268_3 := hx268_3
                have hw268_2 := hx268_2
                have hw268_1 := hx268_1
                have hw268_0 := hx268_0
                obtain rfl : ad265 = ad268 := (by injection e268)
                replace hx268_0 := (HB.out.cell (World.block_lt_of_cell? w _ hx268_0)).trans hx268_0
                replace hx268_1 := (HB.out.cell (World.block_lt_of_cell? w _ hx268_1)).trans hx268_1
                replace hx268_2 := (HB.out.cell (World.block_lt_of_cell? w _ hx268_2)).trans hx268_2
                replace hx268_3 := (HB.out.cell (World.block_lt_of_cell? w _ hx268_3)).trans hx268_3
                replace p268 := eq_true p268
                replace q268 := eq_true q268
                refine start_ (n := 49) (S := fun w' => w'.cell? ⟨gb266, 0, none⟩ = some (.int .i64 ((rd_T41 l0 x3_1).f0)) ∧ w'.cell? ⟨gb266, 1, none⟩ = some (.string ((rd_T41 l0 x3_1).f1)) ∧ w'.cell? ⟨gb266, 2, none⟩ = some (.int .i64 ((rd_T41 l0 x3_1).f2)) ∧ w'.cell? ⟨gb266, 3, none⟩ = some (.int .i64 ((rd_T41 l0 x3_1).f3)) ∧ w'.cell? (ad265.add (((ji17)).toNat * 4)) = some (.int .i64 ((rd_T41 l0 (ji17)).f0)) ∧ w'.cell? ⟨(ad265.add (((ji17)).toNat * 4)).block, (ad265.add (((ji17)).toNat * 4)).off + 1, none⟩ = some (.string ((rd_T41 l0 (ji17)).f1)) ∧ w'.cell? ⟨(ad265.add (((ji17)).toNat * 4)).block, (ad265.add (((ji17)).toNat * 4)).off + 2, none⟩ = some (.int .i64 ((rd_T41 l0 (ji17)).f2)) ∧ w'.cell? ⟨(ad265.add (((ji17)).toNat * 4)).block, (ad265.add (((ji17)).toNat * 4)).off + 3, none⟩ = some (.int .i64 ((rd_T41 l0 (ji17)).f3))) (ds := []) mk0 (by kernel_rfl) rfl rfl ⟨(blk_cell BK266.out 0).trans rfl, (blk_cell BK266.out 1).trans rfl, (blk_cell BK266.out 2).trans rfl, (blk_cell BK266.out 3).trans rfl, ((HB.out.cell (World.block_lt_of_cell? w _ hw268_0)).trans hw268_0), ((HB.out.cell (World.block_lt_of_cell? w _ hw268_1)).trans hw268_1), ((HB.out.cell (World.block_lt_of_cell? w _ hw268_2)).trans hw268_2), ((HB.out.cell (World.block_lt_of_cell? w _ hw268_3)).trans hw268_3)⟩ (fun hHeld => ?_); refine with_tabW souterrainref11_Right.tab5 souterrainref11_Right.bits5 (fun HT_ HW_ => ?_)
                generalize w7.drew = w44 at BK266 HB hx268_0 hx268_1 hx268_2 hx268_3 hHeld ⊢
                refine py_ (a' := ?_) 0 15 ?_ mk1 HT_ rfl rfl (by kernel_rfl) (fun _ _ _ h => h) (Or.inl ⟨by rfl, ?_⟩) ?_ ?_; rotate_left; (focus intro w'; go_simp; with_reducible rfl); rotate_left; (focus simp only [Act.put, pS]; rfl)
                refine take_ (i := 1) (N := some 16) (v := ?_) (a' := ?_) mk2 rfl rfl (take_ofW HT_.out HW_.out (by kernel_rfl)) (fun _ _ _ h => h) (Or.inl ⟨by rfl, ?_⟩) hHeld ?_ ?_; rotate_left; (focus rintro w' ⟨s0, s1, s2, s3, s4, s5, s6, s7⟩; go_simp; with_reducible rfl); rotate_left; (focus simp only [Act.put, pS]; rfl)
                refine py_ (a' := ?_) 2 17 ?_ mk3 HT_ rfl rfl (by kernel_rfl) (fun _ _ _ h => h) (Or.inl ⟨by rfl, ?_⟩) ?_ ?_; rotate_left; (focus intro w'; go_simp; with_reducible rfl); rotate_left; (focus simp only [Act.put, pS]; rfl)
                refine py_ (a' := ?_) 3 18 ?_ mk4 HT_ rfl rfl (by kernel_rfl) (fun _ _ _ h => h) (Or.inl ⟨by rfl, ?_⟩) ?_ ?_; rotate_left; (focus intro w'; go_simp; with_reducible rfl); rotate_left; (focus simp only [Act.put, pS]; rfl)
                refine py_ (a' := ?_) 4 19 ?_ mk5 HT_ rfl rfl (by kernel_rfl) (fun _ _ _ h => h) (Or.inl ⟨by rfl, ?_⟩) ?_ ?_; rotate_left; (focus intro w'; go_simp; with_reducible rfl); rotate_left; (focus simp only [Act.put, pS]; rfl)
                refine take_ (i := 5) (N := some 20) (v := ?_) (a' := ?_) mk6 rfl rfl (take_ofW HT_.out HW_.out (by kernel_rfl)) (fun _ _ _ h => h) (Or.inl ⟨by rfl, ?_⟩) hHeld ?_ ?_; rotate_left; (focus rintro w' ⟨s0, s1, s2, s3, s4, s5, s6, s7⟩; go_simp; with_reducible rfl); rotate_left; (focus simp only [Act.put, pS]; rfl)
                refine py_ (a' := ?_) 6 21 ?_ mk7 HT_ rfl rfl (by kernel_rfl) (fun _ _ _ h => h) (Or.inl ⟨by rfl, ?_⟩) ?_ ?_; rotate_left; (focus intro w'; go_simp; with_reducible rfl); rotate_left; (focus simp only [Act.put, pS]; rfl)
                refine py_ (a' := ?_) 7 22 ?_ mk8 HT_ rfl rfl (by kernel_rfl) (fun _ _ _ h => h) (Or.inl ⟨by rfl, ?_⟩) ?_ ?_; rotate_left; (focus intro w'; go_simp; with_reducible rfl); rotate_left; (focus simp only [Act.put, pS]; rfl)
                refine py_ (a' := ?_) 8 23 ?_ mk9 HT_ rfl rfl (by kernel_rfl) (fun _ _ _ h => h) (Or.inl ⟨by rfl, ?_⟩) ?_ ?_; rotate_left; (focus intro w'; go_simp; with_reducible rfl); rotate_left; (focus simp only [Act.put, pS]; rfl)
                refine py_ (a' := ?_) 9 24 ?_ mk10 HT_ rfl rfl (by kernel_rfl) (fun _ _ _ h => h) (Or.inl ⟨by rfl, ?_⟩) ?_ ?_; rotate_left; (focus intro w'; go_simp; with_reducible rfl); rotate_left; (focus simp only [Act.put, pS]; rfl)
                refine take_ (i := 10) (N := some 25) (v := ?_) (a' := ?_) mk11 rfl rfl (take_ofW HT_.out HW_.out (by kernel_rfl)) (fun _ _ _ h => h) (Or.inl ⟨by rfl, ?_⟩) hHeld ?_ ?_; rotate_left; (focus rintro w' ⟨s0, s1, s2, s3, s4, s5, s6, s7⟩; go_simp; with_reducible rfl); rotate_left; (focus simp only [Act.put, pS]; rfl)
                refine one_ (i := 11) (N := some 26) mk12 rfl rfl (one_of HT_.out (by kernel_rfl)) (by decide) (fun K hK => ?_)
                refine goes_ Try.func34 (by kernel_rfl) rfl #[.string ((rd_T41 l0 x3_1).f1)] (by rfl) rfl rfl (by (try simp only [List.map_toArray, List.map_cons, List.map_nil]); first | done | rfl | (simp only [List.length_drop, List.length_take]; rfl)) ?_
                with_reducible refine (souterrainref04_Key.calls ((rd_T41 l0 x3_1).f1) true _ A14.out).mono ?_
                rintro e w' ⟨rfl, ⟨nd, rfl⟩⟩
                refine ⟨_, rfl, ?_⟩
                refine hK.out _ _ ⟨(blk_cell BK266.out 0).trans rfl, (blk_cell BK266.out 1).trans rfl, (blk_cell BK266.out 2).trans rfl, (blk_cell BK266.out 3).trans rfl, ((HB.out.cell (World.block_lt_of_cell? w _ hw268_0)).trans hw268_0), ((HB.out.cell (World.block_lt_of_cell? w _ hw268_1)).trans hw268_1), ((HB.out.cell (World.block_lt_of_cell? w _ hw268_2)).trans hw268_2), ((HB.out.cell (World.block_lt_of_cell? w _ hw268_3)).trans hw268_3)⟩ (fun hHeld => ?_)
                clear hK K
                refine norm_ (a' := ?_) ?_ ?_
                rotate_left
                ·show Act.put _ (some 26) _ = _
                 simp only [Act.put, pS]
                 rfl
                refine py_ (a' := ?_) 12 27 ?_ mk13 HT_ rfl rfl (by kernel_rfl) (fun _ _ _ h => h) (Or.inl ⟨by rfl, ?_⟩) ?_ ?_; rotate_left; (focus intro w'; go_simp; with_reducible rfl); rotate_left; (focus simp only [Act.put, pS]; rfl)
                refine py_ (a' := ?_) 13 28 ?_ mk14 HT_ rfl rfl (by kernel_rfl) (fun _ _ _ h => h) (Or.inl ⟨by rfl, ?_⟩) ?_ ?_; rotate_left; (focus intro w'; go_simp; with_reducible rfl); rotate_left; (focus simp only [Act.put, pS]; rfl)
                refine py_ (a' := ?_) 14 29 ?_ mk15 HT_ rfl rfl (by kernel_rfl) (fun _ _ _ h => h) (Or.inl ⟨by rfl, ?_⟩) ?_ ?_; rotate_left; (focus intro w'; go_simp; with_reducible rfl); rotate_left; (focus simp only [Act.put, pS]; rfl)
                refine py_ (a' := ?_) 15 30 ?_ mk16 HT_ rfl rfl (by kernel_rfl) (fun _ _ _ h => h) (Or.inl ⟨by rfl, ?_⟩) ?_ ?_; rotate_left; (focus intro w'; go_simp; with_reducible rfl); rotate_left; (focus simp only [Act.put, pS]; rfl)
                refine py_ (a' := ?_) 16 31 ?_ mk17 HT_ rfl rfl (by kernel_rfl) (fun _ _ _ h => h) (Or.inl ⟨by rfl, ?_⟩) ?_ ?_; rotate_left; (focus intro w'; go_simp; with_reducible rfl); rotate_left; (focus simp only [Act.put, pS]; rfl)
                refine py_ (a' := ?_) 17 32 ?_ mk18 HT_ rfl rfl (by kernel_rfl) (fun _ _ _ h => h) (Or.inl ⟨by rfl, ?_⟩) ?_ ?_; rotate_left; (focus intro w'; go_simp; with_reducible rfl); rotate_left; (focus simp only [Act.put, pS]; rfl)
                refine py_ (a' := ?_) 18 33 ?_ mk19 HT_ rfl rfl (by kernel_rfl) (fun _ _ _ h => h) (Or.inl ⟨by rfl, ?_⟩) ?_ ?_; rotate_left; (focus intro w'; go_simp; with_reducible rfl); rotate_left; (focus simp only [Act.put, pS]; rfl)
                refine py_ (a' := ?_) 20 35 ?_ mk50 HT_ rfl rfl (by kernel_rfl) (fun _ _ _ h => h) (Or.inl ⟨by rfl, ?_⟩) ?_ ?_; rotate_left; (focus intro w'; go_simp; with_reducible rfl); rotate_left; (focus simp only [Act.put, pS]; rfl)
                refine py_ (a' := ?_) 21 36 ?_ mk51 HT_ rfl rfl (by kernel_rfl) (fun _ _ _ h => h) (Or.inl ⟨by rfl, ?_⟩) ?_ ?_; rotate_left; (focus intro w'; go_simp; with_reducible rfl); rotate_left; (focus simp only [Act.put, pS]; rfl)
                refine py_ (a' := ?_) 22 37 ?_ mk52 HT_ rfl rfl (by kernel_rfl) (fun _ _ _ h => h) (Or.inl ⟨by rfl, ?_⟩) ?_ ?_; rotate_left; (focus intro w'; go_simp; with_reducible rfl); rotate_left; (focus simp only [Act.put, pS]; rfl)
                refine py_ (a' := ?_) 23 38 ?_ mk53 HT_ rfl rfl (by kernel_rfl) (fun _ _ _ h => h) (Or.inl ⟨by rfl, ?_⟩) ?_ ?_; rotate_left; (focus intro w'; go_simp; with_reducible rfl); rotate_left; (focus simp only [Act.put, pS]; rfl)
                refine py_ (a' := ?_) 24 39 ?_ mk54 HT_ rfl rfl (by kernel_rfl) (fun _ _ _ h => h) (Or.inl ⟨by rfl, ?_⟩) ?_ ?_; rotate_left; (focus intro w'; go_simp; with_reducible rfl); rotate_left; (focus simp only [Act.put, pS]; rfl)
                refine take_ (i := 19) (N := some 34) (v := ?_) (a' := ?_) mk25 rfl rfl (take_ofW HT_.out HW_.out (by kernel_rfl)) (fun _ _ _ h => h) (Or.inl ⟨by rfl, ?_⟩) hHeld ?_ ?_; rotate_left; (focus rintro w' ⟨s0, s1, s2, s3, s4, s5, s6, s7⟩; go_simp; with_reducible rfl); rotate_left; (focus simp only [Act.put, pS]; rfl)
                refine take_ (i := 25) (N := some 40) (v := ?_) (a' := ?_) mk26 rfl rfl (take_ofW HT_.out HW_.out (by kernel_rfl)) (fun _ _ _ h => h) (Or.inl ⟨by rfl, ?_⟩) hHeld ?_ ?_; rotate_left; (focus rintro w' ⟨s0, s1, s2, s3, s4, s5, s6, s7⟩; go_simp; with_reducible rfl); rotate_left; (focus simp only [Act.put, pS]; rfl)
                refine py_ (a' := ?_) 26 41 ?_ mk27 HT_ rfl rfl (by kernel_rfl) (fun _ _ _ h => h) (Or.inl ⟨by rfl, ?_⟩) ?_ ?_; rotate_left; (focus intro w'; go_simp; with_reducible rfl); rotate_left; (focus simp only [Act.put, pS]; rfl)
                refine py_ (a' := ?_) 27 42 ?_ mk28 HT_ rfl rfl (by kernel_rfl) (fun _ _ _ h => h) (Or.inl ⟨by rfl, ?_⟩) ?_ ?_; rotate_left; (focus intro w'; go_simp; with_reducible rfl); rotate_left; (focus simp only [Act.put, pS]; rfl)
                refine py_ (a' := ?_) 28 43 ?_ mk29 HT_ rfl rfl (by kernel_rfl) (fun _ _ _ h => h) (Or.inl ⟨by rfl, ?_⟩) ?_ ?_; rotate_left; (focus intro w'; go_simp; with_reducible rfl); rotate_left; (focus simp only [Act.put, pS]; rfl)
                refine py_ (a' := ?_) 29 44 ?_ mk30 HT_ rfl rfl (by kernel_rfl) (fun _ _ _ h => h) (Or.inl ⟨by rfl, ?_⟩) ?_ ?_; rotate_left; (focus intro w'; go_simp; with_reducible rfl); rotate_left; (focus simp only [Act.put, pS]; rfl)
                refine py_ (a' := ?_) 30 45 ?_ mk31 HT_ rfl rfl (by kernel_rfl) (fun _ _ _ h => h) (Or.inl ⟨by rfl, ?_⟩) ?_ ?_; rotate_left; (focus intro w'; go_simp; with_reducible rfl); rotate_left; (focus simp only [Act.put, pS]; rfl)
                refine take_ (i := 31) (N := some 46) (v := ?_) (a' := ?_) mk32 rfl rfl (take_ofW HT_.out HW_.out (by kernel_rfl)) (fun _ _ _ h => h) (Or.inl ⟨by rfl, ?_⟩) hHeld ?_ ?_; rotate_left; (focus rintro w' ⟨s0, s1, s2, s3, s4, s5, s6, s7⟩; go_simp; with_reducible rfl); rotate_left; (focus simp only [Act.put, pS]; rfl)
                refine py_ (a' := ?_) 32 47 ?_ mk33 HT_ rfl rfl (by kernel_rfl) (fun _ _ _ h => h) (Or.inl ⟨by rfl, ?_⟩) ?_ ?_; rotate_left; (focus intro w'; go_simp; with_reducible rfl); rotate_left; (focus simp only [Act.put, pS]; rfl)
                refine py_ (a' := ?_) 33 48 ?_ mk34 HT_ rfl rfl (by kernel_rfl) (fun _ _ _ h => h) (Or.inl ⟨by rfl, ?_⟩) ?_ ?_; rotate_left; (focus intro w'; go_simp; with_reducible rfl); rotate_left; (focus simp only [Act.put, pS]; rfl)
                refine py_ (a' := ?_) 34 49 ?_ mk35 HT_ rfl rfl (by kernel_rfl) (fun _ _ _ h => h) (Or.inl ⟨by rfl, ?_⟩) ?_ ?_; rotate_left; (focus intro w'; go_simp; with_reducible rfl); rotate_left; (focus simp only [Act.put, pS]; rfl)
                refine py_ (a' := ?_) 35 50 ?_ mk36 HT_ rfl rfl (by kernel_rfl) (fun _ _ _ h => h) (Or.inl ⟨by rfl, ?_⟩) ?_ ?_; rotate_left; (focus intro w'; go_simp; with_reducible rfl); rotate_left; (focus simp only [Act.put, pS]; rfl)
                refine take_ (i := 36) (N := some 51) (v := ?_) (a' := ?_) mk37 rfl rfl (take_ofW HT_.out HW_.out (by kernel_rfl)) (fun _ _ _ h => h) (Or.inl ⟨by rfl, ?_⟩) hHeld ?_ ?_; rotate_left; (focus rintro w' ⟨s0, s1, s2, s3, s4, s5, s6, s7⟩; go_simp; with_reducible rfl); rotate_left; (focus simp only [Act.put, pS]; rfl)
                refine py_ (a' := ?_) 37 52 ?_ mk38 HT_ rfl rfl (by kernel_rfl) (fun _ _ _ h => h) (Or.inl ⟨by rfl, ?_⟩) ?_ ?_; rotate_left; (focus intro w'; go_simp; with_reducible rfl); rotate_left; (focus simp only [Act.put, pS]; rfl)
                refine py_ (a' := ?_) 38 53 ?_ mk39 HT_ rfl rfl (by kernel_rfl) (fun _ _ _ h => h) (Or.inl ⟨by rfl, ?_⟩) ?_ ?_; rotate_left; (focus intro w'; go_simp; with_reducible rfl); rotate_left; (focus simp only [Act.put, pS]; rfl)
                refine py_ (a' := ?_) 39 54 ?_ mk40 HT_ rfl rfl (by kernel_rfl) (fun _ _ _ h => h) (Or.inl ⟨by rfl, ?_⟩) ?_ ?_; rotate_left; (focus intro w'; go_simp; with_reducible rfl); rotate_left; (focus simp only [Act.put, pS]; rfl)
                refine py_ (a' := ?_) 40 55 ?_ mk41 HT_ rfl rfl (by kernel_rfl) (fun _ _ _ h => h) (Or.inl ⟨by rfl, ?_⟩) ?_ ?_; rotate_left; (focus intro w'; go_simp; with_reducible rfl); rotate_left; (focus simp only [Act.put, pS]; rfl)
                refine take_ (i := 41) (N := some 56) (v := ?_) (a' := ?_) mk42 rfl rfl (take_ofW HT_.out HW_.out (by kernel_rfl)) (fun _ _ _ h => h) (Or.inl ⟨by rfl, ?_⟩) hHeld ?_ ?_; rotate_left; (focus rintro w' ⟨s0, s1, s2, s3, s4, s5, s6, s7⟩; go_simp; with_reducible rfl); rotate_left; (focus simp only [Act.put, pS]; rfl)
                refine py_ (a' := ?_) 42 57 ?_ mk43 HT_ rfl rfl (by kernel_rfl) (fun _ _ _ h => h) (Or.inl ⟨by rfl, ?_⟩) ?_ ?_; rotate_left; (focus intro w'; go_simp; with_reducible rfl); rotate_left; (focus simp only [Act.put, pS]; rfl)
                refine py_ (a' := ?_) 43 58 ?_ mk44 HT_ rfl rfl (by kernel_rfl) (fun _ _ _ h => h) (Or.inl ⟨by rfl, ?_⟩) ?_ ?_; rotate_left; (focus intro w'; go_simp; with_reducible rfl); rotate_left; (focus simp only [Act.put, pS]; rfl)
                refine py_ (a' := ?_) 44 59 ?_ mk45 HT_ rfl rfl (by kernel_rfl) (fun _ _ _ h => h) (Or.inl ⟨by rfl, ?_⟩) ?_ ?_; rotate_left; (focus intro w'; go_simp; with_reducible rfl); rotate_left; (focus simp only [Act.put, pS]; rfl)
                refine py_ (a' := ?_) 45 60 ?_ mk46 HT_ rfl rfl (by kernel_rfl) (fun _ _ _ h => h) (Or.inl ⟨by rfl, ?_⟩) ?_ ?_; rotate_left; (focus intro w'; go_simp; with_reducible rfl); rotate_left; (focus simp only [Act.put, pS]; rfl)
                refine take_ (i := 46) (N := some 61) (v := ?_) (a' := ?_) mk47 rfl rfl (take_ofW HT_.out HW_.out (by kernel_rfl)) (fun _ _ _ h => h) (Or.inl ⟨by rfl, ?_⟩) hHeld ?_ ?_; rotate_left; (focus rintro w' ⟨s0, s1, s2, s3, s4, s5, s6, s7⟩; go_simp; with_reducible rfl); rotate_left; (focus simp only [Act.put, pS]; rfl)
                refine py_ (a' := ?_) 47 62 ?_ mk48 HT_ rfl rfl (by kernel_rfl) (fun _ _ _ h => h) (Or.inl ⟨by rfl, ?_⟩) ?_ ?_; rotate_left; (focus intro w'; go_simp; with_reducible rfl); rotate_left; (focus simp only [Act.put, pS]; rfl)
                refine py_ (a' := ?_) 48 63 ?_ mk49 HT_ rfl rfl (by kernel_rfl) (fun _ _ _ h => h) (Or.inl ⟨by rfl, ?_⟩) ?_ ?_; rotate_left; (focus intro w'; go_simp; with_reducible rfl); rotate_left; (focus simp only [Act.put, pS]; rfl)
                refine done_ (done_of HT_.out (by kernel_rfl)) ?_
                try go_wp2
                go_roundg k1
                case measure => have := HK1.out; omega
                case rel => exact ⟨(wrap64 (x3_1 + 1)), (by first | rfl | (simp; done) | (simp [*]; done)), H', ⟨by have := HK1.out; omega⟩, ⟨by repeat (first | (with_reducible first | exact HB.out | apply below_alloc | apply pw_below_drewN | apply below_drew1 | refine below_set ?_ GE266.out) | exact HB.out)⟩⟩
           ·rw [if_neg c20] at H
            have c20b0 : (Op.bytesLess (((rd_T41 l0 (ji17)).f1).toList) (((rd_T41 l0 x3_1).f1).toList)) = false := by simpa using c20
            clear c20
            obtain rfl := Option.some.inj H
            have n0_ := Aside0.mk (blk_drew BK266.out)
            have n1_ := Aside0.mk (below_drew1 HB.out)
            clear BK266
            clear HB
            have BK266 := n0_
            have HB := n1_
            clear n0_ n1_
            have p268 : 0 ≤ ((ji17) : Int) := of_decide_eq_true (by first | (with_reducible assumption) | assumption)
            have q268 : (ji17) < (l0.length : Int) := of_decide_eq_true (by first | (with_reducible assumption) | assumption)
            obtain ⟨ad268, e268, hx268_0, hx268_1, hx268_2, hx268_3⟩ := at_T41 HR0.out (ji17) p268 q268
            have hw268_3 := hx268_3
            have hw268_2 := hx268_2
            have hw268_1 := hx268_1
            have hw268_0 := hx268_0
            obtain rfl : ad265 = ad268 := (by injection e268)
            replace hx268_0 := (HB.out.cell (World.block_lt_of_cell? w _ hx268_0)).trans hx268_0
            replace hx268_1 := (HB.out.cell (World.block_lt_of_cell? w _ hx268_1)).trans hx268_1
            replace hx268_2 := (HB.out.cell (World.block_lt_of_cell? w _ hx268_2)).trans hx268_2
            replace hx268_3 := (HB.out.cell (World.block_lt_of_cell? w _ hx268_3)).trans hx268_3
            replace p268 := eq_true p268
            replace q268 := eq_true q268
            refine start_ (n := 49) (S := fun w' => w'.cell? ⟨gb266, 0, none⟩ = some (.int .i64 ((rd_T41 l0 x3_1).f0)) ∧ w'.cell? ⟨gb266, 1, none⟩ = some (.string ((rd_T41 l0 x3_1).f1)) ∧ w'.cell? ⟨gb266, 2, none⟩ = some (.int .i64 ((rd_T41 l0 x3_1).f2)) ∧ w'.cell? ⟨gb266, 3, none⟩ = some (.int .i64 ((rd_T41 l0 x3_1).f3)) ∧ w'.cell? (ad265.add (((ji17)).toNat * 4)) = some (.int .i64 ((rd_T41 l0 (ji17)).f0)) ∧ w'.cell? ⟨(ad265.add (((ji17)).toNat * 4)).block, (ad265.add (((ji17)).toNat * 4)).off + 1, none⟩ = some (.string ((rd_T41 l0 (ji17)).f1)) ∧ w'.cell? ⟨(ad265.add (((ji17)).toNat * 4)).block, (ad265.add (((ji17)).toNat * 4)).off + 2, none⟩ = some (.int .i64 ((rd_T41 l0 (ji17)).f2)) ∧ w'.cell? ⟨(ad265.add (((ji17)).toNat * 4)).block, (ad265.add (((ji17)).toNat * 4)).off + 3, none⟩ = some (.int .i64 ((rd_T41 l0 (ji17)).f3))) (ds := []) mk0 (by kernel_rfl) rfl rfl ⟨(blk_cell BK266.out 0).trans rfl, (blk_cell BK266.out 1).trans rfl, (blk_cell BK266.out 2).trans rfl, (blk_cell BK266.out 3).trans rfl, ((HB.out.cell (World.block_lt_of_cell? w _ hw268_0)).trans hw268_0), ((HB.out.cell (World.block_lt_of_cell? w _ hw268_1)).trans hw268_1), ((HB.out.cell (World.block_lt_of_cell? w _ hw268_2)).trans hw268_2), ((HB.out.cell (World.block_lt_of_cell? w _ hw268_3)).trans hw268_3)⟩ (fun hHeld => ?_); refine with_tabW souterrainref11_Right.tab5 souterrainref11_Right.bits5 (fun HT_ HW_ => ?_)
            generalize w7.drew = w48 at BK266 HB hx268_0 hx268_1 hx268_2 hx268_3 hHeld ⊢
            refine py_ (a' := ?_) 0 15 ?_ mk1 HT_ rfl rfl (by kernel_rfl) (fun _ _ _ h => h) (Or.inl ⟨by rfl, ?_⟩) ?_ ?_; rotate_left; (focus intro w'; go_simp; with_reducible rfl); rotate_left; (focus simp only [Act.put, pS]; rfl)
            refine take_ (i := 1) (N := some 16) (v := ?_) (a' := ?_) mk2 rfl rfl (take_ofW HT_.out HW_.out (by kernel_rfl)) (fun _ _ _ h => h) (Or.inl ⟨by rfl, ?_⟩) hHeld ?_ ?_; rotate_left; (focus rintro w' ⟨s0, s1, s2, s3, s4, s5, s6, s7⟩; go_simp; with_reducible rfl); rotate_left; (focus simp only [Act.put, pS]; rfl)
            refine py_ (a' := ?_) 2 17 ?_ mk3 HT_ rfl rfl (by kernel_rfl) (fun _ _ _ h => h) (Or.inl ⟨by rfl, ?_⟩) ?_ ?_; rotate_left; (focus intro w'; go_simp; with_reducible rfl); rotate_left; (focus simp only [Act.put, pS]; rfl)
            refine py_ (a' := ?_) 3 18 ?_ mk4 HT_ rfl rfl (by kernel_rfl) (fun _ _ _ h => h) (Or.inl ⟨by rfl, ?_⟩) ?_ ?_; rotate_left; (focus intro w'; go_simp; with_reducible rfl); rotate_left; (focus simp only [Act.put, pS]; rfl)
            refine py_ (a' := ?_) 4 19 ?_ mk5 HT_ rfl rfl (by kernel_rfl) (fun _ _ _ h => h) (Or.inl ⟨by rfl, ?_⟩) ?_ ?_; rotate_left; (focus intro w'; go_simp; with_reducible rfl); rotate_left; (focus simp only [Act.put, pS]; rfl)
            refine take_ (i := 5) (N := some 20) (v := ?_) (a' := ?_) mk6 rfl rfl (take_ofW HT_.out HW_.out (by kernel_rfl)) (fun _ _ _ h => h) (Or.inl ⟨by rfl, ?_⟩) hHeld ?_ ?_; rotate_left; (focus rintro w' ⟨s0, s1, s2, s3, s4, s5, s6, s7⟩; go_simp; with_reducible rfl); rotate_left; (focus simp only [Act.put, pS]; rfl)
            refine py_ (a' := ?_) 6 21 ?_ mk7 HT_ rfl rfl (by kernel_rfl) (fun _ _ _ h => h) (Or.inl ⟨by rfl, ?_⟩) ?_ ?_; rotate_left; (focus intro w'; go_simp; with_reducible rfl); rotate_left; (focus simp only [Act.put, pS]; rfl)
            refine py_ (a' := ?_) 7 22 ?_ mk8 HT_ rfl rfl (by kernel_rfl) (fun _ _ _ h => h) (Or.inl ⟨by rfl, ?_⟩) ?_ ?_; rotate_left; (focus intro w'; go_simp; with_reducible rfl); rotate_left; (focus simp only [Act.put, pS]; rfl)
            refine py_ (a' := ?_) 8 23 ?_ mk9 HT_ rfl rfl (by kernel_rfl) (fun _ _ _ h => h) (Or.inl ⟨by rfl, ?_⟩) ?_ ?_; rotate_left; (focus intro w'; go_simp; with_reducible rfl); rotate_left; (focus simp only [Act.put, pS]; rfl)
            refine py_ (a' := ?_) 9 24 ?_ mk10 HT_ rfl rfl (by kernel_rfl) (fun _ _ _ h => h) (Or.inl ⟨by rfl, ?_⟩) ?_ ?_; rotate_left; (focus intro w'; go_simp; with_reducible rfl); rotate_left; (focus simp only [Act.put, pS]; rfl)
            refine take_ (i := 10) (N := some 25) (v := ?_) (a' := ?_) mk11 rfl rfl (take_ofW HT_.out HW_.out (by kernel_rfl)) (fun _ _ _ h => h) (Or.inl ⟨by rfl, ?_⟩) hHeld ?_ ?_; rotate_left; (focus rintro w' ⟨s0, s1, s2, s3, s4, s5, s6, s7⟩; go_simp; with_reducible rfl); rotate_left; (focus simp only [Act.put, pS]; rfl)
            refine one_ (i := 11) (N := some 26) mk12 rfl rfl (one_of HT_.out (by kernel_rfl)) (by decide) (fun K hK => ?_)
            refine goes_ Try.func34 (by kernel_rfl) rfl #[.string ((rd_T41 l0 x3_1).f1)] (by rfl) rfl rfl (by (try simp only [List.map_toArray, List.map_cons, List.map_nil]); first | done | rfl | (simp only [List.length_drop, List.length_take]; rfl)) ?_
            with_reducible refine (souterrainref04_Key.calls ((rd_T41 l0 x3_1).f1) true _ A14.out).mono ?_
            rintro e w' ⟨rfl, ⟨nd, rfl⟩⟩
            refine ⟨_, rfl, ?_⟩
            refine hK.out _ _ ⟨(blk_cell BK266.out 0).trans rfl, (blk_cell BK266.out 1).trans rfl, (blk_cell BK266.out 2).trans rfl, (blk_cell BK266.out 3).trans rfl, ((HB.out.cell (World.block_lt_of_cell? w _ hw268_0)).trans hw268_0), ((HB.out.cell (World.block_lt_of_cell? w _ hw268_1)).trans hw268_1), ((HB.out.cell (World.block_lt_of_cell? w _ hw268_2)).trans hw268_2), ((HB.out.cell (World.block_lt_of_cell? w _ hw268_3)).trans hw268_3)⟩ (fun hHeld => ?_)
            clear hK K
            refine norm_ (a' := ?_) ?_ ?_
            rotate_left
            ·show Act.put _ (some 26) _ = _
             simp only [Act.put, pS]
             rfl
            refine py_ (a' := ?_) 12 27 ?_ mk13 HT_ rfl rfl (by kernel_rfl) (fun _ _ _ h => h) (Or.inl ⟨by rfl, ?_⟩) ?_ ?_; rotate_left; (focus intro w'; go_simp; with_reducible rfl); rotate_left; (focus simp only [Act.put, pS]; rfl)
            refine py_ (a' := ?_) 13 28 ?_ mk14 HT_ rfl rfl (by kernel_rfl) (fun _ _ _ h => h) (Or.inl ⟨by rfl, ?_⟩) ?_ ?_; rotate_left; (focus intro w'; go_simp; with_reducible rfl); rotate_left; (focus simp only [Act.put, pS]; rfl)
            refine py_ (a' := ?_) 14 29 ?_ mk15 HT_ rfl rfl (by kernel_rfl) (fun _ _ _ h => h) (Or.inl ⟨by rfl, ?_⟩) ?_ ?_; rotate_left; (focus intro w'; go_simp; with_reducible rfl); rotate_left; (focus simp only [Act.put, pS]; rfl)
            refine py_ (a' := ?_) 15 30 ?_ mk16 HT_ rfl rfl (by kernel_rfl) (fun _ _ _ h => h) (Or.inl ⟨by rfl, ?_⟩) ?_ ?_; rotate_left; (focus intro w'; go_simp; with_reducible rfl); rotate_left; (focus simp only [Act.put, pS]; rfl)
            refine py_ (a' := ?_) 16 31 ?_ mk17 HT_ rfl rfl (by kernel_rfl) (fun _ _ _ h => h) (Or.inl ⟨by rfl, ?_⟩) ?_ ?_; rotate_left; (focus intro w'; go_simp; with_reducible rfl); rotate_left; (focus simp only [Act.put, pS]; rfl)
            refine py_ (a' := ?_) 17 32 ?_ mk18 HT_ rfl rfl (by kernel_rfl) (fun _ _ _ h => h) (Or.inl ⟨by rfl, ?_⟩) ?_ ?_; rotate_left; (focus intro w'; go_simp; with_reducible rfl); rotate_left; (focus simp only [Act.put, pS]; rfl)
            refine py_ (a' := ?_) 18 33 ?_ mk19 HT_ rfl rfl (by kernel_rfl) (fun _ _ _ h => h) (Or.inl ⟨by rfl, ?_⟩) ?_ ?_; rotate_left; (focus intro w'; go_simp; with_reducible rfl); rotate_left; (focus simp only [Act.put, pS]; rfl)
            refine py_ (a' := ?_) 20 35 ?_ mk50 HT_ rfl rfl (by kernel_rfl) (fun _ _ _ h => h) (Or.inl ⟨by rfl, ?_⟩) ?_ ?_; rotate_left; (focus intro w'; go_simp; with_reducible rfl); rotate_left; (focus simp only [Act.put, pS]; rfl)
            refine py_ (a' := ?_) 21 36 ?_ mk51 HT_ rfl rfl (by kernel_rfl) (fun _ _ _ h => h) (Or.inl ⟨by rfl, ?_⟩) ?_ ?_; rotate_left; (focus intro w'; go_simp; with_reducible rfl); rotate_left; (focus simp only [Act.put, pS]; rfl)
            refine py_ (a' := ?_) 22 37 ?_ mk52 HT_ rfl rfl (by kernel_rfl) (fun _ _ _ h => h) (Or.inl ⟨by rfl, ?_⟩) ?_ ?_; rotate_left; (focus intro w'; go_simp; with_reducible rfl); rotate_left; (focus simp only [Act.put, pS]; rfl)
            refine py_ (a' := ?_) 23 38 ?_ mk53 HT_ rfl rfl (by kernel_rfl) (fun _ _ _ h => h) (Or.inl ⟨by rfl, ?_⟩) ?_ ?_; rotate_left; (focus intro w'; go_simp; with_reducible rfl); rotate_left; (focus simp only [Act.put, pS]; rfl)
            refine py_ (a' := ?_) 24 39 ?_ mk54 HT_ rfl rfl (by kernel_rfl) (fun _ _ _ h => h) (Or.inl ⟨by rfl, ?_⟩) ?_ ?_; rotate_left; (focus intro w'; go_simp; with_reducible rfl); rotate_left; (focus simp only [Act.put, pS]; rfl)
            refine take_ (i := 19) (N := some 34) (v := ?_) (a' := ?_) mk25 rfl rfl (take_ofW HT_.out HW_.out (by kernel_rfl)) (fun _ _ _ h => h) (Or.inl ⟨by rfl, ?_⟩) hHeld ?_ ?_; rotate_left; (focus rintro w' ⟨s0, s1, s2, s3, s4, s5, s6, s7⟩; go_simp; with_reducible rfl); rotate_left; (focus simp only [Act.put, pS]; rfl)
            refine take_ (i := 25) (N := some 40) (v := ?_) (a' := ?_) mk26 rfl rfl (take_ofW HT_.out HW_.out (by kernel_rfl)) (fun _ _ _ h => h) (Or.inl ⟨by rfl, ?_⟩) hHeld ?_ ?_; rotate_left; (focus rintro w' ⟨s0, s1, s2, s3, s4, s5, s6, s7⟩; go_simp; with_reducible rfl); rotate_left; (focus simp only [Act.put, pS]; rfl)
            refine py_ (a' := ?_) 26 41 ?_ mk27 HT_ rfl rfl (by kernel_rfl) (fun _ _ _ h => h) (Or.inl ⟨by rfl, ?_⟩) ?_ ?_; rotate_left; (focus intro w'; go_simp; with_reducible rfl); rotate_left; (focus simp only [Act.put, pS]; rfl)
            refine py_ (a' := ?_) 27 42 ?_ mk28 HT_ rfl rfl (by kernel_rfl) (fun _ _ _ h => h) (Or.inl ⟨by rfl, ?_⟩) ?_ ?_; rotate_left; (focus intro w'; go_simp; with_reducible rfl); rotate_left; (focus simp only [Act.put, pS]; rfl)
            refine py_ (a' := ?_) 28 43 ?_ mk29 HT_ rfl rfl (by kernel_rfl) (fun _ _ _ h => h) (Or.inl ⟨by rfl, ?_⟩) ?_ ?_; rotate_left; (focus intro w'; go_simp; with_reducible rfl); rotate_left; (focus simp only [Act.put, pS]; rfl)
            refine py_ (a' := ?_) 29 44 ?_ mk30 HT_ rfl rfl (by kernel_rfl) (fun _ _ _ h => h) (Or.inl ⟨by rfl, ?_⟩) ?_ ?_; rotate_left; (focus intro w'; go_simp; with_reducible rfl); rotate_left; (focus simp only [Act.put, pS]; rfl)
            refine py_ (a' := ?_) 30 45 undef mk31 HT_ rfl rfl (by kernel_rfl) (fun _ _ _ h => h) (Or.inr ⟨by rfl, rfl⟩) ?_ ?_; rotate_left; (focus simp only [Act.put, pS]; rfl)
            refine py_ (a' := ?_) 31 46 undef mk32 HT_ rfl rfl (by kernel_rfl) (fun _ _ _ h => h) (Or.inr ⟨by rfl, rfl⟩) ?_ ?_; rotate_left; (focus simp only [Act.put, pS]; rfl)
            refine py_ (a' := ?_) 32 47 undef mk33 HT_ rfl rfl (by kernel_rfl) (fun _ _ _ h => h) (Or.inr ⟨by rfl, rfl⟩) ?_ ?_; rotate_left; (focus simp only [Act.put, pS]; rfl)
            refine py_ (a' := ?_) 33 48 ?_ mk34 HT_ rfl rfl (by kernel_rfl) (fun _ _ _ h => h) (Or.inl ⟨by rfl, ?_⟩) ?_ ?_; rotate_left; (focus intro w'; go_simp; with_reducible rfl); rotate_left; (focus simp only [Act.put, pS]; rfl)
            refine py_ (a' := ?_) 34 49 ?_ mk35 HT_ rfl rfl (by kernel_rfl) (fun _ _ _ h => h) (Or.inl ⟨by rfl, ?_⟩) ?_ ?_; rotate_left; (focus intro w'; go_simp; with_reducible rfl); rotate_left; (focus simp only [Act.put, pS]; rfl)
            refine py_ (a' := ?_) 35 50 undef mk36 HT_ rfl rfl (by kernel_rfl) (fun _ _ _ h => h) (Or.inr ⟨by rfl, rfl⟩) ?_ ?_; rotate_left; (focus simp only [Act.put, pS]; rfl)
            refine py_ (a' := ?_) 36 51 undef mk37 HT_ rfl rfl (by kernel_rfl) (fun _ _ _ h => h) (Or.inr ⟨by rfl, rfl⟩) ?_ ?_; rotate_left; (focus simp only [Act.put, pS]; rfl)
            refine py_ (a' := ?_) 37 52 undef mk38 HT_ rfl rfl (by kernel_rfl) (fun _ _ _ h => h) (Or.inr ⟨by rfl, rfl⟩) ?_ ?_; rotate_left; (focus simp only [Act.put, pS]; rfl)
            refine py_ (a' := ?_) 38 53 ?_ mk39 HT_ rfl rfl (by kernel_rfl) (fun _ _ _ h => h) (Or.inl ⟨by rfl, ?_⟩) ?_ ?_; rotate_left; (focus intro w'; go_simp; with_reducible rfl); rotate_left; (focus simp only [Act.put, pS]; rfl)
            refine py_ (a' := ?_) 39 54 ?_ mk40 HT_ rfl rfl (by kernel_rfl) (fun _ _ _ h => h) (Or.inl ⟨by rfl, ?_⟩) ?_ ?_; rotate_left; (focus intro w'; go_simp; with_reducible rfl); rotate_left; (focus simp only [Act.put, pS]; rfl)
            refine py_ (a' := ?_) 40 55 undef mk41 HT_ rfl rfl (by kernel_rfl) (fun _ _ _ h => h) (Or.inr ⟨by rfl, rfl⟩) ?_ ?_; rotate_left; (focus simp only [Act.put, pS]; rfl)
            refine py_ (a' := ?_) 41 56 undef mk42 HT_ rfl rfl (by kernel_rfl) (fun _ _ _ h => h) (Or.inr ⟨by rfl, rfl⟩) ?_ ?_; rotate_left; (focus simp only [Act.put, pS]; rfl)
            refine py_ (a' := ?_) 42 57 undef mk43 HT_ rfl rfl (by kernel_rfl) (fun _ _ _ h => h) (Or.inr ⟨by rfl, rfl⟩) ?_ ?_; rotate_left; (focus simp only [Act.put, pS]; rfl)
            refine py_ (a' := ?_) 43 58 ?_ mk44 HT_ rfl rfl (by kernel_rfl) (fun _ _ _ h => h) (Or.inl ⟨by rfl, ?_⟩) ?_ ?_; rotate_left; (focus intro w'; go_simp; with_reducible rfl); rotate_left; (focus simp only [Act.put, pS]; rfl)
            refine py_ (a' := ?_) 44 59 ?_ mk45 HT_ rfl rfl (by kernel_rfl) (fun _ _ _ h => h) (Or.inl ⟨by rfl, ?_⟩) ?_ ?_; rotate_left; (focus intro w'; go_simp; with_reducible rfl); rotate_left; (focus simp only [Act.put, pS]; rfl)
            refine py_ (a' := ?_) 45 60 undef mk46 HT_ rfl rfl (by kernel_rfl) (fun _ _ _ h => h) (Or.inr ⟨by rfl, rfl⟩) ?_ ?_; rotate_left; (focus simp only [Act.put, pS]; rfl)
            refine py_ (a' := ?_) 46 61 undef mk47 HT_ rfl rfl (by kernel_rfl) (fun _ _ _ h => h) (Or.inr ⟨by rfl, rfl⟩) ?_ ?_; rotate_left; (focus simp only [Act.put, pS]; rfl)
            refine py_ (a' := ?_) 47 62 undef mk48 HT_ rfl rfl (by kernel_rfl) (fun _ _ _ h => h) (Or.inr ⟨by rfl, rfl⟩) ?_ ?_; rotate_left; (focus simp only [Act.put, pS]; rfl)
            refine py_ (a' := ?_) 48 63 ?_ mk49 HT_ rfl rfl (by kernel_rfl) (fun _ _ _ h => h) (Or.inl ⟨by rfl, ?_⟩) ?_ ?_; rotate_left; (focus intro w'; go_simp; with_reducible rfl); rotate_left; (focus simp only [Act.put, pS]; rfl)
            refine done_ (done_of HT_.out (by kernel_rfl)) ?_
            try go_wp2
            go_ret
            exact ⟨by first | rfl | (simp [errW_none, errW_some] <;> rfl) | (simp only [← hji17]; first | rfl | (simp [errW_none, errW_some] <;> rfl)) | (simp [*, errW_none, errW_some] <;> rfl), by repeat (first | (with_reducible first | exact HB.out | apply below_alloc | apply pw_below_drewN | apply below_drew1 | refine below_set ?_ GE266.out) | exact HB.out)⟩
          ·rw [if_neg c19] at H
           exact absurd H (by simp)
         ·rw [if_neg c18] at H
          exact absurd H (by simp)
        ·rw [if_neg c16] at H
         have c16b0 : decide (0 < x3_1) = false := decide_eq_false c16
         clear c16
         by_cases c49 : ((rd_T41 l0 x3_1).f2) < 0
         ·rw [if_pos c49] at H
          have c49b0 : decide (((rd_T41 l0 x3_1).f2) < 0) = true := decide_eq_true c49
          clear c49
          obtain rfl := Option.some.inj H
          have n0_ := Aside0.mk (blk_drew BK266.out)
          have n1_ := Aside0.mk (below_drew1 HB.out)
          clear BK266
          clear HB
          have BK266 := n0_
          have HB := n1_
          clear n0_ n1_
          refine start_ (n := 49) (S := fun w' => w'.cell? ⟨gb266, 0, none⟩ = some (.int .i64 ((rd_T41 l0 x3_1).f0)) ∧ w'.cell? ⟨gb266, 1, none⟩ = some (.string ((rd_T41 l0 x3_1).f1)) ∧ w'.cell? ⟨gb266, 2, none⟩ = some (.int .i64 ((rd_T41 l0 x3_1).f2)) ∧ w'.cell? ⟨gb266, 3, none⟩ = some (.int .i64 ((rd_T41 l0 x3_1).f3))) (ds := []) mk0 (by kernel_rfl) rfl rfl ⟨(blk_cell BK266.out 0).trans rfl, (blk_cell BK266.out 1).trans rfl, (blk_cell BK266.out 2).trans rfl, (blk_cell BK266.out 3).trans rfl⟩ (fun hHeld => ?_); refine with_tabW souterrainref11_Right.tab5 souterrainref11_Right.bits5 (fun HT_ HW_ => ?_)
          generalize w7.drew = w53 at BK266 HB hHeld ⊢
          refine py_ (a' := ?_) 0 15 ?_ mk1 HT_ rfl rfl (by kernel_rfl) (fun _ _ _ h => h) (Or.inl ⟨by rfl, ?_⟩) ?_ ?_; rotate_left; (focus intro w'; go_simp; with_reducible rfl); rotate_left; (focus simp only [Act.put, pS]; rfl)
          refine take_ (i := 1) (N := some 16) (v := ?_) (a' := ?_) mk2 rfl rfl (take_ofW HT_.out HW_.out (by kernel_rfl)) (fun _ _ _ h => h) (Or.inl ⟨by rfl, ?_⟩) hHeld ?_ ?_; rotate_left; (focus rintro w' ⟨s0, s1, s2, s3⟩; go_simp; with_reducible rfl); rotate_left; (focus simp only [Act.put, pS]; rfl)
          refine py_ (a' := ?_) 2 17 ?_ mk3 HT_ rfl rfl (by kernel_rfl) (fun _ _ _ h => h) (Or.inl ⟨by rfl, ?_⟩) ?_ ?_; rotate_left; (focus intro w'; go_simp; with_reducible rfl); rotate_left; (focus simp only [Act.put, pS]; rfl)
          refine py_ (a' := ?_) 3 18 ?_ mk4 HT_ rfl rfl (by kernel_rfl) (fun _ _ _ h => h) (Or.inl ⟨by rfl, ?_⟩) ?_ ?_; rotate_left; (focus intro w'; go_simp; with_reducible rfl); rotate_left; (focus simp only [Act.put, pS]; rfl)
          refine py_ (a' := ?_) 4 19 ?_ mk5 HT_ rfl rfl (by kernel_rfl) (fun _ _ _ h => h) (Or.inl ⟨by rfl, ?_⟩) ?_ ?_; rotate_left; (focus intro w'; go_simp; with_reducible rfl); rotate_left; (focus simp only [Act.put, pS]; rfl)
          refine take_ (i := 5) (N := some 20) (v := ?_) (a' := ?_) mk6 rfl rfl (take_ofW HT_.out HW_.out (by kernel_rfl)) (fun _ _ _ h => h) (Or.inl ⟨by rfl, ?_⟩) hHeld ?_ ?_; rotate_left; (focus rintro w' ⟨s0, s1, s2, s3⟩; go_simp; with_reducible rfl); rotate_left; (focus simp only [Act.put, pS]; rfl)
          refine py_ (a' := ?_) 6 21 ?_ mk7 HT_ rfl rfl (by kernel_rfl) (fun _ _ _ h => h) (Or.inl ⟨by rfl, ?_⟩) ?_ ?_; rotate_left; (focus intro w'; go_simp; with_reducible rfl); rotate_left; (focus simp only [Act.put, pS]; rfl)
          refine py_ (a' := ?_) 7 22 ?_ mk8 HT_ rfl rfl (by kernel_rfl) (fun _ _ _ h => h) (Or.inl ⟨by rfl, ?_⟩) ?_ ?_; rotate_left; (focus intro w'; go_simp; with_reducible rfl); rotate_left; (focus simp only [Act.put, pS]; rfl)
          refine py_ (a' := ?_) 8 23 ?_ mk9 HT_ rfl rfl (by kernel_rfl) (fun _ _ _ h => h) (Or.inl ⟨by rfl, ?_⟩) ?_ ?_; rotate_left; (focus intro w'; go_simp; with_reducible rfl); rotate_left; (focus simp only [Act.put, pS]; rfl)
          refine py_ (a' := ?_) 9 24 ?_ mk10 HT_ rfl rfl (by kernel_rfl) (fun _ _ _ h => h) (Or.inl ⟨by rfl, ?_⟩) ?_ ?_; rotate_left; (focus intro w'; go_simp; with_reducible rfl); rotate_left; (focus simp only [Act.put, pS]; rfl)
          refine take_ (i := 10) (N := some 25) (v := ?_) (a' := ?_) mk11 rfl rfl (take_ofW HT_.out HW_.out (by kernel_rfl)) (fun _ _ _ h => h) (Or.inl ⟨by rfl, ?_⟩) hHeld ?_ ?_; rotate_left; (focus rintro w' ⟨s0, s1, s2, s3⟩; go_simp; with_reducible rfl); rotate_left; (focus simp only [Act.put, pS]; rfl)
          refine one_ (i := 11) (N := some 26) mk12 rfl rfl (one_of HT_.out (by kernel_rfl)) (by decide) (fun K hK => ?_)
          refine goes_ Try.func34 (by kernel_rfl) rfl #[.string ((rd_T41 l0 x3_1).f1)] (by rfl) rfl rfl (by (try simp only [List.map_toArray, List.map_cons, List.map_nil]); first | done | rfl | (simp only [List.length_drop, List.length_take]; rfl)) ?_
          with_reducible refine (souterrainref04_Key.calls ((rd_T41 l0 x3_1).f1) true _ A14.out).mono ?_
          rintro e w' ⟨rfl, ⟨nd, rfl⟩⟩
          refine ⟨_, rfl, ?_⟩
          refine hK.out _ _ ⟨(blk_cell BK266.out 0).trans rfl, (blk_cell BK266.out 1).trans rfl, (blk_cell BK266.out 2).trans rfl, (blk_cell BK266.out 3).trans rfl⟩ (fun hHeld => ?_)
          clear hK K
          refine norm_ (a' := ?_) ?_ ?_
          rotate_left
          ·show Act.put _ (some 26) _ = _
           simp only [Act.put, pS]
           rfl
          refine py_ (a' := ?_) 12 27 ?_ mk13 HT_ rfl rfl (by kernel_rfl) (fun _ _ _ h => h) (Or.inl ⟨by rfl, ?_⟩) ?_ ?_; rotate_left; (focus intro w'; go_simp; with_reducible rfl); rotate_left; (focus simp only [Act.put, pS]; rfl)
          refine py_ (a' := ?_) 13 28 ?_ mk14 HT_ rfl rfl (by kernel_rfl) (fun _ _ _ h => h) (Or.inl ⟨by rfl, ?_⟩) ?_ ?_; rotate_left; (focus intro w'; go_simp; with_reducible rfl); rotate_left; (focus simp only [Act.put, pS]; rfl)
          refine py_ (a' := ?_) 14 29 ?_ mk15 HT_ rfl rfl (by kernel_rfl) (fun _ _ _ h => h) (Or.inl ⟨by rfl, ?_⟩) ?_ ?_; rotate_left; (focus intro w'; go_simp; with_reducible rfl); rotate_left; (focus simp only [Act.put, pS]; rfl)
          refine py_ (a' := ?_) 15 30 ?_ mk16 HT_ rfl rfl (by kernel_rfl) (fun _ _ _ h => h) (Or.inl ⟨by rfl, ?_⟩) ?_ ?_; rotate_left; (focus intro w'; go_simp; with_reducible rfl); rotate_left; (focus simp only [Act.put, pS]; rfl)
          refine py_ (a' := ?_) 16 31 ?_ mk17 HT_ rfl rfl (by kernel_rfl) (fun _ _ _ h => h) (Or.inl ⟨by rfl, ?_⟩) ?_ ?_; rotate_left; (focus intro w'; go_simp; with_reducible rfl); rotate_left; (focus simp only [Act.put, pS]; rfl)
          refine py_ (a' := ?_) 17 32 ?_ mk18 HT_ rfl rfl (by kernel_rfl) (fun _ _ _ h => h) (Or.inl ⟨by rfl, ?_⟩) ?_ ?_; rotate_left; (focus intro w'; go_simp; with_reducible rfl); rotate_left; (focus simp only [Act.put, pS]; rfl)
          refine py_ (a' := ?_) 18 33 undef mk19 HT_ rfl rfl (by kernel_rfl) (fun _ _ _ h => h) (Or.inr ⟨by rfl, rfl⟩) ?_ ?_; rotate_left; (focus simp only [Act.put, pS]; rfl)
          refine py_ (a' := ?_) 19 34 undef mk20 HT_ rfl rfl (by kernel_rfl) (fun _ _ _ h => h) (Or.inr ⟨by rfl, rfl⟩) ?_ ?_; rotate_left; (focus simp only [Act.put, pS]; rfl)
          refine py_ (a' := ?_) 20 35 undef mk21 HT_ rfl rfl (by kernel_rfl) (fun _ _ _ h => h) (Or.inr ⟨by rfl, rfl⟩) ?_ ?_; rotate_left; (focus simp only [Act.put, pS]; rfl)
          refine py_ (a' := ?_) 21 36 undef mk22 HT_ rfl rfl (by kernel_rfl) (fun _ _ _ h => h) (Or.inr ⟨by rfl, rfl⟩) ?_ ?_; rotate_left; (focus simp only [Act.put, pS]; rfl)
          refine py_ (a' := ?_) 22 37 undef mk23 HT_ rfl rfl (by kernel_rfl) (fun _ _ _ h => h) (Or.inr ⟨by rfl, rfl⟩) ?_ ?_; rotate_left; (focus simp only [Act.put, pS]; rfl)
          refine py_ (a' := ?_) 23 38 undef mk24 HT_ rfl rfl (by kernel_rfl) (fun _ _ _ h => h) (Or.inr ⟨by rfl, rfl⟩) ?_ ?_; rotate_left; (focus simp only [Act.put, pS]; rfl)
          refine py_ (a' := ?_) 24 39 undef mk25 HT_ rfl rfl (by kernel_rfl) (fun _ _ _ h => h) (Or.inr ⟨by rfl, rfl⟩) ?_ ?_; rotate_left; (focus simp only [Act.put, pS]; rfl)
          refine py_ (a' := ?_) 25 40 undef mk26 HT_ rfl rfl (by kernel_rfl) (fun _ _ _ h => h) (Or.inr ⟨by rfl, rfl⟩) ?_ ?_; rotate_left; (focus simp only [Act.put, pS]; rfl)
          refine py_ (a' := ?_) 26 41 undef mk27 HT_ rfl rfl (by kernel_rfl) (fun _ _ _ h => h) (Or.inr ⟨by rfl, rfl⟩) ?_ ?_; rotate_left; (focus simp only [Act.put, pS]; rfl)
          refine py_ (a' := ?_) 27 42 ?_ mk28 HT_ rfl rfl (by kernel_rfl) (fun _ _ _ h => h) (Or.inl ⟨by rfl, ?_⟩) ?_ ?_; rotate_left; (focus intro w'; go_simp; with_reducible rfl); rotate_left; (focus simp only [Act.put, pS]; rfl)
          refine py_ (a' := ?_) 28 43 ?_ mk29 HT_ rfl rfl (by kernel_rfl) (fun _ _ _ h => h) (Or.inl ⟨by rfl, ?_⟩) ?_ ?_; rotate_left; (focus intro w'; go_simp; with_reducible rfl); rotate_left; (focus simp only [Act.put, pS]; rfl)
          refine py_ (a' := ?_) 29 44 ?_ mk30 HT_ rfl rfl (by kernel_rfl) (fun _ _ _ h => h) (Or.inl ⟨by rfl, ?_⟩) ?_ ?_; rotate_left; (focus intro w'; go_simp; with_reducible rfl); rotate_left; (focus simp only [Act.put, pS]; rfl)
          refine py_ (a' := ?_) 30 45 ?_ mk31 HT_ rfl rfl (by kernel_rfl) (fun _ _ _ h => h) (Or.inl ⟨by rfl, ?_⟩) ?_ ?_; rotate_left; (focus intro w'; go_simp; with_reducible rfl); rotate_left; (focus simp only [Act.put, pS]; rfl)
          refine take_ (i := 31) (N := some 46) (v := ?_) (a' := ?_) mk32 rfl rfl (take_ofW HT_.out HW_.out (by kernel_rfl)) (fun _ _ _ h => h) (Or.inl ⟨by rfl, ?_⟩) hHeld ?_ ?_; rotate_left; (focus rintro w' ⟨s0, s1, s2, s3⟩; go_simp; with_reducible rfl); rotate_left; (focus simp only [Act.put, pS]; rfl)
          refine py_ (a' := ?_) 32 47 ?_ mk33 HT_ rfl rfl (by kernel_rfl) (fun _ _ _ h => h) (Or.inl ⟨by rfl, ?_⟩) ?_ ?_; rotate_left; (focus intro w'; go_simp; with_reducible rfl); rotate_left; (focus simp only [Act.put, pS]; rfl)
          refine py_ (a' := ?_) 33 48 ?_ mk34 HT_ rfl rfl (by kernel_rfl) (fun _ _ _ h => h) (Or.inl ⟨by rfl, ?_⟩) ?_ ?_; rotate_left; (focus intro w'; go_simp; with_reducible rfl); rotate_left; (focus simp only [Act.put, pS]; rfl)
          refine py_ (a' := ?_) 34 49 ?_ mk35 HT_ rfl rfl (by kernel_rfl) (fun _ _ _ h => h) (Or.inl ⟨by rfl, ?_⟩) ?_ ?_; rotate_left; (focus intro w'; go_simp; with_reducible rfl); rotate_left; (focus simp only [Act.put, pS]; rfl)
          refine py_ (a' := ?_) 35 50 undef mk36 HT_ rfl rfl (by kernel_rfl) (fun _ _ _ h => h) (Or.inr ⟨by rfl, rfl⟩) ?_ ?_; rotate_left; (focus simp only [Act.put, pS]; rfl)
          refine py_ (a' := ?_) 36 51 undef mk37 HT_ rfl rfl (by kernel_rfl) (fun _ _ _ h => h) (Or.inr ⟨by rfl, rfl⟩) ?_ ?_; rotate_left; (focus simp only [Act.put, pS]; rfl)
          refine py_ (a' := ?_) 37 52 undef mk38 HT_ rfl rfl (by kernel_rfl) (fun _ _ _ h => h) (Or.inr ⟨by rfl, rfl⟩) ?_ ?_; rotate_left; (focus simp only [Act.put, pS]; rfl)
          refine py_ (a' := ?_) 38 53 ?_ mk39 HT_ rfl rfl (by kernel_rfl) (fun _ _ _ h => h) (Or.inl ⟨by rfl, ?_⟩) ?_ ?_; rotate_left; (focus intro w'; go_simp; with_reducible rfl); rotate_left; (focus simp only [Act.put, pS]; rfl)
          refine py_ (a' := ?_) 39 54 ?_ mk40 HT_ rfl rfl (by kernel_rfl) (fun _ _ _ h => h) (Or.inl ⟨by rfl, ?_⟩) ?_ ?_; rotate_left; (focus intro w'; go_simp; with_reducible rfl); rotate_left; (focus simp only [Act.put, pS]; rfl)
          refine py_ (a' := ?_) 40 55 undef mk41 HT_ rfl rfl (by kernel_rfl) (fun _ _ _ h => h) (Or.inr ⟨by rfl, rfl⟩) ?_ ?_; rotate_left; (focus simp only [Act.put, pS]; rfl)
          refine py_ (a' := ?_) 41 56 undef mk42 HT_ rfl rfl (by kernel_rfl) (fun _ _ _ h => h) (Or.inr ⟨by rfl, rfl⟩) ?_ ?_; rotate_left; (focus simp only [Act.put, pS]; rfl)
          refine py_ (a' := ?_) 42 57 undef mk43 HT_ rfl rfl (by kernel_rfl) (fun _ _ _ h => h) (Or.inr ⟨by rfl, rfl⟩) ?_ ?_; rotate_left; (focus simp only [Act.put, pS]; rfl)
          refine py_ (a' := ?_) 43 58 ?_ mk44 HT_ rfl rfl (by kernel_rfl) (fun _ _ _ h => h) (Or.inl ⟨by rfl, ?_⟩) ?_ ?_; rotate_left; (focus intro w'; go_simp; with_reducible rfl); rotate_left; (focus simp only [Act.put, pS]; rfl)
          refine py_ (a' := ?_) 44 59 ?_ mk45 HT_ rfl rfl (by kernel_rfl) (fun _ _ _ h => h) (Or.inl ⟨by rfl, ?_⟩) ?_ ?_; rotate_left; (focus intro w'; go_simp; with_reducible rfl); rotate_left; (focus simp only [Act.put, pS]; rfl)
          refine py_ (a' := ?_) 45 60 undef mk46 HT_ rfl rfl (by kernel_rfl) (fun _ _ _ h => h) (Or.inr ⟨by rfl, rfl⟩) ?_ ?_; rotate_left; (focus simp only [Act.put, pS]; rfl)
          refine py_ (a' := ?_) 46 61 undef mk47 HT_ rfl rfl (by kernel_rfl) (fun _ _ _ h => h) (Or.inr ⟨by rfl, rfl⟩) ?_ ?_; rotate_left; (focus simp only [Act.put, pS]; rfl)
          refine py_ (a' := ?_) 47 62 undef mk48 HT_ rfl rfl (by kernel_rfl) (fun _ _ _ h => h) (Or.inr ⟨by rfl, rfl⟩) ?_ ?_; rotate_left; (focus simp only [Act.put, pS]; rfl)
          refine py_ (a' := ?_) 48 63 ?_ mk49 HT_ rfl rfl (by kernel_rfl) (fun _ _ _ h => h) (Or.inl ⟨by rfl, ?_⟩) ?_ ?_; rotate_left; (focus intro w'; go_simp; with_reducible rfl); rotate_left; (focus simp only [Act.put, pS]; rfl)
          refine done_ (done_of HT_.out (by kernel_rfl)) ?_
          try go_wp2
          go_ret
          exact ⟨by first | rfl | (simp [errW_none, errW_some] <;> rfl) | (simp [*, errW_none, errW_some] <;> rfl), by repeat (first | (with_reducible first | exact HB.out | apply below_alloc | apply pw_below_drewN | apply below_drew1 | refine below_set ?_ GE266.out) | exact HB.out)⟩
         ·rw [if_neg c49] at H
          have c49b0 : decide (((rd_T41 l0 x3_1).f2) < 0) = false := decide_eq_false c49
          clear c49
          by_cases c54 : ((rd_T41 l0 x3_1).f2) > 1073741824
          ·rw [if_pos c54] at H
           have c54b0 : decide (1073741824 < ((rd_T41 l0 x3_1).f2)) = true := decide_eq_true c54
           clear c54
           obtain rfl := Option.some.inj H
           have n0_ := Aside0.mk (blk_drew BK266.out)
           have n1_ := Aside0.mk (below_drew1 HB.out)
           clear BK266
           clear HB
           have BK266 := n0_
           have HB := n1_
           clear n0_ n1_
           refine start_ (n := 49) (S := fun w' => w'.cell? ⟨gb266, 0, none⟩ = some (.int .i64 ((rd_T41 l0 x3_1).f0)) ∧ w'.cell? ⟨gb266, 1, none⟩ = some (.string ((rd_T41 l0 x3_1).f1)) ∧ w'.cell? ⟨gb266, 2, none⟩ = some (.int .i64 ((rd_T41 l0 x3_1).f2)) ∧ w'.cell? ⟨gb266, 3, none⟩ = some (.int .i64 ((rd_T41 l0 x3_1).f3))) (ds := []) mk0 (by kernel_rfl) rfl rfl ⟨(blk_cell BK266.out 0).trans rfl, (blk_cell BK266.out 1).trans rfl, (blk_cell BK266.out 2).trans rfl, (blk_cell BK266.out 3).trans rfl⟩ (fun hHeld => ?_); refine with_tabW souterrainref11_Right.tab5 souterrainref11_Right.bits5 (fun HT_ HW_ => ?_)
           generalize w7.drew = w58 at BK266 HB hHeld ⊢
           refine py_ (a' := ?_) 0 15 ?_ mk1 HT_ rfl rfl (by kernel_rfl) (fun _ _ _ h => h) (Or.inl ⟨by rfl, ?_⟩) ?_ ?_; rotate_left; (focus intro w'; go_simp; with_reducible rfl); rotate_left; (focus simp only [Act.put, pS]; rfl)
           refine take_ (i := 1) (N := some 16) (v := ?_) (a' := ?_) mk2 rfl rfl (take_ofW HT_.out HW_.out (by kernel_rfl)) (fun _ _ _ h => h) (Or.inl ⟨by rfl, ?_⟩) hHeld ?_ ?_; rotate_left; (focus rintro w' ⟨s0, s1, s2, s3⟩; go_simp; with_reducible rfl); rotate_left; (focus simp only [Act.put, pS]; rfl)
           refine py_ (a' := ?_) 2 17 ?_ mk3 HT_ rfl rfl (by kernel_rfl) (fun _ _ _ h => h) (Or.inl ⟨by rfl, ?_⟩) ?_ ?_; rotate_left; (focus intro w'; go_simp; with_reducible rfl); rotate_left; (focus simp only [Act.put, pS]; rfl)
           refine py_ (a' := ?_) 3 18 ?_ mk4 HT_ rfl rfl (by kernel_rfl) (fun _ _ _ h => h) (Or.inl ⟨by rfl, ?_⟩) ?_ ?_; rotate_left; (focus intro w'; go_simp; with_reducible rfl); rotate_left; (focus simp only [Act.put, pS]; rfl)
           refine py_ (a' := ?_) 4 19 ?_ mk5 HT_ rfl rfl (by kernel_rfl) (fun _ _ _ h => h) (Or.inl ⟨by rfl, ?_⟩) ?_ ?_; rotate_left; (focus intro w'; go_simp; with_reducible rfl); rotate_left; (focus simp only [Act.put, pS]; rfl)
           refine take_ (i := 5) (N := some 20) (v := ?_) (a' := ?_) mk6 rfl rfl (take_ofW HT_.out HW_.out (by kernel_rfl)) (fun _ _ _ h => h) (Or.inl ⟨by rfl, ?_⟩) hHeld ?_ ?_; rotate_left; (focus rintro w' ⟨s0, s1, s2, s3⟩; go_simp; with_reducible rfl); rotate_left; (focus simp only [Act.put, pS]; rfl)
           refine py_ (a' := ?_) 6 21 ?_ mk7 HT_ rfl rfl (by kernel_rfl) (fun _ _ _ h => h) (Or.inl ⟨by rfl, ?_⟩) ?_ ?_; rotate_left; (focus intro w'; go_simp; with_reducible rfl); rotate_left; (focus simp only [Act.put, pS]; rfl)
           refine py_ (a' := ?_) 7 22 ?_ mk8 HT_ rfl rfl (by kernel_rfl) (fun _ _ _ h => h) (Or.inl ⟨by rfl, ?_⟩) ?_ ?_; rotate_left; (focus intro w'; go_simp; with_reducible rfl); rotate_left; (focus simp only [Act.put, pS]; rfl)
           refine py_ (a' := ?_) 8 23 ?_ mk9 HT_ rfl rfl (by kernel_rfl) (fun _ _ _ h => h) (Or.inl ⟨by rfl, ?_⟩) ?_ ?_; rotate_left; (focus intro w'; go_simp; with_reducible rfl); rotate_left; (focus simp only [Act.put, pS]; rfl)
           refine py_ (a' := ?_) 9 24 ?_ mk10 HT_ rfl rfl (by kernel_rfl) (fun _ _ _ h => h) (Or.inl ⟨by rfl, ?_⟩) ?_ ?_; rotate_left; (focus intro w'; go_simp; with_reducible rfl); rotate_left; (focus simp only [Act.put, pS]; rfl)
           refine take_ (i := 10) (N := some 25) (v := ?_) (a' := ?_) mk11 rfl rfl (take_ofW HT_.out HW_.out (by kernel_rfl)) (fun _ _ _ h => h) (Or.inl ⟨by rfl, ?_⟩) hHeld ?_ ?_; rotate_left; (focus rintro w' ⟨s0, s1, s2, s3⟩; go_simp; with_reducible rfl); rotate_left; (focus simp only [Act.put, pS]; rfl)
           refine one_ (i := 11) (N := some 26) mk12 rfl rfl (one_of HT_.out (by kernel_rfl)) (by decide) (fun K hK => ?_)
           refine goes_ Try.func34 (by kernel_rfl) rfl #[.string ((rd_T41 l0 x3_1).f1)] (by rfl) rfl rfl (by (try simp only [List.map_toArray, List.map_cons, List.map_nil]); first | done | rfl | (simp only [List.length_drop, List.length_take]; rfl)) ?_
           with_reducible refine (souterrainref04_Key.calls ((rd_T41 l0 x3_1).f1) true _ A14.out).mono ?_
           rintro e w' ⟨rfl, ⟨nd, rfl⟩⟩
           refine ⟨_, rfl, ?_⟩
           refine hK.out _ _ ⟨(blk_cell BK266.out 0).trans rfl, (blk_cell BK266.out 1).trans rfl, (blk_cell BK266.out 2).trans rfl, (blk_cell BK266.out 3).trans rfl⟩ (fun hHeld => ?_)
           clear hK K
           refine norm_ (a' := ?_) ?_ ?_
           rotate_left
           ·show Act.put _ (some 26) _ = _
            simp only [Act.put, pS]
            rfl
           refine py_ (a' := ?_) 12 27 ?_ mk13 HT_ rfl rfl (by kernel_rfl) (fun _ _ _ h => h) (Or.inl ⟨by rfl, ?_⟩) ?_ ?_; rotate_left; (focus intro w'; go_simp; with_reducible rfl); rotate_left; (focus simp only [Act.put, pS]; rfl)
           refine py_ (a' := ?_) 13 28 ?_ mk14 HT_ rfl rfl (by kernel_rfl) (fun _ _ _ h => h) (Or.inl ⟨by rfl, ?_⟩) ?_ ?_; rotate_left; (focus intro w'; go_simp; with_reducible rfl); rotate_left; (focus simp only [Act.put, pS]; rfl)
           refine py_ (a' := ?_) 14 29 ?_ mk15 HT_ rfl rfl (by kernel_rfl) (fun _ _ _ h => h) (Or.inl ⟨by rfl, ?_⟩) ?_ ?_; rotate_left; (focus intro w'; go_simp; with_reducible rfl); rotate_left; (focus simp only [Act.put, pS]; rfl)
           refine py_ (a' := ?_) 15 30 ?_ mk16 HT_ rfl rfl (by kernel_rfl) (fun _ _ _ h => h) (Or.inl ⟨by rfl, ?_⟩) ?_ ?_; rotate_left; (focus intro w'; go_simp; with_reducible rfl); rotate_left; (focus simp only [Act.put, pS]; rfl)
           refine py_ (a' := ?_) 16 31 ?_ mk17 HT_ rfl rfl (by kernel_rfl) (fun _ _ _ h => h) (Or.inl ⟨by rfl, ?_⟩) ?_ ?_; rotate_left; (focus intro w'; go_simp; with_reducible rfl); rotate_left; (focus simp only [Act.put, pS]; rfl)
           refine py_ (a' := ?_) 17 32 ?_ mk18 HT_ rfl rfl (by kernel_rfl) (fun _ _ _ h => h) (Or.inl ⟨by rfl, ?_⟩) ?_ ?_; rotate_left; (focus intro w'; go_simp; with_reducible rfl); rotate_left; (focus simp only [Act.put, pS]; rfl)
           refine py_ (a' := ?_) 18 33 undef mk19 HT_ rfl rfl (by kernel_rfl) (fun _ _ _ h => h) (Or.inr ⟨by rfl, rfl⟩) ?_ ?_; rotate_left; (focus simp only [Act.put, pS]; rfl)
           refine py_ (a' := ?_) 19 34 undef mk20 HT_ rfl rfl (by kernel_rfl) (fun _ _ _ h => h) (Or.inr ⟨by rfl, rfl⟩) ?_ ?_; rotate_left; (focus simp only [Act.put, pS]; rfl)
           refine py_ (a' := ?_) 20 35 undef mk21 HT_ rfl rfl (by kernel_rfl) (fun _ _ _ h => h) (Or.inr ⟨by rfl, rfl⟩) ?_ ?_; rotate_left; (focus simp only [Act.put, pS]; rfl)
           refine py_ (a' := ?_) 21 36 undef mk22 HT_ rfl rfl (by kernel_rfl) (fun _ _ _ h => h) (Or.inr ⟨by rfl, rfl⟩) ?_ ?_; rotate_left; (focus simp only [Act.put, pS]; rfl)
           refine py_ (a' := ?_) 22 37 undef mk23 HT_ rfl rfl (by kernel_rfl) (fun _ _ _ h => h) (Or.inr ⟨by rfl, rfl⟩) ?_ ?_; rotate_left; (focus simp only [Act.put, pS]; rfl)
           refine py_ (a' := ?_) 23 38 undef mk24 HT_ rfl rfl (by kernel_rfl) (fun _ _ _ h => h) (Or.inr ⟨by rfl, rfl⟩) ?_ ?_; rotate_left; (focus simp only [Act.put, pS]; rfl)
           refine py_ (a' := ?_) 24 39 undef mk25 HT_ rfl rfl (by kernel_rfl) (fun _ _ _ h => h) (Or.inr ⟨by rfl, rfl⟩) ?_ ?_; rotate_left; (focus simp only [Act.put, pS]; rfl)
           refine py_ (a' := ?_) 25 40 undef mk26 HT_ rfl rfl (by kernel_rfl) (fun _ _ _ h => h) (Or.inr ⟨by rfl, rfl⟩) ?_ ?_; rotate_left; (focus simp only [Act.put, pS]; rfl)
           refine py_ (a' := ?_) 26 41 undef mk27 HT_ rfl rfl (by kernel_rfl) (fun _ _ _ h => h) (Or.inr ⟨by rfl, rfl⟩) ?_ ?_; rotate_left; (focus simp only [Act.put, pS]; rfl)
           refine py_ (a' := ?_) 27 42 ?_ mk28 HT_ rfl rfl (by kernel_rfl) (fun _ _ _ h => h) (Or.inl ⟨by rfl, ?_⟩) ?_ ?_; rotate_left; (focus intro w'; go_simp; with_reducible rfl); rotate_left; (focus simp only [Act.put, pS]; rfl)
           refine py_ (a' := ?_) 28 43 ?_ mk29 HT_ rfl rfl (by kernel_rfl) (fun _ _ _ h => h) (Or.inl ⟨by rfl, ?_⟩) ?_ ?_; rotate_left; (focus intro w'; go_simp; with_reducible rfl); rotate_left; (focus simp only [Act.put, pS]; rfl)
           refine py_ (a' := ?_) 29 44 ?_ mk30 HT_ rfl rfl (by kernel_rfl) (fun _ _ _ h => h) (Or.inl ⟨by rfl, ?_⟩) ?_ ?_; rotate_left; (focus intro w'; go_simp; with_reducible rfl); rotate_left; (focus simp only [Act.put, pS]; rfl)
           refine py_ (a' := ?_) 30 45 ?_ mk31 HT_ rfl rfl (by kernel_rfl) (fun _ _ _ h => h) (Or.inl ⟨by rfl, ?_⟩) ?_ ?_; rotate_left; (focus intro w'; go_simp; with_reducible rfl); rotate_left; (focus simp only [Act.put, pS]; rfl)
           refine take_ (i := 31) (N := some 46) (v := ?_) (a' := ?_) mk32 rfl rfl (take_ofW HT_.out HW_.out (by kernel_rfl)) (fun _ _ _ h => h) (Or.inl ⟨by rfl, ?_⟩) hHeld ?_ ?_; rotate_left; (focus rintro w' ⟨s0, s1, s2, s3⟩; go_simp; with_reducible rfl); rotate_left; (focus simp only [Act.put, pS]; rfl)
           refine py_ (a' := ?_) 32 47 ?_ mk33 HT_ rfl rfl (by kernel_rfl) (fun _ _ _ h => h) (Or.inl ⟨by rfl, ?_⟩) ?_ ?_; rotate_left; (focus intro w'; go_simp; with_reducible rfl); rotate_left; (focus simp only [Act.put, pS]; rfl)
           refine py_ (a' := ?_) 33 48 ?_ mk34 HT_ rfl rfl (by kernel_rfl) (fun _ _ _ h => h) (Or.inl ⟨by rfl, ?_⟩) ?_ ?_; rotate_left; (focus intro w'; go_simp; with_reducible rfl); rotate_left; (focus simp only [Act.put, pS]; rfl)
           refine py_ (a' := ?_) 34 49 ?_ mk35 HT_ rfl rfl (by kernel_rfl) (fun _ _ _ h => h) (Or.inl ⟨by rfl, ?_⟩) ?_ ?_; rotate_left; (focus intro w'; go_simp; with_reducible rfl); rotate_left; (focus simp only [Act.put, pS]; rfl)
           refine py_ (a' := ?_) 35 50 ?_ mk36 HT_ rfl rfl (by kernel_rfl) (fun _ _ _ h => h) (Or.inl ⟨by rfl, ?_⟩) ?_ ?_; rotate_left; (focus intro w'; go_simp; with_reducible rfl); rotate_left; (focus simp only [Act.put, pS]; rfl)
           refine take_ (i := 36) (N := some 51) (v := ?_) (a' := ?_) mk37 rfl rfl (take_ofW HT_.out HW_.out (by kernel_rfl)) (fun _ _ _ h => h) (Or.inl ⟨by rfl, ?_⟩) hHeld ?_ ?_; rotate_left; (focus rintro w' ⟨s0, s1, s2, s3⟩; go_simp; with_reducible rfl); rotate_left; (focus simp only [Act.put, pS]; rfl)
           refine py_ (a' := ?_) 37 52 ?_ mk38 HT_ rfl rfl (by kernel_rfl) (fun _ _ _ h => h) (Or.inl ⟨by rfl, ?_⟩) ?_ ?_; rotate_left; (focus intro w'; go_simp; with_reducible rfl); rotate_left; (focus simp only [Act.put, pS]; rfl)
           refine py_ (a' := ?_) 38 53 ?_ mk39 HT_ rfl rfl (by kernel_rfl) (fun _ _ _ h => h) (Or.inl ⟨by rfl, ?_⟩) ?_ ?_; rotate_left; (focus intro w'; go_simp; with_reducible rfl); rotate_left; (focus simp only [Act.put, pS]; rfl)
           refine py_ (a' := ?_) 39 54 ?_ mk40 HT_ rfl rfl (by kernel_rfl) (fun _ _ _ h => h) (Or.inl ⟨by rfl, ?_⟩) ?_ ?_; rotate_left; (focus intro w'; go_simp; with_reducible rfl); rotate_left; (focus simp only [Act.put, pS]; rfl)
           refine py_ (a' := ?_) 40 55 undef mk41 HT_ rfl rfl (by kernel_rfl) (fun _ _ _ h => h) (Or.inr ⟨by rfl, rfl⟩) ?_ ?_; rotate_left; (focus simp only [Act.put, pS]; rfl)
           refine py_ (a' := ?_) 41 56 undef mk42 HT_ rfl rfl (by kernel_rfl) (fun _ _ _ h => h) (Or.inr ⟨by rfl, rfl⟩) ?_ ?_; rotate_left; (focus simp only [Act.put, pS]; rfl)
           refine py_ (a' := ?_) 42 57 undef mk43 HT_ rfl rfl (by kernel_rfl) (fun _ _ _ h => h) (Or.inr ⟨by rfl, rfl⟩) ?_ ?_; rotate_left; (focus simp only [Act.put, pS]; rfl)
           refine py_ (a' := ?_) 43 58 ?_ mk44 HT_ rfl rfl (by kernel_rfl) (fun _ _ _ h => h) (Or.inl ⟨by rfl, ?_⟩) ?_ ?_; rotate_left; (focus intro w'; go_simp; with_reducible rfl); rotate_left; (focus simp only [Act.put, pS]; rfl)
           refine py_ (a' := ?_) 44 59 ?_ mk45 HT_ rfl rfl (by kernel_rfl) (fun _ _ _ h => h) (Or.inl ⟨by rfl, ?_⟩) ?_ ?_; rotate_left; (focus intro w'; go_simp; with_reducible rfl); rotate_left; (focus simp only [Act.put, pS]; rfl)
           refine py_ (a' := ?_) 45 60 undef mk46 HT_ rfl rfl (by kernel_rfl) (fun _ _ _ h => h) (Or.inr ⟨by rfl, rfl⟩) ?_ ?_; rotate_left; (focus simp only [Act.put, pS]; rfl)
           refine py_ (a' := ?_) 46 61 undef mk47 HT_ rfl rfl (by kernel_rfl) (fun _ _ _ h => h) (Or.inr ⟨by rfl, rfl⟩) ?_ ?_; rotate_left; (focus simp only [Act.put, pS]; rfl)
           refine py_ (a' := ?_) 47 62 undef mk48 HT_ rfl rfl (by kernel_rfl) (fun _ _ _ h => h) (Or.inr ⟨by rfl, rfl⟩) ?_ ?_; rotate_left; (focus simp only [Act.put, pS]; rfl)
           refine py_ (a' := ?_) 48 63 ?_ mk49 HT_ rfl rfl (by kernel_rfl) (fun _ _ _ h => h) (Or.inl ⟨by rfl, ?_⟩) ?_ ?_; rotate_left; (focus intro w'; go_simp; with_reducible rfl); rotate_left; (focus simp only [Act.put, pS]; rfl)
           refine done_ (done_of HT_.out (by kernel_rfl)) ?_
           try go_wp2
           go_ret
           exact ⟨by first | rfl | (simp [errW_none, errW_some] <;> rfl) | (simp [*, errW_none, errW_some] <;> rfl), by repeat (first | (with_reducible first | exact HB.out | apply below_alloc | apply pw_below_drewN | apply below_drew1 | refine below_set ?_ GE266.out) | exact HB.out)⟩
          ·rw [if_neg c54] at H
           have c54b0 : decide (1073741824 < ((rd_T41 l0 x3_1).f2)) = false := decide_eq_false c54
           clear c54
           by_cases c59 : ((rd_T41 l0 x3_1).f3) < 9
           ·rw [if_pos c59] at H
            have c59b0 : decide (((rd_T41 l0 x3_1).f3) < 9) = true := decide_eq_true c59
            clear c59
            obtain rfl := Option.some.inj H
            have n0_ := Aside0.mk (blk_drew BK266.out)
            have n1_ := Aside0.mk (below_drew1 HB.out)
            clear BK266
            clear HB
            have BK266 := n0_
            have HB := n1_
            clear n0_ n1_
            refine start_ (n := 49) (S := fun w' => w'.cell? ⟨gb266, 0, none⟩ = some (.int .i64 ((rd_T41 l0 x3_1).f0)) ∧ w'.cell? ⟨gb266, 1, none⟩ = some (.string ((rd_T41 l0 x3_1).f1)) ∧ w'.cell? ⟨gb266, 2, none⟩ = some (.int .i64 ((rd_T41 l0 x3_1).f2)) ∧ w'.cell? ⟨gb266, 3, none⟩ = some (.int .i64 ((rd_T41 l0 x3_1).f3))) (ds := []) mk0 (by kernel_rfl) rfl rfl ⟨(blk_cell BK266.out 0).trans rfl, (blk_cell BK266.out 1).trans rfl, (blk_cell BK266.out 2).trans rfl, (blk_cell BK266.out 3).trans rfl⟩ (fun hHeld => ?_); refine with_tabW souterrainref11_Right.tab5 souterrainref11_Right.bits5 (fun HT_ HW_ => ?_)
            generalize w7.drew = w63 at BK266 HB hHeld ⊢
            refine py_ (a' := ?_) 0 15 ?_ mk1 HT_ rfl rfl (by kernel_rfl) (fun _ _ _ h => h) (Or.inl ⟨by rfl, ?_⟩) ?_ ?_; rotate_left; (focus intro w'; go_simp; with_reducible rfl); rotate_left; (focus simp only [Act.put, pS]; rfl)
            refine take_ (i := 1) (N := some 16) (v := ?_) (a' := ?_) mk2 rfl rfl (take_ofW HT_.out HW_.out (by kernel_rfl)) (fun _ _ _ h => h) (Or.inl ⟨by rfl, ?_⟩) hHeld ?_ ?_; rotate_left; (focus rintro w' ⟨s0, s1, s2, s3⟩; go_simp; with_reducible rfl); rotate_left; (focus simp only [Act.put, pS]; rfl)
            refine py_ (a' := ?_) 2 17 ?_ mk3 HT_ rfl rfl (by kernel_rfl) (fun _ _ _ h => h) (Or.inl ⟨by rfl, ?_⟩) ?_ ?_; rotate_left; (focus intro w'; go_simp; with_reducible rfl); rotate_left; (focus simp only [Act.put, pS]; rfl)
            refine py_ (a' := ?_) 3 18 ?_ mk4 HT_ rfl rfl (by kernel_rfl) (fun _ _ _ h => h) (Or.inl ⟨by rfl, ?_⟩) ?_ ?_; rotate_left; (focus intro w'; go_simp; with_reducible rfl); rotate_left; (focus simp only [Act.put, pS]; rfl)
            refine py_ (a' := ?_) 4 19 ?_ mk5 HT_ rfl rfl (by kernel_rfl) (fun _ _ _ h => h) (Or.inl ⟨by rfl, ?_⟩) ?_ ?_; rotate_left; (focus intro w'; go_simp; with_reducible rfl); rotate_left; (focus simp only [Act.put, pS]; rfl)
            refine take_ (i := 5) (N := some 20) (v := ?_) (a' := ?_) mk6 rfl rfl (take_ofW HT_.out HW_.out (by kernel_rfl)) (fun _ _ _ h => h) (Or.inl ⟨by rfl, ?_⟩) hHeld ?_ ?_; rotate_left; (focus rintro w' ⟨s0, s1, s2, s3⟩; go_simp; with_reducible rfl); rotate_left; (focus simp only [Act.put, pS]; rfl)
            refine py_ (a' := ?_) 6 21 ?_ mk7 HT_ rfl rfl (by kernel_rfl) (fun _ _ _ h => h) (Or.inl ⟨by rfl, ?_⟩) ?_ ?_; rotate_left; (focus intro w'; go_simp; with_reducible rfl); rotate_left; (focus simp only [Act.put, pS]; rfl)
            refine py_ (a' := ?_) 7 22 ?_ mk8 HT_ rfl rfl (by kernel_rfl) (fun _ _ _ h => h) (Or.inl ⟨by rfl, ?_⟩) ?_ ?_; rotate_left; (focus intro w'; go_simp; with_reducible rfl); rotate_left; (focus simp only [Act.put, pS]; rfl)
            refine py_ (a' := ?_) 8 23 ?_ mk9 HT_ rfl rfl (by kernel_rfl) (fun _ _ _ h => h) (Or.inl ⟨by rfl, ?_⟩) ?_ ?_; rotate_left; (focus intro w'; go_simp; with_reducible rfl); rotate_left; (focus simp only [Act.put, pS]; rfl)
            refine py_ (a' := ?_) 9 24 ?_ mk10 HT_ rfl rfl (by kernel_rfl) (fun _ _ _ h => h) (Or.inl ⟨by rfl, ?_⟩) ?_ ?_; rotate_left; (focus intro w'; go_simp; with_reducible rfl); rotate_left; (focus simp only [Act.put, pS]; rfl)
            refine take_ (i := 10) (N := some 25) (v := ?_) (a' := ?_) mk11 rfl rfl (take_ofW HT_.out HW_.out (by kernel_rfl)) (fun _ _ _ h => h) (Or.inl ⟨by rfl, ?_⟩) hHeld ?_ ?_; rotate_left; (focus rintro w' ⟨s0, s1, s2, s3⟩; go_simp; with_reducible rfl); rotate_left; (focus simp only [Act.put, pS]; rfl)
            refine one_ (i := 11) (N := some 26) mk12 rfl rfl (one_of HT_.out (by kernel_rfl)) (by decide) (fun K hK => ?_)
            refine goes_ Try.func34 (by kernel_rfl) rfl #[.string ((rd_T41 l0 x3_1).f1)] (by rfl) rfl rfl (by (try simp only [List.map_toArray, List.map_cons, List.map_nil]); first | done | rfl | (simp only [List.length_drop, List.length_take]; rfl)) ?_
            with_reducible refine (souterrainref04_Key.calls ((rd_T41 l0 x3_1).f1) true _ A14.out).mono ?_
            rintro e w' ⟨rfl, ⟨nd, rfl⟩⟩
            refine ⟨_, rfl, ?_⟩
            refine hK.out _ _ ⟨(blk_cell BK266.out 0).trans rfl, (blk_cell BK266.out 1).trans rfl, (blk_cell BK266.out 2).trans rfl, (blk_cell BK266.out 3).trans rfl⟩ (fun hHeld => ?_)
            clear hK K
            refine norm_ (a' := ?_) ?_ ?_
            rotate_left
            ·show Act.put _ (some 26) _ = _
             simp only [Act.put, pS]
             rfl
            refine py_ (a' := ?_) 12 27 ?_ mk13 HT_ rfl rfl (by kernel_rfl) (fun _ _ _ h => h) (Or.inl ⟨by rfl, ?_⟩) ?_ ?_; rotate_left; (focus intro w'; go_simp; with_reducible rfl); rotate_left; (focus simp only [Act.put, pS]; rfl)
            refine py_ (a' := ?_) 13 28 ?_ mk14 HT_ rfl rfl (by kernel_rfl) (fun _ _ _ h => h) (Or.inl ⟨by rfl, ?_⟩) ?_ ?_; rotate_left; (focus intro w'; go_simp; with_reducible rfl); rotate_left; (focus simp only [Act.put, pS]; rfl)
            refine py_ (a' := ?_) 14 29 ?_ mk15 HT_ rfl rfl (by kernel_rfl) (fun _ _ _ h => h) (Or.inl ⟨by rfl, ?_⟩) ?_ ?_; rotate_left; (focus intro w'; go_simp; with_reducible rfl); rotate_left; (focus simp only [Act.put, pS]; rfl)
            refine py_ (a' := ?_) 15 30 ?_ mk16 HT_ rfl rfl (by kernel_rfl) (fun _ _ _ h => h) (Or.inl ⟨by rfl, ?_⟩) ?_ ?_; rotate_left; (focus intro w'; go_simp; with_reducible rfl); rotate_left; (focus simp only [Act.put, pS]; rfl)
            refine py_ (a' := ?_) 16 31 ?_ mk17 HT_ rfl rfl (by kernel_rfl) (fun _ _ _ h => h) (Or.inl ⟨by rfl, ?_⟩) ?_ ?_; rotate_left; (focus intro w'; go_simp; with_reducible rfl); rotate_left; (focus simp only [Act.put, pS]; rfl)
            refine py_ (a' := ?_) 17 32 ?_ mk18 HT_ rfl rfl (by kernel_rfl) (fun _ _ _ h => h) (Or.inl ⟨by rfl, ?_⟩) ?_ ?_; rotate_left; (focus intro w'; go_simp; with_reducible rfl); rotate_left; (focus simp only [Act.put, pS]; rfl)
            refine py_ (a' := ?_) 18 33 undef mk19 HT_ rfl rfl (by kernel_rfl) (fun _ _ _ h => h) (Or.inr ⟨by rfl, rfl⟩) ?_ ?_; rotate_left; (focus simp only [Act.put, pS]; rfl)
            refine py_ (a' := ?_) 19 34 undef mk20 HT_ rfl rfl (by kernel_rfl) (fun _ _ _ h => h) (Or.inr ⟨by rfl, rfl⟩) ?_ ?_; rotate_left; (focus simp only [Act.put, pS]; rfl)
            refine py_ (a' := ?_) 20 35 undef mk21 HT_ rfl rfl (by kernel_rfl) (fun _ _ _ h => h) (Or.inr ⟨by rfl, rfl⟩) ?_ ?_; rotate_left; (focus simp only [Act.put, pS]; rfl)
            refine py_ (a' := ?_) 21 36 undef mk22 HT_ rfl rfl (by kernel_rfl) (fun _ _ _ h => h) (Or.inr ⟨by rfl, rfl⟩) ?_ ?_; rotate_left; (focus simp only [Act.put, pS]; rfl)
            refine py_ (a' := ?_) 22 37 undef mk23 HT_ rfl rfl (by kernel_rfl) (fun _ _ _ h => h) (Or.inr ⟨by rfl, rfl⟩) ?_ ?_; rotate_left; (focus simp only [Act.put, pS]; rfl)
            refine py_ (a' := ?_) 23 38 undef mk24 HT_ rfl rfl (by kernel_rfl) (fun _ _ _ h => h) (Or.inr ⟨by rfl, rfl⟩) ?_ ?_; rotate_left; (focus simp only [Act.put, pS]; rfl)
            refine py_ (a' := ?_) 24 39 undef mk25 HT_ rfl rfl (by kernel_rfl) (fun _ _ _ h => h) (Or.inr ⟨by rfl, rfl⟩) ?_ ?_; rotate_left; (focus simp only [Act.put, pS]; rfl)
            refine py_ (a' := ?_) 25 40 undef mk26 HT_ rfl rfl (by kernel_rfl) (fun _ _ _ h => h) (Or.inr ⟨by rfl, rfl⟩) ?_ ?_; rotate_left; (focus simp only [Act.put, pS]; rfl)
            refine py_ (a' := ?_) 26 41 undef mk27 HT_ rfl rfl (by kernel_rfl) (fun _ _ _ h => h) (Or.inr ⟨by rfl, rfl⟩) ?_ ?_; rotate_left; (focus simp only [Act.put, pS]; rfl)
            refine py_ (a' := ?_) 27 42 ?_ mk28 HT_ rfl rfl (by kernel_rfl) (fun _ _ _ h => h) (Or.inl ⟨by rfl, ?_⟩) ?_ ?_; rotate_left; (focus intro w'; go_simp; with_reducible rfl); rotate_left; (focus simp only [Act.put, pS]; rfl)
            refine py_ (a' := ?_) 28 43 ?_ mk29 HT_ rfl rfl (by kernel_rfl) (fun _ _ _ h => h) (Or.inl ⟨by rfl, ?_⟩) ?_ ?_; rotate_left; (focus intro w'; go_simp; with_reducible rfl); rotate_left; (focus simp only [Act.put, pS]; rfl)
            refine py_ (a' := ?_) 29 44 ?_ mk30 HT_ rfl rfl (by kernel_rfl) (fun _ _ _ h => h) (Or.inl ⟨by rfl, ?_⟩) ?_ ?_; rotate_left; (focus intro w'; go_simp; with_reducible rfl); rotate_left; (focus simp only [Act.put, pS]; rfl)
            refine py_ (a' := ?_) 30 45 ?_ mk31 HT_ rfl rfl (by kernel_rfl) (fun _ _ _ h => h) (Or.inl ⟨by rfl, ?_⟩) ?_ ?_; rotate_left; (focus intro w'; go_simp; with_reducible rfl); rotate_left; (focus simp only [Act.put, pS]; rfl)
            refine take_ (i := 31) (N := some 46) (v := ?_) (a' := ?_) mk32 rfl rfl (take_ofW HT_.out HW_.out (by kernel_rfl)) (fun _ _ _ h => h) (Or.inl ⟨by rfl, ?_⟩) hHeld ?_ ?_; rotate_left; (focus rintro w' ⟨s0, s1, s2, s3⟩; go_simp; with_reducible rfl); rotate_left; (focus simp only [Act.put, pS]; rfl)
            refine py_ (a' := ?_) 32 47 ?_ mk33 HT_ rfl rfl (by kernel_rfl) (fun _ _ _ h => h) (Or.inl ⟨by rfl, ?_⟩) ?_ ?_; rotate_left; (focus intro w'; go_simp; with_reducible rfl); rotate_left; (focus simp only [Act.put, pS]; rfl)
            refine py_ (a' := ?_) 33 48 ?_ mk34 HT_ rfl rfl (by kernel_rfl) (fun _ _ _ h => h) (Or.inl ⟨by rfl, ?_⟩) ?_ ?_; rotate_left; (focus intro w'; go_simp; with_reducible rfl); rotate_left; (focus simp only [Act.put, pS]; rfl)
            refine py_ (a' := ?_) 34 49 ?_ mk35 HT_ rfl rfl (by kernel_rfl) (fun _ _ _ h => h) (Or.inl ⟨by rfl, ?_⟩) ?_ ?_; rotate_left; (focus intro w'; go_simp; with_reducible rfl); rotate_left; (focus simp only [Act.put, pS]; rfl)
            refine py_ (a' := ?_) 35 50 ?_ mk36 HT_ rfl rfl (by kernel_rfl) (fun _ _ _ h => h) (Or.inl ⟨by rfl, ?_⟩) ?_ ?_; rotate_left; (focus intro w'; go_simp; with_reducible rfl); rotate_left; (focus simp only [Act.put, pS]; rfl)
            refine take_ (i := 36) (N := some 51) (v := ?_) (a' := ?_) mk37 rfl rfl (take_ofW HT_.out HW_.out (by kernel_rfl)) (fun _ _ _ h => h) (Or.inl ⟨by rfl, ?_⟩) hHeld ?_ ?_; rotate_left; (focus rintro w' ⟨s0, s1, s2, s3⟩; go_simp; with_reducible rfl); rotate_left; (focus simp only [Act.put, pS]; rfl)
            refine py_ (a' := ?_) 37 52 ?_ mk38 HT_ rfl rfl (by kernel_rfl) (fun _ _ _ h => h) (Or.inl ⟨by rfl, ?_⟩) ?_ ?_; rotate_left; (focus intro w'; go_simp; with_reducible rfl); rotate_left; (focus simp only [Act.put, pS]; rfl)
            refine py_ (a' := ?_) 38 53 ?_ mk39 HT_ rfl rfl (by kernel_rfl) (fun _ _ _ h => h) (Or.inl ⟨by rfl, ?_⟩) ?_ ?_; rotate_left; (focus intro w'; go_simp; with_reducible rfl); rotate_left; (focus simp only [Act.put, pS]; rfl)
            refine py_ (a' := ?_) 39 54 ?_ mk40 HT_ rfl rfl (by kernel_rfl) (fun _ _ _ h => h) (Or.inl ⟨by rfl, ?_⟩) ?_ ?_; rotate_left; (focus intro w'; go_simp; with_reducible rfl); rotate_left; (focus simp only [Act.put, pS]; rfl)
            refine py_ (a' := ?_) 40 55 ?_ mk41 HT_ rfl rfl (by kernel_rfl) (fun _ _ _ h => h) (Or.inl ⟨by rfl, ?_⟩) ?_ ?_; rotate_left; (focus intro w'; go_simp; with_reducible rfl); rotate_left; (focus simp only [Act.put, pS]; rfl)
            refine take_ (i := 41) (N := some 56) (v := ?_) (a' := ?_) mk42 rfl rfl (take_ofW HT_.out HW_.out (by kernel_rfl)) (fun _ _ _ h => h) (Or.inl ⟨by rfl, ?_⟩) hHeld ?_ ?_; rotate_left; (focus rintro w' ⟨s0, s1, s2, s3⟩; go_simp; with_reducible rfl); rotate_left; (focus simp only [Act.put, pS]; rfl)
            refine py_ (a' := ?_) 42 57 ?_ mk43 HT_ rfl rfl (by kernel_rfl) (fun _ _ _ h => h) (Or.inl ⟨by rfl, ?_⟩) ?_ ?_; rotate_left; (focus intro w'; go_simp; with_reducible rfl); rotate_left; (focus simp only [Act.put, pS]; rfl)
            refine py_ (a' := ?_) 43 58 ?_ mk44 HT_ rfl rfl (by kernel_rfl) (fun _ _ _ h => h) (Or.inl ⟨by rfl, ?_⟩) ?_ ?_; rotate_left; (focus intro w'; go_simp; with_reducible rfl); rotate_left; (focus simp only [Act.put, pS]; rfl)
            refine py_ (a' := ?_) 44 59 ?_ mk45 HT_ rfl rfl (by kernel_rfl) (fun _ _ _ h => h) (Or.inl ⟨by rfl, ?_⟩) ?_ ?_; rotate_left; (focus intro w'; go_simp; with_reducible rfl); rotate_left; (focus simp only [Act.put, pS]; rfl)
            refine py_ (a' := ?_) 45 60 undef mk46 HT_ rfl rfl (by kernel_rfl) (fun _ _ _ h => h) (Or.inr ⟨by rfl, rfl⟩) ?_ ?_; rotate_left; (focus simp only [Act.put, pS]; rfl)
            refine py_ (a' := ?_) 46 61 undef mk47 HT_ rfl rfl (by kernel_rfl) (fun _ _ _ h => h) (Or.inr ⟨by rfl, rfl⟩) ?_ ?_; rotate_left; (focus simp only [Act.put, pS]; rfl)
            refine py_ (a' := ?_) 47 62 undef mk48 HT_ rfl rfl (by kernel_rfl) (fun _ _ _ h => h) (Or.inr ⟨by rfl, rfl⟩) ?_ ?_; rotate_left; (focus simp only [Act.put, pS]; rfl)
            refine py_ (a' := ?_) 48 63 ?_ mk49 HT_ rfl rfl (by kernel_rfl) (fun _ _ _ h => h) (Or.inl ⟨by rfl, ?_⟩) ?_ ?_; rotate_left; (focus intro w'; go_simp; with_reducible rfl); rotate_left; (focus simp only [Act.put, pS]; rfl)
            refine done_ (done_of HT_.out (by kernel_rfl)) ?_
            try go_wp2
            go_ret
            exact ⟨by first | rfl | (simp [errW_none, errW_some] <;> rfl) | (simp [*, errW_none, errW_some] <;> rfl), by repeat (first | (with_reducible first | exact HB.out | apply below_alloc | apply pw_below_drewN | apply below_drew1 | refine below_set ?_ GE266.out) | exact HB.out)⟩
           ·rw [if_neg c59] at H
            have c59b0 : decide (((rd_T41 l0 x3_1).f3) < 9) = false := decide_eq_false c59
            clear c59
            by_cases c64 : ((rd_T41 l0 x3_1).f3) > 8200
            ·rw [if_pos c64] at H
             have c64b0 : decide (8200 < ((rd_T41 l0 x3_1).f3)) = true := decide_eq_true c64
             clear c64
             obtain rfl := Option.some.inj H
             have n0_ := Aside0.mk (blk_drew BK266.out)
             have n1_ := Aside0.mk (below_drew1 HB.out)
             clear BK266
             clear HB
             have BK266 := n0_
             have HB := n1_
             clear n0_ n1_
             refine start_ (n := 49) (S := fun w' => w'.cell? ⟨gb266, 0, none⟩ = some (.int .i64 ((rd_T41 l0 x3_1).f0)) ∧ w'.cell? ⟨gb266, 1, none⟩ = some (.string ((rd_T41 l0 x3_1).f1)) ∧ w'.cell? ⟨gb266, 2, none⟩ = some (.int .i64 ((rd_T41 l0 x3_1).f2)) ∧ w'.cell? ⟨gb266, 3, none⟩ = some (.int .i64 ((rd_T41 l0 x3_1).f3))) (ds := []) mk0 (by kernel_rfl) rfl rfl ⟨(blk_cell BK266.out 0).trans rfl, (blk_cell BK266.out 1).trans rfl, (blk_cell BK266.out 2).trans rfl, (blk_cell BK266.out 3).trans rfl⟩ (fun hHeld => ?_); refine with_tabW souterrainref11_Right.tab5 souterrainref11_Right.bits5 (fun HT_ HW_ => ?_)
             generalize w7.drew = w68 at BK266 HB hHeld ⊢
             refine py_ (a' := ?_) 0 15 ?_ mk1 HT_ rfl rfl (by kernel_rfl) (fun _ _ _ h => h) (Or.inl ⟨by rfl, ?_⟩) ?_ ?_; rotate_left; (focus intro w'; go_simp; with_reducible rfl); rotate_left; (focus simp only [Act.put, pS]; rfl)
             refine take_ (i := 1) (N := some 16) (v := ?_) (a' := ?_) mk2 rfl rfl (take_ofW HT_.out HW_.out (by kernel_rfl)) (fun _ _ _ h => h) (Or.inl ⟨by rfl, ?_⟩) hHeld ?_ ?_; rotate_left; (focus rintro w' ⟨s0, s1, s2, s3⟩; go_simp; with_reducible rfl); rotate_left; (focus simp only [Act.put, pS]; rfl)
             refine py_ (a' := ?_) 2 17 ?_ mk3 HT_ rfl rfl (by kernel_rfl) (fun _ _ _ h => h) (Or.inl ⟨by rfl, ?_⟩) ?_ ?_; rotate_left; (focus intro w'; go_simp; with_reducible rfl); rotate_left; (focus simp only [Act.put, pS]; rfl)
             refine py_ (a' := ?_) 3 18 ?_ mk4 HT_ rfl rfl (by kernel_rfl) (fun _ _ _ h => h) (Or.inl ⟨by rfl, ?_⟩) ?_ ?_; rotate_left; (focus intro w'; go_simp; with_reducible rfl); rotate_left; (focus simp only [Act.put, pS]; rfl)
             refine py_ (a' := ?_) 4 19 ?_ mk5 HT_ rfl rfl (by kernel_rfl) (fun _ _ _ h => h) (Or.inl ⟨by rfl, ?_⟩) ?_ ?_; rotate_left; (focus intro w'; go_simp; with_reducible rfl); rotate_left; (focus simp only [Act.put, pS]; rfl)
             refine take_ (i := 5) (N := some 20) (v := ?_) (a' := ?_) mk6 rfl rfl (take_ofW HT_.out HW_.out (by kernel_rfl)) (fun _ _ _ h => h) (Or.inl ⟨by rfl, ?_⟩) hHeld ?_ ?_; rotate_left; (focus rintro w' ⟨s0, s1, s2, s3⟩; go_simp; with_reducible rfl); rotate_left; (focus simp only [Act.put, pS]; rfl)
             refine py_ (a' := ?_) 6 21 ?_ mk7 HT_ rfl rfl (by kernel_rfl) (fun _ _ _ h => h) (Or.inl ⟨by rfl, ?_⟩) ?_ ?_; rotate_left; (focus intro w'; go_simp; with_reducible rfl); rotate_left; (focus simp only [Act.put, pS]; rfl)
             refine py_ (a' := ?_) 7 22 ?_ mk8 HT_ rfl rfl (by kernel_rfl) (fun _ _ _ h => h) (Or.inl ⟨by rfl, ?_⟩) ?_ ?_; rotate_left; (focus intro w'; go_simp; with_reducible rfl); rotate_left; (focus simp only [Act.put, pS]; rfl)
             refine py_ (a' := ?_) 8 23 ?_ mk9 HT_ rfl rfl (by kernel_rfl) (fun _ _ _ h => h) (Or.inl ⟨by rfl, ?_⟩) ?_ ?_; rotate_left; (focus intro w'; go_simp; with_reducible rfl); rotate_left; (focus simp only [Act.put, pS]; rfl)
             refine py_ (a' := ?_) 9 24 ?_ mk10 HT_ rfl rfl (by kernel_rfl) (fun _ _ _ h => h) (Or.inl ⟨by rfl, ?_⟩) ?_ ?_; rotate_left; (focus intro w'; go_simp; with_reducible rfl); rotate_left; (focus simp only [Act.put, pS]; rfl)
             refine take_ (i := 10) (N := some 25) (v := ?_) (a' := ?_) mk11 rfl rfl (take_ofW HT_.out HW_.out (by kernel_rfl)) (fun _ _ _ h => h) (Or.inl ⟨by rfl, ?_⟩) hHeld ?_ ?_; rotate_left; (focus rintro w' ⟨s0, s1, s2, s3⟩; go_simp; with_reducible rfl); rotate_left; (focus simp only [Act.put, pS]; rfl)
             refine one_ (i := 11) (N := some 26) mk12 rfl rfl (one_of HT_.out (by kernel_rfl)) (by decide) (fun K hK => ?_)
             refine goes_ Try.func34 (by kernel_rfl) rfl #[.string ((rd_T41 l0 x3_1).f1)] (by rfl) rfl rfl (by (try simp only [List.map_toArray, List.map_cons, List.map_nil]); first | done | rfl | (simp only [List.length_drop, List.length_take]; rfl)) ?_
             with_reducible refine (souterrainref04_Key.calls ((rd_T41 l0 x3_1).f1) true _ A14.out).mono ?_
             rintro e w' ⟨rfl, ⟨nd, rfl⟩⟩
             refine ⟨_, rfl, ?_⟩
             refine hK.out _ _ ⟨(blk_cell BK266.out 0).trans rfl, (blk_cell BK266.out 1).trans rfl, (blk_cell BK266.out 2).trans rfl, (blk_cell BK266.out 3).trans rfl⟩ (fun hHeld => ?_)
             clear hK K
             refine norm_ (a' := ?_) ?_ ?_
             rotate_left
             ·show Act.put _ (some 26) _ = _
              simp only [Act.put, pS]
              rfl
             refine py_ (a' := ?_) 12 27 ?_ mk13 HT_ rfl rfl (by kernel_rfl) (fun _ _ _ h => h) (Or.inl ⟨by rfl, ?_⟩) ?_ ?_; rotate_left; (focus intro w'; go_simp; with_reducible rfl); rotate_left; (focus simp only [Act.put, pS]; rfl)
             refine py_ (a' := ?_) 13 28 ?_ mk14 HT_ rfl rfl (by kernel_rfl) (fun _ _ _ h => h) (Or.inl ⟨by rfl, ?_⟩) ?_ ?_; rotate_left; (focus intro w'; go_simp; with_reducible rfl); rotate_left; (focus simp only [Act.put, pS]; rfl)
             refine py_ (a' := ?_) 14 29 ?_ mk15 HT_ rfl rfl (by kernel_rfl) (fun _ _ _ h => h) (Or.inl ⟨by rfl, ?_⟩) ?_ ?_; rotate_left; (focus intro w'; go_simp; with_reducible rfl); rotate_left; (focus simp only [Act.put, pS]; rfl)
             refine py_ (a' := ?_) 15 30 ?_ mk16 HT_ rfl rfl (by kernel_rfl) (fun _ _ _ h => h) (Or.inl ⟨by rfl, ?_⟩) ?_ ?_; rotate_left; (focus intro w'; go_simp; with_reducible rfl); rotate_left; (focus simp only [Act.put, pS]; rfl)
             refine py_ (a' := ?_) 16 31 ?_ mk17 HT_ rfl rfl (by kernel_rfl) (fun _ _ _ h => h) (Or.inl ⟨by rfl, ?_⟩) ?_ ?_; rotate_left; (focus intro w'; go_simp; with_reducible rfl); rotate_left; (focus simp only [Act.put, pS]; rfl)
             refine py_ (a' := ?_) 17 32 ?_ mk18 HT_ rfl rfl (by kernel_rfl) (fun _ _ _ h => h) (Or.inl ⟨by rfl, ?_⟩) ?_ ?_; rotate_left; (focus intro w'; go_simp; with_reducible rfl); rotate_left; (focus simp only [Act.put, pS]; rfl)
             refine py_ (a' := ?_) 18 33 undef mk19 HT_ rfl rfl (by kernel_rfl) (fun _ _ _ h => h) (Or.inr ⟨by rfl, rfl⟩) ?_ ?_; rotate_left; (focus simp only [Act.put, pS]; rfl)
             refine py_ (a' := ?_) 19 34 undef mk20 HT_ rfl rfl (by kernel_rfl) (fun _ _ _ h => h) (Or.inr ⟨by rfl, rfl⟩) ?_ ?_; rotate_left; (focus simp only [Act.put, pS]; rfl)
             refine py_ (a' := ?_) 20 35 undef mk21 HT_ rfl rfl (by kernel_rfl) (fun _ _ _ h => h) (Or.inr ⟨by rfl, rfl⟩) ?_ ?_; rotate_left; (focus simp only [Act.put, pS]; rfl)
             refine py_ (a' := ?_) 21 36 undef mk22 HT_ rfl rfl (by kernel_rfl) (fun _ _ _ h => h) (Or.inr ⟨by rfl, rfl⟩) ?_ ?_; rotate_left; (focus simp only [Act.put, pS]; rfl)
             refine py_ (a' := ?_) 22 37 undef mk23 HT_ rfl rfl (by kernel_rfl) (fun _ _ _ h => h) (Or.inr ⟨by rfl, rfl⟩) ?_ ?_; rotate_left; (focus simp only [Act.put, pS]; rfl)
             refine py_ (a' := ?_) 23 38 undef mk24 HT_ rfl rfl (by kernel_rfl) (fun _ _ _ h => h) (Or.inr ⟨by rfl, rfl⟩) ?_ ?_; rotate_left; (focus simp only [Act.put, pS]; rfl)
             refine py_ (a' := ?_) 24 39 undef mk25 HT_ rfl rfl (by kernel_rfl) (fun _ _ _ h => h) (Or.inr ⟨by rfl, rfl⟩) ?_ ?_; rotate_left; (focus simp only [Act.put, pS]; rfl)
             refine py_ (a' := ?_) 25 40 undef mk26 HT_ rfl rfl (by kernel_rfl) (fun _ _ _ h => h) (Or.inr ⟨by rfl, rfl⟩) ?_ ?_; rotate_left; (focus simp only [Act.put, pS]; rfl)
             refine py_ (a' := ?_) 26 41 undef mk27 HT_ rfl rfl (by kernel_rfl) (fun _ _ _ h => h) (Or.inr ⟨by rfl, rfl⟩) ?_ ?_; rotate_left; (focus simp only [Act.put, pS]; rfl)
             refine py_ (a' := ?_) 27 42 ?_ mk28 HT_ rfl rfl (by kernel_rfl) (fun _ _ _ h => h) (Or.inl ⟨by rfl, ?_⟩) ?_ ?_; rotate_left; (focus intro w'; go_simp; with_reducible rfl); rotate_left; (focus simp only [Act.put, pS]; rfl)
             refine py_ (a' := ?_) 28 43 ?_ mk29 HT_ rfl rfl (by kernel_rfl) (fun _ _ _ h => h) (Or.inl ⟨by rfl, ?_⟩) ?_ ?_; rotate_left; (focus intro w'; go_simp; with_reducible rfl); rotate_left; (focus simp only [Act.put, pS]; rfl)
             refine py_ (a' := ?_) 29 44 ?_ mk30 HT_ rfl rfl (by kernel_rfl) (fun _ _ _ h => h) (Or.inl ⟨by rfl, ?_⟩) ?_ ?_; rotate_left; (focus intro w'; go_simp; with_reducible rfl); rotate_left; (focus simp only [Act.put, pS]; rfl)
             refine py_ (a' := ?_) 30 45 ?_ mk31 HT_ rfl rfl (by kernel_rfl) (fun _ _ _ h => h) (Or.inl ⟨by rfl, ?_⟩) ?_ ?_; rotate_left; (focus intro w'; go_simp; with_reducible rfl); rotate_left; (focus simp only [Act.put, pS]; rfl)
             refine take_ (i := 31) (N := some 46) (v := ?_) (a' := ?_) mk32 rfl rfl (take_ofW HT_.out HW_.out (by kernel_rfl)) (fun _ _ _ h => h) (Or.inl ⟨by rfl, ?_⟩) hHeld ?_ ?_; rotate_left; (focus rintro w' ⟨s0, s1, s2, s3⟩; go_simp; with_reducible rfl); rotate_left; (focus simp only [Act.put, pS]; rfl)
             refine py_ (a' := ?_) 32 47 ?_ mk33 HT_ rfl rfl (by kernel_rfl) (fun _ _ _ h => h) (Or.inl ⟨by rfl, ?_⟩) ?_ ?_; rotate_left; (focus intro w'; go_simp; with_reducible rfl); rotate_left; (focus simp only [Act.put, pS]; rfl)
             refine py_ (a' := ?_) 33 48 ?_ mk34 HT_ rfl rfl (by kernel_rfl) (fun _ _ _ h => h) (Or.inl ⟨by rfl, ?_⟩) ?_ ?_; rotate_left; (focus intro w'; go_simp; with_reducible rfl); rotate_left; (focus simp only [Act.put, pS]; rfl)
             refine py_ (a' := ?_) 34 49 ?_ mk35 HT_ rfl rfl (by kernel_rfl) (fun _ _ _ h => h) (Or.inl ⟨by rfl, ?_⟩) ?_ ?_; rotate_left; (focus intro w'; go_simp; with_reducible rfl); rotate_left; (focus simp only [Act.put, pS]; rfl)
             refine py_ (a' := ?_) 35 50 ?_ mk36 HT_ rfl rfl (by kernel_rfl) (fun _ _ _ h => h) (Or.inl ⟨by rfl, ?_⟩) ?_ ?_; rotate_left; (focus intro w'; go_simp; with_reducible rfl); rotate_left; (focus simp only [Act.put, pS]; rfl)
             refine take_ (i := 36) (N := some 51) (v := ?_) (a' := ?_) mk37 rfl rfl (take_ofW HT_.out HW_.out (by kernel_rfl)) (fun _ _ _ h => h) (Or.inl ⟨by rfl, ?_⟩) hHeld ?_ ?_; rotate_left; (focus rintro w' ⟨s0, s1, s2, s3⟩; go_simp; with_reducible rfl); rotate_left; (focus simp only [Act.put, pS]; rfl)
             refine py_ (a' := ?_) 37 52 ?_ mk38 HT_ rfl rfl (by kernel_rfl) (fun _ _ _ h => h) (Or.inl ⟨by rfl, ?_⟩) ?_ ?_; rotate_left; (focus intro w'; go_simp; with_reducible rfl); rotate_left; (focus simp only [Act.put, pS]; rfl)
             refine py_ (a' := ?_) 38 53 ?_ mk39 HT_ rfl rfl (by kernel_rfl) (fun _ _ _ h => h) (Or.inl ⟨by rfl, ?_⟩) ?_ ?_; rotate_left; (focus intro w'; go_simp; with_reducible rfl); rotate_left; (focus simp only [Act.put, pS]; rfl)
             refine py_ (a' := ?_) 39 54 ?_ mk40 HT_ rfl rfl (by kernel_rfl) (fun _ _ _ h => h) (Or.inl ⟨by rfl, ?_⟩) ?_ ?_; rotate_left; (focus intro w'; go_simp; with_reducible rfl); rotate_left; (focus simp only [Act.put, pS]; rfl)
             refine py_ (a' := ?_) 40 55 ?_ mk41 HT_ rfl rfl (by kernel_rfl) (fun _ _ _ h => h) (Or.inl ⟨by rfl, ?_⟩) ?_ ?_; rotate_left; (focus intro w'; go_simp; with_reducible rfl); rotate_left; (focus simp only [Act.put, pS]; rfl)
             refine take_ (i := 41) (N := some 56) (v := ?_) (a' := ?_) mk42 rfl rfl (take_ofW HT_.out HW_.out (by kernel_rfl)) (fun _ _ _ h => h) (Or.inl ⟨by rfl, ?_⟩) hHeld ?_ ?_; rotate_left; (focus rintro w' ⟨s0, s1, s2, s3⟩; go_simp; with_reducible rfl); rotate_left; (focus simp only [Act.put, pS]; rfl)
             refine py_ (a' := ?_) 42 57 ?_ mk43 HT_ rfl rfl (by kernel_rfl) (fun _ _ _ h => h) (Or.inl ⟨by rfl, ?_⟩) ?_ ?_; rotate_left; (focus intro w'; go_simp; with_reducible rfl); rotate_left; (focus simp only [Act.put, pS]; rfl)
             refine py_ (a' := ?_) 43 58 ?_ mk44 HT_ rfl rfl (by kernel_rfl) (fun _ _ _ h => h) (Or.inl ⟨by rfl, ?_⟩) ?_ ?_; rotate_left; (focus intro w'; go_simp; with_reducible rfl); rotate_left; (focus simp only [Act.put, pS]; rfl)
             refine py_ (a' := ?_) 44 59 ?_ mk45 HT_ rfl rfl (by kernel_rfl) (fun _ _ _ h => h) (Or.inl ⟨by rfl, ?_⟩) ?_ ?_; rotate_left; (focus intro w'; go_simp; with_reducible rfl); rotate_left; (focus simp only [Act.put, pS]; rfl)
             refine py_ (a' := ?_) 45 60 ?_ mk46 HT_ rfl rfl (by kernel_rfl) (fun _ _ _ h => h) (Or.inl ⟨by rfl, ?_⟩) ?_ ?_; rotate_left; (focus intro w'; go_simp; with_reducible rfl); rotate_left; (focus simp only [Act.put, pS]; rfl)
             refine take_ (i := 46) (N := some 61) (v := ?_) (a' := ?_) mk47 rfl rfl (take_ofW HT_.out HW_.out (by kernel_rfl)) (fun _ _ _ h => h) (Or.inl ⟨by rfl, ?_⟩) hHeld ?_ ?_; rotate_left; (focus rintro w' ⟨s0, s1, s2, s3⟩; go_simp; with_reducible rfl); rotate_left; (focus simp only [Act.put, pS]; rfl)
             refine py_ (a' := ?_) 47 62 ?_ mk48 HT_ rfl rfl (by kernel_rfl) (fun _ _ _ h => h) (Or.inl ⟨by rfl, ?_⟩) ?_ ?_; rotate_left; (focus intro w'; go_simp; with_reducible rfl); rotate_left; (focus simp only [Act.put, pS]; rfl)
             refine py_ (a' := ?_) 48 63 ?_ mk49 HT_ rfl rfl (by kernel_rfl) (fun _ _ _ h => h) (Or.inl ⟨by rfl, ?_⟩) ?_ ?_; rotate_left; (focus intro w'; go_simp; with_reducible rfl); rotate_left; (focus simp only [Act.put, pS]; rfl)
             refine done_ (done_of HT_.out (by kernel_rfl)) ?_
             try go_wp2
             go_ret
             exact ⟨by first | rfl | (simp [errW_none, errW_some] <;> rfl) | (simp [*, errW_none, errW_some] <;> rfl), by repeat (first | (with_reducible first | exact HB.out | apply below_alloc | apply pw_below_drewN | apply below_drew1 | refine below_set ?_ GE266.out) | exact HB.out)⟩
            ·rw [if_neg c64] at H
             have c64b0 : decide (8200 < ((rd_T41 l0 x3_1).f3)) = false := decide_eq_false c64
             clear c64
             have H' := Aside0.mk H
             clear H
             have n0_ := Aside0.mk (blk_drew BK266.out)
             have n1_ := Aside0.mk (below_drew1 HB.out)
             clear BK266
             clear HB
             have BK266 := n0_
             have HB := n1_
             clear n0_ n1_
             refine start_ (n := 49) (S := fun w' => w'.cell? ⟨gb266, 0, none⟩ = some (.int .i64 ((rd_T41 l0 x3_1).f0)) ∧ w'.cell? ⟨gb266, 1, none⟩ = some (.string ((rd_T41 l0 x3_1).f1)) ∧ w'.cell? ⟨gb266, 2, none⟩ = some (.int .i64 ((rd_T41 l0 x3_1).f2)) ∧ w'.cell? ⟨gb266, 3, none⟩ = some (.int .i64 ((rd_T41 l0 x3_1).f3))) (ds := []) mk0 (by kernel_rfl) rfl rfl ⟨(blk_cell BK266.out 0).trans rfl, (blk_cell BK266.out 1).trans rfl, (blk_cell BK266.out 2).trans rfl, (blk_cell BK266.out 3).trans rfl⟩ (fun hHeld => ?_); refine with_tabW souterrainref11_Right.tab5 souterrainref11_Right.bits5 (fun HT_ HW_ => ?_)
             generalize w7.drew = w72 at BK266 HB hHeld ⊢
             refine py_ (a' := ?_) 0 15 ?_ mk1 HT_ rfl rfl (by kernel_rfl) (fun _ _ _ h => h) (Or.inl ⟨by rfl, ?_⟩) ?_ ?_; rotate_left; (focus intro w'; go_simp; with_reducible rfl); rotate_left; (focus simp only [Act.put, pS]; rfl)
             refine take_ (i := 1) (N := some 16) (v := ?_) (a' := ?_) mk2 rfl rfl (take_ofW HT_.out HW_.out (by kernel_rfl)) (fun _ _ _ h => h) (Or.inl ⟨by rfl, ?_⟩) hHeld ?_ ?_; rotate_left; (focus rintro w' ⟨s0, s1, s2, s3⟩; go_simp; with_reducible rfl); rotate_left; (focus simp only [Act.put, pS]; rfl)
             refine py_ (a' := ?_) 2 17 ?_ mk3 HT_ rfl rfl (by kernel_rfl) (fun _ _ _ h => h) (Or.inl ⟨by rfl, ?_⟩) ?_ ?_; rotate_left; (focus intro w'; go_simp; with_reducible rfl); rotate_left; (focus simp only [Act.put, pS]; rfl)
             refine py_ (a' := ?_) 3 18 ?_ mk4 HT_ rfl rfl (by kernel_rfl) (fun _ _ _ h => h) (Or.inl ⟨by rfl, ?_⟩) ?_ ?_; rotate_left; (focus intro w'; go_simp; with_reducible rfl); rotate_left; (focus simp only [Act.put, pS]; rfl)
             refine py_ (a' := ?_) 4 19 ?_ mk5 HT_ rfl rfl (by kernel_rfl) (fun _ _ _ h => h) (Or.inl ⟨by rfl, ?_⟩) ?_ ?_; rotate_left; (focus intro w'; go_simp; with_reducible rfl); rotate_left; (focus simp only [Act.put, pS]; rfl)
             refine take_ (i := 5) (N := some 20) (v := ?_) (a' := ?_) mk6 rfl rfl (take_ofW HT_.out HW_.out (by kernel_rfl)) (fun _ _ _ h => h) (Or.inl ⟨by rfl, ?_⟩) hHeld ?_ ?_; rotate_left; (focus rintro w' ⟨s0, s1, s2, s3⟩; go_simp; with_reducible rfl); rotate_left; (focus simp only [Act.put, pS]; rfl)
             refine py_ (a' := ?_) 6 21 ?_ mk7 HT_ rfl rfl (by kernel_rfl) (fun _ _ _ h => h) (Or.inl ⟨by rfl, ?_⟩) ?_ ?_; rotate_left; (focus intro w'; go_simp; with_reducible rfl); rotate_left; (focus simp only [Act.put, pS]; rfl)
             refine py_ (a' := ?_) 7 22 ?_ mk8 HT_ rfl rfl (by kernel_rfl) (fun _ _ _ h => h) (Or.inl ⟨by rfl, ?_⟩) ?_ ?_; rotate_left; (focus intro w'; go_simp; with_reducible rfl); rotate_left; (focus simp only [Act.put, pS]; rfl)
             refine py_ (a' := ?_) 8 23 ?_ mk9 HT_ rfl rfl (by kernel_rfl) (fun _ _ _ h => h) (Or.inl ⟨by rfl, ?_⟩) ?_ ?_; rotate_left; (focus intro w'; go_simp; with_reducible rfl); rotate_left; (focus simp only [Act.put, pS]; rfl)
             refine py_ (a' := ?_) 9 24 ?_ mk10 HT_ rfl rfl (by kernel_rfl) (fun _ _ _ h => h) (Or.inl ⟨by rfl, ?_⟩) ?_ ?_; rotate_left; (focus intro w'; go_simp; with_reducible rfl); rotate_left; (focus simp only [Act.put, pS]; rfl)
             refine take_ (i := 10) (N := some 25) (v := ?_) (a' := ?_) mk11 rfl rfl (take_ofW HT_.out HW_.out (by kernel_rfl)) (fun _ _ _ h => h) (Or.inl ⟨by rfl, ?_⟩) hHeld ?_ ?_; rotate_left; (focus rintro w' ⟨s0, s1, s2, s3⟩; go_simp; with_reducible rfl); rotate_left; (focus simp only [Act.put, pS]; rfl)
             refine one_ (i := 11) (N := some 26) mk12 rfl rfl (one_of HT_.out (by kernel_rfl)) (by decide) (fun K hK => ?_)
             refine goes_ Try.func34 (by kernel_rfl) rfl #[.string ((rd_T41 l0 x3_1).f1)] (by rfl) rfl rfl (by (try simp only [List.map_toArray, List.map_cons, List.map_nil]); first | done | rfl | (simp only [List.length_drop, List.length_take]; rfl)) ?_
             with_reducible refine (souterrainref04_Key.calls ((rd_T41 l0 x3_1).f1) true _ A14.out).mono ?_
             rintro e w' ⟨rfl, ⟨nd, rfl⟩⟩
             refine ⟨_, rfl, ?_⟩
             refine hK.out _ _ ⟨(blk_cell BK266.out 0).trans rfl, (blk_cell BK266.out 1).trans rfl, (blk_cell BK266.out 2).trans rfl, (blk_cell BK266.out 3).trans rfl⟩ (fun hHeld => ?_)
             clear hK K
             refine norm_ (a' := ?_) ?_ ?_
             rotate_left
             ·show Act.put _ (some 26) _ = _
              simp only [Act.put, pS]
              rfl
             refine py_ (a' := ?_) 12 27 ?_ mk13 HT_ rfl rfl (by kernel_rfl) (fun _ _ _ h => h) (Or.inl ⟨by rfl, ?_⟩) ?_ ?_; rotate_left; (focus intro w'; go_simp; with_reducible rfl); rotate_left; (focus simp only [Act.put, pS]; rfl)
             refine py_ (a' := ?_) 13 28 ?_ mk14 HT_ rfl rfl (by kernel_rfl) (fun _ _ _ h => h) (Or.inl ⟨by rfl, ?_⟩) ?_ ?_; rotate_left; (focus intro w'; go_simp; with_reducible rfl); rotate_left; (focus simp only [Act.put, pS]; rfl)
             refine py_ (a' := ?_) 14 29 ?_ mk15 HT_ rfl rfl (by kernel_rfl) (fun _ _ _ h => h) (Or.inl ⟨by rfl, ?_⟩) ?_ ?_; rotate_left; (focus intro w'; go_simp; with_reducible rfl); rotate_left; (focus simp only [Act.put, pS]; rfl)
             refine py_ (a' := ?_) 15 30 ?_ mk16 HT_ rfl rfl (by kernel_rfl) (fun _ _ _ h => h) (Or.inl ⟨by rfl, ?_⟩) ?_ ?_; rotate_left; (focus intro w'; go_simp; with_reducible rfl); rotate_left; (focus simp only [Act.put, pS]; rfl)
             refine py_ (a' := ?_) 16 31 ?_ mk17 HT_ rfl rfl (by kernel_rfl) (fun _ _ _ h => h) (Or.inl ⟨by rfl, ?_⟩) ?_ ?_; rotate_left; (focus intro w'; go_simp; with_reducible rfl); rotate_left; (focus simp only [Act.put, pS]; rfl)
             refine py_ (a' := ?_) 17 32 ?_ mk18 HT_ rfl rfl (by kernel_rfl) (fun _ _ _ h => h) (Or.inl ⟨by rfl, ?_⟩) ?_ ?_; rotate_left; (focus intro w'; go_simp; with_reducible rfl); rotate_left; (focus simp only [Act.put, pS]; rfl)
             refine py_ (a' := ?_) 18 33 undef mk19 HT_ rfl rfl (by kernel_rfl) (fun _ _ _ h => h) (Or.inr ⟨by rfl, rfl⟩) ?_ ?_; rotate_left; (focus simp only [Act.put, pS]; rfl)
             refine py_ (a' := ?_) 19 34 undef mk20 HT_ rfl rfl (by kernel_rfl) (fun _ _ _ h => h) (Or.inr ⟨by rfl, rfl⟩) ?_ ?_; rotate_left; (focus simp only [Act.put, pS]; rfl)
             refine py_ (a' := ?_) 20 35 undef mk21 HT_ rfl rfl (by kernel_rfl) (fun _ _ _ h => h) (Or.inr ⟨by rfl, rfl⟩) ?_ ?_; rotate_left; (focus simp only [Act.put, pS]; rfl)
             refine py_ (a' := ?_) 21 36 undef mk22 HT_ rfl rfl (by kernel_rfl) (fun _ _ _ h => h) (Or.inr ⟨by rfl, rfl⟩) ?_ ?_; rotate_left; (focus simp only [Act.put, pS]; rfl)
             refine py_ (a' := ?_) 22 37 undef mk23 HT_ rfl rfl (by kernel_rfl) (fun _ _ _ h => h) (Or.inr ⟨by rfl, rfl⟩) ?_ ?_; rotate_left; (focus simp only [Act.put, pS]; rfl)
             refine py_ (a' := ?_) 23 38 undef mk24 HT_ rfl rfl (by kernel_rfl) (fun _ _ _ h => h) (Or.inr ⟨by rfl, rfl⟩) ?_ ?_; rotate_left; (focus simp only [Act.put, pS]; rfl)
             refine py_ (a' := ?_) 24 39 undef mk25 HT_ rfl rfl (by kernel_rfl) (fun _ _ _ h => h) (Or.inr ⟨by rfl, rfl⟩) ?_ ?_; rotate_left; (focus simp only [Act.put, pS]; rfl)
             refine py_ (a' := ?_) 25 40 undef mk26 HT_ rfl rfl (by kernel_rfl) (fun _ _ _ h => h) (Or.inr ⟨by rfl, rfl⟩) ?_ ?_; rotate_left; (focus simp only [Act.put, pS]; rfl)
             refine py_ (a' := ?_) 26 41 undef mk27 HT_ rfl rfl (by kernel_rfl) (fun _ _ _ h => h) (Or.inr ⟨by rfl, rfl⟩) ?_ ?_; rotate_left; (focus simp only [Act.put, pS]; rfl)
             refine py_ (a' := ?_) 27 42 ?_ mk28 HT_ rfl rfl (by kernel_rfl) (fun _ _ _ h => h) (Or.inl ⟨by rfl, ?_⟩) ?_ ?_; rotate_left; (focus intro w'; go_simp; with_reducible rfl); rotate_left; (focus simp only [Act.put, pS]; rfl)
             refine py_ (a' := ?_) 28 43 ?_ mk29 HT_ rfl rfl (by kernel_rfl) (fun _ _ _ h => h) (Or.inl ⟨by rfl, ?_⟩) ?_ ?_; rotate_left; (focus intro w'; go_simp; with_reducible rfl); rotate_left; (focus simp only [Act.put, pS]; rfl)
             refine py_ (a' := ?_) 29 44 ?_ mk30 HT_ rfl rfl (by kernel_rfl) (fun _ _ _ h => h) (Or.inl ⟨by rfl, ?_⟩) ?_ ?_; rotate_left; (focus intro w'; go_simp; with_reducible rfl); rotate_left; (focus simp only [Act.put, pS]; rfl)
             refine py_ (a' := ?_) 30 45 ?_ mk31 HT_ rfl rfl (by kernel_rfl) (fun _ _ _ h => h) (Or.inl ⟨by rfl, ?_⟩) ?_ ?_; rotate_left; (focus intro w'; go_simp; with_reducible rfl); rotate_left; (focus simp only [Act.put, pS]; rfl)
             refine take_ (i := 31) (N := some 46) (v := ?_) (a' := ?_) mk32 rfl rfl (take_ofW HT_.out HW_.out (by kernel_rfl)) (fun _ _ _ h => h) (Or.inl ⟨by rfl, ?_⟩) hHeld ?_ ?_; rotate_left; (focus rintro w' ⟨s0, s1, s2, s3⟩; go_simp; with_reducible rfl); rotate_left; (focus simp only [Act.put, pS]; rfl)
             refine py_ (a' := ?_) 32 47 ?_ mk33 HT_ rfl rfl (by kernel_rfl) (fun _ _ _ h => h) (Or.inl ⟨by rfl, ?_⟩) ?_ ?_; rotate_left; (focus intro w'; go_simp; with_reducible rfl); rotate_left; (focus simp only [Act.put, pS]; rfl)
             refine py_ (a' := ?_) 33 48 ?_ mk34 HT_ rfl rfl (by kernel_rfl) (fun _ _ _ h => h) (Or.inl ⟨by rfl, ?_⟩) ?_ ?_; rotate_left; (focus intro w'; go_simp; with_reducible rfl); rotate_left; (focus simp only [Act.put, pS]; rfl)
             refine py_ (a' := ?_) 34 49 ?_ mk35 HT_ rfl rfl (by kernel_rfl) (fun _ _ _ h => h) (Or.inl ⟨by rfl, ?_⟩) ?_ ?_; rotate_left; (focus intro w'; go_simp; with_reducible rfl); rotate_left; (focus simp only [Act.put, pS]; rfl)
             refine py_ (a' := ?_) 35 50 ?_ mk36 HT_ rfl rfl (by kernel_rfl) (fun _ _ _ h => h) (Or.inl ⟨by rfl, ?_⟩) ?_ ?_; rotate_left; (focus intro w'; go_simp; with_reducible rfl); rotate_left; (focus simp only [Act.put, pS]; rfl)
             refine take_ (i := 36) (N := some 51) (v := ?_) (a' := ?_) mk37 rfl rfl (take_ofW HT_.out HW_.out (by kernel_rfl)) (fun _ _ _ h => h) (Or.inl ⟨by rfl, ?_⟩) hHeld ?_ ?_; rotate_left; (focus rintro w' ⟨s0, s1, s2, s3⟩; go_simp; with_reducible rfl); rotate_left; (focus simp only [Act.put, pS]; rfl)
             refine py_ (a' := ?_) 37 52 ?_ mk38 HT_ rfl rfl (by kernel_rfl) (fun _ _ _ h => h) (Or.inl ⟨by rfl, ?_⟩) ?_ ?_; rotate_left; (focus intro w'; go_simp; with_reducible rfl); rotate_left; (focus simp only [Act.put, pS]; rfl)
             refine py_ (a' := ?_) 38 53 ?_ mk39 HT_ rfl rfl (by kernel_rfl) (fun _ _ _ h => h) (Or.inl ⟨by rfl, ?_⟩) ?_ ?_; rotate_left; (focus intro w'; go_simp; with_reducible rfl); rotate_left; (focus simp only [Act.put, pS]; rfl)
             refine py_ (a' := ?_) 39 54 ?_ mk40 HT_ rfl rfl (by kernel_rfl) (fun _ _ _ h => h) (Or.inl ⟨by rfl, ?_⟩) ?_ ?_; rotate_left; (focus intro w'; go_simp; with_reducible rfl); rotate_left; (focus simp only [Act.put, pS]; rfl)
             refine py_ (a' := ?_) 40 55 ?_ mk41 HT_ rfl rfl (by kernel_rfl) (fun _ _ _ h => h) (Or.inl ⟨by rfl, ?_⟩) ?_ ?_; rotate_left; (focus intro w'; go_simp; with_reducible rfl); rotate_left; (focus simp only [Act.put, pS]; rfl)
             refine take_ (i := 41) (N := some 56) (v := ?_) (a' := ?_) mk42 rfl rfl (take_ofW HT_.out HW_.out (by kernel_rfl)) (fun _ _ _ h => h) (Or.inl ⟨by rfl, ?_⟩) hHeld ?_ ?_; rotate_left; (focus rintro w' ⟨s0, s1, s2, s3⟩; go_simp; with_reducible rfl); rotate_left; (focus simp only [Act.put, pS]; rfl)
             refine py_ (a' := ?_) 42 57 ?_ mk43 HT_ rfl rfl (by kernel_rfl) (fun _ _ _ h => h) (Or.inl ⟨by rfl, ?_⟩) ?_ ?_; rotate_left; (focus intro w'; go_simp; with_reducible rfl); rotate_left; (focus simp only [Act.put, pS]; rfl)
             refine py_ (a' := ?_) 43 58 ?_ mk44 HT_ rfl rfl (by kernel_rfl) (fun _ _ _ h => h) (Or.inl ⟨by rfl, ?_⟩) ?_ ?_; rotate_left; (focus intro w'; go_simp; with_reducible rfl); rotate_left; (focus simp only [Act.put, pS]; rfl)
             refine py_ (a' := ?_) 44 59 ?_ mk45 HT_ rfl rfl (by kernel_rfl) (fun _ _ _ h => h) (Or.inl ⟨by rfl, ?_⟩) ?_ ?_; rotate_left; (focus intro w'; go_simp; with_reducible rfl); rotate_left; (focus simp only [Act.put, pS]; rfl)
             refine py_ (a' := ?_) 45 60 ?_ mk46 HT_ rfl rfl (by kernel_rfl) (fun _ _ _ h => h) (Or.inl ⟨by rfl, ?_⟩) ?_ ?_; rotate_left; (focus intro w'; go_simp; with_reducible rfl); rotate_left; (focus simp only [Act.put, pS]; rfl)
             refine take_ (i := 46) (N := some 61) (v := ?_) (a' := ?_) mk47 rfl rfl (take_ofW HT_.out HW_.out (by kernel_rfl)) (fun _ _ _ h => h) (Or.inl ⟨by rfl, ?_⟩) hHeld ?_ ?_; rotate_left; (focus rintro w' ⟨s0, s1, s2, s3⟩; go_simp; with_reducible rfl); rotate_left; (focus simp only [Act.put, pS]; rfl)
             refine py_ (a' := ?_) 47 62 ?_ mk48 HT_ rfl rfl (by kernel_rfl) (fun _ _ _ h => h) (Or.inl ⟨by rfl, ?_⟩) ?_ ?_; rotate_left; (focus intro w'; go_simp; with_reducible rfl); rotate_left; (focus simp only [Act.put, pS]; rfl)
             refine py_ (a' := ?_) 48 63 ?_ mk49 HT_ rfl rfl (by kernel_rfl) (fun _ _ _ h => h) (Or.inl ⟨by rfl, ?_⟩) ?_ ?_; rotate_left; (focus intro w'; go_simp; with_reducible rfl); rotate_left; (focus simp only [Act.put, pS]; rfl)
             refine done_ (done_of HT_.out (by kernel_rfl)) ?_
             try go_wp2
             go_roundg k1
             case measure => have := HK1.out; omega
             case rel => exact ⟨(wrap64 (x3_1 + 1)), (by first | rfl | (simp; done) | (simp [*]; done)), H', ⟨by have := HK1.out; omega⟩, ⟨by repeat (first | (with_reducible first | exact HB.out | apply below_alloc | apply pw_below_drewN | apply below_drew1 | refine below_set ?_ GE266.out) | exact HB.out)⟩⟩
       ·replace c15 := Bool.eq_false_iff.mpr c15
        subst c15
        have H1 : (some false) = some r := by rw [if_neg (show ¬ (false = true) by decide)] at H; exact H
        clear H
        have H := H1
        clear H1
        obtain rfl := Option.some.inj H
        have n0_ := Aside0.mk (blk_drew BK266.out)
        have n1_ := Aside0.mk (below_drew1 HB.out)
        clear BK266
        clear HB
        have BK266 := n0_
        have HB := n1_
        clear n0_ n1_
        refine start_ (n := 49) (S := fun w' => w'.cell? ⟨gb266, 0, none⟩ = some (.int .i64 ((rd_T41 l0 x3_1).f0)) ∧ w'.cell? ⟨gb266, 1, none⟩ = some (.string ((rd_T41 l0 x3_1).f1)) ∧ w'.cell? ⟨gb266, 2, none⟩ = some (.int .i64 ((rd_T41 l0 x3_1).f2)) ∧ w'.cell? ⟨gb266, 3, none⟩ = some (.int .i64 ((rd_T41 l0 x3_1).f3))) (ds := []) mk0 (by kernel_rfl) rfl rfl ⟨(blk_cell BK266.out 0).trans rfl, (blk_cell BK266.out 1).trans rfl, (blk_cell BK266.out 2).trans rfl, (blk_cell BK266.out 3).trans rfl⟩ (fun hHeld => ?_); refine with_tabW souterrainref11_Right.tab5 souterrainref11_Right.bits5 (fun HT_ HW_ => ?_)
        generalize w7.drew = w76 at BK266 HB hHeld ⊢
        refine py_ (a' := ?_) 0 15 ?_ mk1 HT_ rfl rfl (by kernel_rfl) (fun _ _ _ h => h) (Or.inl ⟨by rfl, ?_⟩) ?_ ?_; rotate_left; (focus intro w'; go_simp; with_reducible rfl); rotate_left; (focus simp only [Act.put, pS]; rfl)
        refine take_ (i := 1) (N := some 16) (v := ?_) (a' := ?_) mk2 rfl rfl (take_ofW HT_.out HW_.out (by kernel_rfl)) (fun _ _ _ h => h) (Or.inl ⟨by rfl, ?_⟩) hHeld ?_ ?_; rotate_left; (focus rintro w' ⟨s0, s1, s2, s3⟩; go_simp; with_reducible rfl); rotate_left; (focus simp only [Act.put, pS]; rfl)
        refine py_ (a' := ?_) 2 17 ?_ mk3 HT_ rfl rfl (by kernel_rfl) (fun _ _ _ h => h) (Or.inl ⟨by rfl, ?_⟩) ?_ ?_; rotate_left; (focus intro w'; go_simp; with_reducible rfl); rotate_left; (focus simp only [Act.put, pS]; rfl)
        refine py_ (a' := ?_) 3 18 ?_ mk4 HT_ rfl rfl (by kernel_rfl) (fun _ _ _ h => h) (Or.inl ⟨by rfl, ?_⟩) ?_ ?_; rotate_left; (focus intro w'; go_simp; with_reducible rfl); rotate_left; (focus simp only [Act.put, pS]; rfl)
        refine py_ (a' := ?_) 4 19 ?_ mk5 HT_ rfl rfl (by kernel_rfl) (fun _ _ _ h => h) (Or.inl ⟨by rfl, ?_⟩) ?_ ?_; rotate_left; (focus intro w'; go_simp; with_reducible rfl); rotate_left; (focus simp only [Act.put, pS]; rfl)
        refine take_ (i := 5) (N := some 20) (v := ?_) (a' := ?_) mk6 rfl rfl (take_ofW HT_.out HW_.out (by kernel_rfl)) (fun _ _ _ h => h) (Or.inl ⟨by rfl, ?_⟩) hHeld ?_ ?_; rotate_left; (focus rintro w' ⟨s0, s1, s2, s3⟩; go_simp; with_reducible rfl); rotate_left; (focus simp only [Act.put, pS]; rfl)
        refine py_ (a' := ?_) 6 21 ?_ mk7 HT_ rfl rfl (by kernel_rfl) (fun _ _ _ h => h) (Or.inl ⟨by rfl, ?_⟩) ?_ ?_; rotate_left; (focus intro w'; go_simp; with_reducible rfl); rotate_left; (focus simp only [Act.put, pS]; rfl)
        refine py_ (a' := ?_) 7 22 ?_ mk8 HT_ rfl rfl (by kernel_rfl) (fun _ _ _ h => h) (Or.inl ⟨by rfl, ?_⟩) ?_ ?_; rotate_left; (focus intro w'; go_simp; with_reducible rfl); rotate_left; (focus simp only [Act.put, pS]; rfl)
        refine py_ (a' := ?_) 8 23 ?_ mk9 HT_ rfl rfl (by kernel_rfl) (fun _ _ _ h => h) (Or.inl ⟨by rfl, ?_⟩) ?_ ?_; rotate_left; (focus intro w'; go_simp; with_reducible rfl); rotate_left; (focus simp only [Act.put, pS]; rfl)
        refine py_ (a' := ?_) 9 24 ?_ mk10 HT_ rfl rfl (by kernel_rfl) (fun _ _ _ h => h) (Or.inl ⟨by rfl, ?_⟩) ?_ ?_; rotate_left; (focus intro w'; go_simp; with_reducible rfl); rotate_left; (focus simp only [Act.put, pS]; rfl)
        refine take_ (i := 10) (N := some 25) (v := ?_) (a' := ?_) mk11 rfl rfl (take_ofW HT_.out HW_.out (by kernel_rfl)) (fun _ _ _ h => h) (Or.inl ⟨by rfl, ?_⟩) hHeld ?_ ?_; rotate_left; (focus rintro w' ⟨s0, s1, s2, s3⟩; go_simp; with_reducible rfl); rotate_left; (focus simp only [Act.put, pS]; rfl)
        refine one_ (i := 11) (N := some 26) mk12 rfl rfl (one_of HT_.out (by kernel_rfl)) (by decide) (fun K hK => ?_)
        refine goes_ Try.func34 (by kernel_rfl) rfl #[.string ((rd_T41 l0 x3_1).f1)] (by rfl) rfl rfl (by (try simp only [List.map_toArray, List.map_cons, List.map_nil]); first | done | rfl | (simp only [List.length_drop, List.length_take]; rfl)) ?_
        with_reducible refine (souterrainref04_Key.calls ((rd_T41 l0 x3_1).f1) false _ A14.out).mono ?_
        rintro e w' ⟨rfl, ⟨nd, rfl⟩⟩
        refine ⟨_, rfl, ?_⟩
        refine hK.out _ _ ⟨(blk_cell BK266.out 0).trans rfl, (blk_cell BK266.out 1).trans rfl, (blk_cell BK266.out 2).trans rfl, (blk_cell BK266.out 3).trans rfl⟩ (fun hHeld => ?_)
        clear hK K
        refine norm_ (a' := ?_) ?_ ?_
        rotate_left
        ·show Act.put _ (some 26) _ = _
         simp only [Act.put, pS]
         rfl
        refine py_ (a' := ?_) 12 27 ?_ mk13 HT_ rfl rfl (by kernel_rfl) (fun _ _ _ h => h) (Or.inl ⟨by rfl, ?_⟩) ?_ ?_; rotate_left; (focus intro w'; go_simp; with_reducible rfl); rotate_left; (focus simp only [Act.put, pS]; rfl)
        refine py_ (a' := ?_) 13 28 ?_ mk14 HT_ rfl rfl (by kernel_rfl) (fun _ _ _ h => h) (Or.inl ⟨by rfl, ?_⟩) ?_ ?_; rotate_left; (focus intro w'; go_simp; with_reducible rfl); rotate_left; (focus simp only [Act.put, pS]; rfl)
        refine py_ (a' := ?_) 14 29 ?_ mk15 HT_ rfl rfl (by kernel_rfl) (fun _ _ _ h => h) (Or.inl ⟨by rfl, ?_⟩) ?_ ?_; rotate_left; (focus intro w'; go_simp; with_reducible rfl); rotate_left; (focus simp only [Act.put, pS]; rfl)
        refine py_ (a' := ?_) 15 30 undef mk16 HT_ rfl rfl (by kernel_rfl) (fun _ _ _ h => h) (Or.inr ⟨by rfl, rfl⟩) ?_ ?_; rotate_left; (focus simp only [Act.put, pS]; rfl)
        refine py_ (a' := ?_) 16 31 undef mk17 HT_ rfl rfl (by kernel_rfl) (fun _ _ _ h => h) (Or.inr ⟨by rfl, rfl⟩) ?_ ?_; rotate_left; (focus simp only [Act.put, pS]; rfl)
        refine py_ (a' := ?_) 17 32 undef mk18 HT_ rfl rfl (by kernel_rfl) (fun _ _ _ h => h) (Or.inr ⟨by rfl, rfl⟩) ?_ ?_; rotate_left; (focus simp only [Act.put, pS]; rfl)
        refine py_ (a' := ?_) 18 33 undef mk19 HT_ rfl rfl (by kernel_rfl) (fun _ _ _ h => h) (Or.inr ⟨by rfl, rfl⟩) ?_ ?_; rotate_left; (focus simp only [Act.put, pS]; rfl)
        refine py_ (a' := ?_) 19 34 undef mk20 HT_ rfl rfl (by kernel_rfl) (fun _ _ _ h => h) (Or.inr ⟨by rfl, rfl⟩) ?_ ?_; rotate_left; (focus simp only [Act.put, pS]; rfl)
        refine py_ (a' := ?_) 20 35 undef mk21 HT_ rfl rfl (by kernel_rfl) (fun _ _ _ h => h) (Or.inr ⟨by rfl, rfl⟩) ?_ ?_; rotate_left; (focus simp only [Act.put, pS]; rfl)
        refine py_ (a' := ?_) 21 36 undef mk22 HT_ rfl rfl (by kernel_rfl) (fun _ _ _ h => h) (Or.inr ⟨by rfl, rfl⟩) ?_ ?_; rotate_left; (focus simp only [Act.put, pS]; rfl)
        refine py_ (a' := ?_) 22 37 undef mk23 HT_ rfl rfl (by kernel_rfl) (fun _ _ _ h => h) (Or.inr ⟨by rfl, rfl⟩) ?_ ?_; rotate_left; (focus simp only [Act.put, pS]; rfl)
        refine py_ (a' := ?_) 23 38 undef mk24 HT_ rfl rfl (by kernel_rfl) (fun _ _ _ h => h) (Or.inr ⟨by rfl, rfl⟩) ?_ ?_; rotate_left; (focus simp only [Act.put, pS]; rfl)
        refine py_ (a' := ?_) 24 39 undef mk25 HT_ rfl rfl (by kernel_rfl) (fun _ _ _ h => h) (Or.inr ⟨by rfl, rfl⟩) ?_ ?_; rotate_left; (focus simp only [Act.put, pS]; rfl)
        refine py_ (a' := ?_) 25 40 undef mk26 HT_ rfl rfl (by kernel_rfl) (fun _ _ _ h => h) (Or.inr ⟨by rfl, rfl⟩) ?_ ?_; rotate_left; (focus simp only [Act.put, pS]; rfl)
        refine py_ (a' := ?_) 26 41 undef mk27 HT_ rfl rfl (by kernel_rfl) (fun _ _ _ h => h) (Or.inr ⟨by rfl, rfl⟩) ?_ ?_; rotate_left; (focus simp only [Act.put, pS]; rfl)
        refine py_ (a' := ?_) 27 42 undef mk28 HT_ rfl rfl (by kernel_rfl) (fun _ _ _ h => h) (Or.inr ⟨by rfl, rfl⟩) ?_ ?_; rotate_left; (focus simp only [Act.put, pS]; rfl)
        refine py_ (a' := ?_) 28 43 ?_ mk29 HT_ rfl rfl (by kernel_rfl) (fun _ _ _ h => h) (Or.inl ⟨by rfl, ?_⟩) ?_ ?_; rotate_left; (focus intro w'; go_simp; with_reducible rfl); rotate_left; (focus simp only [Act.put, pS]; rfl)
        refine py_ (a' := ?_) 29 44 ?_ mk30 HT_ rfl rfl (by kernel_rfl) (fun _ _ _ h => h) (Or.inl ⟨by rfl, ?_⟩) ?_ ?_; rotate_left; (focus intro w'; go_simp; with_reducible rfl); rotate_left; (focus simp only [Act.put, pS]; rfl)
        refine py_ (a' := ?_) 30 45 undef mk31 HT_ rfl rfl (by kernel_rfl) (fun _ _ _ h => h) (Or.inr ⟨by rfl, rfl⟩) ?_ ?_; rotate_left; (focus simp only [Act.put, pS]; rfl)
        refine py_ (a' := ?_) 31 46 undef mk32 HT_ rfl rfl (by kernel_rfl) (fun _ _ _ h => h) (Or.inr ⟨by rfl, rfl⟩) ?_ ?_; rotate_left; (focus simp only [Act.put, pS]; rfl)
        refine py_ (a' := ?_) 32 47 undef mk33 HT_ rfl rfl (by kernel_rfl) (fun _ _ _ h => h) (Or.inr ⟨by rfl, rfl⟩) ?_ ?_; rotate_left; (focus simp only [Act.put, pS]; rfl)
        refine py_ (a' := ?_) 33 48 ?_ mk34 HT_ rfl rfl (by kernel_rfl) (fun _ _ _ h => h) (Or.inl ⟨by rfl, ?_⟩) ?_ ?_; rotate_left; (focus intro w'; go_simp; with_reducible rfl); rotate_left; (focus simp only [Act.put, pS]; rfl)
        refine py_ (a' := ?_) 34 49 ?_ mk35 HT_ rfl rfl (by kernel_rfl) (fun _ _ _ h => h) (Or.inl ⟨by rfl, ?_⟩) ?_ ?_; rotate_left; (focus intro w'; go_simp; with_reducible rfl); rotate_left; (focus simp only [Act.put, pS]; rfl)
        refine py_ (a' := ?_) 35 50 undef mk36 HT_ rfl rfl (by kernel_rfl) (fun _ _ _ h => h) (Or.inr ⟨by rfl, rfl⟩) ?_ ?_; rotate_left; (focus simp only [Act.put, pS]; rfl)
        refine py_ (a' := ?_) 36 51 undef mk37 HT_ rfl rfl (by kernel_rfl) (fun _ _ _ h => h) (Or.inr ⟨by rfl, rfl⟩) ?_ ?_; rotate_left; (focus simp only [Act.put, pS]; rfl)
        refine py_ (a' := ?_) 37 52 undef mk38 HT_ rfl rfl (by kernel_rfl) (fun _ _ _ h => h) (Or.inr ⟨by rfl, rfl⟩) ?_ ?_; rotate_left; (focus simp only [Act.put, pS]; rfl)
        refine py_ (a' := ?_) 38 53 ?_ mk39 HT_ rfl rfl (by kernel_rfl) (fun _ _ _ h => h) (Or.inl ⟨by rfl, ?_⟩) ?_ ?_; rotate_left; (focus intro w'; go_simp; with_reducible rfl); rotate_left; (focus simp only [Act.put, pS]; rfl)
        refine py_ (a' := ?_) 39 54 ?_ mk40 HT_ rfl rfl (by kernel_rfl) (fun _ _ _ h => h) (Or.inl ⟨by rfl, ?_⟩) ?_ ?_; rotate_left; (focus intro w'; go_simp; with_reducible rfl); rotate_left; (focus simp only [Act.put, pS]; rfl)
        refine py_ (a' := ?_) 40 55 undef mk41 HT_ rfl rfl (by kernel_rfl) (fun _ _ _ h => h) (Or.inr ⟨by rfl, rfl⟩) ?_ ?_; rotate_left; (focus simp only [Act.put, pS]; rfl)
        refine py_ (a' := ?_) 41 56 undef mk42 HT_ rfl rfl (by kernel_rfl) (fun _ _ _ h => h) (Or.inr ⟨by rfl, rfl⟩) ?_ ?_; rotate_left; (focus simp only [Act.put, pS]; rfl)
        refine py_ (a' := ?_) 42 57 undef mk43 HT_ rfl rfl (by kernel_rfl) (fun _ _ _ h => h) (Or.inr ⟨by rfl, rfl⟩) ?_ ?_; rotate_left; (focus simp only [Act.put, pS]; rfl)
        refine py_ (a' := ?_) 43 58 ?_ mk44 HT_ rfl rfl (by kernel_rfl) (fun _ _ _ h => h) (Or.inl ⟨by rfl, ?_⟩) ?_ ?_; rotate_left; (focus intro w'; go_simp; with_reducible rfl); rotate_left; (focus simp only [Act.put, pS]; rfl)
        refine py_ (a' := ?_) 44 59 ?_ mk45 HT_ rfl rfl (by kernel_rfl) (fun _ _ _ h => h) (Or.inl ⟨by rfl, ?_⟩) ?_ ?_; rotate_left; (focus intro w'; go_simp; with_reducible rfl); rotate_left; (focus simp only [Act.put, pS]; rfl)
        refine py_ (a' := ?_) 45 60 undef mk46 HT_ rfl rfl (by kernel_rfl) (fun _ _ _ h => h) (Or.inr ⟨by rfl, rfl⟩) ?_ ?_; rotate_left; (focus simp only [Act.put, pS]; rfl)
        refine py_ (a' := ?_) 46 61 undef mk47 HT_ rfl rfl (by kernel_rfl) (fun _ _ _ h => h) (Or.inr ⟨by rfl, rfl⟩) ?_ ?_; rotate_left; (focus simp only [Act.put, pS]; rfl)
        refine py_ (a' := ?_) 47 62 undef mk48 HT_ rfl rfl (by kernel_rfl) (fun _ _ _ h => h) (Or.inr ⟨by rfl, rfl⟩) ?_ ?_; rotate_left; (focus simp only [Act.put, pS]; rfl)
        refine py_ (a' := ?_) 48 63 ?_ mk49 HT_ rfl rfl (by kernel_rfl) (fun _ _ _ h => h) (Or.inl ⟨by rfl, ?_⟩) ?_ ?_; rotate_left; (focus intro w'; go_simp; with_reducible rfl); rotate_left; (focus simp only [Act.put, pS]; rfl)
        refine done_ (done_of HT_.out (by kernel_rfl)) ?_
        try go_wp2
        go_ret
        exact ⟨by first | rfl | (simp [errW_none, errW_some] <;> rfl) | (simp [*, errW_none, errW_some] <;> rfl), by repeat (first | (with_reducible first | exact HB.out | apply below_alloc | apply pw_below_drewN | apply below_drew1 | refine below_set ?_ GE266.out) | exact HB.out)⟩
    ·rw [if_neg c3] at H
     exact absurd H (by simp)
   ·rw [if_neg c2] at H
    have c2b0 : decide (x3_1 < (l0.length : Int)) = false := decide_eq_false c2
    clear c2
    obtain rfl := Option.some.inj H
    go_wp2
    go_ret
    exact ⟨by first | rfl | (simp [errW_none, errW_some] <;> rfl) | (simp [*, errW_none, errW_some] <;> rfl), by repeat (first | (with_reducible first | exact HB.out | apply below_alloc | apply pw_below_drewN | apply below_drew1) | exact HB.out)⟩

end Go.Proofs.Yteplnpedakdjkaa.Pt

