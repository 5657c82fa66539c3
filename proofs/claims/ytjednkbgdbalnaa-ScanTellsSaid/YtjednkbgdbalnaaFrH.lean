/- The frame laws' live question: its answer is true, in whatever memory. -/
import Derived.Test.YtjednkbgdbalnaaFrX
import Derived.Lib.SlBytesConst
import Derived.Below
import Derived.Deep.Draws
import Derived.Deep.AppendLies
import Derived.Maps.AppendAt
import Derived.OwnWalk
import Derived.Laws.BytesArg
import Derived.Laws.MakeOwn
import Derived.Laws.OwnMore
import Derived.Deep.OwnRows
import Derived.Tactics
import Derived.Lib.ConvBytes
import Derived.Laws.Slices
import Derived.WalkKit
import Derived.KernelRfl
import Derived.RowKit3
import Derived.Deep.LoopGhost
import Derived.Deep.QuietTactic
import Derived.BigQuiet
import Derived.WideLaws
import Derived.Deep.DeepCutAuto
import Derived.Deep.CutBlock
import Derived.Deep.RegionHeld3
import Derived.Laws.Rows
import Derived.Laws.Tables
import Derived.Lib.AppendStr
import Derived.ArgAppend
import Derived.Laws.IdiomCopy
import Derived.OrdersHeld
import Derived.Laws.BitsLemmas
import Derived.RowKit
import Derived.Test.YtjednkbgdbalnaaWWords
import Derived.Test.YtjednkbgdbalnaaWMore
import Derived.Test.YtjednkbgdbalnaaWZeros
namespace Go.Proofs.Ytjednkbgdbalnaa.Ext
open Go.RowKit Go.Proofs.YtjednkbgdbalnaaW.PrintWords Go.Proofs.YtjednkbgdbalnaaW.PrintMore Go.Proofs.Ytjednkbgdbalnaa.Fr
set_option linter.unusedVariables false
set_option linter.unusedSimpArgs false

def abc : List Int := [0, 3, 255, 252, 97, 98, 99, 162, 50, 228, 51]
set_option maxRecDepth 100000 in
theorem put_abc : putL [97, 98, 99] = abc := by decide +kernel
set_option maxRecDepth 100000 in
theorem first_abc9 : firstL (abc ++ [9]) = ([97, 98, 99], 11, 0) := by decide +kernel
set_option maxRecDepth 100000 in
theorem first_abc10 : firstL (abc.take 10) = ([], 0, 21) := by decide +kernel
set_option maxRecDepth 100000 in
theorem first_bad5 : firstL [0, 3, 255, 253, 1] = ([], 0, 22) := by decide +kernel
set_option maxRecDepth 100000 in
theorem first_abcB : firstL (abc.set 5 66) = ([], 11, 22) := by decide +kernel
theorem put_at (A : Option Addr) (c n : Nat) (l r : List Int) (hr : putL l = r) (hn : l.length = n) (w : World) (hc : l.length ≤ c) (hl : Kd.C (Kd.int .u8) w A l.length l) :
    Calls Try.prog 18 #[.slice A n c] w fun e w' => ∃ v, e = .returned v ∧ Aside0 (w'.ownsRow w.heap.size 5 1 v r.length (nums .u8 r)) ∧ Aside0 (Below w.heap.size w w') := by
  subst hn hr
  exact (put_calls A c l w hc hl).mono fun e w' ⟨v, h1, h2, h3⟩ => ⟨v, h1, ⟨h2⟩, ⟨h3⟩⟩
theorem first_at (A : Option Addr) (c n : Nat) (l xs : List Int) (k f : Int) (hr : firstL l = (xs, k, f)) (hn : l.length = n) (hB : bytesB l = true) (w : World) (hc : n ≤ c) (hl : Kd.C (Kd.int .u8) w A l.length l) :
    Calls Try.prog 16 #[.slice A n c] w fun e w' => ∃ v, e = .returned (.tuple #[v, .int .i64 k, .int .i64 f]) ∧ Aside0 (w'.ownsRow w.heap.size 5 1 v xs.length (nums .u8 xs)) ∧ Aside0 (Below w.heap.size w w') := by
  subst hn
  refine (first_calls A c l w ((bytesB_iff l).mp hB) hc hl).mono ?_
  rintro e w' ⟨v, xs', k', f', rfl, HL, ho, hb⟩
  have h := HL.out
  rw [hr] at h
  simp only [Prod.mk.injEq] at h
  obtain ⟨rfl, rfl, rfl⟩ := h
  exact ⟨v, rfl, ⟨ho⟩, ⟨hb⟩⟩

theorem const_reads (W : World) (e : TypeId) (k : IntKind) (fr : Nat × Nat) (xs : List Int) (hm : xs.length ≤ 9223372036854775807) : Kd.C (Kd.int k) (W.alloc (.cells (nums k xs).toArray e fr)) (some ⟨W.heap.size, 0, none⟩) xs.length xs := by
  refine ⟨rfl, hm, fun _ => ⟨_, rfl, fun j p hj => ⟨[.int k p], rfl, rfl, fun i u hu => ?_⟩⟩⟩
  rcases i with _ | i
  · obtain rfl : Value.int k p = u := by simpa using hu
    rw [add_plain, cell_of_row _ _ _ _ _ _ (heap_alloc_new W _)]
    show (nums k xs).toArray[j * 1 + 0]? = _
    simp [nums, hj]
  · simp at hu
theorem own_form (n : Nat) {w : World} {base : Nat} {e : TypeId} {k : IntKind} {v : Value} {xs : List Int} (h : w.ownsRow base e 1 v xs.length (nums k xs)) (hn : xs.length = n) (hp : 0 < n) : ∃ g c, v = .slice (some ⟨g, 0, none⟩) n c ∧ n ≤ c ∧ base ≤ g ∧ g < w.heap.size ∧ Kd.C (Kd.int k) w (some ⟨g, 0, none⟩) xs.length xs := by
  subst hn
  obtain ⟨g, cap, rfl, hb, hl, _⟩ := Kd.R_form (R_ints h) hp
  obtain ⟨_, hle, hC⟩ := Kd.R_reads' (R_ints h)
  exact ⟨g, cap, rfl, hle, hb, hl, hC⟩

theorem bad5_reads (w : World) : Kd.C (Kd.int .u8) (w.alloc (.cells #[.int .u8 0, .int .u8 3, .int .u8 255, .int .u8 253, .int .u8 1] 5)) (some ⟨w.heap.size, 0, none⟩) [0, 3, 255, 253, 1].length [0, 3, 255, 253, 1] :=
  C_of_ints (lit_reads w 5 .u8 [0, 3, 255, 253, 1] (by decide))

theorem set5_reads {w : World} {base g c : Nat} (h : w.ownsRow base 5 1 (.slice (some ⟨g, 0, none⟩) 11 c) abc.length (nums .u8 abc)) : Kd.C (Kd.int .u8) (w.setCell ⟨g, 5, none⟩ (.int .u8 66)) (some ⟨g, 0, none⟩) (abc.set 5 66).length (abc.set 5 66) := by
  have h2 := (own_store h 5 66).1
  obtain ⟨_, _, hv, hr⟩ := own_reads h2
  injection hv with h1 _ _
  subst h1
  exact C_of_ints hr

theorem size_at (n r : Int) (h : sizeI n = r) (w : World) :
    Calls Try.prog 20 #[.int .i64 n] w fun e w' => e = .returned (.int .i64 r) ∧ w = w' := by
  subst h
  exact size_calls n w
theorem str_abc : strOfNums [97, 98, 99] = ⟨#[97, 98, 99]⟩ := by decide +kernel
theorem nil_reads (w : World) : Kd.C (Kd.int .u8) w none ([] : List Int).length [] := Kd.C_nil _ _

set_option maxHeartbeats 8000000 in
set_option maxRecDepth 100000 in
theorem head02 (w : World) :
    Calls Try.prog 15 #[] w fun e w' => e = .returned (.bool true) ∧ Below w.heap.size w w' := by
  have kc := fun (w : World) (C : Array Value) (n c : Nat) => Lib.run_convert_bytes_const (P := Try.prog) w 22 5 C n c Try.underlying22 Try.underlying5
  have HC0 : Aside0 (Kd.C (Kd.int .u8) (w.alloc (.cells #[.int .u8 97, .int .u8 98, .int .u8 99] 5 (3, 4))) (some ⟨w.heap.size, 0, none⟩) [97, 98, 99].length [97, 98, 99]) := ⟨const_reads w 5 .u8 (3, 4) [97, 98, 99] (by decide)⟩
  go_enter Try.func15, Try.ntmps15
  go_wp2_with (go_at_call 18; (with_reducible refine (put_at (some ⟨w.heap.size, 0, none⟩) 3 3 [97, 98, 99] abc put_abc rfl _ (by decide) HC0.out).mono ?_))
  rintro e w1 ⟨v1, rfl, HV1, HB1⟩
  obtain ⟨g, cap, rfl, hcap, hg0, hg1, hC⟩ := own_form 11 HV1.out rfl (by decide)
  have HB := Aside0.mk ((below_alloc (Below.refl w.heap.size w) (.cells #[.int .u8 97, .int .u8 98, .int .u8 99] 5 (3, 4))).trans (HB1.out.mono (by simp)))
  have HC := Aside0.mk hC
  clear HV1 HB1 hC HC0 kc
  have H1 := Aside0.mk (Below.refl w1.heap.size w1)
  go_wp2_with (first
    | (at_builtin; refine print_append_row (w0 := w1) w1.heap.size rfl (.tmp 22) (.tmp 23) 22 5 .u8 1 rfl Try.underlying22 info_u8 (by omega) (.slice (some ⟨w1.heap.size, 0, none⟩) 0 0) [] abc _ _ _ rfl rfl (own_lit w1 w1.heap.size 5 .u8 [] (Nat.le_refl _) (by simp)) (Kd.reads_of_C (Kd.C_alloc HC.out _)) (below_alloc H1.out _) (below_alloc H1.out _).size (by simp [abc]) ?_; intro v2 w2 hv2 hb2 hg2 ha2; rw [List.nil_append] at hv2; have HV2 := Aside0.mk hv2; have H2 := Aside0.mk hb2; clear hv2 hb2 hg2 ha2 H1)
    | (at_builtin; refine print_append_num (w0 := w1) w1.heap.size rfl (.tmp 24) (.tmp 25) 22 5 .u8 1 rfl Try.underlying22 info_u8 (by omega) v2 abc 9 rfl rfl HV2.out H2.out H2.out.size (by simp [abc]) ?_; intro v3 w3 hv3 hb3 hg3 ha3; obtain ⟨g3, cap3, rfl, hcap3, _, _, hC3⟩ := own_form 12 hv3 rfl (by decide); have HC3 := Aside0.mk hC3; have H3 := Aside0.mk hb3; clear hv3 hb3 hg3 ha3 hC3 H2 HV2)
    | (go_at_call 16; (with_reducible refine (first_at _ cap3 12 (abc ++ [9]) [97, 98, 99] 11 0 first_abc9 rfl (by decide) w3 hcap3 HC3.out).mono ?_); rintro e w4 ⟨v4, rfl, HV4, HB4⟩; have H4 := Aside0.mk (below_then H3.out H3.out.size HB4.out); clear H3 HB4 HC3 hcap3)
    | (go_at_call 16; (with_reducible refine (first_at _ cap 10 (abc.take 10) [] 0 21 first_abc10 rfl (by decide) w4 (by omega) (C_of_ints ((ints_of_C (Kd.C_below HC.out H4.out)).take_ 10 (by decide)))).mono ?_); rintro e w5 ⟨v5, rfl, HV5, K5⟩; clear HV5)
    | (go_at_call 16; (with_reducible refine (first_at _ 5 5 [0, 3, 255, 253, 1] [] 0 22 first_bad5 rfl (by decide) (w5.alloc (.cells #[.int .u8 0, .int .u8 3, .int .u8 255, .int .u8 253, .int .u8 1] 5)) (by omega) (bad5_reads w5)).mono ?_); rintro e w6 ⟨v6, rfl, HV6, HB6⟩; have K6 := Aside0.mk (below_then (below_alloc K5.out (.cells #[.int .u8 0, .int .u8 3, .int .u8 255, .int .u8 253, .int .u8 1] 5)) (below_alloc K5.out _).size HB6.out); clear HV6 HB6 K5)
    | (at_builtin; refine print_append_row (w0 := w4) w4.heap.size rfl (.tmp 44) (.tmp 45) 22 5 .u8 1 rfl Try.underlying22 info_u8 (by omega) (.slice (some ⟨w6.heap.size, 0, none⟩) 0 0) [] abc _ _ _ rfl rfl (own_lit w6 w4.heap.size 5 .u8 [] K6.out.size (by simp)) (Kd.reads_of_C (Kd.C_alloc (Kd.C_below HC.out (below_then H4.out H4.out.size K6.out)) _)) (below_alloc K6.out _) (below_alloc K6.out _).size (by simp [abc]) ?_; intro v7 w7 hv7 hb7 hg7 ha7; rw [List.nil_append] at hv7; obtain ⟨g7, cap7, rfl, hcap7, hg7a, hg7b, hC7⟩ := own_form 11 hv7 rfl (by decide); have HC7 := Aside0.mk (set5_reads hv7); have K7 := Aside0.mk (hb7.setCell (p := ⟨g7, 5, none⟩) hg7a (.int .u8 66)); have hc7 := (own_at hv7 5 (by omega) (by decide)).1; have hf7 := (own_at hv7 5 (by omega) (by decide)).2; rw [show (5 : Int).toNat = 5 from rfl] at hc7 hf7; clear hv7 hb7 hg7 ha7 hC7 K6)
    | (go_at_call 16; (with_reducible refine (first_at _ cap7 11 (abc.set 5 66) [] 11 22 first_abcB rfl (by decide) _ hcap7 HC7.out).mono ?_); rintro e w8 ⟨v8, rfl, HV8, HB8⟩; have K8 := Aside0.mk (below_then K7.out K7.out.size HB8.out); obtain ⟨A8, c8, rfl, _⟩ := own_slice HV8.out; have HC8 := Aside0.mk (Kd.C_below HC.out (below_then H4.out H4.out.size K8.out)); obtain ⟨ga, ea, hc1⟩ := Kd.at_int HC8.out 1 (by omega) (by decide); injection ea with ea; subst ea; obtain ⟨ga, ea, hc3⟩ := Kd.at_int HC8.out 3 (by omega) (by decide); injection ea with ea; subst ea; simp only [show (1 : Int).toNat = 1 from rfl, show (3 : Int).toNat = 3 from rfl, Go.Addr.add, Nat.reduceEqDiff, Nat.zero_add, ↓reduceIte, show rd abc 1 = 3 from rfl, show rd abc 3 = 252 from rfl] at hc1 hc3; have hcv := own_string (P := Try.prog) Try.underlying22 Try.underlying5 Try.underlying9 (pw_own_below HV4.out K8.out); rw [str_abc] at hcv)
    | (go_at_call 20; (with_reducible refine (size_at 8192 8200 rfl _).mono ?_); rintro e w9 ⟨rfl, rfl⟩)
    | (go_at_call 20; (with_reducible refine (size_at 8193 0 rfl _).mono ?_); rintro e w9 ⟨rfl, rfl⟩)
    | (go_at_call 18; (with_reducible refine (put_at none 0 0 [] [] rfl rfl _ (by decide) (nil_reads _)).mono ?_); rintro e w9 ⟨v9, rfl, HV9, HB9⟩; obtain ⟨A9, c9, rfl, _⟩ := own_slice HV9.out))
  go_ret
  exact ⟨rfl, below_then HB.out HB.out.size (below_then H4.out H4.out.size (below_then K8.out K8.out.size HB9.out))⟩

def souterrainlaw02_head.f : Option Bool := some true
theorem souterrainlaw02_head.calls (r : Bool) (w : World) (h : souterrainlaw02_head.f = some r) :
    Calls Try.prog 15 #[] w fun e w' => e = .returned (.bool r) ∧ Below w.heap.size w w' := by
  obtain rfl := Option.some.inj h
  exact head02 w
end Go.Proofs.Ytjednkbgdbalnaa.Ext
