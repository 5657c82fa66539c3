/- Contracts of the frame layer's exported functions. -/
import Derived.Test.YtjednkbgdbalnaaFrB
import Derived.Outline
import Derived.Laws.Cover3
import Derived.Stop.BytesEq
import Derived.WalkSpells
import Derived.Test.YtjednkbgdbalnaaProg
import Derived.Below
import Derived.Deep.Draws
import Derived.Deep.AppendLies
import Derived.Maps.AppendAt
import Derived.OwnWalk
import Derived.Laws.BytesArg
import Derived.Laws.MakeOwn
import Derived.Laws.OwnMore
import Derived.Deep.OwnRows
import Derived.Tactics
import Derived.Lib.ConvBytes
import Derived.Laws.Slices
import Derived.WalkKit
import Derived.KernelRfl
import Derived.RowKit3
import Derived.Deep.LoopGhost
import Derived.Deep.QuietTactic
import Derived.BigQuiet
import Derived.WideLaws
import Derived.Deep.DeepCutAuto
import Derived.Deep.CutBlock
import Derived.Deep.RegionHeld3
import Derived.Laws.Rows
import Derived.Laws.Tables
import Derived.Lib.AppendStr
import Derived.ArgAppend
import Derived.Laws.IdiomCopy
import Derived.OrdersHeld
import Derived.Laws.BitsLemmas
import Derived.RowKit
import Derived.Test.YtjednkbgdbalnaaWWords
import Derived.Test.YtjednkbgdbalnaaWMore
import Derived.Test.YtjednkbgdbalnaaWZeros
namespace Go.Proofs.Ytjednkbgdbalnaa.Fr
open Go.RowKit Go.Proofs.YtjednkbgdbalnaaW.PrintWords Go.Proofs.YtjednkbgdbalnaaW.PrintMore
set_option linter.unusedVariables false
set_option linter.unusedSimpArgs false

def sizeI (n : Int) : Int := if n < 1 then 0 else if 8192 < n then 0 else n + 8
theorem size_calls (n : Int) (w : World) :
    Calls Try.prog 20 #[.int .i64 n] w fun e w' => e = .returned (.int .i64 (sizeI n)) ∧ w = w' := by
  unfold sizeI
  by_cases h1 : n < 1
  · have d1 : decide (n < 1) = true := decide_eq_true h1
    rw [if_pos h1]
    go_enter Try.func20, Try.ntmps20
    go_wp2
    go_ret
    exact ⟨rfl, rfl⟩
  · have d1 : decide (n < 1) = false := decide_eq_false h1
    rw [if_neg h1]
    by_cases h2 : 8192 < n
    · have d2 : decide (8192 < n) = true := decide_eq_true h2
      rw [if_pos h2]
      go_enter Try.func20, Try.ntmps20
      go_wp2
      go_ret
      exact ⟨rfl, rfl⟩
    · have d2 : decide (8192 < n) = false := decide_eq_false h2
      rw [if_neg h2, show n + 8 = 4 + n + 4 by omega]
      go_enter Try.func20, Try.ntmps20
      go_wp2
      go_ret
      exact ⟨rfl, rfl⟩

def hdr (n : Int) : List Int := [n / 256, n % 256, 255 - n / 256, 255 - n % 256]
def bodyOf (l : List Int) : List Int := hdr l.length ++ l
def frameOf (l : List Int) : List Int := bodyOf l ++ tailOf (sumOf (bodyOf l))
def putL (l : List Int) : List Int := if sizeI l.length = 0 then [] else frameOf l

theorem C_two (W : World) (A0 A1 : Option Addr) (n0 c0 c1 g t : Nat) (xs ys : List Int) (h0 : xs.length ≤ c0) (h1 : ys.length ≤ c1) (hn : xs.length = n0) (hg : g = W.heap.size) (hx : Kd.C (Kd.int .u8) W A0 xs.length xs) (hy : Kd.C (Kd.int .u8) W A1 ys.length ys) :
    Kd.C (Kd.slice 5 (Kd.int .u8)) (W.alloc (.cells #[.slice A0 n0 c0, .slice A1 ys.length c1] t)) (some ⟨g, 0, none⟩) [xs, ys].length [xs, ys] := by
  subst hn hg
  refine ⟨rfl, by simp, fun _ => ⟨_, rfl, fun j p hj => ?_⟩⟩
  have hb := heap_alloc_new W (.cells #[.slice A0 xs.length c0, .slice A1 ys.length c1] t)
  rcases j with _ | _ | j
  · obtain rfl : xs = p := by simpa using hj
    refine ⟨[.slice A0 xs.length c0], rfl, ⟨A0, c0, rfl, h0, Kd.C_alloc hx _⟩, fun i u hu => ?_⟩
    rcases i with _ | i
    · obtain rfl : Value.slice A0 xs.length c0 = u := by simpa using hu
      rw [add_plain, blk_cell hb]
      rfl
    · simp at hu
  · obtain rfl : ys = p := by simpa using hj
    refine ⟨[.slice A1 ys.length c1], rfl, ⟨A1, c1, rfl, h1, Kd.C_alloc hy _⟩, fun i u hu => ?_⟩
    rcases i with _ | i
    · obtain rfl : Value.slice A1 ys.length c1 = u := by simpa using hu
      rw [add_plain, blk_cell hb]
      rfl
    · simp at hu
  · simp at hj
/-- A header, as a row. -/
theorem hdr_reads (W : World) (n : Int) (t : Nat) : Kd.C (Kd.int .u8) (W.alloc (.cells #[.int .u8 (n / 256), .int .u8 (n % 256), .int .u8 (255 - n / 256), .int .u8 (255 - n % 256)] t)) (some ⟨W.heap.size, 0, none⟩) (hdr n).length (hdr n) :=
  Kd.C_of_reads (enc := Value.int .u8) (d := 0) (h1 := fun _ => rfl) (lit_reads W t .u8 (hdr n) (by simp [hdr]))
theorem flat_two (xs ys : List Int) : flat [xs, ys] [xs, ys].length = xs ++ ys := by simp [flat]

set_option maxHeartbeats 8000000 in
set_option maxRecDepth 100000 in
theorem put_calls (A : Option Addr) (c : Nat) (l : List Int) (w : World) (hc : l.length ≤ c) (hr : Kd.C (Kd.int .u8) w A l.length l) :
    Calls Try.prog 18 #[.slice A l.length c] w fun e w' => ∃ v, e = .returned v ∧ w'.ownsRow w.heap.size 5 1 v (putL l).length (nums .u8 (putL l)) ∧ Below w.heap.size w w' := by
  have HR := Aside0.mk hr
  clear hr
  unfold putL
  by_cases h0 : sizeI l.length = 0
  · rw [if_pos h0]
    have b0 : (sizeI (l.length : Int) == 0) = true := beq_iff_eq.mpr h0
    clear h0
    go_enter Try.func18, Try.ntmps18
    go_wp2_with (go_at_call 20; refine (size_calls _ _).mono ?_; rintro e w1 ⟨rfl, rfl⟩)
    go_ret
    exact ⟨_, rfl, own_nil _ _ _ _, Below.refl _ _⟩
  · rw [if_neg h0]
    have b0 : (sizeI (l.length : Int) == 0) = false := beq_eq_false_iff_ne.mpr h0
    have hn : 1 ≤ l.length ∧ l.length ≤ 8192 := by unfold sizeI at h0; split at h0 <;> (try split at h0) <;> omega
    obtain ⟨hn1, hn2⟩ := hn
    clear h0
    go_enter Try.func18, Try.ntmps18
    go_wp2_with (first
      | (go_at_call 20; refine (size_calls _ _).mono ?_; rintro e w1 ⟨rfl, rfl⟩)
      | (go_at_call 30; refine (length_calls _ (by omega) (by omega) _).mono ?_; rintro e w1 ⟨rfl, hb1⟩; have HB1 := Aside0.mk hb1; clear hb1)
      | (go_at_call 34; refine (concat_calls (some ⟨w1.heap.size + 1, 0, none⟩) 2 [hdr l.length, l] _ (by rw [flatN, flat_two]; simp [hdr]; omega) (C_two _ _ _ 4 4 c _ 22 (hdr l.length) l (by simp [hdr]) hc rfl (by simp) (hdr_reads w1 l.length 54) (Kd.C_alloc (Kd.C_below HR.out HB1.out) _))).mono ?_; rintro e w2 ⟨v2, rfl, hv2, hb2⟩; have HB2 := Aside0.mk hb2; have HV2 := Aside0.mk hv2; clear hb2 hv2)
      | (go_at_call 32; refine (sealed_calls _ _ _ _ (by rw [flat_two]; simp [hdr]; omega) HB2.out.size HV2.out).mono ?_; rintro e w3 ⟨v3, rfl, hv3, hg3, ha3⟩; have HV3 := Aside0.mk hv3; have HG3 := Aside0.mk hg3; clear hv3 hg3 ha3))
    go_ret
    rw [flat_two] at HV2 HV3
    have hb2 : Below w.heap.size w w2 := below_then (below_alloc (below_alloc HB1.out _) _) (below_alloc (below_alloc HB1.out _) _).size HB2.out
    have hbase := (below_alloc (below_alloc HB1.out (.cells #[.int .u8 ((l.length : Int) / 256), .int .u8 ((l.length : Int) % 256), .int .u8 (255 - (l.length : Int) / 256), .int .u8 (255 - (l.length : Int) % 256)] 54)) (.cells #[.slice (some ⟨w1.heap.size, 0, none⟩) 4 4, .slice A l.length c] 22)).size
    refine ⟨_, rfl, own_weaken HV3.out hbase, pw_below_grown hb2 _ hb2.size HG3.out fun k hk => ?_⟩
    exact Nat.le_trans hbase (own_base HV2.out k hk)

theorem rd_mem (l : List Int) (i : Int) (h0 : 0 ≤ i) (h1 : i < l.length) : rd l i ∈ l := by
  unfold rd
  rw [List.getD_eq_getElem?_getD, List.getElem?_eq_getElem (by omega)]
  exact List.getElem_mem _
theorem or_bytes (a b : Int) (h0 : 0 ≤ a) (h1 : a < 256) (g0 : 0 ≤ b) (g1 : b < 256) : bits .or .i64 (a * 256) b = a * 256 + b :=
  Go.bits_join .i64 63 (by decide) (fun n h h' => by rw [IntWalk.i64_in] <;> omega) 8 (a * 256) b (by omega) (by omega) (by omega) g0 (by omega) (by omega)

def nOf (l : List Int) : Int := rd l 0 * 256 + rd l 1
def firstL (l : List Int) : List Int × Int × Int :=
  if l.length < 4 then ([], 0, 21)
  else if sizeI (nOf l) = 0 ∨ l.take 4 ≠ hdr (nOf l) then ([], 0, 22)
  else if (l.length : Int) < sizeI (nOf l) then ([], 0, 21)
  else if l.take (nOf l + 4).toNat ++ tailOf (sumOf (l.take (nOf l + 4).toNat)) ≠ l.take (nOf l + 8).toNat then ([], nOf l + 8, 22)
  else ((l.take (nOf l + 4).toNat).drop 4, nOf l + 8, 0)

theorem all_range_eqI : ∀ (xs ys : List Int), xs.length = ys.length → (List.range xs.length).all (fun i => xs.getD i 0 == ys.getD i 0) = (xs == ys)
  | [], [], _ => rfl
  | x :: xs, y :: ys, h => by
    have ih := all_range_eqI xs ys (by simpa using h)
    rw [List.length_cons, List.range_succ_eq_map, List.all_cons, List.all_map]
    simp only [List.getD_cons_zero, Function.comp_def, List.getD_cons_succ, ih]
    simp [List.cons_beq_cons]
  | [], _ :: _, h => by simp at h
  | _ :: _, [], h => by simp at h
/-- Two arrays of whole numbers compared. -/
theorem run_equalIn_ints {P : Program} (w : World) (d : Nat) (t e : TypeId) (k : IntKind) (n : Nat) (ht : P.underlying t = some (.array n e)) (he : P.underlying e = some (.int k)) (hsz : ∀ w, (sizeOf e).run P w = .ok 1 w)
    (xs ys : List Int) (hx : xs.length = n) (hy : ys.length = n) :
    (Op.equalIn (d + 2) t (.agg (nums k xs).toArray) (.agg (nums k ys).toArray)).run P w = .ok (xs == ys) w := by
  rw [← all_range_eqI xs ys (hx.trans hy.symm), hx, List.range_eq_range', Op.equalIn]
  simp only [Sem.run_bind, run_underlying ht, Result.andThen_ok, hsz, Std.Legacy.Range.forIn_eq_forIn_range', Std.Legacy.Range.size, Nat.sub_zero, Nat.add_sub_cancel, Nat.div_one]
  have hl : ∀ i ∈ List.range' 0 n 1, i < n := fun i hi => by simpa using (List.mem_range'_1.1 hi).2
  generalize List.range' 0 n 1 = l at hl ⊢
  induction l with
  | nil => simp
  | cons i l ih =>
    have hi : i < n := hl i (by simp)
    have px : (part e (nums k xs).toArray (i * 1)).run P w = .ok (.int k (xs.getD i 0)) w := by
      simp [part, isAgg, nums, run_underlying he, List.getD, List.getElem?_eq_getElem (show i < xs.length by omega)]
    have py : (part e (nums k ys).toArray (i * 1)).run P w = .ok (.int k (ys.getD i 0)) w := by
      simp [part, isAgg, nums, run_underlying he, List.getD, List.getElem?_eq_getElem (show i < ys.length by omega)]
    have pe : (Op.equalIn (d + 1) e (.int k (xs.getD i 0)) (.int k (ys.getD i 0))).run P w = .ok (xs.getD i 0 == ys.getD i 0) w := by
      rw [Op.equalIn]
      simp [run_underlying he]
    simp only [List.forIn_cons, Sem.run_bind, px, py, pe, Result.andThen_ok, List.all_cons]
    cases hb : (xs.getD i 0 == ys.getD i 0)
    · simp
    · simp only [Bool.not_true, Bool.false_eq_true, if_false, Sem.run_pure, Result.andThen_ok, Bool.true_and]
      exact ih fun j hj => hl j (by simp [hj])
theorem size_u8 : ∀ w, (sizeOf 5).run Try.prog w = .ok 1 w := by
  obtain ⟨i0, hi, hz0, hz1, hz2⟩ := info_parts info_u8
  intro w
  simp [sizeOf, typeInfo, hi, hz1]
theorem take4 (l : List Int) (h : 4 ≤ l.length) : l.take 4 = [rd l 0, rd l 1, rd l 2, rd l 3] := by
  match l, h with
  | a :: b :: c :: d :: l, _ => rfl

/-- Do two rows agree in what is ahead of a place? -/
def eqTo (l0 l1 : List Int) (k : Nat) : Bool := l0.take k == l1.take k
theorem eqTo_zero (l0 l1 : List Int) : eqTo l0 l1 0 = true := by simp [eqTo]
theorem eqTo_all (l0 l1 : List Int) (h : l0.length = l1.length) : eqTo l0 l1 l0.length = (l0 == l1) := by
  unfold eqTo
  rw [List.take_length, h, List.take_length]
theorem eqTo_step (l0 l1 : List Int) (k : Nat) (h : l0.length = l1.length) (hk : k < l0.length) (he : eqTo l0 l1 k = true) (hr : rd l0 k = rd l1 k) : eqTo l0 l1 (k + 1) = true := by
  unfold eqTo at he ⊢
  have he := beq_iff_eq.mp he
  rw [take_succ_rd l0 k hk, take_succ_rd l1 k (by omega), he, hr]
  exact beq_self_eq_true _
theorem eqTo_stop (l0 l1 : List Int) (k : Nat) (hr : rd l0 k ≠ rd l1 k) : (l0 == l1) = false := by
  apply beq_eq_false_iff_ne.mpr
  rintro rfl
  exact hr rfl
theorem beq_len (l0 l1 : List Int) (h : l0.length ≠ l1.length) : (l0 == l1) = false := by
  apply beq_eq_false_iff_ne.mpr
  rintro rfl
  exact h rfl

set_option maxHeartbeats 8000000 in
set_option maxRecDepth 100000 in
theorem equal_calls (A0 A1 : Option Addr) (c0 c1 : Nat) (l0 l1 : List Int) (w : World) (hr0 : Kd.C (Kd.int .u8) w A0 l0.length l0) (hr1 : Kd.C (Kd.int .u8) w A1 l1.length l1) :
    Calls Try.prog 31 #[.slice A0 l0.length c0, .slice A1 l1.length c1] w fun e w' => e = .returned (.bool (l0 == l1)) ∧ Drawn0 w w' := by
  have HR0 := Aside0.mk hr0
  have HR1 := Aside0.mk hr1
  have hm := Kd.C_max hr0
  clear hr0 hr1
  by_cases hl : l0.length = l1.length
  · have b0 : ((l0.length : Int) == (l1.length : Int)) = true := beq_iff_eq.mpr (by omega)
    have b1 : ((l0.length : Int) != (l1.length : Int)) = false := bne_eq_false_iff_eq.mpr (by omega)
    have b2 : (l0.length == l1.length) = true := beq_iff_eq.mpr hl
    have b3 : (l0.length != l1.length) = false := bne_eq_false_iff_eq.mpr hl
    have HL := Aside0.mk hl
    have hl1 : l0.length ≤ l1.length := by omega
    clear hl
    go_enter Try.func31, Try.ntmps31
    go_wp2
    repeat (go_quiet (fail); try go_wp2)
    go_loopg [13] l0.length (fun kq v13 w' => ∃ k : Nat, v13 = .int .i64 k ∧ Aside0 (k + kq = l0.length) ∧ Aside0 (eqTo l0 l1 k = true) ∧ Drawn0 w w')
    case atStart => exact ⟨0, rfl, ⟨by omega⟩, ⟨eqTo_zero _ _⟩, Drawn0.refl _⟩
    case round =>
      obtain ⟨k, rfl, HK, HE, ⟨m, rfl⟩⟩ := hrel
      cases gk with
      | zero =>
        have hk : decide ((k : Int) < (l0.length : Int)) = false := decide_eq_false (by have := HK.out; omega)
        have hk' : decide (k < l0.length) = false := decide_eq_false (by have := HK.out; omega)
        go_wp2
        go_ret
        refine ⟨?_, by repeat (first | exact Drawn0.refl _ | apply Drawn0.step)⟩
        have e1 := HE.out
        rw [show k = l0.length by have := HK.out; omega, eqTo_all _ _ HL.out] at e1
        rw [e1]
        rfl
      | succ gk =>
        have hk0 : k < l0.length := by have := HK.out; omega
        have hk1 : (k < l0.length) = True := eq_true hk0
        have hk1' : (k < l1.length) = True := eq_true (by omega)
        have hk : decide ((k : Int) < (l0.length : Int)) = true := decide_eq_true (by omega)
        have hk' : decide (k < l0.length) = true := decide_eq_true hk0
        have h0 : 0 ≤ (k : Int) := by omega
        obtain ⟨a0, e0, x0⟩ := Kd.at_int HR0.out (k : Int) h0 (by omega)
        cases e0
        obtain ⟨a1, e1, x1⟩ := Kd.at_int HR1.out (k : Int) h0 (by omega)
        cases e1
        rw [Int.toNat_natCast] at x0 x1
        by_cases hq : rd l0 k = rd l1 k
        · have q0 : (rd l0 k == rd l1 k) = true := beq_iff_eq.mpr hq
          have q1 : (rd l0 k != rd l1 k) = false := bne_eq_false_iff_eq.mpr hq
          have HS := Aside0.mk (eqTo_step l0 l1 k HL.out hk0 HE.out hq)
          clear hq
          go_wp2
          repeat (go_quiet (fail); try go_wp2)
          go_roundg gk
          case measure => omega
          case rel => exact ⟨k + 1, by go_num, ⟨by have := HK.out; omega⟩, HS, by repeat (first | exact Drawn0.refl _ | apply Drawn0.step)⟩
        · have q0 : (rd l0 k == rd l1 k) = false := beq_eq_false_iff_ne.mpr hq
          have q1 : (rd l0 k != rd l1 k) = true := bne_iff_ne.mpr hq
          have HS := Aside0.mk (eqTo_stop l0 l1 k hq)
          clear hq
          go_wp2
          repeat (go_quiet (fail); try go_wp2)
          go_ret
          exact ⟨by rw [HS.out]; rfl, by repeat (first | exact Drawn0.refl _ | apply Drawn0.step)⟩
  · have b0 : ((l0.length : Int) == (l1.length : Int)) = false := beq_eq_false_iff_ne.mpr (by omega)
    have b1 : ((l0.length : Int) != (l1.length : Int)) = true := bne_iff_ne.mpr (by omega)
    have b2 : (l0.length == l1.length) = false := beq_eq_false_iff_ne.mpr hl
    have b3 : (l0.length != l1.length) = true := bne_iff_ne.mpr hl
    have HL := Aside0.mk (beq_len l0 l1 hl)
    clear hl
    go_enter Try.func31, Try.ntmps31
    go_wp2
    repeat (go_quiet (fail); try go_wp2)
    go_ret
    exact ⟨by rw [HL.out]; rfl, by repeat (first | exact Drawn0.refl _ | apply Drawn0.step)⟩

theorem firstL_short (l : List Int) (h : l.length < 4) : firstL l = ([], 0, 21) := by unfold firstL; rw [if_pos h]
theorem equal_named (A0 A1 : Option Addr) (c0 c1 : Nat) (l0 l1 : List Int) (w : World) (hr0 : Kd.C (Kd.int .u8) w A0 l0.length l0) (hr1 : Kd.C (Kd.int .u8) w A1 l1.length l1) :
    Calls Try.prog 31 #[.slice A0 l0.length c0, .slice A1 l1.length c1] w fun e w' => ∃ b, e = .returned (.bool b) ∧ Aside0 ((l0 == l1) = b) ∧ Drawn0 w w' :=
  (equal_calls A0 A1 c0 c1 l0 l1 w hr0 hr1).mono fun e w' h => ⟨_, h.1, ⟨rfl⟩, h.2⟩
theorem C_of_ints {w : World} {k : IntKind} {A : Option Addr} {n : Nat} {xs : List Int} (h : ReadsInt w k A n xs) : Kd.C (Kd.int k) w A n xs := Kd.C_of_reads h
theorem ints_of_C {w : World} {k : IntKind} {A : Option Addr} {n : Nat} {xs : List Int} (h : Kd.C (Kd.int k) w A n xs) : ReadsInt w k A n xs := Kd.reads_of_C h
theorem sealed_named (base : Nat) (v : Value) (l : List Int) (w : World) (hl : l.length < 140737488355000) (hbase : base ≤ w.heap.size) (ho : w.ownsRow base 5 1 v l.length (nums .u8 l)) :
    Calls Try.prog 32 #[v] w fun e w' => ∃ A c z, e = .returned (.slice A z.length c) ∧ Aside0 (l ++ tailOf (sumOf l) = z) ∧ w'.ownsRow base 5 1 (.slice A z.length c) z.length (nums .u8 z) ∧ w.grownBy w' v.ownBlock := by
  refine (sealed_calls base v l w hl hbase ho).mono ?_
  rintro e w' ⟨v', rfl, ho', hg, _⟩
  obtain ⟨A, c, rfl, _⟩ := own_reads ho'
  exact ⟨A, c, _, rfl, ⟨rfl⟩, ho', hg⟩
theorem sizeI_ne (n : Int) (hz : sizeI n ≠ 0) : sizeI n = n + 8 ∧ 1 ≤ n ∧ n ≤ 8192 := by
  unfold sizeI at hz ⊢
  split at hz
  · exact absurd rfl hz
  · split at hz
    · exact absurd rfl hz
    · rw [if_neg (by assumption), if_neg (by assumption)]
      omega
theorem firstL_cut (l : List Int) (h : ¬ l.length < 4) (hz : sizeI (nOf l) ≠ 0) (he : l.take 4 = hdr (nOf l)) (hs : (l.length : Int) < sizeI (nOf l)) : firstL l = ([], 0, 21) := by
  unfold firstL; rw [if_neg h, if_neg (by rintro (h | h); exact hz h; exact h he), if_pos hs]
theorem firstL_sum (l : List Int) (h : ¬ l.length < 4) (hz : sizeI (nOf l) ≠ 0) (he : l.take 4 = hdr (nOf l)) (hs : ¬ (l.length : Int) < sizeI (nOf l)) (hq : l.take (nOf l + 4).toNat ++ tailOf (sumOf (l.take (nOf l + 4).toNat)) ≠ l.take (nOf l + 8).toNat) : firstL l = ([], nOf l + 8, 22) := by
  unfold firstL; rw [if_neg h, if_neg (by rintro (h | h); exact hz h; exact h he), if_neg hs, if_pos hq]
theorem firstL_ok (l : List Int) (h : ¬ l.length < 4) (hz : sizeI (nOf l) ≠ 0) (he : l.take 4 = hdr (nOf l)) (hs : ¬ (l.length : Int) < sizeI (nOf l)) (hq : l.take (nOf l + 4).toNat ++ tailOf (sumOf (l.take (nOf l + 4).toNat)) = l.take (nOf l + 8).toNat) : firstL l = ((l.take (nOf l + 4).toNat).drop 4, nOf l + 8, 0) := by
  unfold firstL; rw [if_neg h, if_neg (by rintro (h | h); exact hz h; exact h he), if_neg hs, if_neg (fun h => h hq)]
theorem firstL_bad2 (l : List Int) (h : ¬ l.length < 4) (hz : l.take 4 ≠ hdr (nOf l)) : firstL l = ([], 0, 22) := by unfold firstL; rw [if_neg h, if_pos (Or.inr hz)]
theorem firstL_bad (l : List Int) (h : ¬ l.length < 4) (hz : sizeI (nOf l) = 0) : firstL l = ([], 0, 22) := by unfold firstL; rw [if_neg h, if_pos (Or.inl hz)]

set_option maxHeartbeats 8000000 in
set_option maxRecDepth 100000 in
theorem first_calls (A : Option Addr) (c : Nat) (l : List Int) (w : World) (hB : IsBytes l) (hc : l.length ≤ c) (hr : Kd.C (Kd.int .u8) w A l.length l) :
    Calls Try.prog 16 #[.slice A l.length c] w fun e w' => ∃ v xs k f, e = .returned (.tuple #[v, .int .i64 k, .int .i64 f]) ∧ Aside0 (firstL l = (xs, k, f)) ∧ w'.ownsRow w.heap.size 5 1 v xs.length (nums .u8 xs) ∧ Below w.heap.size w w' := by
  have HR := Aside0.mk hr
  clear hr
  by_cases h4 : l.length < 4
  · have HL := Aside0.mk (firstL_short l h4)
    have d4 : decide ((l.length : Int) < 4) = true := decide_eq_true (by omega)
    have d4' : decide (l.length < 4) = true := decide_eq_true (by omega)
    clear h4
    go_enter Try.func16, Try.ntmps16
    go_wp2
    go_ret3
    exact ⟨_, [], 0, 21, rfl, HL, own_nil _ _ _ _, Below.refl _ _⟩
  · have d4 : decide ((l.length : Int) < 4) = false := decide_eq_false (by omega)
    have d4' : decide (l.length < 4) = false := decide_eq_false (by omega)
    obtain ⟨ad, e1, c0⟩ := Kd.at_int HR.out 0 (by omega) (by omega)
    subst e1
    obtain ⟨ad', e1, c1⟩ := Kd.at_int HR.out 1 (by omega) (by omega)
    obtain rfl : ad = ad' := by injection e1
    obtain ⟨ad', e2, c2⟩ := Kd.at_int HR.out 2 (by omega) (by omega)
    obtain rfl : ad = ad' := by injection e2
    obtain ⟨ad', e3, c3⟩ := Kd.at_int HR.out 3 (by omega) (by omega)
    obtain rfl : ad = ad' := by injection e3
    clear e1 e2 e3
    have l0 : (0 < l.length) = True := eq_true (by omega)
    have l1 : (1 < l.length) = True := eq_true (by omega)
    have l1' : ((1 : Int) < (l.length : Int)) = True := eq_true (by omega)
    have l4 : (4 ≤ c) = True := eq_true (by omega)
    have l4' : ((4 : Int) ≤ (c : Int)) = True := eq_true (by omega)
    have hat : ∀ w, (Instr.arrayAt 54 (.slice (some ad) 4 c)).run Try.prog w = .ok (.pointer (some ad)) w := fun w => run_arrayAt w 54 _ 4 _ 4 c Try.underlying54 (by omega)
    obtain ⟨r0, r0'⟩ := hB _ (rd_mem l 0 (by omega) (by omega))
    obtain ⟨r1, r1'⟩ := hB _ (rd_mem l 1 (by omega) (by omega))
    have ho := or_bytes (rd l 0) (rd l 1) r0 r0' r1 r1'
    have w0 : IntKind.i64.wrap (rd l 0) = rd l 0 := IntWalk.i64_in _ (by omega)
    have w1 : IntKind.i64.wrap (rd l 1) = rd l 1 := IntWalk.i64_in _ (by omega)
    have w2 : IntKind.i64.wrap (rd l 0 * 256) = rd l 0 * 256 := IntWalk.i64_in _ (by omega)
    simp only [show (0 : Int).toNat = 0 from rfl, show (1 : Int).toNat = 1 from rfl, show (2 : Int).toNat = 2 from rfl, show (3 : Int).toNat = 3 from rfl, Addr.add_zero'] at c0 c1 c2 c3
    simp only [Nat.reduceEqDiff, Go.Addr.add, ↓reduceIte] at c1 c2 c3
    go_enter Try.func16, Try.ntmps16
    go_wp2
    go_quiet (fail)
    have hbw : Below w.heap.size w (w.drewN nq) := pw_below_drewN (Below.refl _ _) _
    have HRw := Aside0.mk (Kd.C_drewN HR.out nq)
    rw [← World.cell?_drewN (n := nq)] at c0 c1 c2 c3
    generalize w.drewN nq = wa at c0 c1 c2 c3 HRw hbw ⊢
    have HBA := Aside0.mk hbw
    clear hbw
    have hnof : rd l 0 * 256 + rd l 1 = nOf l := rfl
    rw [hnof]
    have HN := Aside0.mk hnof
    have n0 : 0 ≤ nOf l ∧ nOf l < 65536 := by unfold nOf; omega
    obtain ⟨n0, n1⟩ := n0
    clear ho w0 w1 w2 r0 r0' r1 r1' hnof
    by_cases hz : sizeI (nOf l) = 0
    · have HL := Aside0.mk (firstL_bad l h4 hz)
      have b0 : (sizeI (nOf l) == 0) = true := beq_iff_eq.mpr hz
      clear hz
      go_wp2_with (go_at_call 20; refine (size_calls _ _).mono ?_; rintro e w1 ⟨rfl, rfl⟩)
      go_ret3
      exact ⟨_, [], 0, 22, rfl, HL, own_nil _ _ _ _, HBA.out⟩
    · have b0 : (sizeI (nOf l) == 0) = false := beq_eq_false_iff_ne.mpr hz
      go_wp2_with (go_at_call 20; refine (size_calls _ _).mono ?_; rintro e w1 ⟨rfl, rfl⟩)
      obtain ⟨same, HS⟩ : ∃ b : Bool, Aside0 (b = (l.take 4 == hdr (nOf l))) := ⟨_, ⟨rfl⟩⟩
      have heq : ∀ w, (Op.equalIn 10000 54 (.agg #[.int .u8 (rd l 0), .int .u8 (rd l 1), .int .u8 (rd l 2), .int .u8 (rd l 3)]) (.agg #[.int .u8 (nOf l / 256), .int .u8 (nOf l % 256), .int .u8 (255 - nOf l / 256), .int .u8 (255 - nOf l % 256)])).run Try.prog w = .ok same w := by
        intro w
        rw [HS.out, take4 l (by omega)]
        exact run_equalIn_ints w 9998 54 5 .u8 4 Try.underlying54 Try.underlying5 size_u8 [rd l 0, rd l 1, rd l 2, rd l 3] (hdr (nOf l)) rfl rfl
      have hlt : ad.block < wa.heap.size := World.block_lt_of_cell? wa ad c0
      obtain ⟨hsz, hn1, hn2⟩ := sizeI_ne _ hz
      obtain ⟨n, HNN⟩ : ∃ n, Aside0 (nOf l = n) := ⟨_, ⟨rfl⟩⟩
      have hnn := HNN.out
      rw [hnn] at heq hsz hn1 hn2 n0 n1 b0 ⊢
      rw [hsz] at b0 ⊢
      clear hnn
      cases same with
      | false =>
        have HL := Aside0.mk (firstL_bad2 l h4 (beq_eq_false_iff_ne.mp HS.out.symm))
        go_region_held3 (fun w' => w'.cell? ad = some (.int .u8 (rd l 0)) ∧ w'.cell? ⟨ad.block, ad.off + 1, none⟩ = some (.int .u8 (rd l 1)) ∧ w'.cell? ⟨ad.block, ad.off + 2, none⟩ = some (.int .u8 (rd l 2)) ∧ w'.cell? ⟨ad.block, ad.off + 3, none⟩ = some (.int .u8 (rd l 3)))
          (first | go_keep | exact ⟨(hb1.cell (p := ad) hlt).trans c0, (hb1.cell (p := ⟨ad.block, ad.off + 1, none⟩) hlt).trans c1, (hb1.cell (p := ⟨ad.block, ad.off + 2, none⟩) hlt).trans c2, (hb1.cell (p := ⟨ad.block, ad.off + 3, none⟩) hlt).trans c3⟩)
          ((go_at_call 30; refine (length_calls _ n0 n1 _).mono ?_; rintro e w1 ⟨rfl, hb1⟩))
        all_goals
          go_wp2
          go_ret3
          exact ⟨_, [], 0, 22, rfl, HL, own_nil _ _ _ _, below_then HBA.out HBA.out.size (below_then (below_drew1 (Below.refl _ _)) (Nat.le_refl _) hb1)⟩
      | true =>
        have HE := Aside0.mk (beq_iff_eq.mp HS.out.symm)
        go_region_held3 (fun w' => w'.cell? ad = some (.int .u8 (rd l 0)) ∧ w'.cell? ⟨ad.block, ad.off + 1, none⟩ = some (.int .u8 (rd l 1)) ∧ w'.cell? ⟨ad.block, ad.off + 2, none⟩ = some (.int .u8 (rd l 2)) ∧ w'.cell? ⟨ad.block, ad.off + 3, none⟩ = some (.int .u8 (rd l 3)))
          (first | go_keep | exact ⟨(hb1.cell (p := ad) hlt).trans c0, (hb1.cell (p := ⟨ad.block, ad.off + 1, none⟩) hlt).trans c1, (hb1.cell (p := ⟨ad.block, ad.off + 2, none⟩) hlt).trans c2, (hb1.cell (p := ⟨ad.block, ad.off + 3, none⟩) hlt).trans c3⟩)
          ((go_at_call 30; refine (length_calls _ n0 n1 _).mono ?_; rintro e w1 ⟨rfl, hb1⟩))
        all_goals
          have HB1 := Aside0.mk (below_then HBA.out HBA.out.size (below_then (below_drew1 (Below.refl _ _)) (Nat.le_refl _) hb1))
          have HR1 := Aside0.mk (Kd.C_below HR.out HB1.out)
          clear hb1 heq hat hlt c0 c1 c2 c3
          by_cases hs : (l.length : Int) < n + 8
          · have HL := Aside0.mk (firstL_cut l h4 hz HE.out (by rw [HNN.out, hsz]; exact hs))
            have ds : decide ((l.length : Int) < n + 8) = true := decide_eq_true hs
            clear hs hsz
            go_wp2
            go_ret3
            exact ⟨_, [], 0, 21, rfl, HL, own_nil _ _ _ _, HB1.out⟩
          · have ds : decide ((l.length : Int) < n + 8) = false := decide_eq_false hs
            have hwr : IntKind.i64.wrap (n + 8 - 4) = n + 4 := by rw [IntWalk.i64_in _ (by omega)]; omega
            obtain ⟨i0, hi, hz0, hz1, hz2⟩ := info_parts info_u8
            have ht1 := print_take_int (P := Try.prog) (k := .u8) 22 5 Try.underlying22 hi hz1 (some ad) c l (n + 4) (by omega) (by omega) hc
            have ht2 := print_take_int (P := Try.prog) (k := .u8) 22 5 Try.underlying22 hi hz1 (some ad) c l (n + 8) (by omega) (by omega) hc
            obtain ⟨x, HX⟩ : ∃ x, Aside0 (l.take (n + 4).toNat = x) := ⟨_, ⟨rfl⟩⟩
            obtain ⟨y, HY⟩ : ∃ y, Aside0 (l.take (n + 8).toNat = y) := ⟨_, ⟨rfl⟩⟩
            rw [HX.out] at ht1
            rw [HY.out] at ht2
            obtain ⟨hx1, hx2, hx3⟩ := ht1
            obtain ⟨hy1, hy2, hy3⟩ := ht2
            have HX2 : Aside0 (∀ w, Kd.C (Kd.int .u8) w (some ad) l.length l → Kd.C (Kd.int .u8) w (some ad) x.length x) := ⟨fun w h => C_of_ints (hx2 w (ints_of_C h))⟩
            have HY2 : Aside0 (∀ w, Kd.C (Kd.int .u8) w (some ad) l.length l → Kd.C (Kd.int .u8) w (some ad) y.length y) := ⟨fun w h => C_of_ints (hy2 w (ints_of_C h))⟩
            obtain ⟨A5, hm1, hm2, hm3⟩ := print_mid_int (P := Try.prog) (k := .u8) 22 5 Try.underlying22 hi hz1 (some ad) c l 4 (n + 4) (by omega) (by omega) (by omega) hc
            obtain ⟨u, HU⟩ : ∃ u, Aside0 ((l.take (n + 4).toNat).drop (4 : Int).toNat = u) := ⟨_, ⟨rfl⟩⟩
            rw [HU.out] at hm1 hm2 hm3
            have HM2 : Aside0 (∀ w, Kd.C (Kd.int .u8) w (some ad) l.length l → Kd.C (Kd.int .u8) w A5 u.length u) := ⟨fun w h => C_of_ints (hm2 w (ints_of_C h))⟩
            rw [show c - (4 : Int).toNat = c - 4 from rfl] at hm1
            have hul : u.length ≤ 8200 := by rw [← HU.out, List.length_drop, List.length_take]; omega
            have hxl : x.length ≤ l.length := by rw [← HX.out]; exact List.length_take_le' _ _
            have hm := Kd.C_max HR.out
            have hxm : x.length ≤ 8200 := by rw [← HX.out, List.length_take]; omega
            clear hx2 hy2 hm2 hi hz0 hz1 hz2
            go_wp2
            go_region_held3 (fun _ => True) (first | trivial | fail)
              (first
                | (go_at_call 33; refine (clone_calls _ _ x _ (by omega) (HX2.out _ (Kd.C_below HR1.out (below_drew1 (Below.refl _ _))))).mono ?_; rintro e w2 ⟨v2, rfl, hv2, hb2⟩; have HB2 := Aside0.mk (below_then (below_drew1 HB1.out) (below_drew1 HB1.out).size hb2))
                | (go_at_call 32; (with_reducible refine (sealed_named _ _ x _ (by omega) hb2.size hv2).mono ?_); rintro e w3 ⟨A3, q3, z, rfl, HZ, hv3, hg3⟩; obtain ⟨_, _, hveq, hr3⟩ := own_reads hv3; injection hveq with h1 h2 h3; subst h1; have HR3 := Aside0.mk (C_of_ints hr3); have HB3 := Aside0.mk (pw_below_grown HB2.out _ HB2.out.size hg3 (fun k hk => Nat.le_trans (below_drew1 HB1.out).size (own_base hv2 k hk))); clear hg3 hr3 hv3 h2 h3)
                | (go_at_call 31; (with_reducible refine (equal_named A3 (some ad) q3 c z y _ HR3.out (HY2.out _ (Kd.C_below HR.out HB3.out))).mono ?_); rintro e w4 ⟨bq, rfl, HBQ, ⟨nz, rfl⟩⟩))
            all_goals
              have HB4 := Aside0.mk (pw_below_drewN HB3.out nz)
              clear HB2 HB3 HR3 hb2 hv2
              cases bq with
              | true =>
                have hq := beq_iff_eq.mp HBQ.out
                have HL := Aside0.mk (firstL_ok l h4 hz HE.out (by rw [HNN.out, hsz]; omega) (by rw [HNN.out, HX.out, HY.out, HZ.out]; exact hq))
                rw [HNN.out] at HL
                rw [show (l.take (n + 4).toNat).drop 4 = u from HU.out] at HL
                clear hq
                go_wp2_with (go_at_call 33; (with_reducible refine (clone_calls _ _ u _ (by omega) (HM2.out _ (Kd.C_below HR.out HB4.out))).mono ?_); rintro e w5 ⟨v5, rfl, hv5, hb5⟩)
                go_ret3
                exact ⟨_, u, n + 8, 0, rfl, HL, own_weaken hv5 HB4.out.size, below_then HB4.out HB4.out.size hb5⟩
              | false =>
                have hq := beq_eq_false_iff_ne.mp HBQ.out
                have HL := Aside0.mk (firstL_sum l h4 hz HE.out (by rw [HNN.out, hsz]; omega) (by rw [HNN.out, HX.out, HY.out, HZ.out]; exact hq))
                rw [HNN.out] at HL
                clear hq
                go_wp2
                go_ret3
                exact ⟨_, [], n + 8, 22, rfl, HL, own_nil _ _ _ _, HB4.out⟩
end Go.Proofs.Ytjednkbgdbalnaa.Fr
