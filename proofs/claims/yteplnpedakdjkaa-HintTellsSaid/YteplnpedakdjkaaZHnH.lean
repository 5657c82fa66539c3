/- The hint laws' live question: its answer is true, in whatever memory. -/
import Derived.Test.YteplnpedakdjkaaZHnG
import Derived.Test.YteplnpedakdjkaaZPtx3
namespace Go.Proofs.Yteplnpedakdjkaa.Hn
set_option linter.unusedVariables false
set_option linter.unusedSimpArgs false
open Go.RowKit Go.Proofs.Yteplnpedakdjkaa.Pt Go.Proofs.YteplnpedakdjkaaW.PrintWords Go.Proofs.YteplnpedakdjkaaW.PrintLast Go.Proofs.YteplnpedakdjkaaW.PrintMore Go.Proofs.Yteplnpedakdjkaa.Fr Go.Proofs.Yteplnpedakdjkaa.Ext Go.Proofs.Yteplnpedakdjkaa.Lw
def fs : List Fo := [⟨13, 10, ⟨4, ⟨#[98]⟩, 0, 0, 0, [], []⟩⟩, ⟨23, 19, ⟨1, ⟨#[]⟩, 0, 0, 0, [], [1]⟩⟩, ⟨42, 10, ⟨4, ⟨#[97]⟩, 0, 0, 0, [], []⟩⟩, ⟨52, 10, ⟨4, ⟨#[98]⟩, 0, 0, 0, [], []⟩⟩]
def hs : List Hi := [⟨4, ⟨#[97]⟩, 42, 10⟩, ⟨4, ⟨#[98]⟩, 52, 10⟩]
def b53 : List Int := [0, 8, 255, 247, 4, 0, 0, 0, 42, 0, 10, 97, 206, 21, 236, 215, 0, 8, 255, 247, 4, 0, 0, 0, 52, 0, 10, 98, 147, 38, 217, 31, 0, 13, 255, 242, 7, 0, 0, 0, 2, 0, 0, 0, 62, 182, 210, 135, 19, 28, 204, 113, 24]
theorem ev1 : hint_Of.f fs = some hs := by kernel_rfl
theorem ev2 : hint_Put.f 10 hs 62 = some b53 := by kernel_rfl
theorem ev3 : hint_Get.f b53 62 = some (hs, true) := by kernel_rfl
theorem ev4 : hint_Get.f b53 63 = some ([], false) := by kernel_rfl
theorem ev5 : hint_Get.f [] 0 = some ([], false) := by kernel_rfl
theorem ev6 : souterrainref11_Same.f 10 hs hs = some true := by kernel_rfl
theorem ev7 : hint_Right.f hs = some true := by kernel_rfl
theorem ev8 : hint_Right.f [⟨0, ⟨#[]⟩, 0, 0⟩] = some false := by kernel_rfl

set_option maxHeartbeats 8000000 in
set_option maxRecDepth 100000 in
theorem tomb_calls (s : ByteArray) (at_ : Int) (w : World) :
    Calls Try.prog 21 #[.string s, .int .i64 at_] w fun e w' => e = .returned (.agg #[.int .i64 at_, .int .i64 10, .int .i64 4, .string s, .int .i64 0, .int .i64 0, .int .i64 0, .slice none 0 0, .slice none 0 0]) ∧ RowKit.Below w.heap.size w w' := by
  go_enter Try.func21, Try.ntmps21
  go_wp2
  refine bodyPost_ret (results_single rfl (.cell w.heap.size 39 _ (0, 0) _ rfl (heap_alloc_new w (.cells #[.int .i64 at_, .int .i64 10, .int .i64 4, .string s, .int .i64 0, .int .i64 0, .int .i64 0, .slice none 0 0, .slice none 0 0] 39)) Try.underlying39 rfl (by kernel_rfl) .nil)) rfl ?_
  exact ⟨rfl, below_alloc (RowKit.Below.refl _ _) _⟩
theorem fs_reads {W : World} {g g1 : Nat} (h1 : W.heap[g1]? = some (.cells #[.int .u8 1] 5 (0, 0)))
    (h : W.heap[g]? = some (.cells #[.int .i64 13, .int .i64 10, .int .i64 4, .string ⟨#[98]⟩, .int .i64 0, .int .i64 0, .int .i64 0, .slice none 0 0, .slice none 0 0, .int .i64 23, .int .i64 19, .int .i64 1, .string ⟨#[]⟩, .int .i64 0, .int .i64 0, .int .i64 0, .slice none 0 0, .slice (some ⟨g1, 0, none⟩) 1 1,
      .int .i64 42, .int .i64 10, .int .i64 4, .string ⟨#[97]⟩, .int .i64 0, .int .i64 0, .int .i64 0, .slice none 0 0, .slice none 0 0, .int .i64 52, .int .i64 10, .int .i64 4, .string ⟨#[98]⟩, .int .i64 0, .int .i64 0, .int .i64 0, .slice none 0 0, .slice none 0 0] 39 (0, 0))) :
    Kd.C k39 W (some ⟨g, 0, none⟩) fs.length fs := by
  have hone : Kd.C (Kd.int .u8) W (some ⟨g1, 0, none⟩) 1 [1] := by
    refine ⟨rfl, by decide, fun _ => ⟨_, rfl, fun j p hj => ?_⟩⟩
    rcases j with _ | j
    · obtain rfl := Option.some.inj hj
      refine ⟨[.int .u8 1], rfl, rfl, fun i u hi => ?_⟩
      rcases i with _ | i
      · obtain rfl := Option.some.inj hi
        exact (blk_cell h1 0).trans rfl
      · cases hi
    · cases hj
  refine ⟨rfl, by decide, fun _ => ⟨_, rfl, fun j p hj => ?_⟩⟩
  rcases j with _ | _ | _ | _ | j
  · obtain rfl := Option.some.inj hj
    refine ⟨_, rfl, k39_mk W ⟨13, 10, ⟨4, ⟨#[98]⟩, 0, 0, 0, [], []⟩⟩ (A7 := none) (c7 := 0) (Nat.le_refl _) (Kd.C_nil _ _) (A8 := none) (c8 := 0) (Nat.le_refl _) (Kd.C_nil _ _), fun i u hi => ?_⟩
    rcases i with _ | _ | _ | _ | _ | _ | _ | _ | _ | i <;> first | (obtain rfl := Option.some.inj hi; exact (blk_cell h _).trans rfl) | cases hi
  · obtain rfl := Option.some.inj hj
    refine ⟨_, rfl, k39_mk W ⟨23, 19, ⟨1, ⟨#[]⟩, 0, 0, 0, [], [1]⟩⟩ (A7 := none) (c7 := 0) (Nat.le_refl _) (Kd.C_nil _ _) (A8 := some ⟨g1, 0, none⟩) (c8 := 1) (Nat.le_refl _) hone, fun i u hi => ?_⟩
    rcases i with _ | _ | _ | _ | _ | _ | _ | _ | _ | i <;> first | (obtain rfl := Option.some.inj hi; exact (blk_cell h _).trans rfl) | cases hi
  · obtain rfl := Option.some.inj hj
    refine ⟨_, rfl, k39_mk W ⟨42, 10, ⟨4, ⟨#[97]⟩, 0, 0, 0, [], []⟩⟩ (A7 := none) (c7 := 0) (Nat.le_refl _) (Kd.C_nil _ _) (A8 := none) (c8 := 0) (Nat.le_refl _) (Kd.C_nil _ _), fun i u hi => ?_⟩
    rcases i with _ | _ | _ | _ | _ | _ | _ | _ | _ | i <;> first | (obtain rfl := Option.some.inj hi; exact (blk_cell h _).trans rfl) | cases hi
  · obtain rfl := Option.some.inj hj
    refine ⟨_, rfl, k39_mk W ⟨52, 10, ⟨4, ⟨#[98]⟩, 0, 0, 0, [], []⟩⟩ (A7 := none) (c7 := 0) (Nat.le_refl _) (Kd.C_nil _ _) (A8 := none) (c8 := 0) (Nat.le_refl _) (Kd.C_nil _ _), fun i u hi => ?_⟩
    rcases i with _ | _ | _ | _ | _ | _ | _ | _ | _ | i <;> first | (obtain rfl := Option.some.inj hi; exact (blk_cell h _).trans rfl) | cases hi
  · cases hj
theorem hs_reads {W : World} {g : Nat} (h : W.heap[g]? = some (.cells #[.int .i64 4, .string ⟨#[97]⟩, .int .i64 42, .int .i64 10, .int .i64 4, .string ⟨#[98]⟩, .int .i64 52, .int .i64 10] 41 (0, 0))) : Kd.C k41 W (some ⟨g, 0, none⟩) hs.length hs := by
  refine ⟨rfl, by decide, fun _ => ⟨_, rfl, fun j p hj => ?_⟩⟩
  rcases j with _ | _ | j
  · obtain rfl := Option.some.inj hj
    refine ⟨_, rfl, k41_mk W _, fun i u hi => ?_⟩
    rcases i with _ | _ | _ | _ | i <;> first | (obtain rfl := Option.some.inj hi; exact (blk_cell h _).trans rfl) | cases hi
  · obtain rfl := Option.some.inj hj
    refine ⟨_, rfl, k41_mk W _, fun i u hi => ?_⟩
    rcases i with _ | _ | _ | _ | i <;> first | (obtain rfl := Option.some.inj hi; exact (blk_cell h _).trans rfl) | cases hi
  · cases hj
theorem no_reads {W : World} {g : Nat} (h : W.heap[g]? = some (.cells #[.int .i64 0, .string ⟨#[]⟩, .int .i64 0, .int .i64 0] 41 (0, 0))) : Kd.C k41 W (some ⟨g, 0, none⟩) 1 [⟨0, ⟨#[]⟩, 0, 0⟩] := by
  refine ⟨rfl, by decide, fun _ => ⟨_, rfl, fun j p hj => ?_⟩⟩
  rcases j with _ | j
  · obtain rfl := Option.some.inj hj
    refine ⟨_, rfl, k41_mk W _, fun i u hi => ?_⟩
    rcases i with _ | _ | _ | _ | i <;> first | (obtain rfl := Option.some.inj hi; exact (blk_cell h _).trans rfl) | cases hi
  · cases hj

set_option maxHeartbeats 8000000 in
set_option maxRecDepth 100000 in
theorem head11 (w : World) : Calls Try.prog 9 #[] w fun e w' => e = .returned (.bool true) ∧ RowKit.Below w.heap.size w w' := by
  go_enter Try.func9, Try.ntmps9
  go_wp2_with (first
    | (go_at_call 14; refine (hint_Right.calls (some ⟨wb.heap.size, 0, none⟩) 1 [⟨0, ⟨#[]⟩, 0, 0⟩] false (wb.alloc (.cells #[.int .i64 0, .string ⟨#[]⟩, .int .i64 0, .int .i64 0] 41)) (no_reads (heap_alloc_new wb (.cells #[.int .i64 0, .string ⟨#[]⟩, .int .i64 0, .int .i64 0] 41))) (by decide) ev8).mono ?_; rintro e wc ⟨rfl, hb⟩; have HBc := Aside0.mk (below_then (below_alloc HBb.out _) (below_alloc HBb.out _).size hb); clear hb)
    | (go_at_call 14; refine (hint_Right.calls Al cl hs true wa (Kd.R_reads' RLa.out).2.2 (Kd.R_reads' RLa.out).2.1 ev7).mono ?_; rintro e wb ⟨rfl, hb⟩; have HBb := Aside0.mk (below_then HBa.out HBa.out.size hb); clear hb)
    | (go_at_call 18; refine (souterrainref11_Same.calls 10 Ax cx hs Al cl hs true w9 (Kd.R_reads' RX9.out).2.2 (Kd.R_reads' RX9.out).2.1 (Kd.R_reads' RL9.out).2.2 (Kd.R_reads' RL9.out).2.1 ev6).mono ?_; rintro e wa ⟨rfl, ⟨na, hwa⟩⟩; have hb := (show RowKit.Below w9.heap.size w9 wa by rw [hwa]; exact pw_below_drewN (RowKit.Below.refl _ _) na); have RLa := Aside0.mk (Kd.R_below RL9.out hb); have HBa := Aside0.mk (below_then HB9.out HB9.out.size hb); clear hb hwa)
    | (go_at_call 18; refine (souterrainref11_Same.calls 10 Al cl hs (some ⟨w8.heap.size, 0, none⟩) 2 hs true (w8.alloc (.cells #[.int .i64 4, .string ⟨#[97]⟩, .int .i64 42, .int .i64 10, .int .i64 4, .string ⟨#[98]⟩, .int .i64 52, .int .i64 10] 41)) (Kd.C_alloc (Kd.R_reads' RL8.out).2.2 _) (Kd.R_reads' RL8.out).2.1 (hs_reads (heap_alloc_new w8 (.cells #[.int .i64 4, .string ⟨#[97]⟩, .int .i64 42, .int .i64 10, .int .i64 4, .string ⟨#[98]⟩, .int .i64 52, .int .i64 10] 41))) (by decide) ev6).mono ?_; rintro e w9 ⟨rfl, ⟨n9, hw9⟩⟩; have hb := (show RowKit.Below w8.heap.size w8 w9 by rw [hw9]; exact pw_below_drewN (below_alloc (RowKit.Below.refl _ _) _) n9); have RL9 := Aside0.mk (Kd.R_below RL8.out hb); have RX9 := Aside0.mk (Kd.R_below RX8.out hb); have HB9 := Aside0.mk (below_then HB8.out HB8.out.size hb); clear hb hw9)
    | (go_at_call 12; refine (hint_Get.calls none 0 [] 0 [] false w7 (Kd.C_nil _ _) (Nat.le_refl _) ev5).mono ?_; rintro e w8 ⟨v, rfl, hr, hb⟩; obtain ⟨A8, c8, rfl⟩ : ∃ A c, v = .slice A 0 c := Kd.R_slice hr; have RX8 := Aside0.mk (Kd.R_below RX7.out hb); have RL8 := Aside0.mk (Kd.R_below RL7.out hb); have HB8 := Aside0.mk (below_then HB7.out HB7.out.size hb); clear hr hb)
    | (go_at_call 12; refine (hint_Get.calls Ab cb b53 63 [] false w6 (Kd.R_reads' RB6.out).2.2 (Kd.R_reads' RB6.out).2.1  ev4).mono ?_; rintro e w7 ⟨v, rfl, hr, hb⟩; obtain ⟨A7, c7, rfl⟩ : ∃ A c, v = .slice A 0 c := Kd.R_slice hr; have RX7 := Aside0.mk (Kd.R_below RX6.out hb); have RB7 := Aside0.mk (Kd.R_below RB6.out hb); have RL7 := Aside0.mk (Kd.R_below RL6.out hb); have HB7 := Aside0.mk (below_then HB6.out HB6.out.size hb); clear hr hb)
    | (go_at_call 12; refine (hint_Get.calls Ab cb b53 62 hs true w5 (Kd.R_reads' RB5.out).2.2 (Kd.R_reads' RB5.out).2.1  ev3).mono ?_; rintro e w6 ⟨v, rfl, hr, hb⟩; obtain ⟨Ax, cx, rfl⟩ : ∃ A c, v = .slice A 2 c := Kd.R_slice hr; have RX6 := Aside0.mk hr; have RB6 := Aside0.mk (Kd.R_below RB5.out hb); have RL6 := Aside0.mk (Kd.R_below RL5.out hb); have HB6 := Aside0.mk (below_then HB5.out HB5.out.size hb); clear hr hb)
    | (go_at_call 16; refine (hint_Put.calls 10 Al cl hs 62 b53 w4 (Kd.R_reads' RL4.out).2.2 (Kd.R_reads' RL4.out).2.1 ev2).mono ?_; rintro e w5 ⟨v, rfl, hr, hb⟩; obtain ⟨Ab, cb, rfl⟩ : ∃ A c, v = .slice A 53 c := Kd.R_slice hr; have RB5 := Aside0.mk hr; have RL5 := Aside0.mk (Kd.R_below RL4.out hb); have HB5 := Aside0.mk (below_then HB4.out HB4.out.size hb); clear hr hb)
    | (go_at_call 19; refine (hint_Of.calls (some ⟨w3.heap.size, 0, none⟩) 4 fs hs (w3.alloc (.cells #[.int .i64 13, .int .i64 10, .int .i64 4, .string ⟨#[98]⟩, .int .i64 0, .int .i64 0, .int .i64 0, .slice none 0 0, .slice none 0 0, .int .i64 23, .int .i64 19, .int .i64 1, .string ⟨#[]⟩, .int .i64 0, .int .i64 0, .int .i64 0, .slice none 0 0, .slice (some ⟨w1.heap.size, 0, none⟩) 1 1, .int .i64 42, .int .i64 10, .int .i64 4, .string ⟨#[97]⟩, .int .i64 0, .int .i64 0, .int .i64 0, .slice none 0 0, .slice none 0 0, .int .i64 52, .int .i64 10, .int .i64 4, .string ⟨#[98]⟩, .int .i64 0, .int .i64 0, .int .i64 0, .slice none 0 0, .slice none 0 0] 39)) (fs_reads ((Below.heap_alloc w3 _ _ (blk_lt BK3.out)).trans BK3.out) (heap_alloc_new w3 (.cells #[.int .i64 13, .int .i64 10, .int .i64 4, .string ⟨#[98]⟩, .int .i64 0, .int .i64 0, .int .i64 0, .slice none 0 0, .slice none 0 0, .int .i64 23, .int .i64 19, .int .i64 1, .string ⟨#[]⟩, .int .i64 0, .int .i64 0, .int .i64 0, .slice none 0 0, .slice (some ⟨w1.heap.size, 0, none⟩) 1 1, .int .i64 42, .int .i64 10, .int .i64 4, .string ⟨#[97]⟩, .int .i64 0, .int .i64 0, .int .i64 0, .slice none 0 0, .slice none 0 0, .int .i64 52, .int .i64 10, .int .i64 4, .string ⟨#[98]⟩, .int .i64 0, .int .i64 0, .int .i64 0, .slice none 0 0, .slice none 0 0] 39))) (by decide) ev1).mono ?_; rintro e w4 ⟨v, rfl, hr, hb⟩; obtain ⟨Al, cl, rfl⟩ : ∃ A c, v = .slice A 2 c := Kd.R_slice hr; have RL4 := Aside0.mk hr; have HB4 := Aside0.mk (below_then (below_alloc HB3.out _) (below_alloc HB3.out _).size hb); clear hr hb)
    | (go_at_call 21; refine (tomb_calls _ _ w2).mono ?_; rintro e w3 ⟨rfl, hb⟩; have HB3 := Aside0.mk (below_then HB2.out HB2.out.size hb); have BK3 := Aside0.mk ((hb.block _ (blk_lt BK2.out)).trans BK2.out); clear hb)
    | (go_at_call 21; refine (tomb_calls _ _ (w1.alloc (.cells #[.int .u8 1] 5))).mono ?_; rintro e w2 ⟨rfl, hb⟩; have HB2 := Aside0.mk (below_then (below_alloc HA.out _) (below_alloc HA.out _).size hb); have BK2 := Aside0.mk ((hb.block _ (by simp)).trans (heap_alloc_new w1 (.cells #[.int .u8 1] 5))); clear hb)
    | (go_at_call 21; refine (tomb_calls _ _ w).mono ?_; rintro e w1 ⟨rfl, hb⟩; have HA := Aside0.mk hb; clear hb))
  go_ret
  exact ⟨rfl, HBc.out⟩
end Go.Proofs.Yteplnpedakdjkaa.Hn
namespace Go.Proofs.Yteplnpedakdjkaa.Ext
open Go.RowKit Go.Proofs.Yteplnpedakdjkaa.Pt Go.Proofs.YteplnpedakdjkaaW.PrintWords Go.Proofs.Yteplnpedakdjkaa.Fr Go.Proofs.Yteplnpedakdjkaa.Hn
def souterrainlaw11_head.f : Option Bool := some true
theorem souterrainlaw11_head.calls (r : Bool) (w : World) (h : souterrainlaw11_head.f = some r) :
    Calls Try.prog 9 #[] w fun e w' => e = .returned (.bool r) ∧ Below w.heap.size w w' := by
  obtain rfl := Option.some.inj h
  exact head11 w
end Go.Proofs.Yteplnpedakdjkaa.Ext

