/- Texts of this claim, joined. -/
import Derived.Test.YtcieieacfoaklaaGreatV0
import Derived.Test.YtcieieacfoaklaaGreatV2
import Derived.Deep.RegionLaw
import Derived.Laws.EntriesVeiled
import Derived.Lib.AppendStr
import Derived.Test.YtcieieacfoaklaaGreatV1
set_option linter.unusedVariables false
set_option linter.unusedSimpArgs false
set_option maxRecDepth 100000
set_option maxHeartbeats 8000000
namespace Go.Proofs.YtcieieacfoaklaaGreat
open Go.RowKit YtcieieacfoaklaaGreatW.PrintWords YtcieieacfoaklaaGreatW.PrintLast YtcieieacfoaklaaGreatW.PrintMore
section
namespace Rc
open Go.Maps Fr Ext Pt

def fineM (R:Re):Bool:=if R.f0=1 then pieceFineM R else if R.f0=2 then rootFineM R else if R.f0=3 then inlineFineM R else keyB R.f1
def rightM (R:Re):Bool:=isKind R.f0 && (withinB R.f2 0 1099511627776 && (bareM R (hasM R.f0 R) && fineM R))
def rightT:Bool×List (List Nat×List Nat):=(true,[([],[]),([0],[0]),([1],[1]),([2,1],[1,2]),([3,1,1],[1,3]),([1,4],[1,4]),([5,4],[5]),([6],[6]),([6],[6]),([8,6],[6,8]),([9,6,6],[6,9]),([7,10,10,6],[6,7,10]),([6,11],[6,11]),([12,11],[12]),([13],[13]),([14,13],[13,14]),([15,13,13],[13,15]),([13,16],[13,16]),([17,16,0,1,2,3,4,5,6,7,8,9,10,11,12,13,14,15,16,17],[17])])
def rightB:List Nat:=[0,1,3,7,15,31,63,127,127,383,895,2047,4095,8191,16383,32767,65535,131071,262143]
theorem righttab:rtab .any (opsOf Tryz.f53 3)=rightT:=by kernel_rfl
theorem rightbits:waitsOk rightT.2 rightB=true:=by kernel_rfl
theorem right_kind (R:Re) (A5 A6:Option Addr) (c5 c6:Nat) (w:World) (h0:(Lit.int .i64 R.f0).wf=true) (hk:isKind R.f0=true) (ka kb kc kd:Nat) (hkv:kindV R.f0=.agg #[.func (.func ka) #[] #[],.func (.func kb) #[] #[],.func (.func kc) #[] #[],.func (.func kd) #[] #[]])
    (ra:∀args W,(callFunc ka args).run Tryz.prog W=.ok (.enter ka args) W) (rb_:∀args W,(callFunc kb args).run Tryz.prog W=.ok (.enter kb args) W)
    (hfine:∀rb W,W.heap[rb]? =some (.cells (recC R A5 c5 A6 c6) 119 (0,0))→RowKit.Below w.heap.size w W→Calls Tryz.prog ka #[.pointer (some ⟨rb,0,none⟩)] W fun e w'=>e=.returned (.bool (fineM R))∧RowKit.Below W.heap.size W w')
    (hhas:∀rb W,W.heap[rb]? =some (.cells (recC R A5 c5 A6 c6) 119 (0,0))→Calls Tryz.prog kb #[.pointer (some ⟨rb,0,none⟩)] W fun e w'=>(∃B5 e5 B6 e6,e=.returned (.agg (recC (hasM R.f0 R) B5 e5 B6 e6)))∧RowKit.Below W.heap.size W w'):
    Calls Tryz.prog 53 #[.agg (recC R A5 c5 A6 c6)] w fun e w'=>e=.returned (.bool (rightM R))∧RowKit.Below w.heap.size w w':=by
  go_enter Tryz.func53,Tryz.ntmps53
  go_upto_region 1 with(fail)
  have hbx:=heap_alloc_new w (.cells (recC R A5 c5 A6 c6) 38)
  have hB:=below_alloc (RowKit.Below.refl w.heap.size w) (.cells (recC R A5 c5 A6 c6) 38)
  generalize w.alloc (.cells (recC R A5 c5 A6 c6) 38)=w1 at hbx hB ⊢
  have x0:=bq hbx 0 (.int .i64 R.f0)
  have hbl:=blk_lt hbx
  have HW0:=ak h0
  have HK:=ak hk
  have HKV:=ak hkv
  clear h0 hk hkv
  refine Code.wp_mono (Q:=Norm fun a' W=>∃tb mb:Nat,a'={tmps:=#[.agg (recC R A5 c5 A6 c6),.pointer (some ⟨w.heap.size,0,none⟩),.bool false,.pointer (some ⟨tb,0,none⟩),.bool true,undef,.tuple #[.agg #[.func (.func ka) #[] #[],.func (.func kb) #[] #[],.func (.func kc) #[] #[],.func (.func kd) #[] #[]],.bool true],.map (some mb),.pointer (some ⟨w.heap.size,0,none⟩),.int .i64 R.f0,.tuple #[.agg #[.func (.func ka) #[] #[],.func (.func kb) #[] #[],.func (.func kc) #[] #[],.func (.func kd) #[] #[]],.bool true],.agg #[.func (.func ka) #[] #[],.func (.func kb) #[] #[],.func (.func kc) #[] #[],.func (.func kd) #[] #[]],.bool true,undef,undef,undef,undef,undef,undef,undef,undef,undef,undef,undef,undef,undef,undef,undef,undef,undef,undef,undef],defers:=[]}∧W.heap[tb]? =some (.cells #[.func (.func ka) #[] #[],.func (.func kb) #[] #[],.func (.func kc) #[] #[],.func (.func kd) #[] #[]] 126 (0,0))∧W.heap[w.heap.size]? =some (.cells (recC R A5 c5 A6 c6) 38 (0,0))∧RowKit.Below w.heap.size w W) (Norm.elim ?mono) ?reg
  case reg=>
    go_region_with (go_at_call 54;(with_reducible refine(kinds_calls _).mono ?_);rintro e w2 ⟨mb,rfl,hm,hb⟩;have hrow:w2.heap[w.heap.size]? =some (.cells (recC R A5 c5 A6 c6) 38 (0,0)):=(hb.block _ (by first | exact hbl | (simp;omega))).trans (by first | exact blk_drew hbx | exact blk_drew (blk_alloc hbx _));have x0':=bq hrow 0 (.int .i64 R.f0);have hbl2:w.heap.size < w2.heap.size:=blk_lt hrow;have hlk:=KM.look hm R.f0 HW0.out;have hlk2:=fun o=>KM.look (hm.below (below_alloc (RowKit.Below.refl w2.heap.size w2) o)) R.f0 HW0.out;rw[HKV.out,HK.out] at hlk;rw[HKV.out,HK.out] at hlk2;(try (have hrow3:w2.heap[w1.heap.size]? =some (.cells #[.nilFunc,.nilFunc,.nilFunc,.nilFunc] 126 (0,0)):=(hb.block _ (by simp)).trans (blk_drew (heap_alloc_new w1 _));have y0:w2.cell? ⟨w1.heap.size,0,none⟩=some .nilFunc:=(blk_cell hrow3 0).trans rfl;have y1:w2.cell? ⟨w1.heap.size,1,none⟩=some .nilFunc:=(blk_cell hrow3 1).trans rfl;have y2:w2.cell? ⟨w1.heap.size,2,none⟩=some .nilFunc:=(blk_cell hrow3 2).trans rfl;have y3:w2.cell? ⟨w1.heap.size,3,none⟩=some .nilFunc:=(blk_cell hrow3 3).trans rfl;have f0:=blk_frozen hrow3 0;have f1:=blk_frozen hrow3 1;have f2:=blk_frozen hrow3 2;have f3:=blk_frozen hrow3 3));clear hm)
    all_goals
      have hBw2:RowKit.Below w.heap.size w w2:=by
        first
          | (have hr3:=hrow3
             exact((below_alloc hB _).drew).trans (hb.mono (below_alloc hB _).size))
          | exact(hB.drew).trans (hb.mono hB.size)
      simp only[Act.put,List.getElem_toArray,List.getElem_cons_succ,List.getElem_cons_zero,zq1,zq2,zq3]
    all_goals first
      | (have hr3:=hrow3;skip)
      | (refine Norm.intro ⟨w2.heap.size,mb,?_,?_,?_,?_⟩
         · rfl
         · exact heap_alloc_new w2 _
         · exact blk_alloc hrow _
         · exact below_alloc hBw2 _)
    all_goals
      have hne:w.heap.size≠w1.heap.size:=Nat.ne_of_lt hbl
      refine Norm.intro ⟨w1.heap.size,mb,?_,?_,?_,?_⟩
      · rfl
      · exact blk_put (blk_put (blk_put (blk_put hrow3 0 _ rfl) 1 _ rfl) 2 _ rfl) 3 _ rfl
      · exact blk_far (blk_far (blk_far (blk_far hrow (p:=⟨w1.heap.size,0,none⟩) hne _) (p:=⟨w1.heap.size,1,none⟩) hne _) (p:=⟨w1.heap.size,2,none⟩) hne _) (p:=⟨w1.heap.size,3,none⟩) hne _
      · exact(((hBw2.setCell (p:=⟨w1.heap.size,0,none⟩) (Nat.le_of_lt hbl) _).setCell (p:=⟨w1.heap.size,1,none⟩) (Nat.le_of_lt hbl) _).setCell (p:=⟨w1.heap.size,2,none⟩) (Nat.le_of_lt hbl) _).setCell (p:=⟨w1.heap.size,3,none⟩) (Nat.le_of_lt hbl) _
  case mono=>
    rintro a' W ⟨tb,mb,rfl,htb,hrow,hBW⟩
    clear x0 hbx hB hbl
    have HTB:=ak htb
    have hbl:=blk_lt hrow
    have htl:=blk_lt htb
    have HROW:=ak hrow
    have HBW:=ak hBW
    clear htb hBW
    simp only[recC] at hrow
    have x0:=bq hrow 0 (.int .i64 R.f0)
    have x1:=bq hrow 1 (.string R.f1)
    have x2:=bq hrow 2 (.int .i64 R.f2)
    have x3:=bq hrow 3 (.int .i64 R.f3)
    have x4:=bq hrow 4 (.int .i64 R.f4)
    have x5:=bq hrow 5 (.slice A5 R.f5.length c5)
    have x6:=bq hrow 6 (.slice A6 R.f6.length c6)
    clear hrow
    go_upto_region 3 with(fail)
    have hW:=heap_alloc_new W (.cells (recC R A5 c5 A6 c6) 119)
    have hT:=blk_alloc HTB.out (.cells (recC R A5 c5 A6 c6) 119)
    have hX:=blk_alloc HROW.out (.cells (recC R A5 c5 A6 c6) 119)
    have HB2:=below_alloc HBW.out (.cells (recC R A5 c5 A6 c6) 119)
    simp only[recC] at hW hT hX HB2
    generalize W.alloc (.cells #[.int .i64 R.f0,.string R.f1,.int .i64 R.f2,.int .i64 R.f3,.int .i64 R.f4,.slice A5 R.f5.length c5,.slice A6 R.f6.length c6] 119)=w2 at hW hT hX HB2 ⊢
    generalize hrb:W.heap.size=rb at hW ⊢
    clear hbl htl x0 x1 x2 x3 x4 x5 x6
    obtain⟨b1,hb1⟩:∃b,withinB R.f2 0 1099511627776=b:=⟨_,rfl⟩
    obtain⟨b2,hb2⟩:∃b,bareM R (hasM R.f0 R)=b:=⟨_,rfl⟩
    have hrm:rightM R=(b1 && (b2 && fineM R)):=by
      unfold rightM
      rw[HK.out,hb1,hb2,Bool.true_and]
    cases b1
    · have hRM:=ak (hrm.trans (Bool.false_and _))
      clear hrm
      refine st_ 19 (S:=(fun w'=>w'.heap[rb]? =some (.cells (recC R A5 c5 A6 c6) 119 (0,0))∧w'.heap[tb]? =some (.cells #[.func (.func ka) #[] #[],.func (.func kb) #[] #[],.func (.func kc) #[] #[],.func (.func kd) #[] #[]] 126 (0,0))∧w'.heap[w.heap.size]? =some (.cells (recC R A5 c5 A6 c6) 38 (0,0))∧RowKit.Below w.heap.size w w')) (ds:=[]) (by kernel_rfl) rfl (by kernel_rfl) ⟨blk_drew hW,blk_drew hT,blk_drew hX,HB2.drew⟩ (fun hHeld=>?_);refine with_tabW righttab rightbits (fun HT_ HW_=>?_)
      generalize w2.drew=w3 at hHeld ⊢
      refine fl_ [0,14,1,1,15,3,2,16,7] ?_
      iterate 3 refine pz_ HT_ ?_
      refine fe_ ?_
      refine tk_ 3 15 (N:=some 17) (v:=?_) (a':=?_) HT_ HW_ rfl rfl (.inl ⟨by rfl,?_⟩) hHeld ?_ ?_
      rotate_left
      · rintro w' hs
        have x2:=bq hs.2.2.1 2 (.int .i64 R.f2)
        go_simp
        with_reducible rfl
      rotate_left
      · simp only[Act.put,zq1,zq2,zq3,i64_w,i32_w]
        rfl
      refine on_ 4 31 (some 18) HT_ rfl rfl (by kernel_rfl) (by decide) (fun K hK=>?_)
      refine goes_ Tryz.func52 (by kernel_rfl) rfl #[.int .i64 R.f2,.int .i64 0,.int .i64 1099511627776] (by rfl) rfl rfl (by(try simp only[List.map_toArray,List.map_cons,List.map_nil]);first | done | rfl) ?_
      refine(within_calls _ _ _ _).mono ?_
      rintro e w4 ⟨rfl,rfl⟩
      rw[hb1]
      refine⟨_,rfl,?_⟩
      have hHeld:=hHeld
      refine kz_ hK hHeld fun hHeld=>?_;clear hK K
      refine fl_ [5,19,63,6,20,127] ?_
      iterate 2 refine pz_ HT_ ?_
      refine fe_ ?_
      refine sk_ 7 255 (N:=21) (a':=?_) HT_ rfl rfl (by kernel_rfl) (fun _ _ _ h=>h) (Or.inr ⟨by rfl,rfl⟩) ?_ ?_
      rotate_left
      · simp only[Act.put,zq1,zq2,zq3,i64_w,i32_w]
        rfl
      refine sk_ 8 511 (N:=22) (a':=?_) HT_ rfl rfl (by kernel_rfl) (fun _ _ _ h=>h) (Or.inr ⟨by rfl,rfl⟩) ?_ ?_
      rotate_left
      · simp only[Act.put,zq1,zq2,zq3,i64_w,i32_w]
        rfl
      refine sk_ 9 1023 (N:=23) (a':=?_) HT_ rfl rfl (by kernel_rfl) (fun _ _ _ h=>h) (Or.inr ⟨by rfl,rfl⟩) ?_ ?_
      rotate_left
      · simp only[Act.put,zq1,zq2,zq3,i64_w,i32_w]
        rfl
      refine sk_ 10 2047 (N:=24) (a':=?_) HT_ rfl rfl (by kernel_rfl) (fun _ _ _ h=>h) (Or.inr ⟨by rfl,rfl⟩) ?_ ?_
      rotate_left
      · simp only[Act.put,zq1,zq2,zq3,i64_w,i32_w]
        rfl
      refine sk_ 11 4095 (N:=25) (a':=?_) HT_ rfl rfl (by kernel_rfl) (fun _ _ _ h=>h) (Or.inr ⟨by rfl,rfl⟩) ?_ ?_
      rotate_left
      · simp only[Act.put,zq1,zq2,zq3,i64_w,i32_w]
        rfl
      refine fl_ [12,26,8191,13,27,16383] ?_
      iterate 2 refine pz_ HT_ ?_
      refine fe_ ?_
      refine sk_ 14 32767 (N:=28) (a':=?_) HT_ rfl rfl (by kernel_rfl) (fun _ _ _ h=>h) (Or.inr ⟨by rfl,rfl⟩) ?_ ?_
      rotate_left
      · simp only[Act.put,zq1,zq2,zq3,i64_w,i32_w]
        rfl
      refine sk_ 15 65535 (N:=29) (a':=?_) HT_ rfl rfl (by kernel_rfl) (fun _ _ _ h=>h) (Or.inr ⟨by rfl,rfl⟩) ?_ ?_
      rotate_left
      · simp only[Act.put,zq1,zq2,zq3,i64_w,i32_w]
        rfl
      refine sk_ 16 131071 (N:=30) (a':=?_) HT_ rfl rfl (by kernel_rfl) (fun _ _ _ h=>h) (Or.inr ⟨by rfl,rfl⟩) ?_ ?_
      rotate_left
      · simp only[Act.put,zq1,zq2,zq3,i64_w,i32_w]
        rfl
      refine fl_ [17,31,262143,18,2,524287] ?_
      iterate 2 refine pz_ HT_ ?_
      refine fe_ ?_
      refine dz_ HT_ ?_
      go_wp2
      go_ret
      exact⟨by rw[hRM.out];rfl,hHeld.2.2.2⟩
    · cases b2
      · have hRM:=ak (hrm.trans (by simp:_=false))
        clear hrm
        refine st_ 19 (S:=(fun w'=>w'.heap[rb]? =some (.cells (recC R A5 c5 A6 c6) 119 (0,0))∧w'.heap[tb]? =some (.cells #[.func (.func ka) #[] #[],.func (.func kb) #[] #[],.func (.func kc) #[] #[],.func (.func kd) #[] #[]] 126 (0,0))∧w'.heap[w.heap.size]? =some (.cells (recC R A5 c5 A6 c6) 38 (0,0))∧RowKit.Below w.heap.size w w')) (ds:=[]) (by kernel_rfl) rfl (by kernel_rfl) ⟨blk_drew hW,blk_drew hT,blk_drew hX,HB2.drew⟩ (fun hHeld=>?_);refine with_tabW righttab rightbits (fun HT_ HW_=>?_)
        generalize w2.drew=w3 at hHeld ⊢
        refine fl_ [0,14,1,1,15,3,2,16,7] ?_
        iterate 3 refine pz_ HT_ ?_
        refine fe_ ?_
        refine tk_ 3 15 (N:=some 17) (v:=?_) (a':=?_) HT_ HW_ rfl rfl (.inl ⟨by rfl,?_⟩) hHeld ?_ ?_
        rotate_left
        · rintro w' hs
          have x2:=bq hs.2.2.1 2 (.int .i64 R.f2)
          go_simp
          with_reducible rfl
        rotate_left
        · simp only[Act.put,zq1,zq2,zq3,i64_w,i32_w]
          rfl
        refine on_ 4 31 (some 18) HT_ rfl rfl (by kernel_rfl) (by decide) (fun K hK=>?_)
        refine goes_ Tryz.func52 (by kernel_rfl) rfl #[.int .i64 R.f2,.int .i64 0,.int .i64 1099511627776] (by rfl) rfl rfl (by(try simp only[List.map_toArray,List.map_cons,List.map_nil]);first | done | rfl) ?_
        refine(within_calls _ _ _ _).mono ?_
        rintro e w4 ⟨rfl,rfl⟩
        rw[hb1]
        refine⟨_,rfl,?_⟩
        have hHeld:=hHeld
        refine kz_ hK hHeld fun hHeld=>?_;clear hK K
        refine fl_ [5,19,63,6,20,127] ?_
        iterate 2 refine pz_ HT_ ?_
        refine fe_ ?_
        refine tk_ 7 255 (N:=some 21) (v:=?_) (a':=?_) HT_ HW_ rfl rfl (.inl ⟨by rfl,?_⟩) hHeld ?_ ?_
        rotate_left
        · rintro w' hs
          have hr:=hs.1
          simp only[recC] at hr
          have r0:=bq hr 0 (.int .i64 R.f0)
          have r1:=bq hr 1 (.string R.f1)
          have r2:=bq hr 2 (.int .i64 R.f2)
          have r3:=bq hr 3 (.int .i64 R.f3)
          have r4:=bq hr 4 (.int .i64 R.f4)
          have r5:=bq hr 5 (.slice A5 R.f5.length c5)
          have r6:=bq hr 6 (.slice A6 R.f6.length c6)
          go_simp
          with_reducible rfl
        rotate_left
        · simp only[Act.put,zq1,zq2,zq3,i64_w,i32_w]
          rfl
        refine fl_ [8,22,511] ?_
        refine pz_ HT_ ?_
        refine fe_ ?_
        refine tk_ 9 1023 (N:=some 23) (v:=?_) (a':=?_) HT_ HW_ rfl rfl (.inl ⟨by rfl,?_⟩) hHeld ?_ ?_
        rotate_left
        · rintro w' hs
          have y1:=bq hs.2.1 1 (.func (.func kb) #[] #[])
          go_simp
          with_reducible rfl
        rotate_left
        · simp only[Act.put,zq1,zq2,zq3,i64_w,i32_w]
          rfl
        refine on_ 10 2047 (some 24) HT_ rfl rfl (by kernel_rfl) (by decide) (fun K hK=>?_)
        refine call_ (kb) #[.pointer (some ⟨rb,0,none⟩)] (by rfl) rfl (by unfold execOp;simp [resolve,Deferred.ofValue,invoke,Act.eval,rb_]) ?_
        refine(hhas rb _ hHeld.1).mono ?_
        rintro e w4 ⟨⟨B5,e5,B6,e6,rfl⟩,hb⟩
        refine⟨_,rfl,?_⟩
        have hHeld:=(⟨(hb.block _ (blk_lt hHeld.1)).trans hHeld.1,(hb.block _ (blk_lt hHeld.2.1)).trans hHeld.2.1,(hb.block _ (blk_lt hHeld.2.2.1)).trans hHeld.2.2.1,hHeld.2.2.2.trans (hb.mono hHeld.2.2.2.size)⟩:_∧_∧_∧RowKit.Below w.heap.size w _)
        refine kz_ hK hHeld fun hHeld=>?_;clear hK K
        clear hb
        refine on_ 11 4095 (some 25) HT_ rfl rfl (by kernel_rfl) (by decide) (fun K hK=>?_)
        refine goes_ Tryz.func81 (by kernel_rfl) rfl #[.agg (recC R A5 c5 A6 c6),.agg (recC (hasM R.f0 R) B5 e5 B6 e6)] (by rfl) rfl rfl (by(try simp only[List.map_toArray,List.map_cons,List.map_nil]);first | done | rfl) ?_
        refine(bare_calls R (hasM R.f0 R) A5 A6 B5 B6 c5 c6 e5 e6 _).mono ?_
        rintro e w5 ⟨rfl,hb⟩
        rw[hb2]
        refine⟨_,rfl,?_⟩
        have hHeld:=(⟨(hb.block _ (blk_lt hHeld.1)).trans hHeld.1,(hb.block _ (blk_lt hHeld.2.1)).trans hHeld.2.1,(hb.block _ (blk_lt hHeld.2.2.1)).trans hHeld.2.2.1,hHeld.2.2.2.trans (hb.mono hHeld.2.2.2.size)⟩:_∧_∧_∧RowKit.Below w.heap.size w _)
        refine kz_ hK hHeld fun hHeld=>?_;clear hK K
        clear hb
        refine fl_ [12,26,8191,13,27,16383] ?_
        iterate 2 refine pz_ HT_ ?_
        refine fe_ ?_
        refine sk_ 14 32767 (N:=28) (a':=?_) HT_ rfl rfl (by kernel_rfl) (fun _ _ _ h=>h) (Or.inr ⟨by rfl,rfl⟩) ?_ ?_
        rotate_left
        · simp only[Act.put,zq1,zq2,zq3,i64_w,i32_w]
          rfl
        refine sk_ 15 65535 (N:=29) (a':=?_) HT_ rfl rfl (by kernel_rfl) (fun _ _ _ h=>h) (Or.inr ⟨by rfl,rfl⟩) ?_ ?_
        rotate_left
        · simp only[Act.put,zq1,zq2,zq3,i64_w,i32_w]
          rfl
        refine sk_ 16 131071 (N:=30) (a':=?_) HT_ rfl rfl (by kernel_rfl) (fun _ _ _ h=>h) (Or.inr ⟨by rfl,rfl⟩) ?_ ?_
        rotate_left
        · simp only[Act.put,zq1,zq2,zq3,i64_w,i32_w]
          rfl
        refine fl_ [17,31,262143,18,2,524287] ?_
        iterate 2 refine pz_ HT_ ?_
        refine fe_ ?_
        refine dz_ HT_ ?_
        go_wp2
        go_ret
        exact⟨by rw[hRM.out];rfl,hHeld.2.2.2⟩
      · have hRM:=ak (hrm.trans (by simp:_=fineM R))
        clear hrm
        refine st_ 19 (S:=(fun w'=>w'.heap[rb]? =some (.cells (recC R A5 c5 A6 c6) 119 (0,0))∧w'.heap[tb]? =some (.cells #[.func (.func ka) #[] #[],.func (.func kb) #[] #[],.func (.func kc) #[] #[],.func (.func kd) #[] #[]] 126 (0,0))∧w'.heap[w.heap.size]? =some (.cells (recC R A5 c5 A6 c6) 38 (0,0))∧RowKit.Below w.heap.size w w')) (ds:=[]) (by kernel_rfl) rfl (by kernel_rfl) ⟨blk_drew hW,blk_drew hT,blk_drew hX,HB2.drew⟩ (fun hHeld=>?_);refine with_tabW righttab rightbits (fun HT_ HW_=>?_)
        generalize w2.drew=w3 at hHeld ⊢
        refine fl_ [0,14,1,1,15,3,2,16,7] ?_
        iterate 3 refine pz_ HT_ ?_
        refine fe_ ?_
        refine tk_ 3 15 (N:=some 17) (v:=?_) (a':=?_) HT_ HW_ rfl rfl (.inl ⟨by rfl,?_⟩) hHeld ?_ ?_
        rotate_left
        · rintro w' hs
          have x2:=bq hs.2.2.1 2 (.int .i64 R.f2)
          go_simp
          with_reducible rfl
        rotate_left
        · simp only[Act.put,zq1,zq2,zq3,i64_w,i32_w]
          rfl
        refine on_ 4 31 (some 18) HT_ rfl rfl (by kernel_rfl) (by decide) (fun K hK=>?_)
        refine goes_ Tryz.func52 (by kernel_rfl) rfl #[.int .i64 R.f2,.int .i64 0,.int .i64 1099511627776] (by rfl) rfl rfl (by(try simp only[List.map_toArray,List.map_cons,List.map_nil]);first | done | rfl) ?_
        refine(within_calls _ _ _ _).mono ?_
        rintro e w4 ⟨rfl,rfl⟩
        rw[hb1]
        refine⟨_,rfl,?_⟩
        have hHeld:=hHeld
        refine kz_ hK hHeld fun hHeld=>?_;clear hK K
        refine fl_ [5,19,63,6,20,127] ?_
        iterate 2 refine pz_ HT_ ?_
        refine fe_ ?_
        refine tk_ 7 255 (N:=some 21) (v:=?_) (a':=?_) HT_ HW_ rfl rfl (.inl ⟨by rfl,?_⟩) hHeld ?_ ?_
        rotate_left
        · rintro w' hs
          have hr:=hs.1
          simp only[recC] at hr
          have r0:=bq hr 0 (.int .i64 R.f0)
          have r1:=bq hr 1 (.string R.f1)
          have r2:=bq hr 2 (.int .i64 R.f2)
          have r3:=bq hr 3 (.int .i64 R.f3)
          have r4:=bq hr 4 (.int .i64 R.f4)
          have r5:=bq hr 5 (.slice A5 R.f5.length c5)
          have r6:=bq hr 6 (.slice A6 R.f6.length c6)
          go_simp
          with_reducible rfl
        rotate_left
        · simp only[Act.put,zq1,zq2,zq3,i64_w,i32_w]
          rfl
        refine fl_ [8,22,511] ?_
        refine pz_ HT_ ?_
        refine fe_ ?_
        refine tk_ 9 1023 (N:=some 23) (v:=?_) (a':=?_) HT_ HW_ rfl rfl (.inl ⟨by rfl,?_⟩) hHeld ?_ ?_
        rotate_left
        · rintro w' hs
          have y1:=bq hs.2.1 1 (.func (.func kb) #[] #[])
          go_simp
          with_reducible rfl
        rotate_left
        · simp only[Act.put,zq1,zq2,zq3,i64_w,i32_w]
          rfl
        refine on_ 10 2047 (some 24) HT_ rfl rfl (by kernel_rfl) (by decide) (fun K hK=>?_)
        refine call_ (kb) #[.pointer (some ⟨rb,0,none⟩)] (by rfl) rfl (by unfold execOp;simp [resolve,Deferred.ofValue,invoke,Act.eval,rb_]) ?_
        refine(hhas rb _ hHeld.1).mono ?_
        rintro e w4 ⟨⟨B5,e5,B6,e6,rfl⟩,hb⟩
        refine⟨_,rfl,?_⟩
        have hHeld:=(⟨(hb.block _ (blk_lt hHeld.1)).trans hHeld.1,(hb.block _ (blk_lt hHeld.2.1)).trans hHeld.2.1,(hb.block _ (blk_lt hHeld.2.2.1)).trans hHeld.2.2.1,hHeld.2.2.2.trans (hb.mono hHeld.2.2.2.size)⟩:_∧_∧_∧RowKit.Below w.heap.size w _)
        refine kz_ hK hHeld fun hHeld=>?_;clear hK K
        clear hb
        refine on_ 11 4095 (some 25) HT_ rfl rfl (by kernel_rfl) (by decide) (fun K hK=>?_)
        refine goes_ Tryz.func81 (by kernel_rfl) rfl #[.agg (recC R A5 c5 A6 c6),.agg (recC (hasM R.f0 R) B5 e5 B6 e6)] (by rfl) rfl rfl (by(try simp only[List.map_toArray,List.map_cons,List.map_nil]);first | done | rfl) ?_
        refine(bare_calls R (hasM R.f0 R) A5 A6 B5 B6 c5 c6 e5 e6 _).mono ?_
        rintro e w5 ⟨rfl,hb⟩
        rw[hb2]
        refine⟨_,rfl,?_⟩
        have hHeld:=(⟨(hb.block _ (blk_lt hHeld.1)).trans hHeld.1,(hb.block _ (blk_lt hHeld.2.1)).trans hHeld.2.1,(hb.block _ (blk_lt hHeld.2.2.1)).trans hHeld.2.2.1,hHeld.2.2.2.trans (hb.mono hHeld.2.2.2.size)⟩:_∧_∧_∧RowKit.Below w.heap.size w _)
        refine kz_ hK hHeld fun hHeld=>?_;clear hK K
        clear hb
        refine fl_ [12,26,8191,13,27,16383,14,28,32767] ?_
        iterate 3 refine pz_ HT_ ?_
        refine fe_ ?_
        refine tk_ 15 65535 (N:=some 29) (v:=?_) (a':=?_) HT_ HW_ rfl rfl (.inl ⟨by rfl,?_⟩) hHeld ?_ ?_
        rotate_left
        · rintro w' hs
          have y0:=bq hs.2.1 0 (.func (.func ka) #[] #[])
          go_simp
          with_reducible rfl
        rotate_left
        · simp only[Act.put,zq1,zq2,zq3,i64_w,i32_w]
          rfl
        refine on_ 16 131071 (some 30) HT_ rfl rfl (by kernel_rfl) (by decide) (fun K hK=>?_)
        refine call_ (ka) #[.pointer (some ⟨rb,0,none⟩)] (by rfl) rfl (by unfold execOp;simp [resolve,Deferred.ofValue,invoke,Act.eval,ra]) ?_
        refine(hfine rb _ hHeld.1 hHeld.2.2.2).mono ?_
        rintro e w6 ⟨rfl,hb⟩
        refine⟨_,rfl,?_⟩
        have hHeld:=(⟨(hb.block _ (blk_lt hHeld.1)).trans hHeld.1,(hb.block _ (blk_lt hHeld.2.1)).trans hHeld.2.1,(hb.block _ (blk_lt hHeld.2.2.1)).trans hHeld.2.2.1,hHeld.2.2.2.trans (hb.mono hHeld.2.2.2.size)⟩:_∧_∧_∧RowKit.Below w.heap.size w _)
        refine kz_ hK hHeld fun hHeld=>?_;clear hK K
        refine fl_ [17,31,262143,18,2,524287] ?_
        iterate 2 refine pz_ HT_ ?_
        refine fe_ ?_
        refine dz_ HT_ ?_
        go_wp2
        go_ret
        exact⟨by rw[hRM.out];rfl,hHeld.2.2.2⟩
theorem right_none (R:Re) (A5 A6:Option Addr) (c5 c6:Nat) (w:World) (h0:(Lit.int .i64 R.f0).wf=true) (hk:isKind R.f0=false):
    Calls Tryz.prog 53 #[.agg (recC R A5 c5 A6 c6)] w fun e w'=>e=.returned (.bool (rightM R))∧RowKit.Below w.heap.size w w':=by
  go_enter Tryz.func53,Tryz.ntmps53
  go_upto_region 1 with(fail)
  have hbx:=heap_alloc_new w (.cells (recC R A5 c5 A6 c6) 38)
  have hB:=below_alloc (RowKit.Below.refl w.heap.size w) (.cells (recC R A5 c5 A6 c6) 38)
  generalize w.alloc (.cells (recC R A5 c5 A6 c6) 38)=w1 at hbx hB ⊢
  have x0:=bq hbx 0 (.int .i64 R.f0)
  have hbl:=blk_lt hbx
  have HW0:=ak h0
  have HK:=ak hk
  have HKV:=ak (kindV_no hk)
  clear h0 hk
  refine Code.wp_mono (Q:=Norm fun a' W=>∃tb mb:Nat,a'={tmps:=#[.agg (recC R A5 c5 A6 c6),.pointer (some ⟨w.heap.size,0,none⟩),.bool false,.pointer (some ⟨tb,0,none⟩),.bool false,undef,.tuple #[.agg #[.nilFunc,.nilFunc,.nilFunc,.nilFunc],.bool false],.map (some mb),.pointer (some ⟨w.heap.size,0,none⟩),.int .i64 R.f0,.tuple #[.agg #[.nilFunc,.nilFunc,.nilFunc,.nilFunc],.bool false],.agg #[.nilFunc,.nilFunc,.nilFunc,.nilFunc],.bool false,undef,undef,undef,undef,undef,undef,undef,undef,undef,undef,undef,undef,undef,undef,undef,undef,undef,undef,undef],defers:=[]}∧W.heap[tb]? =some (.cells #[.nilFunc,.nilFunc,.nilFunc,.nilFunc] 126 (0,0))∧W.heap[w.heap.size]? =some (.cells (recC R A5 c5 A6 c6) 38 (0,0))∧RowKit.Below w.heap.size w W) (Norm.elim ?mono) ?reg
  case reg=>
    go_region_with (go_at_call 54;(with_reducible refine(kinds_calls _).mono ?_);rintro e w2 ⟨mb,rfl,hm,hb⟩;have hrow:w2.heap[w.heap.size]? =some (.cells (recC R A5 c5 A6 c6) 38 (0,0)):=(hb.block _ (by first | exact hbl | (simp;omega))).trans (by first | exact blk_drew hbx | exact blk_drew (blk_alloc hbx _));have x0':=bq hrow 0 (.int .i64 R.f0);have hbl2:w.heap.size < w2.heap.size:=blk_lt hrow;have hlk:=KM.look hm R.f0 HW0.out;have hlk2:=fun o=>KM.look (hm.below (below_alloc (RowKit.Below.refl w2.heap.size w2) o)) R.f0 HW0.out;rw[HKV.out,HK.out] at hlk;rw[HKV.out,HK.out] at hlk2;(try (have hrow3:w2.heap[w1.heap.size]? =some (.cells #[.nilFunc,.nilFunc,.nilFunc,.nilFunc] 126 (0,0)):=(hb.block _ (by simp)).trans (blk_drew (heap_alloc_new w1 _));have y0:w2.cell? ⟨w1.heap.size,0,none⟩=some .nilFunc:=(blk_cell hrow3 0).trans rfl;have y1:w2.cell? ⟨w1.heap.size,1,none⟩=some .nilFunc:=(blk_cell hrow3 1).trans rfl;have y2:w2.cell? ⟨w1.heap.size,2,none⟩=some .nilFunc:=(blk_cell hrow3 2).trans rfl;have y3:w2.cell? ⟨w1.heap.size,3,none⟩=some .nilFunc:=(blk_cell hrow3 3).trans rfl;have f0:=blk_frozen hrow3 0;have f1:=blk_frozen hrow3 1;have f2:=blk_frozen hrow3 2;have f3:=blk_frozen hrow3 3));clear hm)
    all_goals
      have hBw2:RowKit.Below w.heap.size w w2:=by
        first
          | (have hr3:=hrow3
             exact((below_alloc hB _).drew).trans (hb.mono (below_alloc hB _).size))
          | exact(hB.drew).trans (hb.mono hB.size)
      simp only[Act.put,List.getElem_toArray,List.getElem_cons_succ,List.getElem_cons_zero,zq1,zq2,zq3]
    all_goals first
      | (have hr3:=hrow3;skip)
      | (refine Norm.intro ⟨w2.heap.size,mb,?_,?_,?_,?_⟩
         · rfl
         · exact heap_alloc_new w2 _
         · exact blk_alloc hrow _
         · exact below_alloc hBw2 _)
    all_goals
      have hne:w.heap.size≠w1.heap.size:=Nat.ne_of_lt hbl
      refine Norm.intro ⟨w1.heap.size,mb,?_,?_,?_,?_⟩
      · rfl
      · exact blk_put (blk_put (blk_put (blk_put hrow3 0 _ rfl) 1 _ rfl) 2 _ rfl) 3 _ rfl
      · exact blk_far (blk_far (blk_far (blk_far hrow (p:=⟨w1.heap.size,0,none⟩) hne _) (p:=⟨w1.heap.size,1,none⟩) hne _) (p:=⟨w1.heap.size,2,none⟩) hne _) (p:=⟨w1.heap.size,3,none⟩) hne _
      · exact(((hBw2.setCell (p:=⟨w1.heap.size,0,none⟩) (Nat.le_of_lt hbl) _).setCell (p:=⟨w1.heap.size,1,none⟩) (Nat.le_of_lt hbl) _).setCell (p:=⟨w1.heap.size,2,none⟩) (Nat.le_of_lt hbl) _).setCell (p:=⟨w1.heap.size,3,none⟩) (Nat.le_of_lt hbl) _
  case mono=>
    rintro a' W ⟨tb,mb,rfl,htb,hrow,hBW⟩
    clear x0 hbx hB hbl
    have HTB:=ak htb
    have hbl:=blk_lt hrow
    have htl:=blk_lt htb
    have HROW:=ak hrow
    have HBW:=ak hBW
    clear htb hBW
    simp only[recC] at hrow
    have x0:=bq hrow 0 (.int .i64 R.f0)
    have x1:=bq hrow 1 (.string R.f1)
    have x2:=bq hrow 2 (.int .i64 R.f2)
    have x3:=bq hrow 3 (.int .i64 R.f3)
    have x4:=bq hrow 4 (.int .i64 R.f4)
    have x5:=bq hrow 5 (.slice A5 R.f5.length c5)
    have x6:=bq hrow 6 (.slice A6 R.f6.length c6)
    clear hrow
    go_upto_region 3 with(fail)
    have hW:=heap_alloc_new W (.cells (recC R A5 c5 A6 c6) 119)
    have hT:=blk_alloc HTB.out (.cells (recC R A5 c5 A6 c6) 119)
    have hX:=blk_alloc HROW.out (.cells (recC R A5 c5 A6 c6) 119)
    have HB2:=below_alloc HBW.out (.cells (recC R A5 c5 A6 c6) 119)
    simp only[recC] at hW hT hX HB2
    generalize W.alloc (.cells #[.int .i64 R.f0,.string R.f1,.int .i64 R.f2,.int .i64 R.f3,.int .i64 R.f4,.slice A5 R.f5.length c5,.slice A6 R.f6.length c6] 119)=w2 at hW hT hX HB2 ⊢
    generalize hrb:W.heap.size=rb at hW ⊢
    clear hbl htl x0 x1 x2 x3 x4 x5 x6
    have hRM:rightM R=false:=by
      unfold rightM
      rw[HK.out,Bool.false_and]
    refine st_ 19 (S:=(fun w'=>RowKit.Below w.heap.size w w')) (ds:=[]) (by kernel_rfl) rfl (by kernel_rfl) HB2.drew (fun hHeld=>?_);refine with_tabW righttab rightbits (fun HT_ HW_=>?_)
    generalize w2.drew=w3 at hHeld ⊢
    refine fl_ [0,14,1,1,15,3] ?_
    iterate 2 refine pz_ HT_ ?_
    refine fe_ ?_
    refine sk_ 2 7 (N:=16) (a':=?_) HT_ rfl rfl (by kernel_rfl) (fun _ _ _ h=>h) (Or.inr ⟨by rfl,rfl⟩) ?_ ?_
    rotate_left
    · simp only[Act.put,zq1,zq2,zq3,i64_w,i32_w]
      rfl
    refine sk_ 3 15 (N:=17) (a':=?_) HT_ rfl rfl (by kernel_rfl) (fun _ _ _ h=>h) (Or.inr ⟨by rfl,rfl⟩) ?_ ?_
    rotate_left
    · simp only[Act.put,zq1,zq2,zq3,i64_w,i32_w]
      rfl
    refine sk_ 4 31 (N:=18) (a':=?_) HT_ rfl rfl (by kernel_rfl) (fun _ _ _ h=>h) (Or.inr ⟨by rfl,rfl⟩) ?_ ?_
    rotate_left
    · simp only[Act.put,zq1,zq2,zq3,i64_w,i32_w]
      rfl
    refine fl_ [5,19,63,6,20,127] ?_
    iterate 2 refine pz_ HT_ ?_
    refine fe_ ?_
    refine sk_ 7 255 (N:=21) (a':=?_) HT_ rfl rfl (by kernel_rfl) (fun _ _ _ h=>h) (Or.inr ⟨by rfl,rfl⟩) ?_ ?_
    rotate_left
    · simp only[Act.put,zq1,zq2,zq3,i64_w,i32_w]
      rfl
    refine sk_ 8 511 (N:=22) (a':=?_) HT_ rfl rfl (by kernel_rfl) (fun _ _ _ h=>h) (Or.inr ⟨by rfl,rfl⟩) ?_ ?_
    rotate_left
    · simp only[Act.put,zq1,zq2,zq3,i64_w,i32_w]
      rfl
    refine sk_ 9 1023 (N:=23) (a':=?_) HT_ rfl rfl (by kernel_rfl) (fun _ _ _ h=>h) (Or.inr ⟨by rfl,rfl⟩) ?_ ?_
    rotate_left
    · simp only[Act.put,zq1,zq2,zq3,i64_w,i32_w]
      rfl
    refine sk_ 10 2047 (N:=24) (a':=?_) HT_ rfl rfl (by kernel_rfl) (fun _ _ _ h=>h) (Or.inr ⟨by rfl,rfl⟩) ?_ ?_
    rotate_left
    · simp only[Act.put,zq1,zq2,zq3,i64_w,i32_w]
      rfl
    refine sk_ 11 4095 (N:=25) (a':=?_) HT_ rfl rfl (by kernel_rfl) (fun _ _ _ h=>h) (Or.inr ⟨by rfl,rfl⟩) ?_ ?_
    rotate_left
    · simp only[Act.put,zq1,zq2,zq3,i64_w,i32_w]
      rfl
    refine fl_ [12,26,8191,13,27,16383] ?_
    iterate 2 refine pz_ HT_ ?_
    refine fe_ ?_
    refine sk_ 14 32767 (N:=28) (a':=?_) HT_ rfl rfl (by kernel_rfl) (fun _ _ _ h=>h) (Or.inr ⟨by rfl,rfl⟩) ?_ ?_
    rotate_left
    · simp only[Act.put,zq1,zq2,zq3,i64_w,i32_w]
      rfl
    refine sk_ 15 65535 (N:=29) (a':=?_) HT_ rfl rfl (by kernel_rfl) (fun _ _ _ h=>h) (Or.inr ⟨by rfl,rfl⟩) ?_ ?_
    rotate_left
    · simp only[Act.put,zq1,zq2,zq3,i64_w,i32_w]
      rfl
    refine sk_ 16 131071 (N:=30) (a':=?_) HT_ rfl rfl (by kernel_rfl) (fun _ _ _ h=>h) (Or.inr ⟨by rfl,rfl⟩) ?_ ?_
    rotate_left
    · simp only[Act.put,zq1,zq2,zq3,i64_w,i32_w]
      rfl
    refine fl_ [17,31,262143,18,2,524287] ?_
    iterate 2 refine pz_ HT_ ?_
    refine fe_ ?_
    refine dz_ HT_ ?_
    go_wp2
    go_ret
    exact⟨by rw[hRM];rfl,hHeld⟩
end Rc
end
section
namespace Rc
open Go.Maps Fr Ext Pt

theorem isKind_cases {n:Int} (h:isKind n=true):n=1∨n=2∨n=3∨n=4:=by
 unfold isKind at h
 simp only[Bool.and_eq_true,decide_eq_true_eq] at h
 omega
theorem right_calls (R:Re) (A5 A6:Option Addr) (c5 c6:Nat) (w:World) (h0:(Lit.int .i64 R.f0).wf=true)
  (hl:∀W,RowKit.Below w.heap.size w W→Kd.C k57 W A5 R.f5.length R.f5) (hn:R.f5.length≤1000000000):
  Calls Tryz.prog 53 #[.agg (recC R A5 c5 A6 c6)] w fun e w'=>e=.returned (.bool (rightM R))∧RowKit.Below w.heap.size w w':=by
 cases hk:isKind R.f0 with
 | false=>exact right_none R A5 A6 c5 c6 w h0 hk
 | true=>
  rcases isKind_cases hk with h | h | h | h
  ·refine right_kind R A5 A6 c5 c6 w h0 hk 82 83 84 85 (by rw[h];rfl) (enters_ Tryz.func82 (by kernel_rfl) rfl) (enters_ Tryz.func83 (by kernel_rfl) rfl) ?_ ?_
   ·intro rb W hr hB
    refine(pieceFine_calls hr).mono ?_
    rintro e w1 ⟨rfl,rfl⟩
    exact⟨by unfold fineM;rw[if_pos h],RowKit.Below.refl _ _⟩
   ·intro rb W hr
    refine(pieceHas_calls hr).mono ?_
    rintro e w1 ⟨rfl,hb⟩
    exact⟨⟨none,0,A6,c6,by rw[h]⟩,hb⟩
  ·refine right_kind R A5 A6 c5 c6 w h0 hk 86 87 88 89 (by rw[h];rfl) (enters_ Tryz.func86 (by kernel_rfl) rfl) (enters_ Tryz.func87 (by kernel_rfl) rfl) ?_ ?_
   ·intro rb W hr hB
    refine(rootFine_calls hr (hl W hB) hn).mono ?_
    rintro e w1 ⟨rfl,hb⟩
    exact⟨by unfold fineM;rw[if_neg (by omega),if_pos h],hb⟩
   ·intro rb W hr
    refine(rootHas_calls hr).mono ?_
    rintro e w1 ⟨rfl,hb⟩
    exact⟨⟨A5,c5,none,0,by rw[h]⟩,hb⟩
  ·refine right_kind R A5 A6 c5 c6 w h0 hk 90 91 92 93 (by rw[h];rfl) (enters_ Tryz.func90 (by kernel_rfl) rfl) (enters_ Tryz.func91 (by kernel_rfl) rfl) ?_ ?_
   ·intro rb W hr hB
    refine(inlineFine_calls hr).mono ?_
    rintro e w1 ⟨rfl,rfl⟩
    exact⟨by unfold fineM;rw[if_neg (by omega),if_neg (by omega),if_pos h],RowKit.Below.refl _ _⟩
   ·intro rb W hr
    refine(inlineHas_calls hr).mono ?_
    rintro e w1 ⟨rfl,hb⟩
    exact⟨⟨none,0,A6,c6,by rw[h]⟩,hb⟩
  ·refine right_kind R A5 A6 c5 c6 w h0 hk 94 95 96 97 (by rw[h];rfl) (enters_ Tryz.func94 (by kernel_rfl) rfl) (enters_ Tryz.func95 (by kernel_rfl) rfl) ?_ ?_
   ·intro rb W hr hB
    refine(tombFine_calls hr).mono ?_
    rintro e w1 ⟨rfl,rfl⟩
    exact⟨by unfold fineM;rw[if_neg (by omega),if_neg (by omega),if_neg (by omega)],RowKit.Below.refl _ _⟩
   ·intro rb W hr
    refine(tombHas_calls hr).mono ?_
    rintro e w1 ⟨rfl,hb⟩
    exact⟨⟨none,0,none,0,by rw[h]⟩,hb⟩
end Rc
end
section
namespace Rc
open Go.Maps Fr Ext Pt
theorem right_at {w:World} {base:Nat} {R:Re} {A5:Option Addr} {c5:Nat} (A6:Option Addr) (c6:Nat) {n:Int} (hf:R.f0=n) (h0:(Lit.int .i64 n).wf=true) (h5:R.f5.length≤1000000000) (hO:Kd.R k57 57 w base (fun _=>True) (.slice A5 R.f5.length c5) R.f5) {b:Bool} (hb:rightM R=b):
  Calls Tryz.prog 53 #[.agg #[.int .i64 R.f0,.string R.f1,.int .i64 R.f2,.int .i64 R.f3,.int .i64 R.f4,.slice A5 R.f5.length c5,.slice A6 R.f6.length c6]] w fun e w'=>e=.returned (.bool b)∧RowKit.Below w.heap.size w w':=by
 subst hb
 exact right_calls R A5 A6 c5 c6 w (by rw[hf];exact h0) (fun W hW=>Kd.C_below (Kd.R_reads' hO).2.2 hW) h5
end Rc
end
section
namespace Rc
open Go.Maps Fr Ext Pt

theorem append_str_run {P:Program} (w:World) (base:Nat) (t u ty e:TypeId) (i:TypeInfo) (ht:P.underlying t=some (.slice e)) (hu:P.underlying u=some .string) (hi:P.info? e=some i) (hz:i.zero=some (.int .u8 0)) (hsize:i.size=1) (hby:i.bytes=1)
  (v:Value) (n:Nat) (xs:List Value) (hown:w.ownsRow base e 1 v n xs) (s:ByteArray) (hl:n+s.size≤140737488355328) (hbase:base≤w.heap.size):
  ∃v' w',(Builtin.append_ #[t,u] ty #[v,.string s]).run P w=.ok v' w'∧w'.ownsRow base e 1 v' (n+s.size) (xs++Lib.strCells s)∧w.grownBy w' v.ownBlock∧(v'.ownBlock=v.ownBlock∨∃b,v'.ownBlock=some b∧w.heap.size≤b):=by
 obtain⟨v',w',hr,ho,hg,hn⟩:=Lib.run_append_own_string (P:=P) w base t u ty e i ht hu hi hz hsize hby v n xs hown s (by simp only[maxLen];omega) hl hbase
 refine⟨v',w',hr,ho,hg,?_⟩
 have hxl:xs.length=n:=by simpa using hown.1
 rcases hown.2 with⟨rfl,rfl⟩ | ⟨g,cap,cur,rfl,hbg,hgc,hnc,hcm,hcs,htake⟩
 ·by_cases hm:s.size=0
  ·left
   rw[hn.2 ⟨rfl,hm⟩]
  ·right
   have hr2:=run_append_nil_string (P:=P) w t u ty e i (.int .u8 0) ht hu hi hz s (by omega) (by omega) (by rw[hby];omega)
   rw[hr2] at hr
   injection hr with e1 e2
   exact⟨w.heap.size,by rw[← e1];rfl,Nat.le_refl _⟩
 ·by_cases hroom:n+s.size≤cap
  ·left
   have hcs':cur.size=cap:=by simpa using hcs
   have hr2:=Lib.run_append_room_string (P:=P) w t u ty e i ht hu hi hsize g n cap cur hgc s hroom (by omega)
   rw[hr2] at hr
   injection hr with e1 e2
   rw[← e1]
   rfl
  ·right
   have holds:∀j u,xs[j]? =some u→w.cell? ((⟨g,0,none⟩:Addr).add j)=some u:=hown.cells (g:=g) rfl
   have hr2:=Lib.run_append_grow_string (P:=P) w t u ty e i (.int .u8 0) ht hu hi hz ⟨g,0,none⟩ n cap xs (by rw[hsize];simpa using hxl) holds s (by omega) (by omega) (by rw[hby];exact growslice_fits (by omega) (by omega))
   rw[hr2] at hr
   injection hr with e1 e2
   exact⟨w.heap.size,by rw[← e1];rfl,Nat.le_refl _⟩
section
variable {P:Program} {ops:Array Oper} {o:Oper} {a:Act} {Q:Exit→Act→World→Prop} {Kc:Act→World→Prop}
theorem append_str_step {W:World} (base:Nat) (hw:Region.wanted o (yielded ops a.tmps)=true) (s x:Operand) (t u e:TypeId)
  (ho:o.op=.call {callee:=.builtin .append,args:=#[s,x],argTypes:=#[t,u]})
  (ht:P.underlying t=some (.slice e)) (hu:P.underlying u=some .string) (hinfo:(P.info? e).map (fun i=>(i.zero,i.size,i.bytes))=some (some (.int .u8 0),1,1))
  (v:Value) (xs:List Int) (y:ByteArray) (ok:Nat→Prop) (hs:a.eval s=v) (hx:a.eval x=.string y)
  (HO:Kd.R (Kd.int .u8) e W base ok v xs) (hfresh:∀k,W.heap.size≤k→ok k) (hbase:base≤W.heap.size) (hl:xs.length+y.size≤140737488355328)
  (h:∀v1 w1,Kd.R (Kd.int .u8) e w1 base ok v1 (xs++bytesOf y)→W.grownBy w1 v.ownBlock→(v1.ownBlock=v.ownBlock∨∃b,v1.ownBlock=some b∧W.heap.size≤b)→Kc (a.put o.dst v1) w1):
  if Region.wanted o (yielded ops a.tmps)=true then Oper.wp P o a W Kc Q else Kc (a.put o.dst undef) W:=by
 rw[if_pos hw]
 obtain⟨i0,hi,hzz⟩:=Option.map_eq_some_iff.1 hinfo
 simp only[Prod.mk.injEq] at hzz
 obtain⟨hz0,hz1,hz2⟩:=hzz
 obtain⟨v1,w1,hr,hown,hg,hat⟩:=append_str_run (P:=P) W base t u o.type e i0 ht hu hi hz0 hz1 hz2 v xs.length (encs (Value.int .u8) xs) (Kd.own_of_R HO) y hl hbase
 have hl2:(xs++bytesOf y).length=xs.length+y.size:=by rw[List.length_append,bytesOf_length]
 have hc:encs (Value.int .u8) (xs++bytesOf y)=encs (Value.int .u8) xs++Lib.strCells y:=by
  unfold encs
  rw[List.map_append]
  congr 1
  simp [bytesOf,Lib.strCells]
 unfold Oper.wp execOp
 simp only[ho,resolve,invoke,builtin,Sem.run_bind,Sem.run_pure,Result.andThen_ok,List.map_toArray,List.map_cons,List.map_nil,hs,hx,hr]
 refine h v1 w1 (Kd.R_of_own (by rw[hl2,hc];exact hown) (fun k hk=>?_)) hg hat
 rcases hat with e1 | ⟨b,e1,hbb⟩
 ·exact HO.1 k (by rw[← e1];exact hk)
 ·rw[e1] at hk
  injection hk with hk
  subst hk
  exact hfresh _ hbb
theorem append_types {t u e e2 ty:TypeId} {i:TypeInfo} (ht:P.underlying t=some (.slice e)) (hu:P.underlying u=some (.slice e2)) (hi:P.info? e=some i) (A:Option Addr) (n c:Nat) (x:Value) (w:World):(Builtin.append_ #[t,u] ty #[.slice A n c,x]).run P w=(Builtin.append_ #[t,t] ty #[.slice A n c,x]).run P w:=by
 simp [Builtin.append_,run_underlying ht,run_underlying hu,sizeOf,typeInfo,hi]
theorem append_row_step {W:World} (base:Nat) (hw:Region.wanted o (yielded ops a.tmps)=true) (s x:Operand) (t u e e2:TypeId)
  (ho:o.op=.call {callee:=.builtin .append,args:=#[s,x],argTypes:=#[t,u]})
  (ht:P.underlying t=some (.slice e)) (hu:P.underlying u=some (.slice e2)) (hinfo:(P.info? e).map (fun i=>(i.zero,i.size,i.bytes))=some (some (.int .u8 0),1,1))
  (v:Value) (xs ys:List Int) (A:Option Addr) (m c:Nat) (ok:Nat→Prop) (hs:a.eval s=v) (hx:a.eval x=.slice A m c)
  (HO:Kd.R (Kd.int .u8) e W base ok v xs) (HR:Kd.C (Kd.int .u8) W A m ys) (hfresh:∀k,W.heap.size≤k→ok k) (hbase:base≤W.heap.size) (hl:xs.length+m≤140737488355328)
  (h:∀v1 w1,Kd.R (Kd.int .u8) e w1 base ok v1 (xs++ys)→W.grownBy w1 v.ownBlock→(v1.ownBlock=v.ownBlock∨∃b,v1.ownBlock=some b∧W.heap.size≤b)→Kc (a.put o.dst v1) w1):
  if Region.wanted o (yielded ops a.tmps)=true then Oper.wp P o a W Kc Q else Kc (a.put o.dst undef) W:=by
 obtain⟨i0,hi,_⟩:=Option.map_eq_some_iff.1 hinfo
 obtain⟨Av,cv,rfl⟩:=Kd.R_slice HO
 have key:(execOp a.eval o).run P W=(execOp a.eval {o with op:=.call {callee:=.builtin .append,args:=#[s,x],argTypes:=#[t,t]}}).run P W:=by
  unfold execOp
  simp only[ho,resolve,invoke,builtin,Sem.run_bind,Sem.run_pure,Result.andThen_ok,List.map_toArray,List.map_cons,List.map_nil,hs,hx]
  rw[append_types ht hu hi]
 have hw':Region.wanted {o with op:=.call {callee:=.builtin .append,args:=#[s,x],argTypes:=#[t,t]}} (yielded ops a.tmps)=true:=hw
 have h1:=Kd.R_append_rows_step (P:=P) (ops:=ops) (o:={o with op:=.call {callee:=.builtin .append,args:=#[s,x],argTypes:=#[t,t]}}) (a:=a) (Q:=Q) (Kc:=Kc) (Kd.int .u8) (w0:=W) (W:=W) base hw' s x t e (.int .u8 0) 1 rfl ht hinfo rfl (by decide) (by decide) (.slice Av xs.length cv) xs ys A m c ok (fun _=>False) hs hx HO HR (fun x cs hk=>hk) (fun _ h=>h.elim) hfresh (RowKit.Below.refl base W) hbase (by omega) (fun v1 w1 r1 _ g1 l1=>h v1 w1 r1 g1 l1)
 rw[if_pos hw'] at h1
 rw[if_pos hw]
 unfold Oper.wp at h1 ⊢
 rw[key]
 exact h1
end
end Rc
end
section
namespace Rc
open Go.Maps Fr Ext Pt

structure PutS (w0 w:World) (rb bb:Nat) (cs:Array Value) (v:Value) (xs:List Int):Prop where
 bel:RowKit.Below w0.heap.size w0 w
 rr:w.heap[rb]? =some (.cells cs 119 (0,0))
 bk:w.heap[bb]? =some (.cells #[v] 120 (0,0))
 own:Kd.R (Kd.int .u8) 5 w w0.heap.size (fun _=>True) v xs
 r0:w0.heap.size≤rb
 b0:w0.heap.size≤bb
theorem PutS.ne {w0 w:World} {rb bb:Nat} {cs:Array Value} {v:Value} {xs:List Int} (h:PutS w0 w rb bb cs v xs):rb≠bb:=fun e=>by
 have h1:=h.rr
 rw[e,h.bk] at h1
 injection h1 with h1
 injection h1 with _ h1
 exact absurd h1 (by decide)
theorem PutS.nv {w0 w:World} {rb bb:Nat} {cs:Array Value} {v:Value} {xs:List Int} (h:PutS w0 w rb bb cs v xs):some bb≠v.ownBlock∧some rb≠v.ownBlock:=
 ⟨Kd.R_ne h.own h.bk (by decide),Kd.R_ne h.own h.rr (by decide)⟩
theorem PutS.drewN {w0 w:World} {rb bb:Nat} {cs:Array Value} {v:Value} {xs:List Int} (h:PutS w0 w rb bb cs v xs) (n:Nat):PutS w0 (w.drewN n) rb bb cs v xs:=
 ⟨pw_below_drewN h.bel n,h.rr,h.bk,Kd.R_below h.own (pw_below_drewN (RowKit.Below.refl _ _) n),h.r0,h.b0⟩
theorem PutS.grown {w0 w w1:World} {rb bb:Nat} {cs:Array Value} {v v1:Value} {xs ys:List Int} (h:PutS w0 w rb bb cs v xs) (hg:w.grownBy w1 v.ownBlock) (ho:Kd.R (Kd.int .u8) 5 w1 w0.heap.size (fun _=>True) v1 ys) (hv:v1.ownBlock=v.ownBlock∨∃b,v1.ownBlock=some b∧w.heap.size≤b):
  PutS w0 (w1.setCell ⟨bb,0,none⟩ v1) rb bb cs v1 ys:=by
 obtain⟨n1,n2⟩:=h.nv
 have hb1:=blk_grown h.bk hg n1
 have hr1:=blk_grown h.rr hg n2
 have hB:=h.bel.grown hg h.bel.size (fun k hk=>by obtain⟨inner,hw⟩:=Kd.R_own h.own;exact own_base hw k hk)
 have hne:∀k,v1.ownBlock=some k→k≠bb:=fun k hk e=>by
  rcases hv with hv | ⟨b,hv,hle⟩
  ·exact n1 (by rw[← hv,hk,e])
  ·rw[hv] at hk
   obtain rfl:=Option.some.inj hk
   have:=blk_lt h.bk
   omega
 exact⟨hB.setCell (p:=⟨bb,0,none⟩) h.b0 _,(Below.heap_setCell w1 ⟨bb,0,none⟩ v1 rb h.ne).trans hr1,blk_put hb1 0 v1 rfl,Kd.R_mono (Kd.R_far (p:=⟨bb,0,none⟩) (Kd.R_mono (Kd.R_tight rfl ho) (fun k hk=>hne k hk.symm)) (fun k hk=>hk) v1) (fun _ _=>trivial),h.r0,h.b0⟩
structure Kept (w:World) (bb:Nat) (v:Value) (w':World) (v':Value):Prop where
 size:w.heap.size≤w'.heap.size
 obj:∀k,k < w.heap.size→k≠bb→some k≠v.ownBlock→w'.heap[k]? =w.heap[k]?
 own:v'.ownBlock=v.ownBlock∨∃b,v'.ownBlock=some b∧w.heap.size≤b
theorem Kept.refl (w:World) (bb:Nat) (v:Value):Kept w bb v w v:=⟨Nat.le_refl _,fun _ _ _ _=>rfl,.inl rfl⟩
theorem Kept.step {w w1 w2:World} {bb:Nat} {v v1 v2 u:Value} (h:Kept w bb v w1 v1) (hg:w1.drew.grownBy w2 v1.ownBlock) (hv:v2.ownBlock=v1.ownBlock∨∃b,v2.ownBlock=some b∧w1.drew.heap.size≤b):Kept w bb v (w2.setCell ⟨bb,0,none⟩ u) v2:=by
 have hs1:w1.heap.size≤w2.heap.size:=hg.size
 refine⟨by rw[World.size_setCell];exact Nat.le_trans h.size hs1,fun k hk hb hn=>?_,?_⟩
 ·refine(Below.heap_setCell w2 ⟨bb,0,none⟩ u k hb).trans ((hg.block k (Nat.lt_of_lt_of_le hk h.size) (fun e=>?_)).trans (h.obj k hk hb hn))
  rcases h.own with ho | ⟨b,ho,hle⟩
  ·exact hn (by rw[e,ho])
  ·rw[ho] at e
   have:=Option.some.inj e
   omega
 ·rcases hv with h2 | ⟨b,h2,hb⟩
  ·rw[h2];exact h.own
  ·exact .inr ⟨b,h2,Nat.le_trans h.size hb⟩
def numB (n:Int) (size:Nat):List Int:=(List.range size).map fun i=>n / 2 ^ (8*(size - 1 - i)) % 256
def numT (n:Int) (size k:Nat):List Int:=(List.range k).map fun i=>n / 2 ^ (8*(size - 1 - i)) % 256
theorem numT_succ (n:Int) (size k:Nat):numT n size (k+1)=numT n size k++[n / 2 ^ (8*(size - 1 - k)) % 256]:=by
 simp [numT,List.range_succ]
theorem put_calls {w0 w:World} {rb bb:Nat} {cs:Array Value} {v:Value} {xs:List Int} (n:Int) (size:Nat) (hs:size≤8) (hl:xs.length≤1000000) (h:PutS w0 w rb bb cs v xs):
  Calls Tryz.prog 127 #[.pointer (some ⟨bb,0,none⟩),.int .i64 n,.int .i64 size] w fun e w'=>e=.returned (.tuple #[])∧∃v',PutS w0 w' rb bb cs v' (xs++numB n size)∧Kept w bb v w' v':=by
 have H:=ak h
 clear h
 go_enter Tryz.func127,Tryz.ntmps127
 go_wp2
 go_loopg [8] size (fun kq v8 wr=>∃(k:Nat) (v':Value),v8=.int .i64 k∧Aside0 (k+kq=size)∧Aside0 (PutS w0 wr rb bb cs v' (xs++numT n size k))∧Aside0 (Kept w bb v wr v'))
 case atStart=>exact⟨0,v,rfl,⟨by omega⟩,⟨by simpa [numT] using H.out⟩,⟨Kept.refl _ _ _⟩⟩
 case round=>
  obtain⟨k,v',rfl,HK,HP,HKP⟩:=hrel
  cases gk with
  | zero=>
   obtain rfl:k=size:=by have:=HK.out;omega
   have d1:decide ((k:Int) < (k:Int))=false:=decide_eq_false (by omega)
   have d2:decide (k < k)=false:=decide_eq_false (by omega)
   go_wp2
   go_end0
   exact⟨rfl,v',HP.out,HKP.out⟩
  | succ gk=>
   have hk0:k < size:=by have:=HK.out;omega
   have d1:decide ((k:Int) < (size:Int))=true:=decide_eq_true (by omega)
   have d2:decide (k < size)=true:=decide_eq_true hk0
   obtain⟨c8,hc8⟩:∃c:Nat,8*(size - 1 - k)=c:=⟨_,rfl⟩
   have w1:IntKind.i64.wrap ((size:Int) - 1)=(size:Int) - 1:=by rw[i64_w];unfold wrap64;omega
   have w2:IntKind.i64.wrap ((size:Int) - 1 - k)=(size:Int) - 1 - k:=by rw[i64_w];unfold wrap64;omega
   have w3:IntKind.i64.wrap (8*((size:Int) - 1 - k))=(c8:Int):=by rw[i64_w];unfold wrap64;omega
   have w4:Op.shift .shr .i64 n .i64 (c8:Int)=pure (.int .i64 (n / 2 ^ c8)):=by
    have h0:(0:Int)≤(c8:Int):=by omega
    have h1:(c8:Int)≤64:=by omega
    exact shift_shr_i64 (x:=n) (yk:=.i64) (y:=(c8:Int)) h0 h1
   have HC8:=ak hc8
   clear hc8
   have x0:wr.cell? ⟨bb,0,none⟩=some v':=(blk_cell HP.out.bk 0).trans rfl
   have z0:=blk_frozen HP.out.bk 0
   have hbl:bb < wr.heap.size:=blk_lt HP.out.bk
   go_upto_region 3 with(fail)
   have HLL:=ak (show((xs++numT n size k).length+1)*1≤140737488355328 by simp only[List.length_append,numT,List.length_map,List.length_range];omega)
   have HPd:=ak (show PutS w0 wr.drew rb bb cs v' (xs++numT n size k) from HP.out.drewN 1)
   have HBZ:=ak HPd.out.bel.size
   go_region_law (refine Kd.R_append_step (Kd.int .u8) (w0:=wr.drew) (W:=wr.drew) w0.heap.size rfl (.tmp 14) (.tmp 23) 120 5 (.int .u8 0) 1 rfl Tryz.underlying120 info5 rfl (by decide) (by decide) v' (xs++numT n size k) (IntKind.u8.wrap (n / 2 ^ c8)) [.int .u8 (IntKind.u8.wrap (n / 2 ^ c8))] (fun _=>True) (fun _=>False) rfl rfl rfl (fun _ h=>h.elim) (fun _ _=>trivial) HPd.out.own (RowKit.Below.refl _ _) HBZ.out HLL.out ?_;intro v4 w4 ho4 hb4 hg4 hat4;obtain⟨A4,c4,hv4⟩:=Kd.R_slice ho4;subst hv4;have hb5:=blk_grown HPd.out.bk hg4 HPd.out.nv.1;have x5:w4.cell? ⟨bb,0,none⟩=some v':=(blk_cell hb5 0).trans rfl;have f5:=blk_frozen hb5 0;have HP5:=ak (HPd.out.grown hg4 ho4 hat4);have HKP5:=ak (HKP.out.step (u:=.slice A4 (xs++numT n size k++[IntKind.u8.wrap (n / 2 ^ c8)]).length c4) hg4 hat4);clear ho4 hb4 hg4 hat4 hb5)
   all_goals
    try go_wp2
    go_roundg gk
    case measure=>omega
    case rel=>
     refine⟨k+1,.slice A4 (xs.length+((numT n size k).length+1)) c4,by go_num,⟨by have:=HK.out;omega⟩,⟨?_⟩,⟨?_⟩⟩
     ·have h5:=HP5.out
      have hlen:(xs++numT n size k++[IntKind.u8.wrap (n / 2 ^ c8)]).length=xs.length+((numT n size k).length+1):=by simp
      rw[hlen,IntKind.wrap_u8,← HC8.out,List.append_assoc,← numT_succ] at h5
      exact h5
     ·have h6:=HKP5.out
      have hlen:(xs++numT n size k++[IntKind.u8.wrap (n / 2 ^ c8)]).length=xs.length+((numT n size k).length+1):=by simp
      rw[hlen] at h6
      exact h6
end Rc
end
section
namespace Rc
open Go.Maps Fr Ext Pt

variable {w0 w:World} {rb bb:Nat} {R:Re} {A5 A6:Option Addr} {c5 c6:Nat} {v:Value} {xs:List Int}
theorem put_calls2 {cs:Array Value} (n z:Int) (size:Nat) (hz:z=(size:Int)) (hs:size≤8) (hl:xs.length≤1000000) (h:PutS w0 w rb bb cs v xs):
  Calls Tryz.prog 127 #[.pointer (some ⟨bb,0,none⟩),.int .i64 n,.int .i64 z] w fun e w'=>e=.returned (.tuple #[])∧∃A' n' c',n'=(xs++numB n size).length∧PutS w0 w' rb bb cs (.slice A' n' c') (xs++numB n size)∧Kept w bb v w' (.slice A' n' c'):=by
 subst hz
 refine(put_calls n size hs hl h).mono ?_
 rintro e w' ⟨rfl,v',hp,hq⟩
 obtain⟨A',c',rfl⟩:=Kd.R_slice hp.own
 exact⟨rfl,A',_,c',rfl,hp,hq⟩
theorem numB_length (n:Int) (size:Nat):(numB n size).length=size:=by simp [numB]
theorem PutS.x0 {A:Option Addr} {n c:Nat} {cs:Array Value} (h:PutS w0 w rb bb cs (.slice A n c) xs):w.cell? ⟨bb,0,none⟩=some (.slice A n c):=(blk_cell h.bk 0).trans rfl
theorem PutS.y {cs:Array Value} (h:PutS w0 w rb bb cs v xs) (i:Nat):w.cell? ⟨rb,i,none⟩=cs[i]? :=(blk_cell h.rr i)
theorem tombTo_calls (h:PutS w0 w rb bb (recC R A5 c5 A6 c6) v xs) (hl:xs.length≤1000000) (hk:R.f1.size≤1000000000):
  Calls Tryz.prog 96 #[.pointer (some ⟨rb,0,none⟩),.pointer (some ⟨bb,0,none⟩)] w fun e w'=>e=.returned (.tuple #[])∧∃v',PutS w0 w' rb bb (recC R A5 c5 A6 c6) v' (xs++bytesOf R.f1):=by
 obtain⟨Av,cv,rfl⟩:=Kd.R_slice h.own
 have HPd:=ak (show PutS w0 w.drew rb bb (recC R A5 c5 A6 c6) (.slice Av xs.length cv) xs from h.drewN 1)
 have x0:=bq h.bk 0 (.slice Av xs.length cv)
 have y1:=bq h.rr 1 (.string R.f1)
 have hbl:bb < w.heap.size:=blk_lt h.bk
 have hrl:rb < w.heap.size:=blk_lt h.rr
 have HLL:=ak (show xs.length+R.f1.size≤140737488355328 by omega)
 clear h hl hk
 go_enter Tryz.func96,Tryz.ntmps96
 go_region_law (refine append_str_step (W:=w.drew) w0.heap.size rfl (.tmp 7) (.tmp 11) 120 9 5 rfl Tryz.underlying120 Tryz.underlying9 info5 (.slice Av xs.length cv) xs R.f1 (fun _=>True) rfl rfl HPd.out.own (fun _ _=>trivial) HPd.out.bel.size HLL.out ?_;intro v4 w4 ho4 hg4 hat4;obtain⟨A4,c4,hv4⟩:=Kd.R_slice ho4;generalize (xs++bytesOf R.f1).length=n4 at hv4;subst hv4;have hb5:=blk_grown HPd.out.bk hg4 HPd.out.nv.1;have x5:=bq hb5 0 (.slice Av xs.length cv);have f5:=blk_frozen hb5 0;have HP5:=ak (HPd.out.grown hg4 ho4 hat4);clear ho4 hg4 hat4 hb5)
 all_goals
  try go_wp2
  go_end0
  exact⟨rfl,_,HP5.out⟩
theorem pieceTo_calls (h:PutS w0 w rb bb (recC R A5 c5 A6 c6) v xs) (hl:xs.length≤1000) (hk:R.f6.length≤1000000000) (hc:Kd.C (Kd.int .u8) w0 A6 R.f6.length R.f6):
  Calls Tryz.prog 84 #[.pointer (some ⟨rb,0,none⟩),.pointer (some ⟨bb,0,none⟩)] w fun e w'=>e=.returned (.tuple #[])∧∃v',PutS w0 w' rb bb (recC R A5 c5 A6 c6) v' (xs++numB R.f2 6++numB R.f3 2++R.f6):=by
 have HP:=ak h
 have y2:w.cell? ⟨rb,2,none⟩=some (.int .i64 R.f2):=(h.y 2).trans rfl
 have HL1:=ak (show xs.length≤1000000 by omega)
 have HL2:=ak (show(xs++numB R.f2 6).length≤1000000 by rw[List.length_append,numB_length];omega)
 have HL3:=ak (show(xs++numB R.f2 6++numB R.f3 2).length+R.f6.length≤140737488355328 by simp only[List.length_append,numB_length];omega)
 have HC:=ak hc
 clear h hl hk hc
 go_enter Tryz.func84,Tryz.ntmps84
 go_upto_region 1 with(go_at_call 127;(with_reducible refine(put_calls2 R.f2 6 6 rfl (by decide) HL1.out HP.out).mono ?_);rintro e u1 ⟨rfl,A1,n1,c1,hn1,hp1,-⟩;have HP1:=ak hp1;clear hp1)
 clear y2
 have y3:u1.cell? ⟨rb,3,none⟩=some (.int .i64 R.f3):=(HP1.out.y 3).trans rfl
 go_upto_region 2 with(go_at_call 127;(with_reducible refine(put_calls2 R.f3 2 2 rfl (by decide) HL2.out HP1.out).mono ?_);rintro e u2 ⟨rfl,A2,n2,c2,hn2,hp2,-⟩;have HP2:=ak hp2;clear hp2)
 clear y3
 have x0:=HP2.out.x0
 have y6:u2.cell? ⟨rb,6,none⟩=some (.slice A6 R.f6.length c6):=(HP2.out.y 6).trans rfl
 have hbl:bb < u2.heap.size:=blk_lt HP2.out.bk
 have hrl:rb < u2.heap.size:=blk_lt HP2.out.rr
 have HPd:=ak (HP2.out.drewN 1)
 have HN1:=ak hn1
 have HN2:=ak hn2
 clear hn1 hn2
 go_region_law (refine append_row_step (W:=u2.drew) w0.heap.size rfl (.tmp 19) (.tmp 23) 120 35 5 5 rfl Tryz.underlying120 Tryz.underlying35 info5 (.slice A2 n2 c2) (xs++numB R.f2 6++numB R.f3 2) R.f6 A6 R.f6.length c6 (fun _=>True) rfl rfl HPd.out.own (Kd.C_below HC.out HPd.out.bel) (fun _ _=>trivial) HPd.out.bel.size HL3.out ?_;intro v4 w4 ho4 hg4 hat4;obtain⟨A4,c4,hv4⟩:=Kd.R_slice ho4;generalize (xs++numB R.f2 6++numB R.f3 2++R.f6).length=n4 at hv4;subst hv4;have hb5:=blk_grown HPd.out.bk hg4 HPd.out.nv.1;have x5:=bq hb5 0 (.slice A2 n2 c2);have f5:=blk_frozen hb5 0;have HP5:=ak (HPd.out.grown hg4 ho4 hat4);clear ho4 hg4 hat4 hb5)
 all_goals
  try go_wp2
  go_end0
  exact⟨rfl,_,HP5.out⟩
theorem PutS.bel1 {w1:World} {cs:Array Value} (h:PutS w0 w rb bb cs v xs) (hg:w.grownBy w1 v.ownBlock):RowKit.Below w0.heap.size w0 w1:=
 h.bel.grown hg h.bel.size (fun k hk=>by obtain⟨inner,hw⟩:=Kd.R_own h.own;exact own_base hw k hk)
theorem PutS.grown2 {w1 w2:World} {cs:Array Value} {v1 v2:Value} (h:PutS w0 w rb bb cs v xs) (hg:w.grownBy w1 v.ownBlock) (hv:v1.ownBlock=v.ownBlock∨∃b,v1.ownBlock=some b∧w.heap.size≤b)
  (hg2:w1.grownBy w2 v1.ownBlock) (hv2:v2.ownBlock=v1.ownBlock∨∃b,v2.ownBlock=some b∧w1.heap.size≤b):w.grownBy w2 v.ownBlock∧(v2.ownBlock=v.ownBlock∨∃b,v2.ownBlock=some b∧w.heap.size≤b):=by
 constructor
 ·refine⟨hg2.os.trans hg.os,hg2.tape.trans hg.tape,hg2.output.trans hg.output,Nat.le_trans hg.size hg2.size,fun k hk hn=>?_⟩
  refine(hg2.block k (Nat.lt_of_lt_of_le hk hg.size) (fun e=>?_)).trans (hg.block k hk hn)
  rcases hv with hv | ⟨b,hv,hb⟩
  ·exact hn (by rw[e,hv])
  ·rw[hv] at e
   have:=Option.some.inj e
   omega
 ·rcases hv2 with h2 | ⟨b,h2,hb⟩
  ·rw[h2];exact hv
  ·exact .inr ⟨b,h2,Nat.le_trans hg.size hb⟩
theorem inlineTo_calls (h:PutS w0 w rb bb (recC R A5 c5 A6 c6) v xs) (hl:xs.length≤1000) (hk:R.f1.size≤1000000000) (hk6:R.f6.length≤1000000000) (hc:Kd.C (Kd.int .u8) w0 A6 R.f6.length R.f6):
  Calls Tryz.prog 92 #[.pointer (some ⟨rb,0,none⟩),.pointer (some ⟨bb,0,none⟩)] w fun e w'=>e=.returned (.tuple #[])∧∃v',PutS w0 w' rb bb (recC R A5 c5 A6 c6) v' (xs++numB R.f1.size 1++bytesOf R.f1++R.f6):=by
 have HP:=ak h
 have y1:w.cell? ⟨rb,1,none⟩=some (.string R.f1):=(h.y 1).trans rfl
 have HL1:=ak (show xs.length≤1000000 by omega)
 have HL2:=ak (show(xs++numB R.f1.size 1).length+R.f1.size≤140737488355328 by simp only[List.length_append,numB_length];omega)
 have HL3:=ak (show(xs++numB R.f1.size 1++bytesOf R.f1).length+R.f6.length≤140737488355328 by simp only[List.length_append,numB_length,bytesOf_length];omega)
 have HC:=ak hc
 clear h hl hk hk6 hc
 go_enter Tryz.func92,Tryz.ntmps92
 go_upto_region 1 with(go_at_call 127;(with_reducible refine(put_calls2 R.f1.size 1 1 rfl (by decide) HL1.out HP.out).mono ?_);rintro e u2 ⟨rfl,A2,n2,c2,hn1,hp1,-⟩;have HP2:=ak hp1;clear hp1)
 clear y1
 have HN1:=ak hn1
 clear hn1
 have x0:=HP2.out.x0
 have y1:u2.cell? ⟨rb,1,none⟩=some (.string R.f1):=(HP2.out.y 1).trans rfl
 have y6:u2.cell? ⟨rb,6,none⟩=some (.slice A6 R.f6.length c6):=(HP2.out.y 6).trans rfl
 have hbl:bb < u2.heap.size:=blk_lt HP2.out.bk
 have hrl:rb < u2.heap.size:=blk_lt HP2.out.rr
 have HPd:=ak (HP2.out.drewN 1)
 go_region_law (first
  | (refine append_str_step (W:=u2.drew) w0.heap.size rfl (.tmp 14) (.tmp 18) 120 9 5 rfl Tryz.underlying120 Tryz.underlying9 info5 (.slice A2 n2 c2) (xs++numB R.f1.size 1) R.f1 (fun _=>True) rfl rfl HPd.out.own (fun _ _=>trivial) HPd.out.bel.size HL2.out ?_;intro v4 w4 ho4 hg4 hat4;have hr5:=blk_grown HPd.out.rr hg4 HPd.out.nv.2;have z6:=bq hr5 6 (.slice A6 R.f6.length c6);obtain⟨A4,c4,hv4⟩:=Kd.R_slice ho4;generalize (xs++numB R.f1.size 1++bytesOf R.f1).length=n4 at hv4;subst hv4;have HO4:=ak ho4;have HG4:=ak hg4;have HAT4:=ak hat4;have HB4:=ak (HPd.out.bel1 hg4);have hsz4:u2.heap.size≤w4.heap.size:=hg4.size;clear ho4 hg4 hat4 hr5)
  | (refine append_row_step (W:=w4) w0.heap.size rfl (.tmp 19) (.tmp 23) 120 35 5 5 rfl Tryz.underlying120 Tryz.underlying35 info5 (.slice A4 n4 c4) (xs++numB R.f1.size 1++bytesOf R.f1) R.f6 A6 R.f6.length c6 (fun _=>True) rfl rfl HO4.out (Kd.C_below HC.out HB4.out) (fun _ _=>trivial) HB4.out.size HL3.out ?_;intro v5 w5 ho5 hg5 hat5;obtain⟨A5',c5',hv5⟩:=Kd.R_slice ho5;generalize (xs++numB R.f1.size 1++bytesOf R.f1++R.f6).length=n5 at hv5;subst hv5;have hg2:=HPd.out.grown2 HG4.out HAT4.out hg5 hat5;have hb5:=blk_grown HPd.out.bk hg2.1 HPd.out.nv.1;have x5:=bq hb5 0 (.slice A2 n2 c2);have f5:=blk_frozen hb5 0;have HP5:=ak (HPd.out.grown hg2.1 ho5 hg2.2);clear ho5 hg5 hat5 hg2 hb5))
 all_goals
  try go_wp2
  go_end0
  exact⟨rfl,_,HP5.out⟩
theorem PutS.new {w1:World} {cs:Array Value} (h:PutS w0 w rb bb cs v xs) (hb:RowKit.Below w.heap.size w w1):PutS w0 w1 rb bb cs v xs:=
 ⟨h.bel.trans (hb.mono h.bel.size),(hb.block _ (blk_lt h.rr)).trans h.rr,(hb.block _ (blk_lt h.bk)).trans h.bk,Kd.R_below h.own hb,h.r0,h.b0⟩
theorem PutS.kept {w':World} {cs ls:Array Value} {v':Value} {lb:Nat} (h:PutS w0 w rb bb cs v xs) (hl:w.heap[lb]? =some (.cells ls 57 (0,0))) (hk:Kept w bb v w' v'):w'.heap[lb]? =some (.cells ls 57 (0,0)):=by
 refine(hk.obj lb (blk_lt hl) (fun e=>?_) (Kd.R_ne h.own hl (by decide))).trans hl
 rw[e,h.bk] at hl
 injection hl with hl
 injection hl with _ hl
 exact absurd hl (by decide)
def locB (l:Lo):List Int:=numB l.f0 4++numB l.f1 4++numB l.f2 2
def locsB (ls:List Lo):List Int:=(ls.map locB).flatten
theorem locB_length (l:Lo):(locB l).length=10:=by simp [locB,numB_length]
theorem locsB_length (ls:List Lo):(locsB ls).length=10*ls.length:=by
 induction ls with
 | nil=>rfl
 | cons l r ih=>simp only[locsB,List.map_cons,List.flatten_cons,List.length_append,locB_length,List.length_cons] at ih ⊢;omega
theorem locsB_take (ls:List Lo) (k:Nat) (h:k < ls.length):locsB (ls.take (k+1))=locsB (ls.take k)++locB ls[k]:=by
 unfold locsB
 rw[List.take_succ_eq_append_getElem h,List.map_append,List.flatten_append]
 simp
def rootB (R:Re):List Int:=numB R.f1.size 1++bytesOf R.f1++numB R.f2 6++numB R.f4 3++numB R.f5.length 2
theorem rootB_length (R:Re):(rootB R).length=12+R.f1.size:=by simp only[rootB,List.length_append,numB_length,bytesOf_length];omega
theorem rootTo_calls (h:PutS w0 w rb bb (recC R A5 c5 A6 c6) v xs) (hl:xs.length≤1000) (hk:R.f1.size≤10000) (hk5:R.f5.length≤60000) (hc:Kd.C k57 w0 A5 R.f5.length R.f5):
  Calls Tryz.prog 88 #[.pointer (some ⟨rb,0,none⟩),.pointer (some ⟨bb,0,none⟩)] w fun e w'=>e=.returned (.tuple #[])∧∃v',PutS w0 w' rb bb (recC R A5 c5 A6 c6) v' (xs++rootB R++locsB R.f5):=by
 have HP:=ak h
 have y1:w.cell? ⟨rb,1,none⟩=some (.string R.f1):=(h.y 1).trans rfl
 have HL0:=ak (show xs.length≤1000000 by omega)
 have HL1:=ak (show(xs++numB R.f1.size 1).length+R.f1.size≤140737488355328 by simp only[List.length_append,numB_length];omega)
 have HL2:=ak (show(xs++numB R.f1.size 1++bytesOf R.f1).length≤1000000 by simp only[List.length_append,numB_length,bytesOf_length];omega)
 have HL3:=ak (show(xs++numB R.f1.size 1++bytesOf R.f1++numB R.f2 6).length≤1000000 by simp only[List.length_append,numB_length,bytesOf_length];omega)
 have HL4:=ak (show(xs++numB R.f1.size 1++bytesOf R.f1++numB R.f2 6++numB R.f4 3).length≤1000000 by simp only[List.length_append,numB_length,bytesOf_length];omega)
 have HLL:=ak (show xs.length≤1000∧R.f1.size≤10000∧R.f5.length≤60000 from⟨hl,hk,hk5⟩)
 have HC:=ak hc
 clear h hl hk hk5 hc
 go_enter Tryz.func88,Tryz.ntmps88
 go_upto_region 1 with(go_at_call 127;(with_reducible refine(put_calls2 R.f1.size 1 1 rfl (by decide) HL0.out HP.out).mono ?_);rintro e u2 ⟨rfl,A2,n2,c2,hn1,hp1,-⟩;have HP2:=ak hp1;clear hp1 hn1)
 clear y1
 have x0:=HP2.out.x0
 have y1:u2.cell? ⟨rb,1,none⟩=some (.string R.f1):=(HP2.out.y 1).trans rfl
 have hbl:bb < u2.heap.size:=blk_lt HP2.out.bk
 have hrl:rb < u2.heap.size:=blk_lt HP2.out.rr
 have HPd:=ak (HP2.out.drewN 1)
 refine Code.wp_mono (Q:=Norm fun a' W=>∃(A4:Option Addr) (n4 c4:Nat),a'={tmps:=#[.pointer (some ⟨rb,0,none⟩),.pointer (some ⟨bb,0,none⟩),undef,undef,undef,undef,.pointer (some ⟨bb,0,none⟩),.pointer (some ⟨rb,0,none⟩),.pointer (some ⟨rb,0,none⟩),.pointer (some ⟨rb,1,none⟩),.string R.f1,.int .i64 R.f1.size,.tuple #[],.pointer (some ⟨bb,0,none⟩),.pointer (some ⟨bb,0,none⟩),.pointer (some ⟨bb,0,none⟩),.slice A2 n2 c2,.pointer (some ⟨rb,0,none⟩),.pointer (some ⟨rb,0,none⟩),.pointer (some ⟨rb,1,none⟩),.string R.f1,.slice A4 n4 c4,.pointer (some ⟨bb,0,none⟩),undef,undef,undef,undef,undef,undef,undef,undef,undef,undef,undef,undef,undef,undef,undef,undef,undef,undef,undef,undef,undef,undef,undef,undef,undef,undef,undef,undef,undef,undef,undef,undef,undef,undef,undef,undef,undef,undef,undef,undef,undef],defers:=[]}∧PutS w0 W rb bb (recC R A5 c5 A6 c6) (.slice A4 n4 c4) (xs++numB R.f1.size 1++bytesOf R.f1)) (Norm.elim ?mono) ?reg
 case reg=>
  go_region_law (refine append_str_step (W:=u2.drew) w0.heap.size rfl (.tmp 16) (.tmp 20) 120 9 5 rfl Tryz.underlying120 Tryz.underlying9 info5 (.slice A2 n2 c2) (xs++numB R.f1.size 1) R.f1 (fun _=>True) rfl rfl HPd.out.own (fun _ _=>trivial) HPd.out.bel.size HL1.out ?_;intro v4 w4 ho4 hg4 hat4;obtain⟨A4,c4,hv4⟩:=Kd.R_slice ho4;generalize (xs++numB R.f1.size 1++bytesOf R.f1).length=n4 at hv4;subst hv4;have hb5:=blk_grown HPd.out.bk hg4 HPd.out.nv.1;have x5:=bq hb5 0 (.slice A2 n2 c2);have f5:=blk_frozen hb5 0;have HP5:=ak (HPd.out.grown hg4 ho4 hat4);clear ho4 hg4 hat4 hb5)
  all_goals
   simp only[Act.put,List.getElem_toArray,List.getElem_cons_succ,List.getElem_cons_zero,zq1,zq2,zq3]
   refine Norm.intro ⟨A4,n4,c4,?_,?_⟩
   ·rfl
   ·exact HP5.out
 case mono=>
  rintro a' w3 ⟨A3,n3,c3,rfl,hp3⟩
  have HP3:=ak hp3
  clear hp3 x0 y1 hbl hrl
  have y2:w3.cell? ⟨rb,2,none⟩=some (.int .i64 R.f2):=(HP3.out.y 2).trans rfl
  go_upto_region 3 with(go_at_call 127;(with_reducible refine(put_calls2 R.f2 6 6 rfl (by decide) HL2.out HP3.out).mono ?_);rintro e w4 ⟨rfl,A4,n4,c4,hn1,hp1,-⟩;have HP4:=ak hp1;clear hp1 hn1)
  clear y2
  have y4:w4.cell? ⟨rb,4,none⟩=some (.int .i64 R.f4):=(HP4.out.y 4).trans rfl
  go_upto_region 4 with(go_at_call 127;(with_reducible refine(put_calls2 R.f4 3 3 rfl (by decide) HL3.out HP4.out).mono ?_);rintro e w5 ⟨rfl,A5',n5,c5',hn1,hp1,-⟩;have HP5:=ak hp1;clear hp1 hn1)
  clear y4
  have y5:w5.cell? ⟨rb,5,none⟩=some (.slice A5 R.f5.length c5):=(HP5.out.y 5).trans rfl
  go_upto_region 5 with(go_at_call 127;(with_reducible refine(put_calls2 R.f5.length 2 2 rfl (by decide) HL4.out HP5.out).mono ?_);rintro e w6 ⟨rfl,A6',n6,c6',hn1,hp1,-⟩;have HP6:=ak hp1;clear hp1 hn1)
  clear y5
  have y5:w6.cell? ⟨rb,5,none⟩=some (.slice A5 R.f5.length c5):=(HP6.out.y 5).trans rfl
  go_wp2
  have HP6:=ak (show PutS w0 w6 rb bb (recC R A5 c5 A6 c6) (.slice A6' n6 c6') (xs++rootB R) by have h:=HP6.out;simp only[List.append_assoc] at h;simp only[rootB,List.append_assoc];exact h)
  clear HP5 HP4 HP3 HPd HP2 HP HL1 HL2 HL3 HL4 y5
  go_loopg [47] R.f5.length (fun kq v47 wr=>∃(k:Nat) (A:Option Addr) (n c:Nat),v47=.int .i64 k∧Aside0 (k+kq=R.f5.length)∧Aside0 (PutS w0 wr rb bb (recC R A5 c5 A6 c6) (.slice A n c) (xs++rootB R++locsB (R.f5.take k))))
  case atStart=>exact⟨0,A6',n6,c6',rfl,⟨by omega⟩,⟨by simpa [locsB] using HP6.out⟩⟩
  case round=>
   obtain⟨k,A,n,c,rfl,HK,HP⟩:=hrel
   cases gk with
   | zero=>
    obtain rfl:k=R.f5.length:=by have:=HK.out;omega
    have d1:decide ((R.f5.length:Int) < (R.f5.length:Int))=false:=decide_eq_false (by omega)
    have d2:decide (R.f5.length < R.f5.length)=false:=decide_eq_false (by omega)
    go_wp2
    go_end0
    have hp:=HP.out
    rw[List.take_length] at hp
    exact⟨rfl,_,hp⟩
   | succ gk=>
    have hk0:k < R.f5.length:=by have:=HK.out;omega
    have d1:decide ((k:Int) < (R.f5.length:Int))=true:=decide_eq_true (by omega)
    have d2:decide (k < R.f5.length)=true:=decide_eq_true hk0
    obtain⟨ad,e1,y0,y1,y2⟩:=at_T57 (Kd.C_below HC.out HP.out.bel) (k:Int) (by omega) (by omega)
    cases e1
    have hrd:rd_T57 R.f5 (k:Int)=R.f5[k]:=by simp [rd_T57,List.getD_eq_getElem?_getD,List.getElem?_eq_getElem hk0]
    rw[hrd] at y0 y1 y2
    rw[Int.toNat_natCast] at y0 y1 y2
    have HT:=ak (locsB_take R.f5 k hk0)
    have HLB:=ak (show(xs++rootB R++locsB (R.f5.take k)).length≤900000 by have h:=HLL.out;simp only[List.length_append,rootB_length,locsB_length,List.length_take];omega)
    generalize R.f5[k]=l at y0 y1 y2 HT
    clear hrd
    have HA:=ak (heap_alloc_new wr (.cells #[.int .i64 l.f0,.int .i64 l.f1,.int .i64 l.f2] 57))
    have HP1:=ak (HP.out.new (below_alloc (RowKit.Below.refl wr.heap.size wr) (.cells #[.int .i64 l.f0,.int .i64 l.f1,.int .i64 l.f2] 57)))
    go_upto_region 8 with(fail)
    have HKB:=HK
    generalize wr.alloc (.cells #[.int .i64 l.f0,.int .i64 l.f1,.int .i64 l.f2] 57)=wa at HA HP1 ⊢
    generalize wr.heap.size=lb at HA ⊢
    clear y0 y1 y2 HP HKB
    have z0:=bq HA.out 0 (.int .i64 l.f0)
    go_upto_region 9 with(go_at_call 127;(with_reducible refine(put_calls2 l.f0 4 4 rfl (by decide) (Nat.le_trans HLB.out (by decide)) HP1.out).mono ?_);rintro e wb ⟨rfl,Ab,nb,cb,hn1,hp1,hq1⟩;have HP2:=ak hp1;have HA2:=ak (HP1.out.kept HA.out hq1);clear hp1 hn1 hq1)
    clear z0
    have z1:=bq HA2.out 1 (.int .i64 l.f1)
    go_upto_region 10 with(go_at_call 127;(with_reducible refine(put_calls2 l.f1 4 4 rfl (by decide) (by have:=HLB.out;simp only[List.length_append,numB_length] at this ⊢;omega) HP2.out).mono ?_);rintro e wc ⟨rfl,Ac,nc,cc,hn1,hp1,hq1⟩;have HP3:=ak hp1;have HA3:=ak (HP2.out.kept HA2.out hq1);clear hp1 hn1 hq1)
    clear z1
    have z2:=bq HA3.out 2 (.int .i64 l.f2)
    go_wp2_with (go_at_call 127;(with_reducible refine(put_calls2 l.f2 2 2 rfl (by decide) (by have:=HLB.out;simp only[List.length_append,numB_length] at this ⊢;omega) HP3.out).mono ?_);rintro e wd ⟨rfl,Ad,nd,cd,hn1,hp1,hq1⟩;have HP4:=ak hp1;clear hp1 hn1 hq1)
    go_roundg gk
    case measure=>omega
    case rel=>
     have hkk:k < 60000:=by have:=HLL.out;omega
     have e:wrap64 ((k:Int)+1)=((k+1:Nat):Int):=by unfold wrap64;omega
     refine⟨k+1,Ad,nd,cd,by rw[e],⟨by have:=HK.out;omega⟩,⟨?_⟩⟩
     have h4:=HP4.out
     rw[HT.out]
     simp only[locB,List.append_assoc] at h4 ⊢
     exact h4
end Rc
end
section
namespace Rc
open Go.Maps Fr Ext Pt

def toM (R:Re):List Int:=
 if R.f0=1 then numB R.f2 6++numB R.f3 2++R.f6 else if R.f0=2 then rootB R++locsB R.f5 else if R.f0=3 then numB R.f1.size 1++bytesOf R.f1++R.f6 else bytesOf R.f1
def putM (R:Re):List Int:=if rightM R=true then R.f0::toM R else []
theorem right_bounds {R:Re} (h:rightM R=true):isKind R.f0=true∧(R.f0=1→R.f6.length≤4096)∧(R.f0=2→R.f1.size≤64∧R.f5.length≤512)∧(R.f0=3→R.f1.size≤64∧R.f6.length≤4096)∧(R.f0=4→R.f1.size≤64):=by
 unfold rightM at h
 simp only[Bool.and_eq_true] at h
 obtain⟨h1,h2,h3,h4⟩:=h
 unfold fineM at h4
 refine⟨h1,fun e=>?_,fun e=>?_,fun e=>?_,fun e=>?_⟩
 ·rw[if_pos e] at h4
  simp only[pieceFineM,withinB,Bool.and_eq_true,decide_eq_true_eq] at h4
  omega
 ·rw[if_neg (by omega),if_pos e] at h4
  unfold rootFineM at h4
  split at h4
  ·cases h4
  ·simp only[keyB,withinB,Bool.and_eq_true,decide_eq_true_eq] at h4
   omega
 ·rw[if_neg (by omega),if_neg (by omega),if_pos e] at h4
  simp only[inlineFineM,keyB,withinB,Bool.and_eq_true,decide_eq_true_eq] at h4
  omega
 ·rw[if_neg (by omega),if_neg (by omega),if_neg (by omega)] at h4
  simp only[keyB,withinB,Bool.and_eq_true,decide_eq_true_eq] at h4
  omega
theorem three_new (w:World) (o1 o2 o3:Obj):(((w.alloc o1).alloc o2).alloc o3).drew.heap[w.heap.size]? =some o1∧(((w.alloc o1).alloc o2).alloc o3).drew.heap[w.heap.size+1]? =some o2∧(((w.alloc o1).alloc o2).alloc o3).drew.heap[w.heap.size+1+1]? =some o3∧RowKit.Below w.heap.size w (((w.alloc o1).alloc o2).alloc o3).drew:=by
 have s1:(w.alloc o1).heap.size=w.heap.size+1:=by simp
 have s2:((w.alloc o1).alloc o2).heap.size=w.heap.size+1+1:=by simp
 refine⟨?_,?_,?_,?_⟩
 ·exact(heap_alloc_old _ _ (by rw[s2];omega)).trans ((heap_alloc_old _ _ (by rw[s1];omega)).trans (heap_alloc_new w o1))
 ·have h:=heap_alloc_new (w.alloc o1) o2
  rw[s1] at h
  exact(heap_alloc_old _ _ (by rw[s2];omega)).trans h
 ·have h:=heap_alloc_new ((w.alloc o1).alloc o2) o3
  rw[s2] at h
  exact h
 ·exact(below_alloc (below_alloc (below_alloc (RowKit.Below.refl _ _) o1) o2) o3).drew
theorem one_own {w:World} {base sb:Nat} {n:Int} (h:w.heap[sb]? =some (.cells #[.int .u8 n] 5 (0,0))) (hb:base≤sb):Kd.R (Kd.int .u8) 5 w base (fun _=>True) (.slice (some ⟨sb,0,none⟩) 1 1) [n]:=
 Kd.R_of_own (enc:=Value.int .u8) ⟨rfl,.inr ⟨sb,1,_,rfl,hb,h,Nat.le_refl _,by decide,rfl,rfl⟩⟩ (fun _ _=>trivial)
theorem Put_calls (R:Re) (A5 A6:Option Addr) (c5 c6:Nat) (w:World) (h0:(Lit.int .i64 R.f0).wf=true)
  (hl:Kd.C k57 w A5 R.f5.length R.f5) (hn:R.f5.length≤1000000000) (h6:Kd.C (Kd.int .u8) w A6 R.f6.length R.f6):
  Calls Tryz.prog 32 #[.agg (recC R A5 c5 A6 c6)] w fun e w'=>∃v,e=.returned v∧Kd.R (Kd.int .u8) 5 w' w.heap.size (fun _=>True) v (putM R)∧RowKit.Below w.heap.size w w':=by
 have hput:putM R=if rightM R=true then R.f0::toM R else []:=rfl
 have hbd:=@right_bounds R
 go_enter Tryz.func32,Tryz.ntmps32
 go_upto_region 1 with(fail)
 have hbx:=heap_alloc_new w (.cells (recC R A5 c5 A6 c6) 38)
 have hB:=below_alloc (RowKit.Below.refl w.heap.size w) (.cells (recC R A5 c5 A6 c6) 38)
 generalize w.alloc (.cells (recC R A5 c5 A6 c6) 38)=w1 at hbx hB ⊢
 have HBX:=ak hbx
 have HW0:=ak h0
 have HL:=ak hl
 have HN:=ak hn
 have H6:=ak h6
 have HB:=ak hB
 have HPUT:=ak hput
 have HBD:=ak hbd
 clear h0 hl hn h6 hB hput hbd
 simp only[recC] at hbx
 have x0:=bq hbx 0 (.int .i64 R.f0)
 have x1:=bq hbx 1 (.string R.f1)
 have x2:=bq hbx 2 (.int .i64 R.f2)
 have x3:=bq hbx 3 (.int .i64 R.f3)
 have x4:=bq hbx 4 (.int .i64 R.f4)
 have x5:=bq hbx 5 (.slice A5 R.f5.length c5)
 have x6:=bq hbx 6 (.slice A6 R.f6.length c6)
 clear hbx
 obtain⟨b,hb⟩:∃b,rightM R=b:=⟨_,rfl⟩
 have HR:=ak (show Calls Tryz.prog 53 #[.agg #[.int .i64 R.f0,.string R.f1,.int .i64 R.f2,.int .i64 R.f3,.int .i64 R.f4,.slice A5 R.f5.length c5,.slice A6 R.f6.length c6]] w1 fun e w'=>e=.returned (.bool b)∧RowKit.Below w1.heap.size w1 w' from by
  have h:=right_calls R A5 A6 c5 c6 w1 HW0.out (fun W hW=>Kd.C_below HL.out (HB.out.trans (hW.mono HB.out.size))) HN.out
  rw[hb] at h
  exact h)
 cases b with
 | false=>
  go_wp2_with (go_at_call 53;(with_reducible refine HR.out.mono ?_);rintro e w2 ⟨rfl,hb2⟩;have HB2:=ak hb2;clear hb2)
  go_ret
  rw[HPUT.out,hb,if_neg (by decide)]
  exact⟨_,rfl,Kd.R_nil _ _ _ _ _,HB.out.trans (HB2.out.mono HB.out.size)⟩
 | true=>
  have HBO:=ak (HBD.out hb)
  go_upto_region 3 with(go_at_call 53;(with_reducible refine HR.out.mono ?_);rintro e w2 ⟨rfl,hb2⟩;have HB2:=ak (HB.out.trans (hb2.mono HB.out.size));have hrow:w2.heap[w.heap.size]? =some (.cells (recC R A5 c5 A6 c6) 38 (0,0)):=(hb2.block _ (blk_lt HBX.out)).trans HBX.out;clear hb2)
  have HROW:=ak hrow
  simp only[recC] at hrow
  clear x0 x1 x2 x3 x4 x5 x6
  have x0:=bq hrow 0 (.int .i64 R.f0)
  have x1:=bq hrow 1 (.string R.f1)
  have x2:=bq hrow 2 (.int .i64 R.f2)
  have x3:=bq hrow 3 (.int .i64 R.f3)
  have x4:=bq hrow 4 (.int .i64 R.f4)
  have x5:=bq hrow 5 (.slice A5 R.f5.length c5)
  have x6:=bq hrow 6 (.slice A6 R.f6.length c6)
  have hlt:w.heap.size < w2.heap.size:=blk_lt hrow
  clear hrow
  have hlt1:w.heap.size < w2.heap.size+1:=by omega
  have hlt2:w.heap.size < w2.heap.size+2:=by omega
  have hlt3:w.heap.size < w2.heap.size+1+1:=by omega
  refine Code.wp_mono (Q:=Norm fun a' W=>∃sb xb bb:Nat,a'={tmps:=#[.agg (recC R A5 c5 A6 c6),.pointer (some ⟨w.heap.size,0,none⟩),.slice none 0 0,.pointer (some ⟨xb,0,none⟩),.pointer (some ⟨bb,0,none⟩),.agg #[.int .i64 R.f0,.string R.f1,.int .i64 R.f2,.int .i64 R.f3,.int .i64 R.f4,.slice A5 R.f5.length c5,.slice A6 R.f6.length c6],.bool true,.bool false,.agg #[.int .i64 R.f0,.string R.f1,.int .i64 R.f2,.int .i64 R.f3,.int .i64 R.f4,.slice A5 R.f5.length c5,.slice A6 R.f6.length c6],.pointer (some ⟨w.heap.size,0,none⟩),.int .i64 R.f0,.int .u8 (IntKind.u8.wrap R.f0),.slice (some ⟨sb,0,none⟩) 1 1,undef,undef,undef,undef,undef,undef,undef],defers:=[]}∧W.heap[sb]? =some (.cells #[.int .u8 (IntKind.u8.wrap R.f0)] 5 (0,0))∧W.heap[xb]? =some (.cells #[.int .i64 R.f0,.string R.f1,.int .i64 R.f2,.int .i64 R.f3,.int .i64 R.f4,.slice A5 R.f5.length c5,.slice A6 R.f6.length c6] 119 (0,0))∧W.heap[bb]? =some (.cells #[.slice (some ⟨sb,0,none⟩) 1 1] 120 (0,0))∧RowKit.Below w2.heap.size w2 W∧w2.heap.size≤sb∧w2.heap.size≤xb∧w2.heap.size≤bb) (Norm.elim ?mono) ?reg
  case reg=>
   go_region_law (fail)
   all_goals
    try simp only[Act.put,List.getElem_toArray,List.getElem_cons_succ,List.getElem_cons_zero,zq1,zq2,zq3]
    refine Norm.intro ⟨_,_,_,rfl,?_,?_,?_,(three_new w2 _ _ _).2.2.2,?_,?_,?_⟩
    ·first | with_reducible exact(three_new w2 _ _ _).1 | with_reducible exact(three_new w2 _ _ _).2.1 | with_reducible exact(three_new w2 _ _ _).2.2.1
    ·first | with_reducible exact(three_new w2 _ _ _).1 | with_reducible exact(three_new w2 _ _ _).2.1 | with_reducible exact(three_new w2 _ _ _).2.2.1
    ·first | with_reducible exact(three_new w2 _ _ _).1 | with_reducible exact(three_new w2 _ _ _).2.1 | with_reducible exact(three_new w2 _ _ _).2.2.1
    ·omega
    ·omega
    ·omega
  case mono=>
   rintro a' w3 ⟨sb,xb,bb,rfl,hs3,hx3,hb3,hB3,l1,l2,l3⟩
   have hkk:=isKind_cases HBO.out.1
   have hwr:IntKind.u8.wrap R.f0=R.f0:=by rw[IntKind.wrap_u8];omega
   rw[hwr] at hs3
   have hle:w.heap.size≤w2.heap.size:=HB2.out.size
   have HP3:=ak (show PutS w w3 xb bb (recC R A5 c5 A6 c6) (.slice (some ⟨sb,0,none⟩) 1 1) [R.f0] from⟨HB2.out.trans (hB3.mono HB2.out.size),hx3,hb3,one_own hs3 (Nat.le_trans hle l1),Nat.le_trans hle l2,Nat.le_trans hle l3⟩)
   have hrow3:w3.heap[w.heap.size]? =some (.cells (recC R A5 c5 A6 c6) 38 (0,0)):=(hB3.block _ (blk_lt HROW.out)).trans HROW.out
   have HROW3:=ak hrow3
   have HWR:=ak hwr
   clear hs3 hx3 hb3 hB3 l1 l2 l3 hle hrow3 x0 x1 x2 x3 x4 x5 x6 hlt hlt1 hlt2 hlt3 hwr
   have y0:=bq HROW3.out 0 (.int .i64 R.f0)
   have hlt:w.heap.size < w3.heap.size:=blk_lt HROW3.out
   rcases hkk with h | h | h | h
   ·have hkv:kindV R.f0=.agg #[.func (.func 82) #[] #[],.func (.func 83) #[] #[],.func (.func 84) #[] #[],.func (.func 85) #[] #[]]:=by rw[h];rfl
    have HKV:=ak hkv
    have HH:=ak h
    clear hkv h
    have hfd:∀W,(Instr.field 126 (.agg #[.func (.func 82) #[] #[],.func (.func 83) #[] #[],.func (.func 84) #[] #[],.func (.func 85) #[] #[]]) 2).run Tryz.prog W=.ok (.func (.func 84) #[] #[]) W:=fun W=>by kernel_rfl
    go_upto_region 4 with(fail)
    go_region_with (first
     | (go_at_call 84;(have hbo:=HBO.out;have h:=HH.out;(with_reducible refine(pieceTo_calls HP4.out (by simp) (by omega) H6.out).mono ?_));rintro e w5 ⟨rfl,v5,hp5⟩;obtain⟨A5',n5,c5',hv5⟩:∃A n c,v5=.slice A n c:=(by obtain⟨A,c,h⟩:=Kd.R_slice hp5.own;exact⟨A,_,c,h⟩);rw[hv5] at hp5;have z0:=hp5.x0;have HP5:=ak hp5;clear hp5 hv5)
     | (go_at_call 54;(with_reducible refine(kinds_calls _).mono ?_);rintro e w4 ⟨mb,rfl,hm,hb⟩;have HP4:=ak ((HP3.out.drewN 1).new hb);have y0':w4.cell? ⟨w.heap.size,0,none⟩=some (.int .i64 R.f0):=(blk_cell ((hb.block _ (by first | exact hlt | (simp;omega))).trans (blk_drew HROW3.out)) 0).trans rfl;have hlk:=KM.look1 hm R.f0 HW0.out HBO.out.1;rw[HKV.out] at hlk;clear hm hb))
    all_goals
     try go_wp2
     go_ret
     rw[HPUT.out,hb,if_pos rfl]
     have hp:=HP5.out
     have h:=HH.out
     have ho:=hp.own
     simp only[toM,if_pos h,List.cons_append,List.nil_append,List.append_assoc]
     simp only[List.cons_append,List.nil_append,List.append_assoc] at ho
     exact⟨_,rfl,ho,hp.bel⟩
   ·have hkv:kindV R.f0=.agg #[.func (.func 86) #[] #[],.func (.func 87) #[] #[],.func (.func 88) #[] #[],.func (.func 89) #[] #[]]:=by rw[h];rfl
    have HKV:=ak hkv
    have HH:=ak h
    clear hkv h
    have hfd:∀W,(Instr.field 126 (.agg #[.func (.func 86) #[] #[],.func (.func 87) #[] #[],.func (.func 88) #[] #[],.func (.func 89) #[] #[]]) 2).run Tryz.prog W=.ok (.func (.func 88) #[] #[]) W:=fun W=>by kernel_rfl
    go_upto_region 4 with(fail)
    go_region_with (first
     | (go_at_call 88;(have hbo:=HBO.out;have h:=HH.out;(with_reducible refine(rootTo_calls HP4.out (by simp) (by omega) (by omega) HL.out).mono ?_));rintro e w5 ⟨rfl,v5,hp5⟩;obtain⟨A5',n5,c5',hv5⟩:∃A n c,v5=.slice A n c:=(by obtain⟨A,c,h⟩:=Kd.R_slice hp5.own;exact⟨A,_,c,h⟩);rw[hv5] at hp5;have z0:=hp5.x0;have HP5:=ak hp5;clear hp5 hv5)
     | (go_at_call 54;(with_reducible refine(kinds_calls _).mono ?_);rintro e w4 ⟨mb,rfl,hm,hb⟩;have HP4:=ak ((HP3.out.drewN 1).new hb);have y0':w4.cell? ⟨w.heap.size,0,none⟩=some (.int .i64 R.f0):=(blk_cell ((hb.block _ (by first | exact hlt | (simp;omega))).trans (blk_drew HROW3.out)) 0).trans rfl;have hlk:=KM.look1 hm R.f0 HW0.out HBO.out.1;rw[HKV.out] at hlk;clear hm hb))
    all_goals
     try go_wp2
     go_ret
     rw[HPUT.out,hb,if_pos rfl]
     have hp:=HP5.out
     have h:=HH.out
     have ho:=hp.own
     simp only[toM,if_neg (show ¬R.f0=1 by omega),if_pos h,List.cons_append,List.nil_append,List.append_assoc]
     simp only[List.cons_append,List.nil_append,List.append_assoc] at ho
     exact⟨_,rfl,ho,hp.bel⟩
   ·have hkv:kindV R.f0=.agg #[.func (.func 90) #[] #[],.func (.func 91) #[] #[],.func (.func 92) #[] #[],.func (.func 93) #[] #[]]:=by rw[h];rfl
    have HKV:=ak hkv
    have HH:=ak h
    clear hkv h
    have hfd:∀W,(Instr.field 126 (.agg #[.func (.func 90) #[] #[],.func (.func 91) #[] #[],.func (.func 92) #[] #[],.func (.func 93) #[] #[]]) 2).run Tryz.prog W=.ok (.func (.func 92) #[] #[]) W:=fun W=>by kernel_rfl
    go_upto_region 4 with(fail)
    go_region_with (first
     | (go_at_call 92;(have hbo:=HBO.out;have h:=HH.out;(with_reducible refine(inlineTo_calls HP4.out (by simp) (by omega) (by omega) H6.out).mono ?_));rintro e w5 ⟨rfl,v5,hp5⟩;obtain⟨A5',n5,c5',hv5⟩:∃A n c,v5=.slice A n c:=(by obtain⟨A,c,h⟩:=Kd.R_slice hp5.own;exact⟨A,_,c,h⟩);rw[hv5] at hp5;have z0:=hp5.x0;have HP5:=ak hp5;clear hp5 hv5)
     | (go_at_call 54;(with_reducible refine(kinds_calls _).mono ?_);rintro e w4 ⟨mb,rfl,hm,hb⟩;have HP4:=ak ((HP3.out.drewN 1).new hb);have y0':w4.cell? ⟨w.heap.size,0,none⟩=some (.int .i64 R.f0):=(blk_cell ((hb.block _ (by first | exact hlt | (simp;omega))).trans (blk_drew HROW3.out)) 0).trans rfl;have hlk:=KM.look1 hm R.f0 HW0.out HBO.out.1;rw[HKV.out] at hlk;clear hm hb))
    all_goals
     try go_wp2
     go_ret
     rw[HPUT.out,hb,if_pos rfl]
     have hp:=HP5.out
     have h:=HH.out
     have ho:=hp.own
     simp only[toM,if_neg (show ¬R.f0=1 by omega),if_neg (show ¬R.f0=2 by omega),if_pos h,List.cons_append,List.nil_append,List.append_assoc]
     simp only[List.cons_append,List.nil_append,List.append_assoc] at ho
     exact⟨_,rfl,ho,hp.bel⟩
   ·have hkv:kindV R.f0=.agg #[.func (.func 94) #[] #[],.func (.func 95) #[] #[],.func (.func 96) #[] #[],.func (.func 97) #[] #[]]:=by rw[h];rfl
    have HKV:=ak hkv
    have HH:=ak h
    clear hkv h
    have hfd:∀W,(Instr.field 126 (.agg #[.func (.func 94) #[] #[],.func (.func 95) #[] #[],.func (.func 96) #[] #[],.func (.func 97) #[] #[]]) 2).run Tryz.prog W=.ok (.func (.func 96) #[] #[]) W:=fun W=>by kernel_rfl
    go_upto_region 4 with(fail)
    go_region_with (first
     | (go_at_call 96;(have hbo:=HBO.out;have h:=HH.out;(with_reducible refine(tombTo_calls HP4.out (by simp) (by omega)).mono ?_));rintro e w5 ⟨rfl,v5,hp5⟩;obtain⟨A5',n5,c5',hv5⟩:∃A n c,v5=.slice A n c:=(by obtain⟨A,c,h⟩:=Kd.R_slice hp5.own;exact⟨A,_,c,h⟩);rw[hv5] at hp5;have z0:=hp5.x0;have HP5:=ak hp5;clear hp5 hv5)
     | (go_at_call 54;(with_reducible refine(kinds_calls _).mono ?_);rintro e w4 ⟨mb,rfl,hm,hb⟩;have HP4:=ak ((HP3.out.drewN 1).new hb);have y0':w4.cell? ⟨w.heap.size,0,none⟩=some (.int .i64 R.f0):=(blk_cell ((hb.block _ (by first | exact hlt | (simp;omega))).trans (blk_drew HROW3.out)) 0).trans rfl;have hlk:=KM.look1 hm R.f0 HW0.out HBO.out.1;rw[HKV.out] at hlk;clear hm hb))
    all_goals
     try go_wp2
     go_ret
     rw[HPUT.out,hb,if_pos rfl]
     have hp:=HP5.out
     have h:=HH.out
     have ho:=hp.own
     simp only[toM,if_neg (show ¬R.f0=1 by omega),if_neg (show ¬R.f0=2 by omega),if_neg (show ¬R.f0=3 by omega),List.cons_append,List.nil_append,List.append_assoc]
     simp only[List.cons_append,List.nil_append,List.append_assoc] at ho
     exact⟨_,rfl,ho,hp.bel⟩
end Rc
end
section
namespace Rc
open Go.Maps Fr Ext Pt Dk Lw

def zeroR:Re:=⟨0,⟨#[]⟩,0,0,0,[],[]⟩
def ofM (R:Re) (bs:List Int):Bool×Re:=if R.f0=1 then pieceOfM R bs else if R.f0=2 then rootOfM R bs else if R.f0=3 then inlineOfM R bs else(true,tombOfM R bs)
def getM:List Int→Re×Bool
  | []=>(zeroR,false)
  | n::y=>if isKind n=true then(if(ofM {zeroR with f0:=n} y).1=true then(if rightM (ofM {zeroR with f0:=n} y).2=true then((ofM {zeroR with f0:=n} y).2,true) else(zeroR,false)) else(zeroR,false)) else(zeroR,false)
theorem rootLoop_length:∀(k:Nat) (bs:List Int) (ls:List Lo),(rootLoop k bs ls).2.1.length≤ls.length+k:=by
  intro k
  induction k with
  | zero=>intro bs ls;exact Nat.le_refl _
  | succ k ih=>
    intro bs ls
    rw[rootLoop_succ]
    split
    · exact Nat.le_add_right _ _
    · refine Nat.le_trans (ih _ _) ?_
      simp only[List.length_append,List.length_singleton]
      omega
def Got (w0 w:World) (e:Ending) (R:Re) (ok:Bool):Prop:=
  ∃A5 c5 A6 c6,e=.returned (.tuple #[.agg (recC R A5 c5 A6 c6),.bool ok])∧Kd.R k57 57 w w0.heap.size (fun _=>True) (.slice A5 R.f5.length c5) R.f5∧Kd.R (Kd.int .u8) 5 w w0.heap.size (fun _=>True) (.slice A6 R.f6.length c6) R.f6∧RowKit.Below w0.heap.size w0 w
theorem below_keeps {F:Nat→Prop} {w0 w w1:World} (h:RowKit.Below w0.heap.size w0 w) (hk:Keeps F w w1) (hF:∀k,F k→w0.heap.size≤k):RowKit.Below w0.heap.size w0 w1:=
  ⟨hk.os.trans h.os,hk.tape.trans h.tape,hk.output.trans h.output,Nat.le_trans h.size hk.size,fun k hlt=>(hk.block k (Nat.lt_of_lt_of_le hlt h.size) (fun e=>Nat.not_lt.2 (hF k e) hlt)).trans (h.block k hlt)⟩
theorem two_new (w:World) (o1 o2:Obj):((w.alloc o1).alloc o2).drew.heap[w.heap.size]? =some o1∧((w.alloc o1).alloc o2).drew.heap[w.heap.size+1]? =some o2∧RowKit.Below w.heap.size w ((w.alloc o1).alloc o2).drew:=by
  have s1:(w.alloc o1).heap.size=w.heap.size+1:=by simp
  refine⟨?_,?_,?_⟩
  · exact(heap_alloc_old _ _ (by rw[s1];omega)).trans (heap_alloc_new w o1)
  · have h:=heap_alloc_new (w.alloc o1) o2
    rw[s1] at h
    exact h
  · exact(below_alloc (below_alloc (RowKit.Below.refl _ _) o1) o2).drew
theorem cell_lt {w:World} {a:Addr} {v:Value} (h:w.cell? a=some v):a.block < w.heap.size:=by
  rcases Nat.lt_or_ge a.block w.heap.size with h1 | h1
  · exact h1
  · have h2:w.heap[a.block]? =none:=Array.getElem?_eq_none h1
    simp [World.cell?,h2] at h
theorem Get_nil (A:Option Addr) (c:Nat) (w:World):Calls Tryz.prog 75 #[.slice A 0 c] w fun e w'=>Got w w' e zeroR false:=by
  go_enter Tryz.func75,Tryz.ntmps75
  go_wp2
  refine bodyPost_ret (results_ct rfl _ _ w.heap.size 38 (recC zeroR none 0 none 0) (0,0) _ rfl (heap_alloc_new w _) Tryz.underlying38 rfl (by kernel_rfl)) rfl ?_
  exact⟨none,0,none,0,rfl,Kd.R_nil _ _ _ _ _,Kd.R_nil _ _ _ _ _,below_alloc (RowKit.Below.refl _ _) _⟩
theorem Get_kind (ad:Addr) (c:Nat) (n:Int) (y:List Int) (w:World) (hc:(n::y).length≤c) (hl:(n::y).length≤1000000000) (hB:IsBytes (n::y)) (hr:Kd.C (Kd.int .u8) w (some ad) (n::y).length (n::y)) (hk:isKind n=true)
    (ka kb kc kd:Nat) (hkv:kindV n=.agg #[.func (.func ka) #[] #[],.func (.func kb) #[] #[],.func (.func kc) #[] #[],.func (.func kd) #[] #[]])
    (rd_:∀args W,(callFunc kd args).run Tryz.prog W=.ok (.enter kd args) W)
    (hf0:(ofM {zeroR with f0:=n} y).2.f0=n) (hf5:(ofM {zeroR with f0:=n} y).2.f5.length≤1000000000)
    (hof:∀rb bb W,GetB w W bb y→W.heap[rb]? =some (.cells (recC {zeroR with f0:=n} none 0 none 0) 119 (0,0))→w.heap.size≤rb→Calls Tryz.prog kd #[.pointer (some ⟨rb,0,none⟩),.pointer (some ⟨bb,0,none⟩)] W fun e w'=>e=.returned (.bool (ofM {zeroR with f0:=n} y).1)∧∃A5 c5 A6 c6,w'.heap[rb]? =some (.cells (recC (ofM {zeroR with f0:=n} y).2 A5 c5 A6 c6) 119 (0,0))∧Kd.R k57 57 w' w.heap.size (fun _=>True) (.slice A5 (ofM {zeroR with f0:=n} y).2.f5.length c5) (ofM {zeroR with f0:=n} y).2.f5∧Kd.R (Kd.int .u8) 5 w' w.heap.size (fun _=>True) (.slice A6 (ofM {zeroR with f0:=n} y).2.f6.length c6) (ofM {zeroR with f0:=n} y).2.f6∧Keeps (fun k=>k=bb∨k=rb) W w'):
    Calls Tryz.prog 75 #[.slice (some ad) (n::y).length c] w fun e w'=>Got w w' e (getM (n::y)).1 (getM (n::y)).2:=by
  obtain⟨ad',e1,y0⟩:=Kd.at_int hr 0 (by omega) (by simp)
  cases e1
  have y0:w.cell? ad=some (.int .u8 n):=by simpa [rd,Addr.add] using y0
  have hn:=hB n (by simp)
  have HB:=ak hB
  have HR:=ak hr
  have HL:=ak hl
  have HC:=ak hc
  have hL0:(((n::y).length:Int)==0)=false:=beq_eq_false_iff_ne.2 (by simp only[List.length_cons];omega)
  have hL1:(0:Int) < ((n::y).length:Int):=by simp only[List.length_cons];omega
  obtain⟨L,hL⟩:∃L,(n::y).length=L:=⟨_,rfl⟩
  rw[hL] at hL0 hL1 ⊢
  have HLL:=ak hL
  have hn64:wrap64 n=n:=by unfold wrap64;omega
  have hw64:IntKind.i64.wrap n=n:=(i64_w n).trans hn64
  have hmin:IntKind.i64.min≤n:=Int.le_trans (by decide:IntKind.i64.min≤0) hn.1
  have HW0:=ak (show(Lit.int .i64 n).wf=true by simp [Lit.wf];exact⟨hmin,by omega⟩)
  have HKV:=ak hkv
  have HIK:=ak hk
  have HOF:=ak @hof
  have HF0:=ak hf0
  have HF5:=ak hf5
  clear hB hr hl hc hL hkv hk hof hf0 hf5
  go_enter Tryz.func75,Tryz.ntmps75
  go_upto_region 3 with(fail)
  have hcell:=heap_alloc_new w (.cells (recC zeroR none 0 none 0) 38)
  have hB1:=below_alloc (RowKit.Below.refl w.heap.size w) (.cells (recC zeroR none 0 none 0) 38)
  have y1:=pw_cell_below hB1 y0
  simp only[recC,zeroR,List.length_nil] at hcell hB1 y1
  generalize w.alloc (.cells #[.int .i64 0,.string ⟨#[]⟩,.int .i64 0,.int .i64 0,.int .i64 0,.slice none 0 0,.slice none 0 0] 38)=w1 at hcell hB1 y1 ⊢
  have HCELL:=ak hcell
  have HB1:=ak hB1
  have HY1:=ak y1
  have had:=cell_lt y1
  clear y0 hcell hB1
  obtain⟨rc,hrc⟩:∃rc,w.heap.size=rc:=⟨_,rfl⟩
  rw[hrc] at HCELL ⊢
  have HRC:=ak hrc
  clear hrc
  refine Code.wp_mono (Q:=Norm fun a' W=>∃tb:Nat,(∃mb:Nat,a'={tmps:=#[.slice (some ad) L c,undef,.pointer (some ⟨rc,0,none⟩),.bool false,.pointer (some ⟨tb,0,none⟩),.bool true,undef,undef,.slice (some ad) L c,.int .i64 L,.bool false,undef,.tuple #[.agg #[.func (.func ka) #[] #[],.func (.func kb) #[] #[],.func (.func kc) #[] #[],.func (.func kd) #[] #[]],.bool true],.map (some mb),.slice (some ad) L c,.pointer (some ad),.int .u8 n,.int .i64 n,.tuple #[.agg #[.func (.func ka) #[] #[],.func (.func kb) #[] #[],.func (.func kc) #[] #[],.func (.func kd) #[] #[]],.bool true],.agg #[.func (.func ka) #[] #[],.func (.func kb) #[] #[],.func (.func kc) #[] #[],.func (.func kd) #[] #[]],.bool true,undef,undef,undef,undef,undef,undef,undef,undef,undef,undef,undef,undef,undef,undef,undef,undef,undef,undef,undef,undef,undef,undef],defers:=[]})∧W.heap[tb]? =some (.cells #[.func (.func ka) #[] #[],.func (.func kb) #[] #[],.func (.func kc) #[] #[],.func (.func kd) #[] #[]] 126 (0,0))∧RowKit.Below w1.heap.size w1 W) (Norm.elim ?mono) ?reg
  case reg=>
    go_region_with (go_at_call 54;(with_reducible refine(kinds_calls _).mono ?_);rintro e w2 ⟨mb,rfl,hm,hb⟩;have had2:=cell_lt (pw_cell_below hb (by first | exact y1 | exact pw_cell_below (below_alloc (RowKit.Below.refl w1.heap.size w1) _) y1));have z0:w2.cell? ad=some (.int .u8 n):=pw_cell_below hb (by first | exact y1 | exact pw_cell_below (below_alloc (RowKit.Below.refl w1.heap.size w1) _) y1);have hlk:=KM.look hm n HW0.out;have hlk2:=fun o=>KM.look (hm.below (below_alloc (RowKit.Below.refl w2.heap.size w2) o)) n HW0.out;rw[HKV.out,HIK.out] at hlk;rw[HKV.out,HIK.out] at hlk2;(try (have hrow3:w2.heap[w1.heap.size]? =some (.cells #[.nilFunc,.nilFunc,.nilFunc,.nilFunc] 126 (0,0)):=(hb.block _ (by simp)).trans (blk_drew (heap_alloc_new w1 _));have q0:w2.cell? ⟨w1.heap.size,0,none⟩=some .nilFunc:=(blk_cell hrow3 0).trans rfl;have q1:w2.cell? ⟨w1.heap.size,1,none⟩=some .nilFunc:=(blk_cell hrow3 1).trans rfl;have q2:w2.cell? ⟨w1.heap.size,2,none⟩=some .nilFunc:=(blk_cell hrow3 2).trans rfl;have q3:w2.cell? ⟨w1.heap.size,3,none⟩=some .nilFunc:=(blk_cell hrow3 3).trans rfl;have f0:=blk_frozen hrow3 0;have f1:=blk_frozen hrow3 1;have f2:=blk_frozen hrow3 2;have f3:=blk_frozen hrow3 3));clear hm)
    all_goals
      have hBw2:RowKit.Below w1.heap.size w1 w2:=by
        first
          | (have hr3:=hrow3
             exact((below_alloc (RowKit.Below.refl w1.heap.size w1) _).drew).trans (hb.mono (below_alloc (RowKit.Below.refl w1.heap.size w1) _).size))
          | exact((RowKit.Below.refl w1.heap.size w1).drew).trans hb
      try simp only[-existsAndEq,Act.put,List.getElem_toArray,List.getElem_cons_succ,List.getElem_cons_zero,zq1,zq2,zq3]
    all_goals first
      | (have hr3:=hrow3;skip)
      | (refine Norm.intro ⟨w2.heap.size,⟨mb,?_⟩,?_,?_⟩
         · rfl
         · exact heap_alloc_new w2 _
         · exact below_alloc hBw2 _)
    all_goals
      refine Norm.intro ⟨w1.heap.size,⟨mb,?_⟩,?_,?_⟩
      · rfl
      · exact blk_put (blk_put (blk_put (blk_put hrow3 0 _ rfl) 1 _ rfl) 2 _ rfl) 3 _ rfl
      · exact(((hBw2.setCell (p:=⟨w1.heap.size,0,none⟩) (Nat.le_refl _) _).setCell (p:=⟨w1.heap.size,1,none⟩) (Nat.le_refl _) _).setCell (p:=⟨w1.heap.size,2,none⟩) (Nat.le_refl _) _).setCell (p:=⟨w1.heap.size,3,none⟩) (Nat.le_refl _) _
  case mono=>
    rintro a' w2 ⟨tb,⟨mb,rfl⟩,htb,hB2⟩
    have HTB:=ak htb
    have HB2:=ak (HB1.out.trans (hB2.mono HB1.out.size))
    have hcell2:=(hB2.block _ (blk_lt HCELL.out)).trans HCELL.out
    have HCELL2:=ak hcell2
    have z1:w2.cell? ad=some (.int .u8 n):=pw_cell_below hB2 HY1.out
    have had2:=cell_lt z1
    clear y1 had htb hB2 hcell2
    obtain⟨inf,hinf,hisz⟩:∃i0,Tryz.prog.info? 5=some i0∧i0.size=1:=by
      obtain⟨i0,h,he⟩:=Option.map_eq_some_iff.1 info5
      simp only[Prod.mk.injEq] at he
      exact⟨i0,h,he.2.1⟩
    obtain⟨A',s1,s2,s3⟩:=print_drop_of (P:=Tryz.prog) (Value.int .u8) (0:Int) 35 5 .i64 Tryz.underlying35 hinf hisz (some ad) c (n::y) 1 (by decide) (by simp only[List.length_cons];omega) HC.out
    have hdr:(n::y).drop (1:Int).toNat=y:=rfl
    rw[hdr] at s2 s3
    have s1':∀W:World,(Instr.slice 35 (.slice (some ad) L c) (some (.int .i64 1)) none none).run Tryz.prog W=.ok (.slice A' y.length (c - 1)) W:=fun W=>by have h:=s1 W;rw[hdr,HLL.out] at h;exact h
    have HCY:=ak (C_of_ints (s2 w (ints_of_C HR.out)))
    have HSY:=ak (show y.length≤c - 1 from s3)
    clear s1 s2 s3 hdr hinf hisz
    have hL2:0 < L:=by omega
    have hal1:ad.block < w2.heap.size+1:=by omega
    have hal2:ad.block < w2.heap.size+1+1:=by omega
    go_upto_region 4 with(fail)
    refine Code.wp_mono (Q:=Norm fun a' W=>∃xb bb:Nat,a'={tmps:=#[.slice (some ad) L c,undef,.pointer (some ⟨rc,0,none⟩),.bool false,.pointer (some ⟨tb,0,none⟩),.bool true,.pointer (some ⟨xb,0,none⟩),.pointer (some ⟨bb,0,none⟩),.slice (some ad) L c,.int .i64 L,.bool false,undef,.tuple #[.agg #[.func (.func ka) #[] #[],.func (.func kb) #[] #[],.func (.func kc) #[] #[],.func (.func kd) #[] #[]],.bool true],.map (some mb),.slice (some ad) L c,.pointer (some ad),.int .u8 n,.int .i64 n,.tuple #[.agg #[.func (.func ka) #[] #[],.func (.func kb) #[] #[],.func (.func kc) #[] #[],.func (.func kd) #[] #[]],.bool true],.agg #[.func (.func ka) #[] #[],.func (.func kb) #[] #[],.func (.func kc) #[] #[],.func (.func kd) #[] #[]],.bool true,.slice (some ad) L c,.pointer (some ad),.int .u8 n,.int .i64 n,.agg #[.int .i64 n,.string ⟨#[]⟩,.int .i64 0,.int .i64 0,.int .i64 0,.slice none 0 0,.slice none 0 0],.slice (some ad) L c,.slice A' y.length (c - 1),undef,undef,undef,undef,undef,undef,undef,undef,undef,undef,undef,undef,undef,undef,undef],defers:=[]}∧W.heap[xb]? =some (.cells #[.int .i64 n,.string ⟨#[]⟩,.int .i64 0,.int .i64 0,.int .i64 0,.slice none 0 0,.slice none 0 0] 119 (0,0))∧W.heap[bb]? =some (.cells #[.slice A' y.length (c - 1)] 120 (0,0))∧RowKit.Below w2.heap.size w2 W∧w2.heap.size≤xb∧w2.heap.size≤bb) (Norm.elim ?mono4) ?reg4
    case reg4=>
      go_region_law (fail)
      all_goals
        refine Norm.intro ⟨_,_,rfl,?_,?_,(two_new w2 _ _).2.2,?_,?_⟩
        · first | with_reducible exact(two_new w2 _ _).1 | with_reducible exact(two_new w2 _ _).2.1
        · first | with_reducible exact(two_new w2 _ _).1 | with_reducible exact(two_new w2 _ _).2.1
        · omega
        · omega
    case mono4=>
      rintro a' w3 ⟨xb,bb,rfl,hx3,hb3,hB3,l1,l2⟩
      have hle2:w.heap.size≤w2.heap.size:=HB2.out.size
      have hG3:GetB w w3 bb y:=⟨HB2.out.trans (hB3.mono hle2),Nat.le_trans hle2 l2,A',c - 1,hb3,HSY.out,HCY.out⟩
      have HOF3:=ak (HOF.out xb bb w3 hG3 hx3 (Nat.le_trans hle2 l1))
      have htb3:=(hB3.block _ (blk_lt HTB.out)).trans HTB.out
      have hcl3:=(hB3.block _ (blk_lt HCELL2.out)).trans HCELL2.out
      have hne1:rc≠bb:=by have:=blk_lt HCELL2.out;omega
      have hne2:rc≠xb:=by have:=blk_lt HCELL2.out;omega
      have t3:=bq htb3 3 (.func (.func kd) #[] #[])
      have HCL3:=ak hcl3
      have HNE1:=ak hne1
      have HNE2:=ak hne2
      have HB3:=ak hG3.bel
      have HLE:=ak (show ∀q,(q=bb∨q=xb)→w.heap.size≤q from fun q e=>by rcases e with e | e <;> omega)
      have hgm:getM (n::y)=if(ofM {zeroR with f0:=n} y).1=true then(if rightM (ofM {zeroR with f0:=n} y).2=true then((ofM {zeroR with f0:=n} y).2,true) else(zeroR,false)) else(zeroR,false):=by
        show(if isKind n=true then _ else _)=_
        rw[if_pos HIK.out]
      have HGM:=ak hgm
      clear hgm hle2 hG3 htb3 hcl3 hne1 hne2 hx3 hb3 hB3 z1 had2 hal1 hal2 s1' HOF
      generalize ofM {zeroR with f0:=n} y=o at HOF3 HGM HF0 HF5
      obtain⟨ob,OR⟩:=o
      dsimp only at HOF3 HGM HF0 HF5
      cases ob with
      | false=>
        go_wp2_with ((with_reducible refine HOF3.out.mono ?_);rintro e w4 ⟨rfl,A5,c5,A6,c6,hr4,hO5,hO6,hk4⟩;have hcl4:=hk4.obj HCL3.out (fun e=>e.elim HNE1.out HNE2.out);have HCL4:=ak hcl4;have HK4:=ak hk4;have k0:=bq hcl4 0 (.int .i64 0);have g0:=blk_frozen hcl4 0;have k1:=bq hcl4 1 (.string ⟨#[]⟩);have g1:=blk_frozen hcl4 1;have k2:=bq hcl4 2 (.int .i64 0);have g2:=blk_frozen hcl4 2;have k3:=bq hcl4 3 (.int .i64 0);have g3:=blk_frozen hcl4 3;have k4:=bq hcl4 4 (.int .i64 0);have g4:=blk_frozen hcl4 4;have k5:=bq hcl4 5 (.slice none 0 0);have g5:=blk_frozen hcl4 5;have k6:=bq hcl4 6 (.slice none 0 0);have g6:=blk_frozen hcl4 6;clear hr4 hO5 hO6 hk4 hcl4)
        refine bodyPost_ret (results_ct rfl _ _ rc 38 (recC zeroR none 0 none 0) (0,0) _ rfl (blk_put (blk_put (blk_put (blk_put (blk_put (blk_put (blk_put HCL4.out 0 _ rfl) 1 _ rfl) 2 _ rfl) 3 _ rfl) 4 _ rfl) 5 _ rfl) 6 _ rfl) Tryz.underlying38 rfl (by kernel_rfl)) rfl ?_
        rw[HGM.out,if_neg (by decide)]
        exact⟨none,0,none,0,rfl,Kd.R_nil _ _ _ _ _,Kd.R_nil _ _ _ _ _,((((((((below_keeps HB3.out HK4.out HLE.out).setCell (p:=⟨rc,0,none⟩) (Nat.le_of_eq HRC.out) _).setCell (p:=⟨rc,1,none⟩) (Nat.le_of_eq HRC.out) _).setCell (p:=⟨rc,2,none⟩) (Nat.le_of_eq HRC.out) _).setCell (p:=⟨rc,3,none⟩) (Nat.le_of_eq HRC.out) _).setCell (p:=⟨rc,4,none⟩) (Nat.le_of_eq HRC.out) _).setCell (p:=⟨rc,5,none⟩) (Nat.le_of_eq HRC.out) _).setCell (p:=⟨rc,6,none⟩) (Nat.le_of_eq HRC.out) _)⟩
      | true=>
        obtain⟨rm,hrm⟩:∃b,rightM OR=b:=⟨_,rfl⟩
        have HRM:=ak hrm
        clear hrm
        cases rm with
        | false=>
          go_wp2_with (first
            | (go_at_call 53;(with_reducible refine(right_at A6 c6 HF0.out HW0.out HF5.out HO5.out HRM.out).mono ?_);rintro e w5 ⟨rfl,hb5⟩;have hcl5:=(hb5.block _ (blk_lt HCL4.out)).trans HCL4.out;have hr5:=(hb5.block _ (blk_lt HR4.out)).trans HR4.out;have HCL5:=ak hcl5;have HB5:=ak (HB4.out.trans (hb5.mono HB4.out.size));have HO55:=ak (Kd.R_below HO5.out hb5);have HO65:=ak (Kd.R_below HO6.out hb5);have n0:=bq hr5 0 (.int .i64 OR.f0);have n1:=bq hr5 1 (.string OR.f1);have n2:=bq hr5 2 (.int .i64 OR.f2);have n3:=bq hr5 3 (.int .i64 OR.f3);have n4:=bq hr5 4 (.int .i64 OR.f4);have n5:=bq hr5 5 (.slice A5 OR.f5.length c5);have n6:=bq hr5 6 (.slice A6 OR.f6.length c6);have k0:=bq hcl5 0 (.int .i64 0);have g0:=blk_frozen hcl5 0;have k1:=bq hcl5 1 (.string ⟨#[]⟩);have g1:=blk_frozen hcl5 1;have k2:=bq hcl5 2 (.int .i64 0);have g2:=blk_frozen hcl5 2;have k3:=bq hcl5 3 (.int .i64 0);have g3:=blk_frozen hcl5 3;have k4:=bq hcl5 4 (.int .i64 0);have g4:=blk_frozen hcl5 4;have k5:=bq hcl5 5 (.slice none 0 0);have g5:=blk_frozen hcl5 5;have k6:=bq hcl5 6 (.slice none 0 0);have g6:=blk_frozen hcl5 6;clear hcl5 hr5 hb5)
            | ((with_reducible refine HOF3.out.mono ?_);rintro e w4 ⟨rfl,A5,c5,A6,c6,hr4,hO5,hO6,hk4⟩;have hcl4:=hk4.obj HCL3.out (fun e=>e.elim HNE1.out HNE2.out);have HCL4:=ak hcl4;have HR4:=ak hr4;have HO5:=ak hO5;have HO6:=ak hO6;have HB4:=ak (below_keeps HB3.out hk4 HLE.out);have m0:=bq hr4 0 (.int .i64 OR.f0);have m1:=bq hr4 1 (.string OR.f1);have m2:=bq hr4 2 (.int .i64 OR.f2);have m3:=bq hr4 3 (.int .i64 OR.f3);have m4:=bq hr4 4 (.int .i64 OR.f4);have m5:=bq hr4 5 (.slice A5 OR.f5.length c5);have m6:=bq hr4 6 (.slice A6 OR.f6.length c6);clear hr4 hO5 hO6 hk4 hcl4))
          refine bodyPost_ret (results_ct rfl _ _ rc 38 (recC zeroR none 0 none 0) (0,0) _ rfl (blk_put (blk_put (blk_put (blk_put (blk_put (blk_put (blk_put HCL5.out 0 _ rfl) 1 _ rfl) 2 _ rfl) 3 _ rfl) 4 _ rfl) 5 _ rfl) 6 _ rfl) Tryz.underlying38 rfl (by kernel_rfl)) rfl ?_
          rw[show getM (n::y)=(zeroR,false) by rw[HGM.out];simp [HRM.out]]
          exact⟨none,0,none,0,rfl,Kd.R_nil _ _ _ _ _,Kd.R_nil _ _ _ _ _,(((((((HB5.out.setCell (p:=⟨rc,0,none⟩) (Nat.le_of_eq HRC.out) _).setCell (p:=⟨rc,1,none⟩) (Nat.le_of_eq HRC.out) _).setCell (p:=⟨rc,2,none⟩) (Nat.le_of_eq HRC.out) _).setCell (p:=⟨rc,3,none⟩) (Nat.le_of_eq HRC.out) _).setCell (p:=⟨rc,4,none⟩) (Nat.le_of_eq HRC.out) _).setCell (p:=⟨rc,5,none⟩) (Nat.le_of_eq HRC.out) _).setCell (p:=⟨rc,6,none⟩) (Nat.le_of_eq HRC.out) _)⟩
        | true=>
          go_wp2_with (first
            | (go_at_call 53;(with_reducible refine(right_at A6 c6 HF0.out HW0.out HF5.out HO5.out HRM.out).mono ?_);rintro e w5 ⟨rfl,hb5⟩;have hcl5:=(hb5.block _ (blk_lt HCL4.out)).trans HCL4.out;have hr5:=(hb5.block _ (blk_lt HR4.out)).trans HR4.out;have HCL5:=ak hcl5;have HB5:=ak (HB4.out.trans (hb5.mono HB4.out.size));have HO55:=ak (Kd.R_below HO5.out hb5);have HO65:=ak (Kd.R_below HO6.out hb5);have n0:=bq hr5 0 (.int .i64 OR.f0);have n1:=bq hr5 1 (.string OR.f1);have n2:=bq hr5 2 (.int .i64 OR.f2);have n3:=bq hr5 3 (.int .i64 OR.f3);have n4:=bq hr5 4 (.int .i64 OR.f4);have n5:=bq hr5 5 (.slice A5 OR.f5.length c5);have n6:=bq hr5 6 (.slice A6 OR.f6.length c6);have k0:=bq hcl5 0 (.int .i64 0);have g0:=blk_frozen hcl5 0;have k1:=bq hcl5 1 (.string ⟨#[]⟩);have g1:=blk_frozen hcl5 1;have k2:=bq hcl5 2 (.int .i64 0);have g2:=blk_frozen hcl5 2;have k3:=bq hcl5 3 (.int .i64 0);have g3:=blk_frozen hcl5 3;have k4:=bq hcl5 4 (.int .i64 0);have g4:=blk_frozen hcl5 4;have k5:=bq hcl5 5 (.slice none 0 0);have g5:=blk_frozen hcl5 5;have k6:=bq hcl5 6 (.slice none 0 0);have g6:=blk_frozen hcl5 6;clear hcl5 hr5 hb5)
            | ((with_reducible refine HOF3.out.mono ?_);rintro e w4 ⟨rfl,A5,c5,A6,c6,hr4,hO5,hO6,hk4⟩;have hcl4:=hk4.obj HCL3.out (fun e=>e.elim HNE1.out HNE2.out);have HCL4:=ak hcl4;have HR4:=ak hr4;have HO5:=ak hO5;have HO6:=ak hO6;have HB4:=ak (below_keeps HB3.out hk4 HLE.out);have m0:=bq hr4 0 (.int .i64 OR.f0);have m1:=bq hr4 1 (.string OR.f1);have m2:=bq hr4 2 (.int .i64 OR.f2);have m3:=bq hr4 3 (.int .i64 OR.f3);have m4:=bq hr4 4 (.int .i64 OR.f4);have m5:=bq hr4 5 (.slice A5 OR.f5.length c5);have m6:=bq hr4 6 (.slice A6 OR.f6.length c6);clear hr4 hO5 hO6 hk4 hcl4))
          refine bodyPost_ret (results_ct rfl _ _ rc 38 (recC OR A5 c5 A6 c6) (0,0) _ rfl (blk_put (blk_put (blk_put (blk_put (blk_put (blk_put (blk_put HCL5.out 0 _ rfl) 1 _ rfl) 2 _ rfl) 3 _ rfl) 4 _ rfl) 5 _ rfl) 6 _ rfl) Tryz.underlying38 rfl (by kernel_rfl)) rfl ?_
          rw[show getM (n::y)=(OR,true) by rw[HGM.out];simp [HRM.out]]
          exact⟨A5,c5,A6,c6,rfl,(Kd.R_mono (Kd.R_far (p:=⟨rc,6,none⟩) (Kd.R_far (p:=⟨rc,5,none⟩) (Kd.R_far (p:=⟨rc,4,none⟩) (Kd.R_far (p:=⟨rc,3,none⟩) (Kd.R_far (p:=⟨rc,2,none⟩) (Kd.R_far (p:=⟨rc,1,none⟩) (Kd.R_far (p:=⟨rc,0,none⟩) (Kd.R_types HO55.out HCL5.out (by decide)) (fun k hk=>hk.2) _) (fun k hk=>hk.2) _) (fun k hk=>hk.2) _) (fun k hk=>hk.2) _) (fun k hk=>hk.2) _) (fun k hk=>hk.2) _) (fun k hk=>hk.2) _) (fun _ _=>trivial)),(Kd.R_mono (Kd.R_far (p:=⟨rc,6,none⟩) (Kd.R_far (p:=⟨rc,5,none⟩) (Kd.R_far (p:=⟨rc,4,none⟩) (Kd.R_far (p:=⟨rc,3,none⟩) (Kd.R_far (p:=⟨rc,2,none⟩) (Kd.R_far (p:=⟨rc,1,none⟩) (Kd.R_far (p:=⟨rc,0,none⟩) (Kd.R_types HO65.out HCL5.out (by decide)) (fun k hk=>hk.2) _) (fun k hk=>hk.2) _) (fun k hk=>hk.2) _) (fun k hk=>hk.2) _) (fun k hk=>hk.2) _) (fun k hk=>hk.2) _) (fun k hk=>hk.2) _) (fun _ _=>trivial)),(((((((HB5.out.setCell (p:=⟨rc,0,none⟩) (Nat.le_of_eq HRC.out) _).setCell (p:=⟨rc,1,none⟩) (Nat.le_of_eq HRC.out) _).setCell (p:=⟨rc,2,none⟩) (Nat.le_of_eq HRC.out) _).setCell (p:=⟨rc,3,none⟩) (Nat.le_of_eq HRC.out) _).setCell (p:=⟨rc,4,none⟩) (Nat.le_of_eq HRC.out) _).setCell (p:=⟨rc,5,none⟩) (Nat.le_of_eq HRC.out) _).setCell (p:=⟨rc,6,none⟩) (Nat.le_of_eq HRC.out) _)⟩
end Rc
end
section
namespace Mn
open Go.Maps Fr Ext Go.Proofs.YtcieieacfoaklaaGreat.Nm Dk
open Rc (Norm Norm.intro Norm.elim cell_lt)

def gt11T:Bool×List (List Nat×List Nat):=(true,[([],[]),([0],[0]),([],[]),([],[]),([3],[3]),([4],[4]),([2,5],[2,5]),([6],[6]),([1,7,6],[1,7]),([0,1,2,3,4,5,6,7,8],[]),([9,8,8,0,1,2,3,4,5,6,7,8],[8,9])])
def gt11B:List Nat:=[0,1,0,0,8,24,60,124,255,511,1023]
theorem gt11tab:rtab .any (opsOf Tryz.f51 11)=gt11T:=by kernel_rfl
theorem gt11bits:waitsOk gt11T.2 gt11B=true:=by kernel_rfl
def gt5T:Bool×List (List Nat×List Nat):=(true,[([],[]),([0],[0]),([1],[1]),([],[]),([3],[3]),([4],[4]),([5],[5]),([6],[6]),([],[]),([8],[8]),([9],[9]),([10],[10]),([7,11],[7,11]),([],[]),([13,2,1,0,1,2,13],[2,13]),([12,14,0,1,2,3,4,5,6,7,8,9,10,11,12,13,14],[12])])
def gt5B:List Nat:=[0,1,3,0,8,24,56,120,0,256,768,1792,4088,0,8199,32767]
theorem gt5tab:rtab .any (opsOf Tryz.f51 5)=gt5T:=by kernel_rfl
theorem gt5bits:waitsOk gt5T.2 gt5B=true:=by kernel_rfl
theorem run_number (args:Array Value) (W:World):(callFunc 79 args).run Tryz.prog W=.ok (.enter 79 args) W:=enters_ Tryz.func79 (by kernel_rfl) rfl args W
theorem step_nat {k gk n:Nat} (h:k+(gk+1)=n):k+1+gk=n:=by omega
theorem wrap_at {k n:Nat} (h1:n≤65535) (h2:k < n):wrap64 ((k:Int)+1)=((k+1:Nat):Int):=wrap_succ k (by omega)
theorem segsAt_length (x:List Int) (k:Nat):(segsAt x k).length=k:=by simp [segsAt]
theorem segsAt_succ (x:List Int) (k:Nat):segsAt x (k+1)=segsAt x k++[be4At x (7+4*(k:Int))]:=by simp [segsAt,List.range_succ]
theorem first_facts {l x:List Int} {n f:Int} (hB:IsBytes l) (h:firstL l=(x,n,f)):IsBytes x∧x.length≤8192∧(f=0∨f=21∨f=22)∧(f=0→n=(x.length:Int)+8∧1≤x.length∧x.length+8≤l.length∧l.take (x.length+8)=frameOf x):=by
 have nil:IsBytes ([]:List Int):=fun x hx=>by cases hx
 rcases first_cases l hB with e | e | ⟨h1,h2,h3,h4,e | ⟨y,e,h5,h6,h7⟩⟩ <;> rw[e] at h <;> injection h with a b <;> injection b with b1 b2 <;> subst a b1 b2
 ·exact⟨nil,by simp,by simp,fun h=>by omega⟩
 ·exact⟨nil,by simp,by simp,fun h=>by omega⟩
 ·exact⟨nil,by simp,by simp,fun h=>by omega⟩
 ·have e8:(nOf l+8).toNat=y.length+8:=by omega
  exact⟨h7,by omega,.inl rfl,fun _=>⟨by omega,by omega,by omega,by rw[← e8];exact h6⟩⟩
def Got (w w':World) (e:Ending) (m:ManM) (ok:Bool):Prop:=
 ∃A c,e=.returned (.tuple #[.agg (manC m A c),.bool ok])∧Kd.R (Kd.int .i64) 3 w' w.heap.size (fun _=>True) (.slice A m.segs.length c) m.segs∧RowKit.Below w.heap.size w w'
theorem get_calls (A:Option Addr) (c:Nat) (b:List Int) (w:World) (hc:b.length≤c) (hl:b.length≤1000000000) (hB:IsBytes b) (hr:Kd.C (Kd.int .u8) w A b.length b):
  Calls Tryz.prog 51 #[.slice A b.length c] w fun e w'=>Got w w' e (getM b).1 (getM b).2:=by
 obtain⟨x,n,f,hf⟩:∃x n f,firstL b=(x,n,f):=⟨_,_,_,rfl⟩
 obtain⟨hx1,hx2,hx3,hx4⟩:=first_facts hB hf
 have HFST:=ak (fun W (hW:RowKit.Below w.heap.size w W)=>frame_First.calls A c b x n f W (Kd.C_below hr hW) hc (by rw[Pure.first_some b hB,hf]))
 have hG:getM b=if f≠0∨n≠(b.length:Int)∨x.length < 7∨rd x 0≠8 then(noM,false) else if(x.length:Int)≠7+4*(rd x 5*256+rd x 6) then(noM,false) else if rightM (ofM x)=true then(ofM x,true) else(noM,false):=by unfold getM;rw[hf]
 obtain⟨L,hL⟩:∃L,b.length=L:=⟨_,rfl⟩
 rw[hL] at hG HFST ⊢
 generalize getM b=GM at hG ⊢
 have HG:=ak hG
 have HX1:=ak hx1
 have HX2:=ak hx2
 clear hG hf hB hr hL hc hl hx1 hx2 hx3 hx4
 go_enter Tryz.func51,Tryz.ntmps51
 go_upto_region 1 with(fail)
 have hz:=heap_alloc_new w (.cells #[.slice none 0 0,.int .i64 0] 78)
 have hb1:=below_alloc (RowKit.Below.refl w.heap.size w) (.cells #[.slice none 0 0,.int .i64 0] 78)
 generalize w.alloc (.cells #[.slice none 0 0,.int .i64 0] 78)=w1 at hz hb1 ⊢
 have HZ1:=ak hz
 have HB1:=ak hb1
 clear hz hb1
 obtain⟨rc,hrc⟩:∃rc,w.heap.size=rc:=⟨_,rfl⟩
 rw[hrc] at HZ1 ⊢
 have HRC:=ak hrc
 clear hrc
 go_upto_region 2 with(go_at_call 74;(with_reducible refine(HFST.out _ HB1.out).mono ?_);rintro e w2 ⟨v,rfl,hv,hb2⟩;obtain⟨A1,c1,hA1⟩:=Kd.R_slice hv;subst hA1;have hz2:=(hb2.block _ (blk_lt HZ1.out)).trans HZ1.out;have HZ2:=ak hz2;have HV2:=ak hv;have HB2:=ak (HB1.out.trans (hb2.mono HB1.out.size));clear hv hb2 hz2)
 have hn2:=heap_alloc_new w2 (.cells #[.slice A1 x.length c1] 35)
 have hb2:=below_alloc (RowKit.Below.refl w2.heap.size w2) (.cells #[.slice A1 x.length c1] 35)
 have hz3:=(hb2.block _ (blk_lt HZ2.out)).trans HZ2.out
 have hv3:=Kd.R_below HV2.out hb2
 have HB3:=ak (HB2.out.trans (hb2.mono HB2.out.size))
 generalize w2.alloc (.cells #[.slice A1 x.length c1] 35)=w3 at hn2 hb2 hz3 hv3 HB3 ⊢
 have hxb0:w.heap.size≤w2.heap.size:=HB2.out.size
 obtain⟨xb,hxb⟩:∃xb,w2.heap.size=xb:=⟨_,rfl⟩
 rw[hxb] at hn2 hxb0 ⊢
 have HXB0:=ak hxb0
 have HZ3:=ak hz3
 have HX3:=ak hn2
 have HC3:=ak ((Kd.R_reads' hv3).2.2)
 have k0:=bq hz3 0 (.slice none 0 0)
 have k1:=bq hz3 1 (.int .i64 0)
 have g0:=blk_frozen hz3 0
 have g1:=blk_frozen hz3 1
 have y0:=bq hn2 0 (.slice A1 x.length c1)
 clear hz3 hn2 hv3 hb2 hxb hxb0 HZ1 HZ2 HV2 HB2 HB1
 have hend:∀(W:World) (cs:Array Value),W.heap[rc]? =some (.cells cs 78 (0,0))→cs.size=2→RowKit.Below w.heap.size w W→∃W',W'=(W.setCell ⟨rc,0,none⟩ (.slice none 0 0)).setCell ⟨rc,1,none⟩ (.int .i64 0)∧W'.heap[rc]? =some (.cells #[.slice none 0 0,.int .i64 0] 78 (0,0))∧RowKit.Below w.heap.size w W':=by
  intro W cs hh hs hbb
  refine⟨_,rfl,?_,(hbb.setCell (p:=⟨rc,0,none⟩) (Nat.le_of_eq HRC.out) _).setCell (p:=⟨rc,1,none⟩) (Nat.le_of_eq HRC.out) _⟩
  have h1:=blk_put (blk_put hh 0 (.slice none 0 0) rfl) 1 (.int .i64 0) rfl
  rw[h1]
  have hcs:cs=#[cs[0],cs[1]]:=by
   apply Array.ext
   ·simp [hs]
   ·intro i h1 h2
    match i,h2 with
    | 0,_=>rfl
    | 1,_=>rfl
  rw[hcs]
  rfl
 have HEND:=ak hend
 clear hend
 by_cases h1:f=0
 case neg=>
  have d1:(f !=0)=true:=bne_iff_ne.mpr h1
  have H1:=ak h1
  clear h1
  go_wp2
  obtain⟨W',e1,e2,e3⟩:=HEND.out w3 _ HZ3.out rfl HB3.out
  rw[← e1]
  refine bodyPost_ret (results_ct rfl _ _ rc 78 (manC noM none 0) (0,0) _ rfl e2 Tryz.underlying78 rfl (by kernel_rfl)) rfl ?_
  rw[HG.out,if_pos (.inl H1.out)]
  exact⟨none,0,rfl,Kd.R_nil _ _ _ _ _,e3⟩
 subst h1
 by_cases h2:n=(L:Int)
 case neg=>
  have d2:(n !=(L:Int))=true:=bne_iff_ne.mpr h2
  have H2:=ak h2
  clear h2
  go_wp2
  obtain⟨W',e1,e2,e3⟩:=HEND.out w3 _ HZ3.out rfl HB3.out
  rw[← e1]
  refine bodyPost_ret (results_ct rfl _ _ rc 78 (manC noM none 0) (0,0) _ rfl e2 Tryz.underlying78 rfl (by kernel_rfl)) rfl ?_
  rw[HG.out,if_pos (.inr (.inl H2.out))]
  exact⟨none,0,rfl,Kd.R_nil _ _ _ _ _,e3⟩
 subst h2
 by_cases h3:x.length < 7
 case pos=>
  have d3:decide ((x.length:Int) < 7)=true:=decide_eq_true (by omega)
  have d3':decide (x.length < 7)=true:=decide_eq_true h3
  have H3:=ak h3
  clear h3
  go_wp2
  obtain⟨W',e1,e2,e3⟩:=HEND.out w3 _ HZ3.out rfl HB3.out
  rw[← e1]
  refine bodyPost_ret (results_ct rfl _ _ rc 78 (manC noM none 0) (0,0) _ rfl e2 Tryz.underlying78 rfl (by kernel_rfl)) rfl ?_
  rw[HG.out,if_pos (.inr (.inr (.inl H3.out)))]
  exact⟨none,0,rfl,Kd.R_nil _ _ _ _ _,e3⟩
 have d3:decide ((x.length:Int) < 7)=false:=decide_eq_false (by omega)
 have d3':decide (x.length < 7)=false:=decide_eq_false h3
 obtain⟨ad,e0,z0⟩:=Kd.at_int HC3.out (0:Int) (by omega) (by omega)
 subst e0
 have z0:w3.cell? ad=some (.int .u8 (rd x 0)):=z0
 have hlt0:0 < x.length:=by omega
 by_cases h4:rd x 0=8
 case neg=>
  have d4:(rd x 0 !=8)=true:=bne_iff_ne.mpr h4
  have H4:=ak h4
  clear h4 h3
  go_wp2
  obtain⟨W',e1,e2,e3⟩:=HEND.out w3 _ HZ3.out rfl HB3.out
  rw[← e1]
  refine bodyPost_ret (results_ct rfl _ _ rc 78 (manC noM none 0) (0,0) _ rfl e2 Tryz.underlying78 rfl (by kernel_rfl)) rfl ?_
  rw[HG.out,if_pos (.inr (.inr (.inr H4.out)))]
  exact⟨none,0,rfl,Kd.R_nil _ _ _ _ _,e3⟩
 have d4:(rd x 0 !=8)=false:=by rw[h4];rfl
 have HG2:=HG.out
 rw[if_neg (by simp only[ne_eq,not_true_eq_false,not_false_eq_true,false_or];rintro (h | h) <;> omega)] at HG2
 have HG3:=ak HG2
 have H3:=ak h3
 clear HG HG2 h3
 have hx7:7≤x.length:=by have:=H3.out;omega
 obtain⟨ad',e0,z5⟩:=Kd.at_int HC3.out (5:Int) (by omega) (by omega)
 cases e0
 obtain⟨ad',e0,z6⟩:=Kd.at_int HC3.out (6:Int) (by omega) (by omega)
 cases e0
 have z5:w3.cell? ⟨ad.block,ad.off+5,none⟩=some (.int .u8 (rd x 5)):=z5
 have z6:w3.cell? ⟨ad.block,ad.off+6,none⟩=some (.int .u8 (rd x 6)):=z6
 have l5:5 < x.length:=by omega
 have l6:6 < x.length:=by omega
 have m5:(5:Int) < (x.length:Int):=by omega
 have m6:(6:Int) < (x.length:Int):=by omega
 have hb5:=HX1.out _ (rd_mem x 5 (by omega) (by omega))
 have hb6:=HX1.out _ (rd_mem x 6 (by omega) (by omega))
 have HNUM:=ak (fun W (hW:RowKit.Below w3.heap.size w3 W) (z:Int) (i:Nat) (hz:z=(i:Int)) (hi:i+3 < x.length)=>number_calls z i hz xb (some ad) c1 x W (by have:=HX2.out;omega) hi HX1.out (pw_cell_below hW y0) (Kd.C_below HC3.out hW))
 have HX7:=ak hx7
 have HX4:=ak (show 1+3 < x.length by omega)
 clear hx7
 obtain⟨a5,h5⟩:∃a,rd x 5=a:=⟨_,rfl⟩
 obtain⟨a6,h6⟩:∃a,rd x 6=a:=⟨_,rfl⟩
 rw[h5] at z5 hb5
 rw[h6] at z6 hb6
 have HH5:=ak h5
 have HH6:=ak h6
 obtain⟨p1,p2,-,-,-,-,p3,p4⟩:=byte_facts a5 hb5
 obtain⟨q1,q2,-,-,-,-,-,-⟩:=byte_facts a6 hb6
 have o1:bits .or .i64 (a5*256) a6=a5*256+a6:=Rc.or_join8 a5 a6 hb5.1 (by omega) hb6.1 hb6.2
 have HB5:=ak hb5
 have HB6:=ak hb6
 clear h5 h6 hb5 hb6
 go_upto_region 5 with(fail)
 refine Code.wp_mono (Q:=Norm fun a' W=>∃tb:Nat,a'={tmps:=#[.slice A L c,undef,.pointer (some ⟨rc,0,none⟩),.bool false,.pointer (some ⟨xb,0,none⟩),.int .i64 L,.int .i64 0,.func (.func 79) #[] #[.pointer (some ⟨xb,0,none⟩)],.pointer (some ⟨tb,0,none⟩),.int .i64 (a5*256+a6),undef,.tuple #[.slice (some ad) x.length c1,.int .i64 L,.int .i64 0],.slice A L c,.tuple #[.slice (some ad) x.length c1,.int .i64 L,.int .i64 0],.slice (some ad) x.length c1,.int .i64 L,.int .i64 0,.int .i64 0,.bool false,.bool false,.int .i64 L,.slice A L c,.int .i64 L,.bool false,.bool false,.bool false,.slice (some ad) x.length c1,.int .i64 x.length,.bool false,.bool false,.bool false,.slice (some ad) x.length c1,.pointer (some ad),.int .u8 8,.bool false,.bool false,undef,.func (.func 79) #[] #[.pointer (some ⟨xb,0,none⟩)],.func (.func 79) #[] #[.pointer (some ⟨xb,0,none⟩)],.int .i64 (be4At x 1),.agg #[.slice none 0 0,.int .i64 (be4At x 1)],.slice (some ad) x.length c1,.pointer (some ⟨ad.block,ad.off+5,none⟩),.int .u8 a5,.int .i64 a5,.int .i64 (wrap64 (a5*256)),.slice (some ad) x.length c1,.pointer (some ⟨ad.block,ad.off+6,none⟩),.int .u8 a6,.int .i64 a6,.int .i64 (a5*256+a6),undef,undef,undef,undef,undef,undef,undef,undef,undef,undef,undef,undef,undef,undef,undef,undef,undef,undef,undef,undef,undef,undef,undef,undef,undef,undef,undef],defers:=[]}∧W.heap[tb]? =some (.cells #[.slice none 0 0,.int .i64 (be4At x 1)] 78 (0,0))∧RowKit.Below w3.heap.size w3 W∧w3.heap.size≤tb) (Norm.elim ?mono) ?reg
 case reg=>
  refine st_ 16 (S:=(fun w'=>RowKit.Below w3.heap.size w3 w')) (ds:=[]) (by kernel_rfl) rfl (by kernel_rfl) (RowKit.Below.refl _ _).drew (fun hHeld=>?_);refine with_tabW gt5tab gt5bits (fun HT_ HW_=>?_)
  generalize w3.drew=w4 at hHeld ⊢
  refine fl_ [0,38,1] ?_
  refine pz_ HT_ ?_
  refine fe_ ?_
  refine tk_ 3 9 (N:=some 41) (v:=?_) (a':=?_) HT_ HW_ rfl rfl (.inl ⟨by rfl,?_⟩) hHeld ?_ ?_
  rotate_left
  ·rintro w' hs
   have xx:=pw_cell_below hs y0
   go_simp
   with_reducible rfl
  rotate_left
  ·simp only[Act.put,zq1,zq2,zq3,i64_w,i32_w]
   rfl
  refine fl_ [4,42,25] ?_
  refine pz_ HT_ ?_
  refine fe_ ?_
  refine tk_ 5 57 (N:=some 43) (v:=?_) (a':=?_) HT_ HW_ rfl rfl (.inl ⟨by rfl,?_⟩) hHeld ?_ ?_
  rotate_left
  ·rintro w' hs
   have xx:=pw_cell_below hs z5
   go_simp
   with_reducible rfl
  rotate_left
  ·simp only[Act.put,zq1,zq2,zq3,i64_w,i32_w]
   rfl
  refine fl_ [6,44,121,7,45,249] ?_
  iterate 2 refine pz_ HT_ ?_
  refine fe_ ?_
  refine tk_ 8 505 (N:=some 46) (v:=?_) (a':=?_) HT_ HW_ rfl rfl (.inl ⟨by rfl,?_⟩) hHeld ?_ ?_
  rotate_left
  ·rintro w' hs
   have xx:=pw_cell_below hs y0
   go_simp
   with_reducible rfl
  rotate_left
  ·simp only[Act.put,zq1,zq2,zq3,i64_w,i32_w]
   rfl
  refine fl_ [9,47,1017] ?_
  refine pz_ HT_ ?_
  refine fe_ ?_
  refine tk_ 10 2041 (N:=some 48) (v:=?_) (a':=?_) HT_ HW_ rfl rfl (.inl ⟨by rfl,?_⟩) hHeld ?_ ?_
  rotate_left
  ·rintro w' hs
   have xx:=pw_cell_below hs z6
   go_simp
   with_reducible rfl
  rotate_left
  ·simp only[Act.put,zq1,zq2,zq3,i64_w,i32_w]
   rfl
  refine fl_ [11,49,4089,12,50,8185] ?_
  iterate 2 refine pz_ HT_ ?_
  refine fe_ ?_
  refine tw_ 1 13 8187 16377 (some 39) (some 8) HT_ rfl rfl rfl rfl (by kernel_rfl) (by decide) (by decide) (fun K hK=>?_) (fun K hK=>?_)
  ·refine call_ (79) #[.int .i64 1,.pointer (some ⟨xb,0,none⟩)] (by rfl) rfl (by unfold execOp;simp [resolve,Deferred.ofValue,invoke,Act.eval,run_number]) ?_
   refine(HNUM.out _ hHeld 1 1 rfl HX4.out).mono ?_
   rintro e w5 ⟨rfl,hb⟩
   refine⟨_,rfl,?_⟩
   have hle5:w3.heap.size≤w5.heap.size:=(hHeld.trans (hb.mono hHeld.size)).size
   have hHeld:=hHeld.trans (hb.mono hHeld.size)
   refine kz_ hK hHeld fun hHeld=>?_;clear hK K
   refine fl_ [2,40,8191] ?_
   refine pz_ HT_ ?_
   refine fe_ ?_
   refine on_ 13 16383 (some 8) HT_ rfl rfl (by kernel_rfl) (by decide) (fun K hK=>?_)
   refine Mn.alloc_step rfl (by go_simp;exact⟨rfl,rfl⟩) ?_
   have hrow:=heap_alloc_new w5 (.cells #[.slice none 0 0,.int .i64 0] 78)
   have hHeld:=below_alloc hHeld (.cells #[.slice none 0 0,.int .i64 0] 78)
   refine kz_ hK hHeld fun hHeld=>?_;clear hK K
   have hle:w3.heap.size≤w5.heap.size:=hle5
   generalize hw6:w5.alloc (.cells #[.slice none 0 0,.int .i64 0] 78)=w6 at hHeld hrow ⊢
   refine on_ 14 32767 none HT_ rfl rfl (by kernel_rfl) (by decide) (fun K hK=>?_)
   have q0:=bq hrow 0 (.slice none 0 0)
   have q1:=bq hrow 1 (.int .i64 0)
   have f0:=blk_frozen hrow 0
   have f1:=blk_frozen hrow 1
   refine Rc.store_step rfl (by go_simp;rfl) ?_
   refine hK.out _ _ ((hHeld.setCell (p:=⟨w5.heap.size,0,none⟩) hle _).setCell (p:=⟨w5.heap.size,1,none⟩) hle _) (fun hHeld=>?_)
   clear hK K
   refine norm_ (a':=?_) ?_ ?_
   rotate_left
   ·show Act.put _ (none) _=_
    simp only[Act.put]
    rfl
   refine fl_ [15,9,65535] ?_
   refine pz_ HT_ ?_
   refine fe_ ?_
   refine dz_ HT_ ?_
   exact Norm.intro ⟨w5.heap.size,rfl,blk_put (blk_put hrow 0 _ rfl) 1 _ rfl,hHeld,hle⟩
  ·refine Mn.alloc_step rfl (by go_simp;exact⟨rfl,rfl⟩) ?_
   have hrow:=heap_alloc_new w4 (.cells #[.slice none 0 0,.int .i64 0] 78)
   have hle:w3.heap.size≤w4.heap.size:=hHeld.size
   have hHeld:=below_alloc hHeld (.cells #[.slice none 0 0,.int .i64 0] 78)
   refine kz_ hK hHeld fun hHeld=>?_;clear hK K
   generalize hw5:w4.alloc (.cells #[.slice none 0 0,.int .i64 0] 78)=w5 at hHeld hrow ⊢
   refine on_ 1 16379 (some 39) HT_ rfl rfl (by kernel_rfl) (by decide) (fun K hK=>?_)
   refine call_ (79) #[.int .i64 1,.pointer (some ⟨xb,0,none⟩)] (by rfl) rfl (by unfold execOp;simp [resolve,Deferred.ofValue,invoke,Act.eval,run_number]) ?_
   refine(HNUM.out _ hHeld 1 1 rfl HX4.out).mono ?_
   rintro e w6 ⟨rfl,hb⟩
   refine⟨_,rfl,?_⟩
   have hrow:=(hb.block _ (blk_lt hrow)).trans hrow
   have hHeld:=hHeld.trans (hb.mono hHeld.size)
   refine kz_ hK hHeld fun hHeld=>?_;clear hK K
   refine fl_ [2,40,16383] ?_
   refine pz_ HT_ ?_
   refine fe_ ?_
   refine on_ 14 32767 none HT_ rfl rfl (by kernel_rfl) (by decide) (fun K hK=>?_)
   have q0:=bq hrow 0 (.slice none 0 0)
   have q1:=bq hrow 1 (.int .i64 0)
   have f0:=blk_frozen hrow 0
   have f1:=blk_frozen hrow 1
   refine Rc.store_step rfl (by go_simp;rfl) ?_
   refine hK.out _ _ ((hHeld.setCell (p:=⟨w4.heap.size,0,none⟩) hle _).setCell (p:=⟨w4.heap.size,1,none⟩) hle _) (fun hHeld=>?_)
   clear hK K
   refine norm_ (a':=?_) ?_ ?_
   rotate_left
   ·show Act.put _ (none) _=_
    simp only[Act.put]
    rfl
   refine fl_ [15,9,65535] ?_
   refine pz_ HT_ ?_
   refine fe_ ?_
   refine dz_ HT_ ?_
   exact Norm.intro ⟨w4.heap.size,rfl,blk_put (blk_put hrow 0 _ rfl) 1 _ rfl,hHeld,hle⟩
 case mono=>
  rintro a' w7 ⟨tb,rfl,hrow,hb7,hle7⟩
  clear p1 p2 p3 p4 q1 q2 o1 z0 z5 z6 y0 k0 k1 g0 g1
  obtain⟨many,hmany⟩:∃n:Nat,a5*256+a6=(n:Int):=⟨(a5*256+a6).toNat,by have:=HB5.out;have:=HB6.out;omega⟩
  rw[hmany]
  have hlim:many≤65535:=by have:=HB5.out;have:=HB6.out;omega
  have HG4:=HG3.out
  rw[HH5.out,HH6.out,hmany] at HG4
  have HG5:=ak HG4
  have HMANY:=ak (show(rd x 5*256+rd x 6).toNat=many by rw[HH5.out,HH6.out,hmany,Int.toNat_natCast])
  clear HG4 HG3
  have hz7:=(hb7.block _ (blk_lt HZ3.out)).trans HZ3.out
  have HZ7:=ak hz7
  have HROW:=ak hrow
  have HB7:=ak hb7
  have HBW:=ak (HB3.out.trans (hb7.mono HB3.out.size))
  have y0:w7.cell? ⟨xb,0,none⟩=some (.slice (some ad) x.length c1):=pw_cell_below hb7 ((blk_cell HX3.out 0).trans rfl)
  have k0:=bq hz7 0 (.slice none 0 0)
  have k1:=bq hz7 1 (.int .i64 0)
  have g0:=blk_frozen hz7 0
  have g1:=blk_frozen hz7 1
  have e4:wrap64 (4*(many:Int))=4*(many:Int):=by unfold wrap64;omega
  have e7:wrap64 (7+4*(many:Int))=7+4*(many:Int):=by unfold wrap64;omega
  clear hz7 hb7
  by_cases hm:(x.length:Int)=7+4*(many:Int)
  case neg=>
   have d1:((x.length:Int) !=7+4*(many:Int))=true:=bne_iff_ne.mpr hm
   have HM:=ak hm
   clear hm hrow
   go_wp2
   obtain⟨W',e1,e2,e3⟩:=HEND.out w7 _ HZ7.out rfl HBW.out
   rw[← e1]
   refine bodyPost_ret (results_ct rfl _ _ rc 78 (manC noM none 0) (0,0) _ rfl e2 Tryz.underlying78 rfl (by kernel_rfl)) rfl ?_
   rw[HG5.out,if_pos HM.out]
   exact⟨none,0,rfl,Kd.R_nil _ _ _ _ _,e3⟩
  have d1:((x.length:Int) !=7+4*(many:Int))=false:=by rw[hm];simp
  have HG6:=HG5.out
  rw[if_neg (fun h=>h hm)] at HG6
  have HG7:=ak HG6
  have HM:=ak hm
  clear HG6 HG5 hm hrow k0 k1 g0 g1
  have htl:tb < w7.heap.size:=blk_lt HROW.out
  have HTX:=ak (show tb≠rc from fun e=>by have h1:=blk_lt HZ3.out;have:=hle7;omega)
  have HLE7:=ak (Nat.le_trans HB3.out.size hle7)
  have HLE0:=ak HB3.out.size
  have HOF:=ak (show ofM x=⟨segsAt x many,be4At x 1⟩ by unfold ofM;rw[HMANY.out])
  have HNUM7:=ak (fun W (hW:RowKit.Below w3.heap.size w3 W) (z:Int) (k:Nat) (hz:z=7+4*(k:Int)) (hk:k < many)=>HNUM.out W hW z (7+4*k) (by omega) (by have:=HM.out;omega))
  have HLIM:=ak hlim
  have HTLE:=ak hle7
  clear hle7 htl
  go_wp2
  go_loopg [59] many (fun kq v59 wr=>∃(k:Nat) (Av:Option Addr) (cv:Nat),v59=.int .i64 k∧Aside0 (k+kq=many)∧Aside0 (wr.heap[tb]? =some (.cells #[.slice Av (segsAt x k).length cv,.int .i64 (be4At x 1)] 78 (0,0)))∧Aside0 (Kd.R (Kd.int .i64) 3 wr w3.heap.size (fun _=>True) (.slice Av (segsAt x k).length cv) (segsAt x k))∧Aside0 (RowKit.Below w3.heap.size w3 wr))
  case atStart=>exact⟨0,none,0,rfl,⟨by omega⟩,⟨HROW.out⟩,⟨Kd.R_nil _ _ _ _ _⟩,HB7⟩
  case round=>
   obtain⟨k,Av,cv,rfl,HQ,HT,HO,HBr⟩:=hrel
   cases gk with
   | zero=>
    obtain rfl:k=many:=by have:=HQ.out;omega
    have d2:decide ((k:Int) < (k:Int))=false:=decide_eq_false (by omega)
    have d3:decide (k < k)=false:=decide_eq_false (by omega)
    have hm7:HX2.out=HX2.out:=rfl
    have hRight:=right_calls (⟨segsAt x k,be4At x 1⟩:ManM) Av cv wr (by simp only[segsAt_length];have:=HLIM.out;omega) (Kd.R_reads' HO.out).2.1 (Kd.R_reads' HO.out).2.2
    have hz:=(HBr.out.block _ (blk_lt HZ3.out)).trans HZ3.out
    have hOF:=HG7.out
    rw[HOF.out] at hOF
    obtain⟨b,hb⟩:∃b,rightM (⟨segsAt x k,be4At x 1⟩:ManM)=b:=⟨_,rfl⟩
    rw[hb] at hRight hOF
    have HRI:=ak hRight
    have HGM:=ak hOF
    have HZR:=ak hz
    clear hRight hOF hz hb hm7
    have x0:=bq HT.out 0 (.slice Av (segsAt x k).length cv)
    have x1:=bq HT.out 1 (.int .i64 (be4At x 1))
    cases b with
    | false=>
     go_wp2_with (go_at_call 80;(with_reducible refine HRI.out.mono ?_);rintro e w8 ⟨rfl,hb8⟩;have hz8:=(hb8.block _ (blk_lt HZR.out)).trans HZR.out;have HZ8:=ak hz8;have HB8:=ak (HB3.out.trans ((HBr.out.trans (hb8.mono HBr.out.size)).mono HB3.out.size));have k0:=bq hz8 0 (.slice none 0 0);have k1:=bq hz8 1 (.int .i64 0);have g0:=blk_frozen hz8 0;have g1:=blk_frozen hz8 1;clear hz8 hb8)
     obtain⟨W',e1,e2,e3⟩:=HEND.out w8 _ HZ8.out rfl HB8.out
     rw[← e1]
     refine bodyPost_ret (results_ct rfl _ _ rc 78 (manC noM none 0) (0,0) _ rfl e2 Tryz.underlying78 rfl (by kernel_rfl)) rfl ?_
     rw[HGM.out,if_neg (by decide)]
     exact⟨none,0,rfl,Kd.R_nil _ _ _ _ _,e3⟩
    | true=>
     go_wp2_with (go_at_call 80;(with_reducible refine HRI.out.mono ?_);rintro e w8 ⟨rfl,hb8⟩;have hz8:=(hb8.block _ (blk_lt HZR.out)).trans HZR.out;have ht8:=(hb8.block _ (blk_lt HT.out)).trans HT.out;have HZ8:=ak hz8;have HO8:=ak (Kd.R_below HO.out hb8);have HB8:=ak (HB3.out.trans ((HBr.out.trans (hb8.mono HBr.out.size)).mono HB3.out.size));have k0:=bq hz8 0 (.slice none 0 0);have k1:=bq hz8 1 (.int .i64 0);have g0:=blk_frozen hz8 0;have g1:=blk_frozen hz8 1;have n0:=bq ht8 0 (.slice Av (segsAt x k).length cv);have n1:=bq ht8 1 (.int .i64 (be4At x 1));clear hz8 hb8 ht8)
     refine bodyPost_ret (results_ct rfl _ _ rc 78 (manC (⟨segsAt x k,be4At x 1⟩:ManM) Av cv) (0,0) _ rfl (blk_put (blk_put HZ8.out 0 _ rfl) 1 _ rfl) Tryz.underlying78 rfl (by kernel_rfl)) rfl ?_
     rw[HGM.out,if_pos trivial]
     exact⟨Av,cv,rfl,Kd.R_mono (Kd.R_far (p:=⟨rc,1,none⟩) (Kd.R_far (p:=⟨rc,0,none⟩) (Kd.R_types (Kd.R_lower HO8.out HLE0.out) HZ8.out (by decide)) (fun q hq=>hq.2) _) (fun q hq=>hq.2) _) (fun _ _=>trivial),(HB8.out.setCell (p:=⟨rc,0,none⟩) (Nat.le_of_eq HRC.out) _).setCell (p:=⟨rc,1,none⟩) (Nat.le_of_eq HRC.out) _⟩
   | succ gk=>
    have hk0:k < many:=by have:=HQ.out;omega
    have hlim2:=HLIM.out
    have d2:decide ((k:Int) < (many:Int))=true:=decide_eq_true (by omega)
    have d3:decide (k < many)=true:=decide_eq_true hk0
    have e4:wrap64 (4*(k:Int))=4*(k:Int):=by unfold wrap64;omega
    have e7:wrap64 (7+4*(k:Int))=7+4*(k:Int):=by unfold wrap64;omega
    have e4':IntKind.i64.wrap (4*(k:Int))=4*(k:Int):=by rw[i64_w];exact e4
    have e7':IntKind.i64.wrap (7+4*(k:Int))=7+4*(k:Int):=by rw[i64_w];exact e7
    have HK0:=ak hk0
    have x0:=bq HT.out 0 (.slice Av (segsAt x k).length cv)
    have z0:=blk_frozen HT.out 0
    have htl:tb < wr.heap.size:=blk_lt HT.out
    have HLL:=ak (show((segsAt x k).length+1)*8≤140737488355328 by rw[segsAt_length];omega)
    have hsz:w.heap.size≤wr.heap.size:=Nat.le_trans HLE7.out (Nat.le_of_lt htl)
    have HSZ:=ak hsz
    clear hsz hk0
    go_upto_region 11 with(fail)
    refine st_ 11 (S:=(fun w'=>w'.heap[tb]? =some (.cells #[.slice Av (segsAt x k).length cv,.int .i64 (be4At x 1)] 78 (0,0))∧Kd.R (Kd.int .i64) 3 w' w3.heap.size (fun _=>True) (.slice Av (segsAt x k).length cv) (segsAt x k)∧RowKit.Below w3.heap.size w3 w')) (ds:=[8,10]) (by kernel_rfl) rfl (by kernel_rfl) ⟨blk_drew HT.out,Kd.R_below HO.out (RowKit.Below.refl wr.heap.size wr).drew,HBr.out.drew⟩ (fun hHeld=>?_);refine with_tabW gt11tab gt11bits (fun HT_ HW_=>?_)
    generalize wr.drew=w4 at hHeld ⊢
    refine fl_ [0,62,1,2,64,5,3,65,13,4,66,29,5,67,61] ?_
    iterate 5 refine pz_ HT_ ?_
    refine fe_ ?_
    refine tk_ 1 63 (N:=some 63) (v:=?_) (a':=?_) HT_ HW_ rfl rfl (.inl ⟨by rfl,?_⟩) hHeld ?_ ?_
    rotate_left
    ·rintro w' hs
     have xx:=bq hs.1 0 (.slice Av (segsAt x k).length cv)
     go_simp
     with_reducible rfl
    rotate_left
    ·simp only[Act.put,zq1,zq2,zq3,i64_w,i32_w]
     rfl
    refine on_ 6 127 (some 68) HT_ rfl rfl (by kernel_rfl) (by decide) (fun K hK=>?_)
    refine call_ (79) #[.int .i64 (7+4*(k:Int)),.pointer (some ⟨xb,0,none⟩)] (by rfl) rfl (by unfold execOp;simp [resolve,Deferred.ofValue,invoke,Act.eval,run_number]) ?_
    refine(HNUM7.out _ hHeld.2.2 _ k rfl HK0.out).mono ?_
    rintro e w5 ⟨rfl,hb⟩
    refine⟨_,rfl,?_⟩
    have hHeld:=(⟨(hb.block _ (blk_lt hHeld.1)).trans hHeld.1,Kd.R_below hHeld.2.1 hb,hHeld.2.2.trans (hb.mono hHeld.2.2.size)⟩:_∧_∧RowKit.Below w3.heap.size w3 _)
    refine kz_ hK hHeld fun hHeld=>?_;clear hK K
    clear hb
    have HH5:=ak hHeld
    refine on_ 7 255 (some 69) HT_ rfl rfl (by kernel_rfl) (by decide) (fun K hK=>?_)
    refine Mn.alloc_step rfl (by go_simp;exact⟨rfl,rfl⟩) ?_
    have hba:=below_alloc (RowKit.Below.refl w5.heap.size w5) (.cells #[.int .i64 (be4At x (7+4*(k:Int)))] 3)
    have hHeld:=(⟨(hba.block _ (blk_lt hHeld.1)).trans hHeld.1,Kd.R_below hHeld.2.1 hba,hHeld.2.2.trans (hba.mono hHeld.2.2.size)⟩:_∧_∧RowKit.Below w3.heap.size w3 _)
    refine kz_ hK hHeld fun hHeld=>?_;clear hK K
    clear hba hHeld
    refine la_ 8 511 (some 70) HT_ rfl rfl (by kernel_rfl) (by decide) (fun K hK=>?_)
    refine Kd.R_append_step (Kd.int .i64) (w0:=w5) (W:=w5) w3.heap.size rfl (.tmp 63) (.tmp 69) 76 3 (.int .i64 0) 8 rfl Tryz.underlying76 Nm.infoI rfl (by decide) (by decide) (.slice Av (segsAt x k).length cv) (segsAt x k) (be4At x (7+4*(k:Int))) [.int .i64 (be4At x (7+4*(k:Int)))] (fun _=>True) (fun _=>False) rfl rfl rfl (fun _ h=>h.elim) (fun _ _=>trivial) HH5.out.2.1 (RowKit.Below.refl _ _) HH5.out.2.2.size HLL.out ?_
    intro v6 w6 ho6 hb6 hg6 hat6
    refine hK.out _ _ ?_
    clear hK K
    refine norm_ (a':=?_) ?_ ?_
    rotate_left
    ·show Act.put _ (some 70) _=_
     simp only[Act.put,zq1,zq2,zq3,i64_w,i32_w]
     rfl
    rw[← segsAt_succ] at ho6
    obtain⟨A6,c6,hv6⟩:=Kd.R_slice ho6
    subst hv6
    have ht6:=blk_grown HH5.out.1 hg6 (Kd.R_ne HH5.out.2.1 HH5.out.1 (by decide))
    have x6:=bq ht6 0 (.slice Av (segsAt x k).length cv)
    have f6:=blk_frozen ht6 0
    refine fl_ [9,71,1023] ?_
    refine pz_ HT_ ?_
    refine fe_ ?_
    refine la_ 10 2047 none HT_ rfl rfl (by kernel_rfl) (by decide) (fun K hK=>?_)
    refine Rc.store_step rfl (by go_simp;rfl) ?_
    refine hK.out _ _ ?_
    clear hK K
    refine norm_ (a':=?_) ?_ ?_
    rotate_left
    ·show Act.put _ (none) _=_
     simp only[Act.put]
     rfl
    refine dz_ HT_ ?_
    have ht7:=blk_put ht6 0 (.slice A6 (segsAt x (k+1)).length c6) rfl
    have ho7:=Kd.R_mono (ok':=fun _=>True) (Kd.R_far (p:=⟨tb,0,none⟩) (Kd.R_types ho6 ht6 (by decide)) (fun q hq=>hq.2) (.slice A6 (segsAt x (k+1)).length c6)) (fun _ _=>trivial)
    have hb7:=(HH5.out.2.2.grown hg6 HH5.out.2.2.size (Kd.R_base HH5.out.2.1)).setCell (p:=⟨tb,0,none⟩) HTLE.out (.slice A6 (segsAt x (k+1)).length c6)
    generalize w6.setCell ⟨tb,0,none⟩ (.slice A6 (segsAt x (k+1)).length c6)=w8 at ht7 ho7 hb7 ⊢
    have HT8:=ak ht7
    have HO8:=ak ho7
    have HB8:=ak hb7
    clear ht7 ho7 hb7 ht6 ho6 hb6 hg6 hat6 x6 f6
    go_wp2
    go_roundg gk
    case measure=>exact Nat.lt_succ_self _
    case rel=>
     have e:wrap64 ((k:Int)+1)=((k+1:Nat):Int):=wrap_at HLIM.out HK0.out
     exact⟨k+1,A6,c6,by rw[e],⟨step_nat HQ.out⟩,HT8,HO8,HB8⟩
end Mn
end
section
namespace Mn
open Go.Maps Fr Ext Go.Proofs.YtcieieacfoaklaaGreat.Nm Dk

variable {w:World} {B g N:Nat} {M:DiskM} {F:Nat→Prop}
def Loaded (w w':World) (e:Ending) (m:ManM) (ok:Bool) (err:Int):Prop:=
 ∃A c,e=.returned (.tuple #[.agg (manC m A c),.bool ok,.int .i64 err])∧Kd.R (Kd.int .i64) 3 w' w.heap.size (fun _=>True) (.slice A m.segs.length c) m.segs∧RowKit.Below w.heap.size w w'
theorem readM_fit (h:Fit M) (s:ByteArray) (at_ n:Int):IsBytes (readM M s at_ n).1∧(readM M s at_ n).1.length≤67108864:=by
 have nil:IsBytes ([]:List Int):=fun x hx=>by cases hx
 unfold readM
 split
 ·exact⟨nil,by simp⟩
 split
 ·exact⟨nil,by simp⟩
 rename_i i hl
 have hm:M.fs.getD i ⟨[],0,0⟩∈M.fs:=by rw[List.getD_eq_getElem?_getD,List.getElem?_eq_getElem (h.inD hl),Option.getD_some];exact List.getElem_mem _
 split
 ·unfold cutL
  exact⟨((h.bytes _ hm).take _).drop _,by simp only[List.length_drop,List.length_take];have:=h.len _ hm;omega⟩
 ·exact⟨nil,by simp⟩
theorem load_calls (hd:DiskAt w B g N M F) (hM:Fit M):
  Calls Tryz.prog 27 #[ptr g] w fun e w'=>Loaded w w' e (loadM M).1 (loadM M).2.1 (loadM M).2.2:=by
 have HDN:=ak (fun W (hW:RowKit.Below w.heap.size w W)=>(hd.below hW).down?)
 have HSZ:=ak (fun W (hW:RowKit.Below w.heap.size w W)=>(hd.below hW).size? manN (nameOf_le _ _))
 have HRD:=ak (fun W (hW:RowKit.Below w.heap.size w W)=>(hd.below hW).read? manN 0 (sizeM M manN) (nameOf_le _ _) hM.len)
 have HF:=ak (readM_fit hM manN 0 (sizeM M manN))
 obtain⟨dn,hdn⟩:∃b,M.d.down=b:=⟨_,rfl⟩
 obtain⟨is,his⟩:∃b,(Dk.look M.D manN).isSome=b:=⟨_,rfl⟩
 have hL:loadM M=if dn=true then(noM,false,82) else if is=false then(noM,false,0) else if(getM (readM M manN 0 (sizeM M manN)).1).2=true then((getM (readM M manN 0 (sizeM M manN)).1).1,true,0) else(noM,false,22):=by unfold loadM;rw[hdn,his]
 rw[hdn] at HDN
 rw[his] at HSZ
 generalize sizeM M manN=sz at HSZ HRD HF hL
 generalize readM M manN 0 sz=rm at HRD HF hL
 obtain⟨bs,er⟩:=rm
 generalize loadM M=LM at hL ⊢
 have HL:=ak hL
 have hz:=heap_alloc_new w (.cells #[.slice none 0 0,.int .i64 0] 78)
 have hb1:=below_alloc (RowKit.Below.refl w.heap.size w) (.cells #[.slice none 0 0,.int .i64 0] 78)
 clear hd hM hL hdn his
 go_enter Tryz.func27,Tryz.ntmps27
 go_upto_region 1 with(fail)
 generalize w.alloc (.cells #[.slice none 0 0,.int .i64 0] 78)=w1 at hz hb1 ⊢
 have HZ1:=ak hz
 have HB1:=ak hb1
 obtain⟨rc,hrc⟩:∃rc,w.heap.size=rc:=⟨_,rfl⟩
 rw[hrc] at HZ1 hz ⊢
 have HRC:=ak hrc
 clear hrc hz hb1
 go_upto_region 2 with(go_at_call 47;(with_reducible refine(Nm.of_calls _ _ _).mono ?_);rintro e w2 ⟨rfl,hb2⟩;have HZ2:=ak ((hb2.block _ (blk_lt HZ1.out)).trans HZ1.out);have HB2:=ak (HB1.out.trans (hb2.mono HB1.out.size));clear hb2)
 have hz2:=HZ2.out
 have k0:=bq hz2 0 (.slice none 0 0)
 have k1:=bq hz2 1 (.int .i64 0)
 have g0:=blk_frozen hz2 0
 have g1:=blk_frozen hz2 1
 have hSZ2:Calls Tryz.prog 48 #[ptr g,.string (nameOf 3 0)] w2 fun e w'=>e=.returned (.tuple #[.int .i64 sz,.bool is])∧w'=w2:=HSZ.out w2 HB2.out
 have HSZ2:=ak hSZ2
 have HDN2:=ak (HDN.out w2 HB2.out)
 have HZE:∀(W:World) (cs:Array Value),W.heap[rc]? =some (.cells cs 78 (0,0))→cs=#[.slice none 0 0,.int .i64 0]→RowKit.Below w.heap.size w W→∃W',W'=(W.setCell ⟨rc,0,none⟩ (.slice none 0 0)).setCell ⟨rc,1,none⟩ (.int .i64 0)∧W'.heap[rc]? =some (.cells #[.slice none 0 0,.int .i64 0] 78 (0,0))∧RowKit.Below w.heap.size w W':=by
  rintro W cs hh rfl hbb
  exact⟨_,rfl,blk_put (blk_put hh 0 (.slice none 0 0) rfl) 1 (.int .i64 0) rfl,(hbb.setCell (p:=⟨rc,0,none⟩) (Nat.le_of_eq HRC.out) _).setCell (p:=⟨rc,1,none⟩) (Nat.le_of_eq HRC.out) _⟩
 have HZE:=ak HZE
 clear hz2 hSZ2
 cases dn with
 | true=>
  go_wp2_with (first
   | (go_at_call 49;(with_reducible refine HDN2.out.mono ?_);rintro e w3 ⟨rfl,hw⟩;obtain rfl:=hw.symm)
   | (go_at_call 48;(with_reducible refine HSZ2.out.mono ?_);rintro e w3 ⟨rfl,hw⟩;obtain rfl:=hw.symm))
  obtain⟨W',e1,e2,e3⟩:=HZE.out _ _ HZ2.out rfl HB2.out
  rw[← e1]
  refine bodyPost_ret (results_ctt rfl _ _ rc 78 (manC noM none 0) (0,0) _ rfl e2 Tryz.underlying78 rfl (by kernel_rfl)) rfl ?_
  rw[HL.out,if_pos (by trivial)]
  exact⟨none,0,rfl,Kd.R_nil _ _ _ _ _,e3⟩
 | false=>
  cases is with
  | false=>
   go_wp2_with (first
    | (go_at_call 49;(with_reducible refine HDN2.out.mono ?_);rintro e w3 ⟨rfl,hw⟩;obtain rfl:=hw.symm)
    | (go_at_call 48;(with_reducible refine HSZ2.out.mono ?_);rintro e w3 ⟨rfl,hw⟩;obtain rfl:=hw.symm))
   obtain⟨W',e1,e2,e3⟩:=HZE.out _ _ HZ2.out rfl HB2.out
   rw[← e1]
   refine bodyPost_ret (results_ctt rfl _ _ rc 78 (manC noM none 0) (0,0) _ rfl e2 Tryz.underlying78 rfl (by kernel_rfl)) rfl ?_
   rw[HL.out,if_neg (by decide),if_pos (by trivial)]
   exact⟨none,0,rfl,Kd.R_nil _ _ _ _ _,e3⟩
  | true=>
   go_upto_region 7 with(first
    | (go_at_call 49;(with_reducible refine HDN2.out.mono ?_);rintro e w3 ⟨rfl,hw⟩;obtain rfl:=hw.symm)
    | (go_at_call 48;(with_reducible refine HSZ2.out.mono ?_);rintro e w3 ⟨rfl,hw⟩;obtain rfl:=hw.symm))
   have hRD2:Calls Tryz.prog 50 #[ptr g,.string (nameOf 3 0),.int .i64 0,.int .i64 sz] w2 fun e w'=>∃v,e=.returned (.tuple #[v,.int .i64 er])∧Kd.R (Kd.int .u8) 5 w' w2.heap.size (fun _=>True) v bs∧RowKit.Below w2.heap.size w2 w':=HRD.out w2 HB2.out
   have HRD2:=ak hRD2
   obtain⟨gm,hgm⟩:∃p,getM bs=p:=⟨_,rfl⟩
   obtain⟨m,ok⟩:=gm
   have HGM:=ak hgm
   clear hRD2 hgm k0 k1 g0 g1
   go_upto_region 8 with(go_at_call 50;(with_reducible refine HRD2.out.mono ?_);rintro e w3 ⟨v,rfl,hv3,hb3⟩;obtain⟨A3,c3,hA3⟩:=Kd.R_slice hv3;subst hA3;have HV3:=ak (Kd.R_reads' hv3).2;have HZ3:=ak ((hb3.block _ (blk_lt HZ2.out)).trans HZ2.out);have HB3:=ak (HB2.out.trans (hb3.mono HB2.out.size));clear hv3 hb3)
   have hGET:Calls Tryz.prog 51 #[.slice A3 bs.length c3] w3 fun e w'=>Got w3 w' e m ok:=by
    have h:=get_calls A3 c3 bs w3 HV3.out.1 (by have:=HF.out.2;omega) HF.out.1 HV3.out.2
    rw[HGM.out] at h
    exact h
   have HGET:=ak hGET
   clear hGET
   have hL2:=HL.out
   rw[if_neg (by decide),if_neg (by decide)] at hL2
   have hL3:LM=if ok=true then(m,true,0) else(noM,false,22):=by rw[hL2];show(if(getM bs).2=true then((getM bs).1,true,0) else(noM,false,22))=_;rw[HGM.out]
   have HL3:=ak hL3
   clear hL2 hL3
   go_upto_region 9 with(go_at_call 51;(with_reducible refine HGET.out.mono ?_);rintro e w4 ⟨A4,c4,rfl,hv4,hb4⟩;have HV4:=ak hv4;have HZ4:=ak ((hb4.block _ (blk_lt HZ3.out)).trans HZ3.out);have HB4:=ak (HB3.out.trans (hb4.mono HB3.out.size));have HLE3:=ak HB3.out.size;clear hv4 hb4)
   have hn5:=heap_alloc_new w4 (.cells #[.slice A4 m.segs.length c4,.int .i64 m.next] 78)
   have hb5:=below_alloc (RowKit.Below.refl w4.heap.size w4) (.cells #[.slice A4 m.segs.length c4,.int .i64 m.next] 78)
   have hz5:=(hb5.block _ (blk_lt HZ4.out)).trans HZ4.out
   have HV5:=ak (Kd.R_lower (Kd.R_below HV4.out hb5) HLE3.out)
   have HB5:=ak (HB4.out.trans (hb5.mono HB4.out.size))
   generalize w4.alloc (.cells #[.slice A4 m.segs.length c4,.int .i64 m.next] 78)=w5 at hn5 hb5 hz5 HV5 HB5 ⊢
   have HZ5:=ak hz5
   have k0:=bq hz5 0 (.slice none 0 0)
   have k1:=bq hz5 1 (.int .i64 0)
   have g0:=blk_frozen hz5 0
   have g1:=blk_frozen hz5 1
   have n0:=bq hn5 0 (.slice A4 m.segs.length c4)
   have n1:=bq hn5 1 (.int .i64 m.next)
   clear hn5 hb5 hz5
   cases ok with
   | false=>
    go_wp2
    obtain⟨W',e1,e2,e3⟩:=HZE.out _ _ HZ5.out rfl HB5.out
    rw[← e1]
    refine bodyPost_ret (results_ctt rfl _ _ rc 78 (manC noM none 0) (0,0) _ rfl e2 Tryz.underlying78 rfl (by kernel_rfl)) rfl ?_
    rw[HL3.out,if_neg (by decide)]
    exact⟨none,0,rfl,Kd.R_nil _ _ _ _ _,e3⟩
   | true=>
    go_wp2
    refine bodyPost_ret (results_ctt rfl _ _ rc 78 (manC m A4 c4) (0,0) _ rfl (blk_put (blk_put HZ5.out 0 _ rfl) 1 _ rfl) Tryz.underlying78 rfl (by kernel_rfl)) rfl ?_
    rw[HL3.out,if_pos (by trivial)]
    exact⟨A4,c4,rfl,Kd.R_mono (Kd.R_far (p:=⟨rc,1,none⟩) (Kd.R_far (p:=⟨rc,0,none⟩) (Kd.R_types HV5.out HZ5.out (by decide)) (fun q hq=>hq.2) _) (fun q hq=>hq.2) _) (fun _ _=>trivial),(HB5.out.setCell (p:=⟨rc,0,none⟩) (Nat.le_of_eq HRC.out) _).setCell (p:=⟨rc,1,none⟩) (Nat.le_of_eq HRC.out) _⟩
end Mn
end
section
namespace Rc
open Go.Maps Fr Ext Pt Dk Lw

theorem Get_none (ad:Addr) (c:Nat) (n:Int) (y:List Int) (w:World) (hc:(n::y).length≤c) (hl:(n::y).length≤1000000000) (hB:IsBytes (n::y)) (hr:Kd.C (Kd.int .u8) w (some ad) (n::y).length (n::y)) (hk:isKind n=false):
    Calls Tryz.prog 75 #[.slice (some ad) (n::y).length c] w fun e w'=>Got w w' e (getM (n::y)).1 (getM (n::y)).2:=by
  obtain⟨ad',e1,y0⟩:=Kd.at_int hr 0 (by omega) (by simp)
  cases e1
  have y0:w.cell? ad=some (.int .u8 n):=by simpa [rd,Addr.add] using y0
  have hn:=hB n (by simp)
  have HB:=ak hB
  have HR:=ak hr
  have HL:=ak hl
  have HC:=ak hc
  have hL0:(((n::y).length:Int)==0)=false:=beq_eq_false_iff_ne.2 (by simp only[List.length_cons];omega)
  have hL1:(0:Int) < ((n::y).length:Int):=by simp only[List.length_cons];omega
  obtain⟨L,hL⟩:∃L,(n::y).length=L:=⟨_,rfl⟩
  rw[hL] at hL0 hL1 ⊢
  have HLL:=ak hL
  have hn64:wrap64 n=n:=by unfold wrap64;omega
  have hw64:IntKind.i64.wrap n=n:=(i64_w n).trans hn64
  have hmin:IntKind.i64.min≤n:=Int.le_trans (by decide:IntKind.i64.min≤0) hn.1
  have HW0:=ak (show(Lit.int .i64 n).wf=true by simp [Lit.wf];exact⟨hmin,by omega⟩)
  have HKV:=ak (kindV_no hk)
  have HIK:=ak hk
  clear hB hr hl hc hL hk
  go_enter Tryz.func75,Tryz.ntmps75
  go_upto_region 3 with(fail)
  have hcell:=heap_alloc_new w (.cells (recC zeroR none 0 none 0) 38)
  have hB1:=below_alloc (RowKit.Below.refl w.heap.size w) (.cells (recC zeroR none 0 none 0) 38)
  have y1:=pw_cell_below hB1 y0
  simp only[recC,zeroR,List.length_nil] at hcell hB1 y1
  generalize w.alloc (.cells #[.int .i64 0,.string ⟨#[]⟩,.int .i64 0,.int .i64 0,.int .i64 0,.slice none 0 0,.slice none 0 0] 38)=w1 at hcell hB1 y1 ⊢
  have HCELL:=ak hcell
  have HB1:=ak hB1
  have HY1:=ak y1
  have had:=cell_lt y1
  clear y0 hcell hB1
  obtain⟨rc,hrc⟩:∃rc,w.heap.size=rc:=⟨_,rfl⟩
  rw[hrc] at HCELL ⊢
  have HRC:=ak hrc
  clear hrc
  refine Code.wp_mono (Q:=Norm fun a' W=>∃tb:Nat,(∃mb:Nat,a'={tmps:=#[.slice (some ad) L c,undef,.pointer (some ⟨rc,0,none⟩),.bool false,.pointer (some ⟨tb,0,none⟩),.bool false,undef,undef,.slice (some ad) L c,.int .i64 L,.bool false,undef,.tuple #[.agg #[.nilFunc,.nilFunc,.nilFunc,.nilFunc],.bool false],.map (some mb),.slice (some ad) L c,.pointer (some ad),.int .u8 n,.int .i64 n,.tuple #[.agg #[.nilFunc,.nilFunc,.nilFunc,.nilFunc],.bool false],.agg #[.nilFunc,.nilFunc,.nilFunc,.nilFunc],.bool false,undef,undef,undef,undef,undef,undef,undef,undef,undef,undef,undef,undef,undef,undef,undef,undef,undef,undef,undef,undef,undef,undef],defers:=[]})∧W.heap[tb]? =some (.cells #[.nilFunc,.nilFunc,.nilFunc,.nilFunc] 126 (0,0))∧RowKit.Below w1.heap.size w1 W) (Norm.elim ?mono) ?reg
  case reg=>
    go_region_with (go_at_call 54;(with_reducible refine(kinds_calls _).mono ?_);rintro e w2 ⟨mb,rfl,hm,hb⟩;have had2:=cell_lt (pw_cell_below hb (by first | exact y1 | exact pw_cell_below (below_alloc (RowKit.Below.refl w1.heap.size w1) _) y1));have z0:w2.cell? ad=some (.int .u8 n):=pw_cell_below hb (by first | exact y1 | exact pw_cell_below (below_alloc (RowKit.Below.refl w1.heap.size w1) _) y1);have hlk:=KM.look hm n HW0.out;have hlk2:=fun o=>KM.look (hm.below (below_alloc (RowKit.Below.refl w2.heap.size w2) o)) n HW0.out;rw[HKV.out,HIK.out] at hlk;rw[HKV.out,HIK.out] at hlk2;(try (have hrow3:w2.heap[w1.heap.size]? =some (.cells #[.nilFunc,.nilFunc,.nilFunc,.nilFunc] 126 (0,0)):=(hb.block _ (by simp)).trans (blk_drew (heap_alloc_new w1 _));have q0:w2.cell? ⟨w1.heap.size,0,none⟩=some .nilFunc:=(blk_cell hrow3 0).trans rfl;have q1:w2.cell? ⟨w1.heap.size,1,none⟩=some .nilFunc:=(blk_cell hrow3 1).trans rfl;have q2:w2.cell? ⟨w1.heap.size,2,none⟩=some .nilFunc:=(blk_cell hrow3 2).trans rfl;have q3:w2.cell? ⟨w1.heap.size,3,none⟩=some .nilFunc:=(blk_cell hrow3 3).trans rfl;have f0:=blk_frozen hrow3 0;have f1:=blk_frozen hrow3 1;have f2:=blk_frozen hrow3 2;have f3:=blk_frozen hrow3 3));clear hm)
    all_goals
      have hBw2:RowKit.Below w1.heap.size w1 w2:=by
        first
          | (have hr3:=hrow3
             exact((below_alloc (RowKit.Below.refl w1.heap.size w1) _).drew).trans (hb.mono (below_alloc (RowKit.Below.refl w1.heap.size w1) _).size))
          | exact((RowKit.Below.refl w1.heap.size w1).drew).trans hb
      try simp only[-existsAndEq,Act.put,List.getElem_toArray,List.getElem_cons_succ,List.getElem_cons_zero,zq1,zq2,zq3]
    all_goals first
      | (have hr3:=hrow3;skip)
      | (refine Norm.intro ⟨w2.heap.size,⟨mb,?_⟩,?_,?_⟩
         · rfl
         · exact heap_alloc_new w2 _
         · exact below_alloc hBw2 _)
    all_goals
      refine Norm.intro ⟨w1.heap.size,⟨mb,?_⟩,?_,?_⟩
      · rfl
      · exact blk_put (blk_put (blk_put (blk_put hrow3 0 _ rfl) 1 _ rfl) 2 _ rfl) 3 _ rfl
      · exact(((hBw2.setCell (p:=⟨w1.heap.size,0,none⟩) (Nat.le_refl _) _).setCell (p:=⟨w1.heap.size,1,none⟩) (Nat.le_refl _) _).setCell (p:=⟨w1.heap.size,2,none⟩) (Nat.le_refl _) _).setCell (p:=⟨w1.heap.size,3,none⟩) (Nat.le_refl _) _
  case mono=>
    rintro a' w2 ⟨tb,⟨mb,rfl⟩,htb,hB2⟩
    have HTB:=ak htb
    have HB2:=ak (HB1.out.trans (hB2.mono HB1.out.size))
    have hcell2:=(hB2.block _ (blk_lt HCELL.out)).trans HCELL.out
    have HCELL2:=ak hcell2
    have z1:w2.cell? ad=some (.int .u8 n):=pw_cell_below hB2 HY1.out
    have had2:=cell_lt z1
    clear y1 had htb hB2 hcell2
    obtain⟨inf,hinf,hisz⟩:∃i0,Tryz.prog.info? 5=some i0∧i0.size=1:=by
      obtain⟨i0,h,he⟩:=Option.map_eq_some_iff.1 info5
      simp only[Prod.mk.injEq] at he
      exact⟨i0,h,he.2.1⟩
    obtain⟨A',s1,s2,s3⟩:=print_drop_of (P:=Tryz.prog) (Value.int .u8) (0:Int) 35 5 .i64 Tryz.underlying35 hinf hisz (some ad) c (n::y) 1 (by decide) (by simp only[List.length_cons];omega) HC.out
    have hdr:(n::y).drop (1:Int).toNat=y:=rfl
    rw[hdr] at s2 s3
    have s1':∀W:World,(Instr.slice 35 (.slice (some ad) L c) (some (.int .i64 1)) none none).run Tryz.prog W=.ok (.slice A' y.length (c - 1)) W:=fun W=>by have h:=s1 W;rw[hdr,HLL.out] at h;exact h
    have HCY:=ak (C_of_ints (s2 w (ints_of_C HR.out)))
    have HSY:=ak (show y.length≤c - 1 from s3)
    clear s1 s2 s3 hdr hinf hisz
    have hL2:0 < L:=by omega
    have hal1:ad.block < w2.heap.size+1:=by omega
    have hal2:ad.block < w2.heap.size+1+1:=by omega
    go_upto_region 4 with(fail)
    refine Code.wp_mono (Q:=Norm fun a' W=>∃xb bb:Nat,a'={tmps:=#[.slice (some ad) L c,undef,.pointer (some ⟨rc,0,none⟩),.bool false,.pointer (some ⟨tb,0,none⟩),.bool false,.pointer (some ⟨xb,0,none⟩),.pointer (some ⟨bb,0,none⟩),.slice (some ad) L c,.int .i64 L,.bool false,undef,.tuple #[.agg #[.nilFunc,.nilFunc,.nilFunc,.nilFunc],.bool false],.map (some mb),.slice (some ad) L c,.pointer (some ad),.int .u8 n,.int .i64 n,.tuple #[.agg #[.nilFunc,.nilFunc,.nilFunc,.nilFunc],.bool false],.agg #[.nilFunc,.nilFunc,.nilFunc,.nilFunc],.bool false,.slice (some ad) L c,.pointer (some ad),.int .u8 n,.int .i64 n,.agg #[.int .i64 n,.string ⟨#[]⟩,.int .i64 0,.int .i64 0,.int .i64 0,.slice none 0 0,.slice none 0 0],.slice (some ad) L c,.slice A' y.length (c - 1),undef,undef,undef,undef,undef,undef,undef,undef,undef,undef,undef,undef,undef,undef,undef],defers:=[]}∧W.heap[xb]? =some (.cells #[.int .i64 n,.string ⟨#[]⟩,.int .i64 0,.int .i64 0,.int .i64 0,.slice none 0 0,.slice none 0 0] 119 (0,0))∧W.heap[bb]? =some (.cells #[.slice A' y.length (c - 1)] 120 (0,0))∧RowKit.Below w2.heap.size w2 W∧w2.heap.size≤xb∧w2.heap.size≤bb) (Norm.elim ?mono4) ?reg4
    case reg4=>
      go_region_law (fail)
      all_goals
        refine Norm.intro ⟨_,_,rfl,?_,?_,(two_new w2 _ _).2.2,?_,?_⟩
        · first | with_reducible exact(two_new w2 _ _).1 | with_reducible exact(two_new w2 _ _).2.1
        · first | with_reducible exact(two_new w2 _ _).1 | with_reducible exact(two_new w2 _ _).2.1
        · omega
        · omega
    case mono4=>
      rintro a' w3 ⟨xb,bb,rfl,hx3,hb3,hB3,l1,l2⟩
      have hle2:w.heap.size≤w2.heap.size:=HB2.out.size
      have hG3:GetB w w3 bb y:=⟨HB2.out.trans (hB3.mono hle2),Nat.le_trans hle2 l2,A',c - 1,hb3,HSY.out,HCY.out⟩
      have hcl3:=(hB3.block _ (blk_lt HCELL2.out)).trans HCELL2.out
      have HCL3:=ak hcl3
      have HB3:=ak hG3.bel
      have k0:=bq hcl3 0 (.int .i64 0)
      have g0:=blk_frozen hcl3 0
      have k1:=bq hcl3 1 (.string ⟨#[]⟩)
      have g1:=blk_frozen hcl3 1
      have k2:=bq hcl3 2 (.int .i64 0)
      have g2:=blk_frozen hcl3 2
      have k3:=bq hcl3 3 (.int .i64 0)
      have g3:=blk_frozen hcl3 3
      have k4:=bq hcl3 4 (.int .i64 0)
      have g4:=blk_frozen hcl3 4
      have k5:=bq hcl3 5 (.slice none 0 0)
      have g5:=blk_frozen hcl3 5
      have k6:=bq hcl3 6 (.slice none 0 0)
      have g6:=blk_frozen hcl3 6
      clear hle2 hG3 hcl3 hx3 hb3 hB3 z1 had2 hal1 hal2 s1'
      go_wp2
      refine bodyPost_ret (results_ct rfl _ _ rc 38 (recC zeroR none 0 none 0) (0,0) _ rfl (blk_put (blk_put (blk_put (blk_put (blk_put (blk_put (blk_put HCL3.out 0 _ rfl) 1 _ rfl) 2 _ rfl) 3 _ rfl) 4 _ rfl) 5 _ rfl) 6 _ rfl) Tryz.underlying38 rfl (by kernel_rfl)) rfl ?_
      rw[show getM (n::y)=(zeroR,false) from(by show(if isKind n=true then _ else _)=_;rw[HIK.out];rfl)]
      exact⟨none,0,none,0,rfl,Kd.R_nil _ _ _ _ _,Kd.R_nil _ _ _ _ _,(((((((HB3.out.setCell (p:=⟨rc,0,none⟩) (Nat.le_of_eq HRC.out) _).setCell (p:=⟨rc,1,none⟩) (Nat.le_of_eq HRC.out) _).setCell (p:=⟨rc,2,none⟩) (Nat.le_of_eq HRC.out) _).setCell (p:=⟨rc,3,none⟩) (Nat.le_of_eq HRC.out) _).setCell (p:=⟨rc,4,none⟩) (Nat.le_of_eq HRC.out) _).setCell (p:=⟨rc,5,none⟩) (Nat.le_of_eq HRC.out) _).setCell (p:=⟨rc,6,none⟩) (Nat.le_of_eq HRC.out) _)⟩
end Rc
end
section
namespace Rc
open Go.Maps Fr Ext Pt Dk Lw
theorem ofM1 {R:Re} {y:List Int} (h:R.f0=1):ofM R y=pieceOfM R y:=by unfold ofM;rw[if_pos h]
theorem ofM2 {R:Re} {y:List Int} (h:R.f0=2):ofM R y=rootOfM R y:=by unfold ofM;rw[if_neg (by omega),if_pos h]
theorem ofM3 {R:Re} {y:List Int} (h:R.f0=3):ofM R y=inlineOfM R y:=by unfold ofM;rw[if_neg (by omega),if_neg (by omega),if_pos h]
theorem ofM4 {R:Re} {y:List Int} (h:R.f0=4):ofM R y=(true,tombOfM R y):=by unfold ofM;rw[if_neg (by omega),if_neg (by omega),if_neg (by omega)]
theorem rootOfM_f0 (R:Re) (y:List Int):(rootOfM R y).2.f0=R.f0∧(rootOfM R y).2.f6=R.f6:=by
 unfold rootOfM rootTail
 split <;> exact⟨rfl,rfl⟩
theorem rootOfM_f5 (R:Re) (y:List Int) (hB:IsBytes y) (h5:R.f5=[]):(rootOfM R y).2.f5.length≤1000000000:=by
 unfold rootOfM rootTail
 split
 ·have h1:=rootLoop_length (max (numP (numP (numP (keyedP y).2.2 6).2 3).2 2).1 0).toNat (numP (numP (numP (keyedP y).2.2 6).2 3).2 2).2 []
  have h2:=numP_lt (numP_bytes (n:=3) (numP_bytes (n:=6) (keyedP_bytes hB))) 2
  refine Nat.le_trans h1 ?_
  simp only[List.length_nil]
  omega
 ·show R.f5.length≤_
  rw[h5]
  decide
theorem Get_calls (A:Option Addr) (c:Nat) (bs:List Int) (w:World) (hc:bs.length≤c) (hl:bs.length≤1000000000) (hB:IsBytes bs) (hr:Kd.C (Kd.int .u8) w A bs.length bs):
  Calls Tryz.prog 75 #[.slice A bs.length c] w fun e w'=>Got w w' e (getM bs).1 (getM bs).2:=by
 cases bs with
 | nil=>exact Get_nil A c w
 | cons n y=>
  obtain⟨ad,rfl,_⟩:=Kd.at_int hr 0 (by omega) (by simp)
  have hyl:y.length≤1000000000:=by simp only[List.length_cons] at hl;omega
  have hyB:IsBytes y:=fun x hx=>hB x (by simp [hx])
  cases hk:isKind n with
  | false=>exact Get_none ad c n y w hc hl hB hr hk
  | true=>
   rcases isKind_cases hk with h | h | h | h
   ·have e:=ofM1 (R:={zeroR with f0:=n}) (y:=y) h
    refine Get_kind ad c n y w hc hl hB hr hk 82 83 84 85 (by rw[h];rfl) (enters_ Tryz.func85 (by kernel_rfl) rfl) (by rw[e];rfl) (by rw[e];exact Nat.zero_le _) ?_
    intro rb bb W hG hrow hrb
    rw[e]
    refine(pieceOf_calls hyl hyB hG hrow hrb).mono ?_
    rintro e w1 ⟨rfl,A6,c6,h1,h2,h3⟩
    exact⟨rfl,none,0,A6,c6,h1,Kd.R_nil _ _ _ _ _,h2,h3⟩
   ·have e:=ofM2 (R:={zeroR with f0:=n}) (y:=y) h
    have hr6:=rootOfM_f0 {zeroR with f0:=n} y
    refine Get_kind ad c n y w hc hl hB hr hk 86 87 88 89 (by rw[h];rfl) (enters_ Tryz.func89 (by kernel_rfl) rfl) (by rw[e];exact hr6.1) (by rw[e];exact rootOfM_f5 _ _ hyB rfl) ?_
    intro rb bb W hG hrow hrb
    rw[e]
    refine(rootOf_calls hyl hyB hG hrow rfl hrb).mono ?_
    rintro e w1 ⟨rfl,A5,c5,h1,h2,h3⟩
    refine⟨rfl,A5,c5,none,0,h1,h2,?_,h3⟩
    rw[hr6.2]
    exact Kd.R_nil _ _ _ _ _
   ·have e:=ofM3 (R:={zeroR with f0:=n}) (y:=y) h
    refine Get_kind ad c n y w hc hl hB hr hk 90 91 92 93 (by rw[h];rfl) (enters_ Tryz.func93 (by kernel_rfl) rfl) (by rw[e];rfl) (by rw[e];exact Nat.zero_le _) ?_
    intro rb bb W hG hrow hrb
    rw[e]
    refine(inlineOf_calls hyl hyB hG hrow hrb).mono ?_
    rintro e w1 ⟨rfl,A6,c6,h1,h2,h3⟩
    exact⟨rfl,none,0,A6,c6,h1,Kd.R_nil _ _ _ _ _,h2,h3⟩
   ·have e:=ofM4 (R:={zeroR with f0:=n}) (y:=y) h
    refine Get_kind ad c n y w hc hl hB hr hk 94 95 96 97 (by rw[h];rfl) (enters_ Tryz.func97 (by kernel_rfl) rfl) (by rw[e];rfl) (by rw[e];exact Nat.zero_le _) ?_
    intro rb bb W hG hrow hrb
    rw[e]
    refine(tombOf_calls hG hrow).mono ?_
    rintro e w1 ⟨rfl,h1,h2⟩
    exact⟨rfl,none,0,none,0,h1,Kd.R_nil _ _ _ _ _,Kd.R_nil _ _ _ _ _,h2⟩
end Rc
end
section
namespace Sg
open Go.Maps Fr Ext Go.Proofs.YtcieieacfoaklaaGreat.Nm Dk Mn

variable {w:World} {B g N:Nat} {M:DiskM} {F:Nat→Prop}
def segN (n:Int):ByteArray:=nameOf 1 n
theorem segN_le (n:Int):(segN n).size≤maxLen:=nameOf_le _ _
abbrev segC (g:Nat) (s:ByteArray) (n:Int):Array Value:=#[ptr g,.string s,.int .i64 n]
theorem of_calls (g:Nat) (n:Int) (w:World):Calls Tryz.prog 55 #[ptr g,.int .i64 n] w fun e w'=>e=.returned (.agg (segC g (segN n) n))∧RowKit.Below w.heap.size w w':=by
 have hz:=heap_alloc_new w (.cells #[.pointer none,.string ⟨#[]⟩,.int .i64 0] 132)
 have hb1:=below_alloc (RowKit.Below.refl w.heap.size w) (.cells #[.pointer none,.string ⟨#[]⟩,.int .i64 0] 132)
 go_enter Tryz.func55,Tryz.ntmps55
 go_upto_region 1 with(fail)
 generalize w.alloc (.cells #[.pointer none,.string ⟨#[]⟩,.int .i64 0] 132)=w1 at hz hb1 ⊢
 have HZ:=ak hz
 have HB:=ak hb1
 clear hz hb1
 go_wp2_with (go_at_call 47;(with_reducible refine(Nm.of_calls _ _ _).mono ?_);rintro e w2 ⟨rfl,hb2⟩;have hz2:=(hb2.block _ (blk_lt HZ.out)).trans HZ.out;have HZ2:=ak hz2;have HB2:=ak (HB.out.trans (hb2.mono HB.out.size));have k0:=bq hz2 0 (.pointer none);have k1:=bq hz2 1 (.string ⟨#[]⟩);have k2:=bq hz2 2 (.int .i64 0);have g0:=blk_frozen hz2 0;have g1:=blk_frozen hz2 1;have g2:=blk_frozen hz2 2;clear hb2 hz2)
 refine bodyPost_ret (results_cell_row rfl _ _ w.heap.size 132 (segC g (nameOf 1 n) n) (0,0) _ rfl (blk_put (blk_put (blk_put HZ2.out 0 _ rfl) 1 _ rfl) 2 _ rfl) Tryz.underlying132 rfl (by kernel_rfl)) rfl ?_
 exact⟨rfl,((HB2.out.setCell (p:=⟨w.heap.size,0,none⟩) (Nat.le_refl _) _).setCell (p:=⟨w.heap.size,1,none⟩) (Nat.le_refl _) _).setCell (p:=⟨w.heap.size,2,none⟩) (Nat.le_refl _) _⟩
theorem size_calls (hd:DiskAt w B g N M F) (s:ByteArray) (n:Int) (hs:s.size≤maxLen):Calls Tryz.prog 56 #[.agg (segC g s n)] w fun e w'=>e=.returned (.int .i64 (sizeM M s))∧RowKit.Below w.heap.size w w':=by
 have hz:=heap_alloc_new w (.cells #[ptr g,.string s,.int .i64 n] 132)
 have hb1:=below_alloc (RowKit.Below.refl w.heap.size w) (.cells #[ptr g,.string s,.int .i64 n] 132)
 have HS:=ak ((hd.below hb1).size? s hs)
 clear hd
 go_enter Tryz.func56,Tryz.ntmps56
 go_upto_region 1 with(fail)
 generalize w.alloc (.cells #[ptr g,.string s,.int .i64 n] 132)=w1 at hz hb1 HS ⊢
 have k0:=bq hz 0 (ptr g)
 have k1:=bq hz 1 (.string s)
 have HB:=ak hb1
 clear hz hb1
 go_wp2_with (go_at_call 48;(with_reducible refine HS.out.mono ?_);rintro e w2 ⟨rfl,hw⟩;obtain rfl:=hw.symm)
 go_ret
 exact⟨rfl,HB.out⟩
theorem Size_calls (hd:DiskAt w B g N M F) (n:Int):Calls Tryz.prog 33 #[ptr g,.int .i64 n] w fun e w'=>e=.returned (.int .i64 (sizeM M (segN n)))∧RowKit.Below w.heap.size w w':=by
 have HD:=ak hd
 clear hd
 go_enter Tryz.func33,Tryz.ntmps33
 go_wp2_with (first
  | (go_at_call 56;(with_reducible refine(Sg.size_calls (HD.out.below HB.out) _ _ (segN_le _)).mono ?_);rintro e w2 ⟨rfl,hb2⟩;have HB2:=ak (HB.out.trans (hb2.mono HB.out.size));clear hb2)
  | (go_at_call 55;(with_reducible refine(Sg.of_calls _ _ _).mono ?_);rintro e w1 ⟨rfl,hb1⟩;have HB:=ak hb1;clear hb1))
 go_ret
 exact⟨rfl,HB2.out⟩
def firstB (n:Int):List Int:=9::be4 n
theorem firstB_bytes (n:Int):IsBytes (firstB n):=by
 intro x hx
 rcases List.mem_cons.1 hx with rfl | hx
 ·omega
 ·exact be4_bytes n x hx
theorem first_calls (g:Nat) (s:ByteArray) (n:Int) (w:World):Calls Tryz.prog 104 #[.agg (segC g s n)] w fun e w'=>e=.returned (.string (strOfNums (firstB n)))∧RowKit.Below w.heap.size w w':=by
 have hz:=heap_alloc_new w (.cells #[ptr g,.string s,.int .i64 n] 132)
 have hb1:=below_alloc (RowKit.Below.refl w.heap.size w) (.cells #[ptr g,.string s,.int .i64 n] 132)
 go_enter Tryz.func104,Tryz.ntmps104
 go_upto_region 1 with(fail)
 generalize w.alloc (.cells #[ptr g,.string s,.int .i64 n] 132)=w1 at hz hb1 ⊢
 have k2:=bq hz 2 (.int .i64 n)
 have HB:=ak hb1
 clear hz hb1
 have hcs:(convert 35 9 (.slice (some ⟨w1.heap.size,0,none⟩) 5 5)).run Tryz.prog (w1.alloc (.cells #[.int .u8 9,.int .u8 (n / 16777216 % 256),.int .u8 (n / 65536 % 256),.int .u8 (n / 256 % 256),.int .u8 (n % 256)] 5))=.ok (.string (strOfNums (firstB n))) (w1.alloc (.cells #[.int .u8 9,.int .u8 (n / 16777216 % 256),.int .u8 (n / 65536 % 256),.int .u8 (n / 256 % 256),.int .u8 (n % 256)] 5)):=
  string_of_reads Tryz.underlying35 Tryz.underlying5 Tryz.underlying9 (lit_reads w1 5 .u8 (firstB n) (by show 5≤_;decide))
 go_wp2
 go_ret
 exact⟨rfl,below_alloc HB.out _⟩
end Sg
end
section
namespace Sg
open Go.Maps Fr Ext Go.Proofs.YtcieieacfoaklaaGreat.Nm Dk Mn

variable {w:World} {B g N:Nat} {M:DiskM} {F:Nat→Prop}
def mk7T:Bool×List (List Nat×List Nat):=(true,[([],[]),([0],[0]),([],[]),([2],[2]),([],[]),([4],[4]),([5],[5]),([6,5],[6]),([1,3,7,7],[1,3,7]),([8,8,0,1,2,3,4,5,6,7,8],[8])])
def mk7B:List Nat:=[0,1,0,4,0,16,48,112,255,511]
theorem mk7tab:rtab .any (opsOf Tryz.f62 7)=mk7T:=by kernel_rfl
theorem mk7bits:waitsOk mk7T.2 mk7B=true:=by kernel_rfl
theorem bytesOf_str (l:List Int) (h:IsBytes l):bytesOf (strOfNums l)=l:=by
 rw[bytesOf,strOfNums_data,List.map_map]
 conv=>rhs;rw[← List.map_id l]
 refine List.map_congr_left fun x hx=>?_
 have:=h x hx
 simp only[Function.comp,UInt8.toNat_ofNat',id]
 omega
theorem str_ascii (l:List Int) (h:∀x∈l,0≤x∧x < 128):Ascii (strOfNums l):=by
 intro c hc
 rw[strOfNums_data] at hc
 obtain⟨x,hx,rfl⟩:=List.mem_map.1 hc
 have:=h x hx
 simp only[UInt8.toNat_ofNat']
 omega
theorem digs_range:∀k n,∀d∈digs k n,48≤d∧d < 58
 | 0,n,d,h=>by cases h
 | k+1,n,d,h=>by
  rcases List.mem_cons.1 h with rfl | h
  ·omega
  ·exact digs_range k n d h
theorem nameL_ascii (c n:Nat) (hc:c < 128):Ascii (strOfNums (nameL c n)):=by
 refine str_ascii _ fun x hx=>?_
 rcases List.mem_cons.1 hx with rfl | hx
 ·omega
 ·obtain⟨d,hd,rfl⟩:=List.mem_map.1 hx
  have:=digs_range 8 n d hd
  simp only[Int.ofNat_eq_natCast]
  omega
theorem nameOf_ascii (kind n:Int):Ascii (nameOf kind n):=by
 unfold nameOf
 repeat' split
 all_goals first | exact nameL_ascii _ _ (by decide) | (intro c hc;revert c hc;decide)
theorem segN_ascii (n:Int):Ascii (segN n):=nameOf_ascii _ _
def putF (M:DiskM) (n:Int):DiskM×Int:=
 if(appendM M (segN n) (putL (firstB n))).2=0 then appendM M (segN n) (putL (firstB n)) else((removeM (appendM M (segN n) (putL (firstB n))).1 (segN n)).1,(appendM M (segN n) (putL (firstB n))).2)
def makeM (M:DiskM) (n:Int):DiskM×Int:=
 if(segN n).size=0 then(M,1) else if(createM M (segN n)).2=0 then putF (createM M (segN n)).1 n else createM M (segN n)
theorem putF_fit (h:Fit M) (n:Int):Fit (putF M n).1:=by
 have h1:=h.append (segN n) (putL (firstB n)) (put_bytes _ (firstB_bytes n))
 unfold putF
 split
 ·exact h1
 ·exact h1.remove _
theorem makeM_fit (h:Fit M) (n:Int):Fit (makeM M n).1:=by
 have h1:=h.create (segN n) (segN_ascii n)
 unfold makeM
 split
 ·exact h
 split
 ·exact putF_fit h1 n
 ·exact h1
theorem five_str (n:Int):(strOfNums (firstB n)).size=5:=rfl
theorem first_str (n:Int):bytesOf (strOfNums (firstB n))=firstB n:=bytesOf_str _ (firstB_bytes n)
theorem putL_le (l:List Int):(putL l).length≤1000000000:=by
 have h:=put_len l
 have h1:sizeI l.length≤8200:=by unfold sizeI;split <;> (try split) <;> omega
 omega
theorem make_calls (hd:DiskAt w B g N M F) (hM:Fit M) (n:Int) (hN:N+2≤1000000000000):Calls Tryz.prog 62 #[ptr g,.int .i64 n] w fun e w'=>e=.returned (.int .i64 (makeM M n).2)∧Turned w w' B g (N+2) F (makeM M n).1:=by
 have HM:=ak hM
 have HD:=ak hd
 have HN:=ak hN
 have hdef:makeM M n=if(segN n).size=0 then(M,1) else if(createM M (segN n)).2=0 then putF (createM M (segN n)).1 n else createM M (segN n):=rfl
 have HDEF:=ak hdef
 have HSL:=ak (segN_le n)
 have HSA:=ak (segN_ascii n)
 clear hd hM hN hdef
 go_enter Tryz.func62,Tryz.ntmps62
 go_upto_region 2 with(go_at_call 55;(with_reducible refine(Sg.of_calls _ _ _).mono ?_);rintro e w1 ⟨rfl,hb1⟩;have HB1:=ak hb1;clear hb1)
 obtain⟨s,hs⟩:∃s,segN n=s:=⟨_,rfl⟩
 have HS:=ak hs
 rw[hs] at HDEF HSL HSA ⊢
 clear hs
 have hz:=heap_alloc_new w1 (.cells #[ptr g,.string s,.int .i64 n] 132)
 have hb2:=below_alloc (RowKit.Below.refl w1.heap.size w1) (.cells #[ptr g,.string s,.int .i64 n] 132)
 have HB2:=ak (HB1.out.trans (hb2.mono HB1.out.size))
 generalize w1.alloc (.cells #[ptr g,.string s,.int .i64 n] 132)=w2 at hz hb2 HB2 ⊢
 have hsb:=HB1.out.size
 obtain⟨sb,hsbe⟩:∃sb,w1.heap.size=sb:=⟨_,rfl⟩
 rw[hsbe] at hz hsb ⊢
 have HSB:=ak hsb
 have HZ2:=ak hz
 have x0:=bq hz 0 (ptr g)
 have x1:=bq hz 1 (.string s)
 clear hz hb2 hsb hsbe
 by_cases hb:s.size=0
 case pos=>
  have hdef:=HDEF.out
  rw[if_pos hb] at hdef
  have HDEF2:=ak hdef
  have hse:s=⟨#[]⟩:=by
   cases s with
   | mk d=>rw[Array.eq_empty_of_size_eq_zero hb]
  subst hse
  clear HDEF hdef hb
  go_wp2
  go_ret
  rw[HDEF2.out]
  exact⟨rfl,(Turned.of_below HD.out HB2.out).mono (by omega)⟩
 case neg=>
  have hne:s.toList≠[]:=fun h=>hb (by
   have h2:=Go.ByteArray.toList_eq s
   rw[h] at h2
   show s.data.size=0
   rw[← Array.length_toList,← h2]
   rfl)
  have hA:(s.toList==[])=false:=by
   cases hh:s.toList with
   | nil=>exact absurd hh hne
   | cons a l=>rfl
  have hB:s.toList.isEmpty=false:=by
   cases hh:s.toList with
   | nil=>exact absurd hh hne
   | cons a l=>rfl
  have hdef:=HDEF.out
  rw[if_neg hb] at hdef
  have HDEF2:=ak hdef
  clear HDEF hdef hb
  go_upto_region 4 with(fail)
  have HCR:=ak ((HD.out.below HB2.out).create? s HSL.out (by have:=HN.out;omega))
  have hdef:=HDEF2.out
  have HF1:=ak (HM.out.create s HSA.out)
  generalize createM M s=p at hdef HCR HF1
  obtain⟨M1,e1⟩:=p
  have HDEF3:=ak hdef
  clear hdef HDEF2
  go_upto_region 5 with(go_at_call 103;(with_reducible refine HCR.out.mono ?_);rintro e w3 ⟨rfl,h3⟩;have H3:=ak h3;clear h3)
  by_cases he:e1=0
  case neg=>
   have d1:(e1 !=0)=true:=bne_iff_ne.mpr he
   have HE:=ak he
   clear he
   go_wp2
   go_ret
   rw[HDEF3.out,if_neg HE.out]
   exact⟨rfl,(Turned.after (Keeps.of_below HB2.out) H3.out).mono (by omega)⟩
  subst he
  have hdef:=HDEF3.out
  rw[if_pos rfl] at hdef
  have HDEF4:=ak hdef
  clear hdef HDEF3
  obtain⟨F1,hd1,hs1,hs2,hk1⟩:=H3.out
  have hsF:¬F1 sb:=fun h=>by
   rcases hs2 sb h with h | h
   ·have h1:=HD.out.lt sb h
    have h2:=HSB.out
    omega
   ·have h1:=blk_lt HZ2.out
    omega
  have hz3:=hk1.obj HZ2.out (fun h=>hsF (hs1 sb h))
  have HZ3:=ak hz3
  have HD3:=ak hd1
  have HSF:=ak hsF
  have HAP:=ak (fun W (hW:RowKit.Below w3.heap.size w3 W) (A':Option Addr) (c':Nat) (hv:Kd.R (Kd.int .u8) 5 W w3.heap.size (fun _=>True) (.slice A' (putL (firstB n)).length c') (putL (firstB n)))=>(hd1.below hW).append? s A' c' (putL (firstB n)) HSL.out HF1.out.len (putL_le _) (row_held hv hd1.lt))
  have HG:=ak (And.intro hs1 (And.intro hs2 hk1))
  have HTG:=ak (fun W M' (h:Turned w3 W B g (N+1) F1 M')=>Turned.after (Keeps.of_below HB2.out) (Turned.glue hs1 hs2 hk1 h))
  clear hd1 hs1 hs2 hk1 hz3 hsF H3 x0 x1
  go_upto_region 7 with(fail)
  have kb:∀W,(convert 9 35 (.string (strOfNums (firstB n)))).run Tryz.prog W=.ok (.slice (some ⟨W.heap.size,0,none⟩) 5 (grownCap W 5 0 5)) (Lib.bytesWorld W 5 (strOfNums (firstB n))):=fun W=>print_bytes (P:=Tryz.prog) 9 35 5 Tryz.underlying9 Tryz.underlying35 Tryz.underlying5 (strOfNums (firstB n)) W
  refine st_ 10 (S:=(fun w'=>w'.heap[sb]? =some (.cells #[ptr g,.string s,.int .i64 n] 132 (0,0))∧RowKit.Below w3.heap.size w3 w')) (ds:=[8]) (by kernel_rfl) rfl (by kernel_rfl) ⟨blk_drew HZ3.out,(RowKit.Below.refl _ _).drew⟩ (fun hHeld=>?_);refine with_tabW mk7tab mk7bits (fun HT_ HW_=>?_)
  generalize w3.drew=w4 at hHeld ⊢
  refine fl_ [0,22,1,2,24,5] ?_
  iterate 2 refine pz_ HT_ ?_
  refine fe_ ?_
  refine tk_ 1 7 (N:=some 23) (v:=?_) (a':=?_) HT_ HW_ rfl rfl (.inl ⟨by rfl,?_⟩) hHeld ?_ ?_
  rotate_left
  ·rintro w' hs
   have xx0:=bq hs.1 0 (ptr g)
   have xx1:=bq hs.1 1 (.string s)
   have xx2:=bq hs.1 2 (.int .i64 n)
   go_simp
   with_reducible rfl
  rotate_left
  ·simp only[Act.put,zq1,zq2,zq3,i64_w,i32_w]
   rfl
  refine tk_ 3 15 (N:=some 25) (v:=?_) (a':=?_) HT_ HW_ rfl rfl (.inl ⟨by rfl,?_⟩) hHeld ?_ ?_
  rotate_left
  ·rintro w' hs
   have xx0:=bq hs.1 0 (ptr g)
   have xx1:=bq hs.1 1 (.string s)
   have xx2:=bq hs.1 2 (.int .i64 n)
   go_simp
   with_reducible rfl
  rotate_left
  ·simp only[Act.put,zq1,zq2,zq3,i64_w,i32_w]
   rfl
  refine tk_ 4 31 (N:=some 26) (v:=?_) (a':=?_) HT_ HW_ rfl rfl (.inl ⟨by rfl,?_⟩) hHeld ?_ ?_
  rotate_left
  ·rintro w' hs
   have xx0:=bq hs.1 0 (ptr g)
   have xx1:=bq hs.1 1 (.string s)
   have xx2:=bq hs.1 2 (.int .i64 n)
   go_simp
   with_reducible rfl
  rotate_left
  ·simp only[Act.put,zq1,zq2,zq3,i64_w,i32_w]
   rfl
  refine on_ 5 63 (some 27) HT_ rfl rfl (by kernel_rfl) (by decide) (fun K hK=>?_)
  refine goes_ Tryz.func104 (by kernel_rfl) rfl #[.agg #[ptr g,.string s,.int .i64 n]] (by rfl) rfl rfl (by(try simp only[List.map_toArray,List.map_cons,List.map_nil]);first | done | rfl) ?_
  refine(Sg.first_calls g s n _).mono ?_
  rintro e w5 ⟨rfl,hb⟩
  refine⟨_,rfl,?_⟩
  have hHeld:=(⟨(hb.block _ (blk_lt hHeld.1)).trans hHeld.1,hHeld.2.trans (hb.mono hHeld.2.size)⟩:_∧RowKit.Below w3.heap.size w3 _)
  refine kz_ hK hHeld fun hHeld=>?_;clear hK K
  clear hb
  have hle5:w3.heap.size≤(Lib.bytesWorld w5 5 (strOfNums (firstB n))).heap.size:=(bytes_below hHeld.2 hHeld.2.size 5 (strOfNums (firstB n))).size
  refine on_ 6 127 (some 28) HT_ rfl rfl (by kernel_rfl) (by decide) (fun K hK=>?_)
  refine Mn.alloc_step rfl (by go_simp;exact⟨rfl,rfl⟩) ?_
  have hHeld:=(⟨(Lib.bytesWorld_at_old w5 5 (strOfNums (firstB n)) sb (blk_lt hHeld.1)).trans hHeld.1,bytes_below hHeld.2 hHeld.2.size 5 (strOfNums (firstB n))⟩:_∧RowKit.Below w3.heap.size w3 _)
  refine kz_ hK hHeld fun hHeld=>?_;clear hK K
  have hrd:Kd.C (Kd.int .u8) (Lib.bytesWorld w5 5 (strOfNums (firstB n))) (some ⟨w5.heap.size,0,none⟩) (firstB n).length (firstB n):=by
   have h:=bytes_reads w5 5 (strOfNums (firstB n)) (by rw[five_str];decide)
   rw[first_str] at h
   exact Kd.C_of_reads (d:=(0:Int)) (h1:=fun _=>rfl) h
  refine on_ 7 255 (some 29) HT_ rfl rfl (by kernel_rfl) (by decide) (fun K hK=>?_)
  refine goes_ Tryz.func66 (by kernel_rfl) rfl #[.slice (some ⟨w5.heap.size,0,none⟩) 5 (grownCap w5 5 0 5)] (by rfl) rfl rfl (by(try simp only[List.map_toArray,List.map_cons,List.map_nil]);first | done | rfl) ?_
  refine(frame_Put.calls (some ⟨w5.heap.size,0,none⟩) (grownCap w5 5 0 5) (firstB n) (putL (firstB n)) _ hrd (grownCap_ge w5 5 0 5) rfl).mono ?_
  rintro e w6 ⟨v6,rfl,hv6,hb⟩
  refine⟨_,rfl,?_⟩
  have hHeld:=(⟨(hb.block _ (blk_lt hHeld.1)).trans hHeld.1,hHeld.2.trans (hb.mono hHeld.2.size)⟩:_∧RowKit.Below w3.heap.size w3 _)
  refine kz_ hK hHeld fun hHeld=>?_;clear hK K
  obtain⟨A6,c6,hA6⟩:=Kd.R_slice hv6
  subst hA6
  have hv6:=Kd.R_lower (base':=w3.heap.size) hv6 hle5
  refine la_ 8 511 (some 30) HT_ rfl rfl (by kernel_rfl) (by decide) (fun K hK=>?_)
  refine goes_ Tryz.func67 (by kernel_rfl) rfl #[.pointer (some ⟨g,0,none⟩),.string s,.slice A6 (putL (firstB n)).length c6] (by rfl) rfl rfl (by(try simp only[List.map_toArray,List.map_cons,List.map_nil]);first | done | rfl) ?_
  refine(HAP.out w6 hHeld.2 A6 c6 hv6).mono ?_
  rintro e w7 ⟨rfl,h7⟩
  refine⟨_,rfl,?_⟩
  refine hK.out _ _ ?_
  clear hK K
  refine norm_ (a':=?_) ?_ ?_
  rotate_left
  ·show Act.put _ (some 30) _=_
   simp only[Act.put,zq1,zq2,zq3,i64_w,i32_w]
   rfl
  refine fl_ [9,7,1023] ?_
  refine pz_ HT_ ?_
  refine fe_ ?_
  have H7:=ak (Turned.after (Keeps.of_below hHeld.2) h7)
  clear hHeld h7 hv6
  refine dz_ HT_ ?_
  have hdef:makeM M n=if(appendM M1 s (putL (firstB n))).2=0 then appendM M1 s (putL (firstB n)) else((removeM (appendM M1 s (putL (firstB n))).1 s).1,(appendM M1 s (putL (firstB n))).2):=by
   rw[HDEF4.out]
   unfold putF
   rw[HS.out]
  have HF2:=ak (HF1.out.append s (putL (firstB n)) (put_bytes _ (firstB_bytes n)))
  clear HAP HDEF4 hle5 hrd kb
  generalize appendM M1 s (putL (firstB n))=p at hdef HF2 H7 ⊢
  obtain⟨M2,e2⟩:=p
  have HDEF5:=ak hdef
  clear hdef
  by_cases he:e2=0
  ·subst he
   go_wp2
   go_ret
   rw[HDEF5.out,if_pos (by trivial)]
   exact⟨rfl,(HTG.out _ _ H7.out).mono (by omega)⟩
  ·have d1:(e2 !=0)=true:=bne_iff_ne.mpr he
   have HE:=ak he
   clear he
   obtain⟨F2,hd2,hs1,hs2,hk2⟩:=H7.out
   have hz7:=hk2.obj HZ3.out HSF.out
   have x0:=bq hz7 0 (ptr g)
   have x1:=bq hz7 1 (.string s)
   have HRM:=ak (hd2.remove? s HSL.out (by have:=HN.out;omega))
   have HT2:=ak (fun W M' (h:Turned w7 W B g (N+1+1) F2 M')=>Turned.glue hs1 hs2 hk2 h)
   clear hd2 hs1 hs2 hk2 hz7
   go_wp2_with (go_at_call 105;(with_reducible refine HRM.out.mono ?_);rintro e w8 ⟨rfl,h8⟩;have H8:=ak h8;clear h8)
   go_ret
   rw[HDEF5.out,if_neg (by first | exact HE.out | (intro h;exact HE.out h))]
   exact⟨rfl,Turned.after (Keeps.of_below HB2.out) (Turned.glue HG.out.1 HG.out.2.1 HG.out.2.2 (HT2.out _ _ H8.out))⟩
end Sg
end
section
namespace Sg
open Go.Maps Fr Ext Go.Proofs.YtcieieacfoaklaaGreat.Nm Dk Mn
open Rc (Norm Norm.intro Norm.elim cell_lt recC Re Lo)

variable {w:World} {B g N:Nat} {M:DiskM} {F:Nat→Prop}
def ad1T:Bool×List (List Nat×List Nat):=(true,[([],[]),([],[]),([0,1],[0,1]),([],[]),([3,2],[3]),([4,4],[4]),([],[]),([6,2,5,0,1,2,6],[2,6]),([5,7,0,1,2,3,4,5,6,7],[5])])
def ad1B:List Nat:=[0,0,3,0,15,31,0,127,255]
theorem ad1tab:rtab .any (opsOf Tryz.f35 1)=ad1T:=by kernel_rfl
theorem ad1bits:waitsOk ad1T.2 ad1B=true:=by kernel_rfl
def addM (M:DiskM) (n:Int) (R:Re):DiskM×Int×Int×Int:=
 if(putL (Rc.putM R)).length=0 then(M,0,0,1)
 else if(appendM M (segN n) (putL (Rc.putM R))).2=0 then((appendM M (segN n) (putL (Rc.putM R))).1,sizeM M (segN n),(putL (Rc.putM R)).length,0)
 else((appendM M (segN n) (putL (Rc.putM R))).1,0,0,(appendM M (segN n) (putL (Rc.putM R))).2)
theorem add_calls (hd:DiskAt w B g N M F) (hM:Fit M) (n:Int) (R:Re) (A5 A6:Option Addr) (c5 c6:Nat) (h0:(Lit.int .i64 R.f0).wf=true)
  (hl:Kd.C Pt.k57 w A5 R.f5.length R.f5) (hn:R.f5.length≤1000000000) (h6:Kd.C (Kd.int .u8) w A6 R.f6.length R.f6):
  Calls Tryz.prog 35 #[ptr g,.int .i64 n,.agg (recC R A5 c5 A6 c6)] w fun e w'=>e=.returned (.tuple #[.int .i64 (addM M n R).2.1,.int .i64 (addM M n R).2.2.1,.int .i64 (addM M n R).2.2.2])∧Turned w w' B g N F (addM M n R).1:=by
 have HD:=ak hd
 have HM:=ak hM
 have hbx:=heap_alloc_new w (.cells (recC R A5 c5 A6 c6) 38)
 have hB:=below_alloc (RowKit.Below.refl w.heap.size w) (.cells (recC R A5 c5 A6 c6) 38)
 have HRP:=ak (fun W (hW:RowKit.Below w.heap.size w W)=>Rc.Put_calls R A5 A6 c5 c6 W h0 (Kd.C_below hl hW) hn (Kd.C_below h6 hW))
 have hdef:addM M n R=if(putL (Rc.putM R)).length=0 then(M,0,0,1) else if(appendM M (segN n) (putL (Rc.putM R))).2=0 then((appendM M (segN n) (putL (Rc.putM R))).1,sizeM M (segN n),((putL (Rc.putM R)).length:Int),0) else((appendM M (segN n) (putL (Rc.putM R))).1,0,0,(appendM M (segN n) (putL (Rc.putM R))).2):=rfl
 have HPL:=ak (putL_le (Rc.putM R))
 generalize hpm:Rc.putM R=pm at hdef HRP HPL
 have HFP:=ak (fun W A c (hc:pm.length≤c) (hr:Kd.C (Kd.int .u8) W A pm.length pm)=>frame_Put.calls A c pm (putL pm) W hr hc rfl)
 have HDEF:=ak hdef
 have HSL:=ak (segN_le n)
 clear hd hM h0 hl hn h6 hdef hpm
 go_enter Tryz.func35,Tryz.ntmps35
 go_upto_region 1 with(fail)
 generalize w.alloc (.cells (recC R A5 c5 A6 c6) 38)=w2 at hbx hB ⊢
 have HBX:=ak hbx
 have HB2:=ak hB
 obtain⟨rb,hrb⟩:∃rb,w.heap.size=rb:=⟨_,rfl⟩
 rw[hrb] at hbx HBX ⊢
 have HRB:=ak hrb
 clear hrb hB
 simp only[recC] at hbx
 refine Code.wp_mono (Q:=Norm fun a' W=>∃(sb:Nat) (A4:Option Addr) (c4:Nat) (A7:Option Addr) (c7:Nat),a'={tmps:=#[ptr g,.int .i64 n,.agg (recC R A5 c5 A6 c6),undef,undef,.pointer (some ⟨rb,0,none⟩),.int .i64 0,.int .i64 0,.int .i64 0,.pointer (some ⟨sb,0,none⟩),.slice A7 (putL pm).length c7,undef,undef,ptr g,.int .i64 n,.agg (segC g (segN n) n),.agg #[.int .i64 R.f0,.string R.f1,.int .i64 R.f2,.int .i64 R.f3,.int .i64 R.f4,.slice A5 R.f5.length c5,.slice A6 R.f6.length c6],.slice A4 pm.length c4,.slice A7 (putL pm).length c7,undef,undef,undef,undef,undef,undef,undef,undef,undef,undef,undef,undef,undef,undef,undef,undef,undef],defers:=[]}∧W.heap[sb]? =some (.cells (segC g (segN n) n) 132 (0,0))∧Kd.R (Kd.int .u8) 5 W w2.heap.size (fun _=>True) (.slice A7 (putL pm).length c7) (putL pm)∧RowKit.Below w2.heap.size w2 W∧w2.heap.size≤sb) (Norm.elim ?mono) ?reg
 case reg=>
  refine st_ 9 (S:=(fun w'=>RowKit.Below w2.heap.size w2 w')) (ds:=[]) (by kernel_rfl) rfl (by kernel_rfl) (RowKit.Below.refl _ _).drew (fun hHeld=>?_);refine with_tabW ad1tab ad1bits (fun HT_ HW_=>?_)
  generalize w2.drew=v0 at hHeld ⊢
  refine fl_ [0,13,1,1,14,3] ?_
  iterate 2 refine pz_ HT_ ?_
  refine fe_ ?_
  refine tk_ 3 11 (N:=some 16) (v:=?_) (a':=?_) HT_ HW_ rfl rfl (.inl ⟨by rfl,?_⟩) hHeld ?_ ?_
  rotate_left
  ·rintro w' hs
   have hr':=(hs.block _ (blk_lt hbx)).trans hbx
   have xx0:w'.cell? ⟨rb,0,none⟩=some (.int .i64 R.f0):=(blk_cell hr' 0).trans rfl
   have xx1:w'.cell? ⟨rb,1,none⟩=some (.string R.f1):=(blk_cell hr' 1).trans rfl
   have xx2:w'.cell? ⟨rb,2,none⟩=some (.int .i64 R.f2):=(blk_cell hr' 2).trans rfl
   have xx3:w'.cell? ⟨rb,3,none⟩=some (.int .i64 R.f3):=(blk_cell hr' 3).trans rfl
   have xx4:w'.cell? ⟨rb,4,none⟩=some (.int .i64 R.f4):=(blk_cell hr' 4).trans rfl
   have xx5:w'.cell? ⟨rb,5,none⟩=some (.slice A5 R.f5.length c5):=(blk_cell hr' 5).trans rfl
   have xx6:w'.cell? ⟨rb,6,none⟩=some (.slice A6 R.f6.length c6):=(blk_cell hr' 6).trans rfl
   go_simp
   with_reducible rfl
  rotate_left
  ·simp only[Act.put,zq1,zq2,zq3,i64_w,i32_w]
   rfl
  refine tw_ 2 6 15 75 (some 15) (some 9) HT_ rfl rfl rfl rfl (by kernel_rfl) (by decide) (by decide) (fun K hK=>?_) (fun K hK=>?_)
  ·refine goes_ Tryz.func55 (by kernel_rfl) rfl #[.pointer (some ⟨g,0,none⟩),.int .i64 n] (by rfl) rfl rfl (by(try simp only[List.map_toArray,List.map_cons,List.map_nil]);first | done | rfl) ?_
   refine(Sg.of_calls g n _).mono ?_
   rintro e a2 ⟨rfl,hb⟩
   refine⟨_,rfl,?_⟩
   have hb':=hb
   have hHeld:=hHeld.trans (hb.mono hHeld.size)
   refine kz_ hK hHeld fun hHeld=>?_;clear hK K
   clear hb hb'
   refine tw_ 4 6 31 79 (some 17) (some 9) HT_ rfl rfl rfl rfl (by kernel_rfl) (by decide) (by decide) (fun K hK=>?_) (fun K hK=>?_)
   ·refine goes_ Tryz.func32 (by kernel_rfl) rfl #[.agg #[.int .i64 R.f0,.string R.f1,.int .i64 R.f2,.int .i64 R.f3,.int .i64 R.f4,.slice A5 R.f5.length c5,.slice A6 R.f6.length c6]] (by rfl) rfl rfl (by(try simp only[List.map_toArray,List.map_cons,List.map_nil]);first | done | rfl) ?_
    refine(HRP.out _ (HB2.out.trans (hHeld.mono HB2.out.size))).mono ?_
    rintro e a4 ⟨v4,rfl,hv4,hb⟩
    refine⟨_,rfl,?_⟩
    have hb':=hb
    have hHeld:=hHeld.trans (hb.mono hHeld.size)
    refine kz_ hK hHeld fun hHeld=>?_;clear hK K
    obtain⟨A4,c4,hA4⟩:=Kd.R_slice hv4
    subst hA4
    have hrd4:=Kd.R_reads' hv4
    clear hb hb'
    have hle5:=hHeld.size
    refine tw_ 5 6 63 95 (some 18) (some 9) HT_ rfl rfl rfl rfl (by kernel_rfl) (by decide) (by decide) (fun K hK=>?_) (fun K hK=>?_)
    ·refine goes_ Tryz.func66 (by kernel_rfl) rfl #[.slice A4 pm.length c4] (by rfl) rfl rfl (by(try simp only[List.map_toArray,List.map_cons,List.map_nil]);first | done | rfl) ?_
     refine(HFP.out _ A4 c4 hrd4.2.1 hrd4.2.2).mono ?_
     rintro e a5 ⟨v7,rfl,hv7,hb⟩
     refine⟨_,rfl,?_⟩
     have hb':=hb
     have hHeld:=hHeld.trans (hb.mono hHeld.size)
     refine kz_ hK hHeld fun hHeld=>?_;clear hK K
     obtain⟨A7,c7,hA7⟩:=Kd.R_slice hv7
     subst hA7
     clear hb hb'
     refine on_ 6 127 (some 9) HT_ rfl rfl (by kernel_rfl) (by decide) (fun K hK=>?_)
     refine Mn.alloc_step rfl (by go_simp;exact⟨rfl,rfl⟩) ?_
     have hrow:=heap_alloc_new a5 (.cells #[.pointer none,.string ⟨#[]⟩,.int .i64 0] 132)
     have hb:=below_alloc (RowKit.Below.refl a5.heap.size a5) (.cells #[.pointer none,.string ⟨#[]⟩,.int .i64 0] 132)
     have hle:w2.heap.size≤a5.heap.size:=hHeld.size
     have hHeld:=below_alloc hHeld (.cells #[.pointer none,.string ⟨#[]⟩,.int .i64 0] 132)
     refine kz_ hK hHeld fun hHeld=>?_;clear hK K
     have hv7:=Kd.R_below hv7 hb
     generalize a5.alloc (.cells #[.pointer none,.string ⟨#[]⟩,.int .i64 0] 132)=z9 at hHeld hrow hb hv7 ⊢
     clear hb
     have hv7:=Kd.R_lower hv7 hle5
     have hvt:=Kd.R_mono (ok':=fun q=>q≠a5.heap.size) (Kd.R_types hv7 hrow (by decide)) (fun q hq=>hq.2)
     refine on_ 7 255 none HT_ rfl rfl (by kernel_rfl) (by decide) (fun K hK=>?_)
     have q0:_root_.Go.World.cell? z9 ⟨a5.heap.size,0,none⟩=some (.pointer none):=(blk_cell hrow 0).trans rfl
     have q1:_root_.Go.World.cell? z9 ⟨a5.heap.size,1,none⟩=some (.string ⟨#[]⟩):=(blk_cell hrow 1).trans rfl
     have q2:_root_.Go.World.cell? z9 ⟨a5.heap.size,2,none⟩=some (.int .i64 0):=(blk_cell hrow 2).trans rfl
     have f0:=blk_frozen hrow 0
     have f1:=blk_frozen hrow 1
     have f2:=blk_frozen hrow 2
     refine Rc.store_step rfl (by go_simp;rfl) ?_
     refine hK.out _ _ (((hHeld.setCell (p:=⟨a5.heap.size,0,none⟩) hle _).setCell (p:=⟨a5.heap.size,1,none⟩) hle _).setCell (p:=⟨a5.heap.size,2,none⟩) hle _) (fun hHeld=>?_)
     clear hK K
     refine norm_ (a':=?_) ?_ ?_
     rotate_left
     ·show Act.put _ (none) _=_
      simp only[Act.put]
      rfl
     refine fl_ [8,10,511] ?_
     refine pz_ HT_ ?_
     refine fe_ ?_
     refine dz_ HT_ ?_
     exact Norm.intro ⟨a5.heap.size,A4,c4,A7,c7,rfl,blk_put (blk_put (blk_put hrow 0 _ rfl) 1 _ rfl) 2 _ rfl,Kd.R_mono (Kd.R_far (p:=⟨a5.heap.size,2,none⟩) (Kd.R_far (p:=⟨a5.heap.size,1,none⟩) (Kd.R_far (p:=⟨a5.heap.size,0,none⟩) hvt (fun q hq=>hq) _) (fun q hq=>hq) _) (fun q hq=>hq) _) (fun _ _=>trivial),hHeld,hle⟩
    ·refine Mn.alloc_step rfl (by go_simp;exact⟨rfl,rfl⟩) ?_
     have hrow:=heap_alloc_new a4 (.cells #[.pointer none,.string ⟨#[]⟩,.int .i64 0] 132)
     have hb:=below_alloc (RowKit.Below.refl a4.heap.size a4) (.cells #[.pointer none,.string ⟨#[]⟩,.int .i64 0] 132)
     have hle:w2.heap.size≤a4.heap.size:=hHeld.size
     have hHeld:=below_alloc hHeld (.cells #[.pointer none,.string ⟨#[]⟩,.int .i64 0] 132)
     refine kz_ hK hHeld fun hHeld=>?_;clear hK K
     have hrd4:=(⟨hrd4.1,hrd4.2.1,Kd.C_below hrd4.2.2 hb⟩:_∧_∧Kd.C (Kd.int .u8) _ A4 pm.length pm)
     generalize a4.alloc (.cells #[.pointer none,.string ⟨#[]⟩,.int .i64 0] 132)=z5 at hHeld hrow hb hrd4 ⊢
     clear hb
     have hle5:=hHeld.size
     refine on_ 5 127 (some 18) HT_ rfl rfl (by kernel_rfl) (by decide) (fun K hK=>?_)
     refine goes_ Tryz.func66 (by kernel_rfl) rfl #[.slice A4 pm.length c4] (by rfl) rfl rfl (by(try simp only[List.map_toArray,List.map_cons,List.map_nil]);first | done | rfl) ?_
     refine(HFP.out _ A4 c4 hrd4.2.1 hrd4.2.2).mono ?_
     rintro e a5 ⟨v7,rfl,hv7,hb⟩
     refine⟨_,rfl,?_⟩
     have hrow:=(hb.block _ (blk_lt hrow)).trans hrow
     have hb':=hb
     have hHeld:=hHeld.trans (hb.mono hHeld.size)
     refine kz_ hK hHeld fun hHeld=>?_;clear hK K
     obtain⟨A7,c7,hA7⟩:=Kd.R_slice hv7
     subst hA7
     clear hb hb'
     have hv7:=Kd.R_lower hv7 hle5
     have hvt:=Kd.R_mono (ok':=fun q=>q≠a4.heap.size) (Kd.R_types hv7 hrow (by decide)) (fun q hq=>hq.2)
     refine on_ 7 255 none HT_ rfl rfl (by kernel_rfl) (by decide) (fun K hK=>?_)
     have q0:_root_.Go.World.cell? a5 ⟨a4.heap.size,0,none⟩=some (.pointer none):=(blk_cell hrow 0).trans rfl
     have q1:_root_.Go.World.cell? a5 ⟨a4.heap.size,1,none⟩=some (.string ⟨#[]⟩):=(blk_cell hrow 1).trans rfl
     have q2:_root_.Go.World.cell? a5 ⟨a4.heap.size,2,none⟩=some (.int .i64 0):=(blk_cell hrow 2).trans rfl
     have f0:=blk_frozen hrow 0
     have f1:=blk_frozen hrow 1
     have f2:=blk_frozen hrow 2
     refine Rc.store_step rfl (by go_simp;rfl) ?_
     refine hK.out _ _ (((hHeld.setCell (p:=⟨a4.heap.size,0,none⟩) hle _).setCell (p:=⟨a4.heap.size,1,none⟩) hle _).setCell (p:=⟨a4.heap.size,2,none⟩) hle _) (fun hHeld=>?_)
     clear hK K
     refine norm_ (a':=?_) ?_ ?_
     rotate_left
     ·show Act.put _ (none) _=_
      simp only[Act.put]
      rfl
     refine fl_ [8,10,511] ?_
     refine pz_ HT_ ?_
     refine fe_ ?_
     refine dz_ HT_ ?_
     exact Norm.intro ⟨a4.heap.size,A4,c4,A7,c7,rfl,blk_put (blk_put (blk_put hrow 0 _ rfl) 1 _ rfl) 2 _ rfl,Kd.R_mono (Kd.R_far (p:=⟨a4.heap.size,2,none⟩) (Kd.R_far (p:=⟨a4.heap.size,1,none⟩) (Kd.R_far (p:=⟨a4.heap.size,0,none⟩) hvt (fun q hq=>hq) _) (fun q hq=>hq) _) (fun q hq=>hq) _) (fun _ _=>trivial),hHeld,hle⟩
   ·refine Mn.alloc_step rfl (by go_simp;exact⟨rfl,rfl⟩) ?_
    have hrow:=heap_alloc_new a2 (.cells #[.pointer none,.string ⟨#[]⟩,.int .i64 0] 132)
    have hb:=below_alloc (RowKit.Below.refl a2.heap.size a2) (.cells #[.pointer none,.string ⟨#[]⟩,.int .i64 0] 132)
    have hle:w2.heap.size≤a2.heap.size:=hHeld.size
    have hHeld:=below_alloc hHeld (.cells #[.pointer none,.string ⟨#[]⟩,.int .i64 0] 132)
    refine kz_ hK hHeld fun hHeld=>?_;clear hK K
    generalize a2.alloc (.cells #[.pointer none,.string ⟨#[]⟩,.int .i64 0] 132)=z4 at hHeld hrow hb ⊢
    clear hb
    refine on_ 4 95 (some 17) HT_ rfl rfl (by kernel_rfl) (by decide) (fun K hK=>?_)
    refine goes_ Tryz.func32 (by kernel_rfl) rfl #[.agg #[.int .i64 R.f0,.string R.f1,.int .i64 R.f2,.int .i64 R.f3,.int .i64 R.f4,.slice A5 R.f5.length c5,.slice A6 R.f6.length c6]] (by rfl) rfl rfl (by(try simp only[List.map_toArray,List.map_cons,List.map_nil]);first | done | rfl) ?_
    refine(HRP.out _ (HB2.out.trans (hHeld.mono HB2.out.size))).mono ?_
    rintro e a4 ⟨v4,rfl,hv4,hb⟩
    refine⟨_,rfl,?_⟩
    have hrow:=(hb.block _ (blk_lt hrow)).trans hrow
    have hb':=hb
    have hHeld:=hHeld.trans (hb.mono hHeld.size)
    refine kz_ hK hHeld fun hHeld=>?_;clear hK K
    obtain⟨A4,c4,hA4⟩:=Kd.R_slice hv4
    subst hA4
    have hrd4:=Kd.R_reads' hv4
    clear hb hb'
    have hle5:=hHeld.size
    refine on_ 5 127 (some 18) HT_ rfl rfl (by kernel_rfl) (by decide) (fun K hK=>?_)
    refine goes_ Tryz.func66 (by kernel_rfl) rfl #[.slice A4 pm.length c4] (by rfl) rfl rfl (by(try simp only[List.map_toArray,List.map_cons,List.map_nil]);first | done | rfl) ?_
    refine(HFP.out _ A4 c4 hrd4.2.1 hrd4.2.2).mono ?_
    rintro e a5 ⟨v7,rfl,hv7,hb⟩
    refine⟨_,rfl,?_⟩
    have hrow:=(hb.block _ (blk_lt hrow)).trans hrow
    have hb':=hb
    have hHeld:=hHeld.trans (hb.mono hHeld.size)
    refine kz_ hK hHeld fun hHeld=>?_;clear hK K
    obtain⟨A7,c7,hA7⟩:=Kd.R_slice hv7
    subst hA7
    clear hb hb'
    have hv7:=Kd.R_lower hv7 hle5
    have hvt:=Kd.R_mono (ok':=fun q=>q≠a2.heap.size) (Kd.R_types hv7 hrow (by decide)) (fun q hq=>hq.2)
    refine on_ 7 255 none HT_ rfl rfl (by kernel_rfl) (by decide) (fun K hK=>?_)
    have q0:_root_.Go.World.cell? a5 ⟨a2.heap.size,0,none⟩=some (.pointer none):=(blk_cell hrow 0).trans rfl
    have q1:_root_.Go.World.cell? a5 ⟨a2.heap.size,1,none⟩=some (.string ⟨#[]⟩):=(blk_cell hrow 1).trans rfl
    have q2:_root_.Go.World.cell? a5 ⟨a2.heap.size,2,none⟩=some (.int .i64 0):=(blk_cell hrow 2).trans rfl
    have f0:=blk_frozen hrow 0
    have f1:=blk_frozen hrow 1
    have f2:=blk_frozen hrow 2
    refine Rc.store_step rfl (by go_simp;rfl) ?_
    refine hK.out _ _ (((hHeld.setCell (p:=⟨a2.heap.size,0,none⟩) hle _).setCell (p:=⟨a2.heap.size,1,none⟩) hle _).setCell (p:=⟨a2.heap.size,2,none⟩) hle _) (fun hHeld=>?_)
    clear hK K
    refine norm_ (a':=?_) ?_ ?_
    rotate_left
    ·show Act.put _ (none) _=_
     simp only[Act.put]
     rfl
    refine fl_ [8,10,511] ?_
    refine pz_ HT_ ?_
    refine fe_ ?_
    refine dz_ HT_ ?_
    exact Norm.intro ⟨a2.heap.size,A4,c4,A7,c7,rfl,blk_put (blk_put (blk_put hrow 0 _ rfl) 1 _ rfl) 2 _ rfl,Kd.R_mono (Kd.R_far (p:=⟨a2.heap.size,2,none⟩) (Kd.R_far (p:=⟨a2.heap.size,1,none⟩) (Kd.R_far (p:=⟨a2.heap.size,0,none⟩) hvt (fun q hq=>hq) _) (fun q hq=>hq) _) (fun q hq=>hq) _) (fun _ _=>trivial),hHeld,hle⟩
  ·refine Mn.alloc_step rfl (by go_simp;exact⟨rfl,rfl⟩) ?_
   have hrow:=heap_alloc_new v0 (.cells #[.pointer none,.string ⟨#[]⟩,.int .i64 0] 132)
   have hb:=below_alloc (RowKit.Below.refl v0.heap.size v0) (.cells #[.pointer none,.string ⟨#[]⟩,.int .i64 0] 132)
   have hle:w2.heap.size≤v0.heap.size:=hHeld.size
   have hHeld:=below_alloc hHeld (.cells #[.pointer none,.string ⟨#[]⟩,.int .i64 0] 132)
   refine kz_ hK hHeld fun hHeld=>?_;clear hK K
   generalize v0.alloc (.cells #[.pointer none,.string ⟨#[]⟩,.int .i64 0] 132)=z2 at hHeld hrow hb ⊢
   clear hb
   refine on_ 2 79 (some 15) HT_ rfl rfl (by kernel_rfl) (by decide) (fun K hK=>?_)
   refine goes_ Tryz.func55 (by kernel_rfl) rfl #[.pointer (some ⟨g,0,none⟩),.int .i64 n] (by rfl) rfl rfl (by(try simp only[List.map_toArray,List.map_cons,List.map_nil]);first | done | rfl) ?_
   refine(Sg.of_calls g n _).mono ?_
   rintro e a2 ⟨rfl,hb⟩
   refine⟨_,rfl,?_⟩
   have hrow:=(hb.block _ (blk_lt hrow)).trans hrow
   have hb':=hb
   have hHeld:=hHeld.trans (hb.mono hHeld.size)
   refine kz_ hK hHeld fun hHeld=>?_;clear hK K
   clear hb hb'
   refine on_ 4 95 (some 17) HT_ rfl rfl (by kernel_rfl) (by decide) (fun K hK=>?_)
   refine goes_ Tryz.func32 (by kernel_rfl) rfl #[.agg #[.int .i64 R.f0,.string R.f1,.int .i64 R.f2,.int .i64 R.f3,.int .i64 R.f4,.slice A5 R.f5.length c5,.slice A6 R.f6.length c6]] (by rfl) rfl rfl (by(try simp only[List.map_toArray,List.map_cons,List.map_nil]);first | done | rfl) ?_
   refine(HRP.out _ (HB2.out.trans (hHeld.mono HB2.out.size))).mono ?_
   rintro e a4 ⟨v4,rfl,hv4,hb⟩
   refine⟨_,rfl,?_⟩
   have hrow:=(hb.block _ (blk_lt hrow)).trans hrow
   have hb':=hb
   have hHeld:=hHeld.trans (hb.mono hHeld.size)
   refine kz_ hK hHeld fun hHeld=>?_;clear hK K
   obtain⟨A4,c4,hA4⟩:=Kd.R_slice hv4
   subst hA4
   have hrd4:=Kd.R_reads' hv4
   clear hb hb'
   have hle5:=hHeld.size
   refine on_ 5 127 (some 18) HT_ rfl rfl (by kernel_rfl) (by decide) (fun K hK=>?_)
   refine goes_ Tryz.func66 (by kernel_rfl) rfl #[.slice A4 pm.length c4] (by rfl) rfl rfl (by(try simp only[List.map_toArray,List.map_cons,List.map_nil]);first | done | rfl) ?_
   refine(HFP.out _ A4 c4 hrd4.2.1 hrd4.2.2).mono ?_
   rintro e a5 ⟨v7,rfl,hv7,hb⟩
   refine⟨_,rfl,?_⟩
   have hrow:=(hb.block _ (blk_lt hrow)).trans hrow
   have hb':=hb
   have hHeld:=hHeld.trans (hb.mono hHeld.size)
   refine kz_ hK hHeld fun hHeld=>?_;clear hK K
   obtain⟨A7,c7,hA7⟩:=Kd.R_slice hv7
   subst hA7
   clear hb hb'
   have hv7:=Kd.R_lower hv7 hle5
   have hvt:=Kd.R_mono (ok':=fun q=>q≠v0.heap.size) (Kd.R_types hv7 hrow (by decide)) (fun q hq=>hq.2)
   refine on_ 7 255 none HT_ rfl rfl (by kernel_rfl) (by decide) (fun K hK=>?_)
   have q0:_root_.Go.World.cell? a5 ⟨v0.heap.size,0,none⟩=some (.pointer none):=(blk_cell hrow 0).trans rfl
   have q1:_root_.Go.World.cell? a5 ⟨v0.heap.size,1,none⟩=some (.string ⟨#[]⟩):=(blk_cell hrow 1).trans rfl
   have q2:_root_.Go.World.cell? a5 ⟨v0.heap.size,2,none⟩=some (.int .i64 0):=(blk_cell hrow 2).trans rfl
   have f0:=blk_frozen hrow 0
   have f1:=blk_frozen hrow 1
   have f2:=blk_frozen hrow 2
   refine Rc.store_step rfl (by go_simp;rfl) ?_
   refine hK.out _ _ (((hHeld.setCell (p:=⟨v0.heap.size,0,none⟩) hle _).setCell (p:=⟨v0.heap.size,1,none⟩) hle _).setCell (p:=⟨v0.heap.size,2,none⟩) hle _) (fun hHeld=>?_)
   clear hK K
   refine norm_ (a':=?_) ?_ ?_
   rotate_left
   ·show Act.put _ (none) _=_
    simp only[Act.put]
    rfl
   refine fl_ [8,10,511] ?_
   refine pz_ HT_ ?_
   refine fe_ ?_
   refine dz_ HT_ ?_
   exact Norm.intro ⟨v0.heap.size,A4,c4,A7,c7,rfl,blk_put (blk_put (blk_put hrow 0 _ rfl) 1 _ rfl) 2 _ rfl,Kd.R_mono (Kd.R_far (p:=⟨v0.heap.size,2,none⟩) (Kd.R_far (p:=⟨v0.heap.size,1,none⟩) (Kd.R_far (p:=⟨v0.heap.size,0,none⟩) hvt (fun q hq=>hq) _) (fun q hq=>hq) _) (fun q hq=>hq) _) (fun _ _=>trivial),hHeld,hle⟩
 case mono=>
  rintro a' w3 ⟨sb,A4,c4,A7,c7,rfl,hrow,hR,hb3,hle3⟩
  obtain⟨s,hs⟩:∃s,segN n=s:=⟨_,rfl⟩
  rw[hs] at HDEF HSL hrow ⊢
  clear hbx hs
  generalize putL pm=f at HDEF HPL hR ⊢
  have HB3:=ak (HB2.out.trans (hb3.mono HB2.out.size))
  have HR3:=ak hR
  have x0:=bq hrow 0 (ptr g)
  have x1:=bq hrow 1 (.string s)
  have x2:=bq hrow 2 (.int .i64 n)
  have HROW:=ak hrow
  have HSL2:=ak (HB2.out.size)
  clear hR hb3 hle3 hrow
  by_cases hf:f.length=0
  ·have d1:((f.length:Int)==0)=true:=by rw[hf];rfl
   have d2:(f.length==0)=true:=by rw[hf];rfl
   have hdef:=HDEF.out
   rw[if_pos hf] at hdef
   have HD2:=ak hdef
   clear hf hdef HDEF
   go_wp2
   go_ret3
   rw[HD2.out]
   exact⟨rfl,Turned.of_below HD.out HB3.out⟩
  ·have d1:((f.length:Int)==0)=false:=beq_eq_false_iff_ne.mpr (by omega)
   have d2:(f.length==0)=false:=beq_eq_false_iff_ne.mpr hf
   have hdef:=HDEF.out
   rw[if_neg hf] at hdef
   have HD2:=ak hdef
   have HS3:=ak (Sg.size_calls (HD.out.below HB3.out) s n HSL.out)
   have HAP:=ak (fun W (hW:RowKit.Below w3.heap.size w3 W)=>((HD.out.below HB3.out).below hW).append? s A7 c7 f HSL.out HM.out.len HPL.out (row_held (Kd.R_below HR3.out hW) (fun q hq=>Nat.lt_of_lt_of_le (HD.out.lt q hq) HSL2.out)))
   clear hf hdef HDEF
   generalize appendM M s f=p at HD2 HAP
   obtain⟨M2,e2⟩:=p
   go_upto_region 6 with(first
    | (go_at_call 67;(with_reducible refine(HAP.out _ HB4.out).mono ?_);rintro e w5 ⟨rfl,h5⟩;have H5:=ak h5;clear h5)
    | (go_at_call 56;(with_reducible refine HS3.out.mono ?_);rintro e w4 ⟨rfl,hb4⟩;have HB4:=ak hb4;have y0:=pw_cell_below hb4 x0;have y1:=pw_cell_below hb4 x1;clear hb4))
   by_cases he:e2=0
   ·subst he
    go_wp2
    go_ret3
    rw[HD2.out,if_pos (by trivial)]
    exact⟨rfl,Turned.after (Keeps.of_below (HB3.out.trans (HB4.out.mono HB3.out.size))) H5.out⟩
   ·have d3:(e2 !=0)=true:=bne_iff_ne.mpr he
    have HE:=ak he
    clear he
    go_wp2
    go_ret3
    rw[HD2.out,if_neg HE.out]
    exact⟨rfl,Turned.after (Keeps.of_below (HB3.out.trans (HB4.out.mono HB3.out.size))) H5.out⟩
end Sg
end
section
namespace Sg
open Go.Maps Fr Ext Go.Proofs.YtcieieacfoaklaaGreat.Nm Dk Mn
open Rc (Norm Norm.intro Norm.elim cell_lt recC Re Lo zeroR)

variable {w:World} {B g N:Nat} {M:DiskM} {F:Nat→Prop}
def sg8T:Bool×List (List Nat×List Nat):=(true,[([],[]),([0],[0]),([],[]),([2],[2]),([],[]),([],[]),([5],[5]),([6],[6]),([7],[7]),([8],[8]),([],[]),([10],[10]),([11],[11]),([12],[12]),([9,13],[9,13]),([14],[14]),([1,3,4,15,15],[1,3,4,15]),([16],[16]),([17],[17]),([17],[17]),([18,16,0,1,2,3,4,5,6,7,8,9,10,11,12,13,14,15,16,17,18],[18]),([19,20,0,1,2,3,4,5,6,7,8,9,10,11,12,13,14,15,16,17,18,19,20],[19])])
def sg8B:List Nat:=[0,1,0,4,0,0,32,96,224,480,0,1024,3072,7168,16352,32736,65535,131071,262143,262143,524287,2097151]
theorem sg8tab:rtab .any (opsOf Tryz.f46 8)=sg8T:=by kernel_rfl
theorem sg8bits:waitsOk sg8T.2 sg8B=true:=by kernel_rfl
def bodyG (q:List Int×Int):Re×Int:=
 if q.2=0 then
  if(firstL q.1).2.2=0 then
   if(Rc.getM (firstL q.1).1).2=true then((Rc.getM (firstL q.1).1).1,0) else(zeroR,22)
  else(zeroR,(firstL q.1).2.2)
 else if q.2=1 then(zeroR,21) else(zeroR,q.2)
def getSM (M:DiskM) (n at_:Int):Re×Int:=
 if(readM M (segN n) at_ 4).2=0 then
  if(firstL (readM M (segN n) at_ 4).1).2.2=22 then(zeroR,22)
  else bodyG (readM M (segN n) at_ (sizeI (rd (readM M (segN n) at_ 4).1 0*256+rd (readM M (segN n) at_ 4).1 1)))
 else(zeroR,(readM M (segN n) at_ 4).2)
theorem readM_len {M:DiskM} {s:ByteArray} {at_ n:Int} (h:(readM M s at_ n).2=0):0≤n∧(readM M s at_ n).1.length=n.toNat:=by
 unfold readM at h ⊢
 split at h
 ·exact absurd h (by decide)
 rename_i hd
 rw[if_neg hd]
 cases hl:Dk.look M.D s with
 | none=>rw[hl] at h;exact absurd h (show ¬((3:Int)=0) by decide)
 | some i=>
  rw[hl] at h
  dsimp only at h ⊢
  split at h
  ·rename_i hp
   rw[if_pos hp]
   unfold partB at hp
   simp only[Bool.and_eq_true,decide_eq_true_eq] at hp
   refine⟨hp.1.1.2,?_⟩
   unfold cutL
   rw[List.length_drop,List.length_take]
   omega
  ·exact absurd h (by decide)
def GotE (w w':World) (e:Ending) (R:Re) (err:Int):Prop:=
 ∃A5 c5 A6 c6,e=.returned (.tuple #[.agg (recC R A5 c5 A6 c6),.int .i64 err])∧Kd.R Pt.k57 57 w' w.heap.size (fun _=>True) (.slice A5 R.f5.length c5) R.f5∧Kd.R (Kd.int .u8) 5 w' w.heap.size (fun _=>True) (.slice A6 R.f6.length c6) R.f6∧RowKit.Below w.heap.size w w'
theorem zero_end {w W:World} {rc:Nat} (hrc:w.heap.size=rc) (hh:W.heap[rc]? =some (.cells #[.int .i64 0,.string ⟨#[]⟩,.int .i64 0,.int .i64 0,.int .i64 0,.slice none 0 0,.slice none 0 0] 38 (0,0))) (hb:RowKit.Below w.heap.size w W):
  ∃W',W'=(((((((W.setCell ⟨rc,0,none⟩ (.int .i64 0)).setCell ⟨rc,1,none⟩ (.string ⟨#[]⟩)).setCell ⟨rc,2,none⟩ (.int .i64 0)).setCell ⟨rc,3,none⟩ (.int .i64 0)).setCell ⟨rc,4,none⟩ (.int .i64 0)).setCell ⟨rc,5,none⟩ (.slice none 0 0)).setCell ⟨rc,6,none⟩ (.slice none 0 0))∧W'.heap[rc]? =some (.cells (recC zeroR none 0 none 0) 38 (0,0))∧RowKit.Below w.heap.size w W':=
 ⟨_,rfl,blk_put (blk_put (blk_put (blk_put (blk_put (blk_put (blk_put (hh) 0 _ rfl) 1 _ rfl) 2 _ rfl) 3 _ rfl) 4 _ rfl) 5 _ rfl) 6 _ rfl,(((((((hb.setCell (p:=⟨rc,0,none⟩) (Nat.le_of_eq hrc) _).setCell (p:=⟨rc,1,none⟩) (Nat.le_of_eq hrc) _).setCell (p:=⟨rc,2,none⟩) (Nat.le_of_eq hrc) _).setCell (p:=⟨rc,3,none⟩) (Nat.le_of_eq hrc) _).setCell (p:=⟨rc,4,none⟩) (Nat.le_of_eq hrc) _).setCell (p:=⟨rc,5,none⟩) (Nat.le_of_eq hrc) _).setCell (p:=⟨rc,6,none⟩) (Nat.le_of_eq hrc) _)⟩
theorem get_calls (hd:DiskAt w B g N M F) (hM:Fit M) (n at_:Int):Calls Tryz.prog 46 #[ptr g,.int .i64 n,.int .i64 at_] w fun e w'=>GotE w w' e (getSM M n at_).1 (getSM M n at_).2:=by
 have hread:=fun W (hW:RowKit.Below w.heap.size w W) z=>(hd.below hW).read? (segN n) at_ z (segN_le n) hM.len
 have hdef:getSM M n at_=if(readM M (segN n) at_ 4).2=0 then if(firstL (readM M (segN n) at_ 4).1).2.2=22 then(zeroR,22) else bodyG (readM M (segN n) at_ (sizeI (rd (readM M (segN n) at_ 4).1 0*256+rd (readM M (segN n) at_ 4).1 1))) else(zeroR,(readM M (segN n) at_ 4).2):=rfl
 have hr1:=hread
 have HFB:=ak (fun z=>readM_fit hM (segN n) at_ z)
 have HLEN:=ak (fun(h:(readM M (segN n) at_ 4).2=0)=>readM_len h)
 generalize getSM M n at_=GM at hdef ⊢
 have HREAD:=ak hread
 have HDEF:=ak hdef
 have hz:=heap_alloc_new w (.cells #[.int .i64 0,.string ⟨#[]⟩,.int .i64 0,.int .i64 0,.int .i64 0,.slice none 0 0,.slice none 0 0] 38)
 have hb1:=below_alloc (RowKit.Below.refl w.heap.size w) (.cells #[.int .i64 0,.string ⟨#[]⟩,.int .i64 0,.int .i64 0,.int .i64 0,.slice none 0 0,.slice none 0 0] 38)
 clear hd hM hdef hread hr1
 go_enter Tryz.func46,Tryz.ntmps46
 go_upto_region 1 with(fail)
 generalize w.alloc (.cells #[.int .i64 0,.string ⟨#[]⟩,.int .i64 0,.int .i64 0,.int .i64 0,.slice none 0 0,.slice none 0 0] 38)=w1 at hz hb1 ⊢
 obtain⟨rc,hrc⟩:∃rc,w.heap.size=rc:=⟨_,rfl⟩
 rw[hrc] at hz ⊢
 have HRC:=ak hrc
 have HZ1:=ak hz
 have HB1:=ak hb1
 clear hz hb1 hrc
 go_upto_region 2 with(go_at_call 55;(with_reducible refine(Sg.of_calls _ _ _).mono ?_);rintro e w2 ⟨rfl,hb2⟩;have HZ2:=ak ((hb2.block _ (blk_lt HZ1.out)).trans HZ1.out);have HB2:=ak (HB1.out.trans (hb2.mono HB1.out.size));clear hb2)
 obtain⟨s,hs⟩:∃s,segN n=s:=⟨_,rfl⟩
 rw[hs] at HDEF HFB HLEN HREAD ⊢
 clear hs
 have hrow:=heap_alloc_new w2 (.cells #[ptr g,.string s,.int .i64 n] 132)
 have hb3:=below_alloc (RowKit.Below.refl w2.heap.size w2) (.cells #[ptr g,.string s,.int .i64 n] 132)
 have hz3:=(hb3.block _ (blk_lt HZ2.out)).trans HZ2.out
 have HB3:=ak (HB2.out.trans (hb3.mono HB2.out.size))
 generalize w2.alloc (.cells #[ptr g,.string s,.int .i64 n] 132)=w3 at hrow hb3 hz3 HB3 ⊢
 obtain⟨sb,hsb⟩:∃sb,w2.heap.size=sb:=⟨_,rfl⟩
 rw[hsb] at hrow ⊢
 have HROW:=ak hrow
 have HZ3:=ak hz3
 have x0:=bq hrow 0 (ptr g)
 have x1:=bq hrow 1 (.string s)
 have HR1:=ak (HREAD.out w3 HB3.out 4)
 have HF4:=ak (HFB.out 4)
 obtain⟨q,hq⟩:∃q,readM M s at_ 4=q:=⟨_,rfl⟩
 rw[hq] at HDEF HLEN HR1 HF4
 obtain⟨h4,e4⟩:=q
 clear hrow hb3 hz3 hsb hq
 go_upto_region 3 with(go_at_call 50;(with_reducible refine HR1.out.mono ?_);rintro e w4 ⟨v4,rfl,hv4,hb4⟩;obtain⟨A4,c4,hA4⟩:=Kd.R_slice hv4;subst hA4;have HZ4:=ak ((hb4.block _ (blk_lt HZ3.out)).trans HZ3.out);have HROW4:=ak ((hb4.block _ (blk_lt HROW.out)).trans HROW.out);have HV4:=ak (Kd.R_reads' hv4).2;have HB4:=ak (HB3.out.trans (hb4.mono HB3.out.size));clear hv4 hb4)
 clear x0 x1
 by_cases he4:e4=0
 case neg=>
  have d1:(e4 !=0)=true:=bne_iff_ne.mpr he4
  have HE4:=ak he4
  have hz4:=HZ4.out
  have k0:=bq hz4 0 (.int .i64 0)
  have k1:=bq hz4 1 (.string ⟨#[]⟩)
  have k2:=bq hz4 2 (.int .i64 0)
  have k3:=bq hz4 3 (.int .i64 0)
  have k4:=bq hz4 4 (.int .i64 0)
  have k5:=bq hz4 5 (.slice none 0 0)
  have k6:=bq hz4 6 (.slice none 0 0)
  have g0:=blk_frozen hz4 0
  have g1:=blk_frozen hz4 1
  have g2:=blk_frozen hz4 2
  have g3:=blk_frozen hz4 3
  have g4:=blk_frozen hz4 4
  have g5:=blk_frozen hz4 5
  have g6:=blk_frozen hz4 6
  clear he4 hz4
  go_wp2
  obtain⟨W',p1,p2,p3⟩:=zero_end HRC.out HZ4.out HB4.out
  rw[← p1]
  refine bodyPost_ret (results_ct rfl _ _ rc 38 (recC zeroR none 0 none 0) (0,0) _ rfl p2 Tryz.underlying38 rfl (by kernel_rfl)) rfl ?_
  rw[HDEF.out,if_neg HE4.out]
  exact⟨none,0,none,0,rfl,Kd.R_nil _ _ _ _ _,Kd.R_nil _ _ _ _ _,p3⟩
 subst he4
 have hlen4:h4.length=4:=(HLEN.out rfl).2
 obtain⟨xh,nh,eh,hfh⟩:∃x n e,firstL h4=(x,n,e):=⟨_,_,_,rfl⟩
 have HFH:=ak (frame_First.calls A4 c4 h4 xh nh eh w4 HV4.out.2 HV4.out.1 (by rw[Pure.first_some h4 HF4.out.1,hfh]))
 have HDEF2:=HDEF.out
 rw[if_pos rfl] at HDEF2
 have HDEF3:=ak (show GM=if eh=22 then(zeroR,22) else bodyG (readM M s at_ (sizeI (rd h4 0*256+rd h4 1))) by rw[HDEF2];show(if(firstL h4).2.2=22 then _ else _)=_;rw[hfh])
 have HL4:=ak hlen4
 clear HDEF2 HDEF hfh hlen4
 go_upto_region 6 with(go_at_call 74;(with_reducible refine HFH.out.mono ?_);rintro e w5 ⟨v5,rfl,hv5,hb5⟩;obtain⟨A5,c5,hA5⟩:=Kd.R_slice hv5;subst hA5;have HZ5:=ak ((hb5.block _ (blk_lt HZ4.out)).trans HZ4.out);have HROW5:=ak ((hb5.block _ (blk_lt HROW4.out)).trans HROW4.out);have HV5:=ak (Kd.C_below HV4.out.2 hb5);have HB5:=ak (HB4.out.trans (hb5.mono HB4.out.size));clear hv5 hb5)
 by_cases heh:eh=22
 case pos=>
  have d1:(eh==22)=true:=by rw[heh];rfl
  have HE4:=ak heh
  have hz4:=HZ5.out
  have k0:=bq hz4 0 (.int .i64 0)
  have k1:=bq hz4 1 (.string ⟨#[]⟩)
  have k2:=bq hz4 2 (.int .i64 0)
  have k3:=bq hz4 3 (.int .i64 0)
  have k4:=bq hz4 4 (.int .i64 0)
  have k5:=bq hz4 5 (.slice none 0 0)
  have k6:=bq hz4 6 (.slice none 0 0)
  have g0:=blk_frozen hz4 0
  have g1:=blk_frozen hz4 1
  have g2:=blk_frozen hz4 2
  have g3:=blk_frozen hz4 3
  have g4:=blk_frozen hz4 4
  have g5:=blk_frozen hz4 5
  have g6:=blk_frozen hz4 6
  clear heh hz4
  go_wp2
  obtain⟨W',p1,p2,p3⟩:=zero_end HRC.out HZ5.out HB5.out
  rw[← p1]
  refine bodyPost_ret (results_ct rfl _ _ rc 38 (recC zeroR none 0 none 0) (0,0) _ rfl p2 Tryz.underlying38 rfl (by kernel_rfl)) rfl ?_
  rw[HDEF3.out,if_pos HE4.out,HE4.out]
  exact⟨none,0,none,0,rfl,Kd.R_nil _ _ _ _ _,Kd.R_nil _ _ _ _ _,p3⟩
 have d1:(eh==22)=false:=beq_eq_false_iff_ne.mpr heh
 have HDEF2:=HDEF3.out
 rw[if_neg heh] at HDEF2
 have HDEF4:=ak HDEF2
 clear HDEF2 HDEF3 heh
 go_upto_region 8 with(fail)
 obtain⟨ad,e0,z0⟩:=Kd.at_int HV5.out (0:Int) (by omega) (by have:=HL4.out;omega)
 subst e0
 obtain⟨ad',e0,z1⟩:=Kd.at_int HV5.out (1:Int) (by omega) (by have:=HL4.out;omega)
 cases e0
 have z0:w5.cell? ad=some (.int .u8 (rd h4 0)):=z0
 have z1:w5.cell? ⟨ad.block,ad.off+1,none⟩=some (.int .u8 (rd h4 1)):=z1
 have hb0:=HF4.out.1 _ (rd_mem h4 0 (by omega) (by have:=HL4.out;omega))
 have hb1:=HF4.out.1 _ (rd_mem h4 1 (by omega) (by have:=HL4.out;omega))
 have l0:0 < h4.length:=by have:=HL4.out;omega
 have l1:1 < h4.length:=by have:=HL4.out;omega
 have m0:(0:Int) < (h4.length:Int):=by omega
 have m1:(1:Int) < (h4.length:Int):=by omega
 generalize rd h4 0=a0 at z0 hb0 HDEF4
 generalize rd h4 1=a1 at z1 hb1 HDEF4
 obtain⟨p1,p2,-,-,-,-,p3,p4⟩:=byte_facts a0 hb0
 obtain⟨q1,q2,-,-,-,-,-,-⟩:=byte_facts a1 hb1
 have o1:bits .or .i64 (a0*256) a1=a0*256+a1:=Rc.or_join8 a0 a1 hb0.1 (by omega) hb1.1 hb1.2
 have hrow5:=HROW5.out
 obtain⟨q,hq⟩:∃q,readM M s at_ (sizeI (a0*256+a1))=q:=⟨_,rfl⟩
 have HRD2:=ak (fun W (hW:RowKit.Below w.heap.size w W)=>HREAD.out W hW (sizeI (a0*256+a1)))
 have HF6:=ak (HFB.out (sizeI (a0*256+a1)))
 rw[hq] at HDEF4 HRD2 HF6
 obtain⟨b6,e6⟩:=q
 clear hb0 hb1 hq
 refine st_ 22 (S:=(fun w'=>RowKit.Below w5.heap.size w5 w')) (ds:=[]) (by kernel_rfl) rfl (by kernel_rfl) (RowKit.Below.refl _ _).drew (fun hHeld=>?_);refine with_tabW sg8tab sg8bits (fun HT_ HW_=>?_)
 generalize w5.drew=v0 at hHeld ⊢
 refine fl_ [0,46,1,2,48,5,4,50,21,5,51,53,6,52,117,10,56,1141,11,57,3189] ?_
 iterate 7 refine pz_ HT_ ?_
 refine fe_ ?_
 refine tk_ 1 3191 (N:=some 47) (v:=?_) (a':=?_) HT_ HW_ rfl rfl (.inl ⟨by rfl,?_⟩) hHeld ?_ ?_
 rotate_left
 ·rintro w' hs
  have hr':=(hs.block _ (blk_lt hrow5)).trans hrow5
  have xx0:w'.cell? ⟨sb,0,none⟩=some (ptr g):=(blk_cell hr' 0).trans rfl
  have xx1:w'.cell? ⟨sb,1,none⟩=some (.string s):=(blk_cell hr' 1).trans rfl
  go_simp
  with_reducible rfl
 rotate_left
 ·simp only[Act.put,zq1,zq2,zq3,i64_w,i32_w]
  rfl
 refine tk_ 3 3199 (N:=some 49) (v:=?_) (a':=?_) HT_ HW_ rfl rfl (.inl ⟨by rfl,?_⟩) hHeld ?_ ?_
 rotate_left
 ·rintro w' hs
  have hr':=(hs.block _ (blk_lt hrow5)).trans hrow5
  have xx0:w'.cell? ⟨sb,0,none⟩=some (ptr g):=(blk_cell hr' 0).trans rfl
  have xx1:w'.cell? ⟨sb,1,none⟩=some (.string s):=(blk_cell hr' 1).trans rfl
  go_simp
  with_reducible rfl
 rotate_left
 ·simp only[Act.put,zq1,zq2,zq3,i64_w,i32_w]
  rfl
 refine tk_ 7 3327 (N:=some 53) (v:=?_) (a':=?_) HT_ HW_ rfl rfl (.inl ⟨by rfl,?_⟩) hHeld ?_ ?_
 rotate_left
 ·rintro w' hs
  have xx:=pw_cell_below hs z0
  go_simp
  with_reducible rfl
 rotate_left
 ·simp only[Act.put,zq1,zq2,zq3,i64_w,i32_w]
  rfl
 refine fl_ [8,54,3583,9,55,4095] ?_
 iterate 2 refine pz_ HT_ ?_
 refine fe_ ?_
 refine tk_ 12 8191 (N:=some 58) (v:=?_) (a':=?_) HT_ HW_ rfl rfl (.inl ⟨by rfl,?_⟩) hHeld ?_ ?_
 rotate_left
 ·rintro w' hs
  have xx:=pw_cell_below hs z1
  go_simp
  with_reducible rfl
 rotate_left
 ·simp only[Act.put,zq1,zq2,zq3,i64_w,i32_w]
  rfl
 refine fl_ [13,59,16383,14,60,32767] ?_
 iterate 2 refine pz_ HT_ ?_
 refine fe_ ?_
 refine on_ 15 65535 (some 61) HT_ rfl rfl (by kernel_rfl) (by decide) (fun K hK=>?_)
 refine goes_ Tryz.func31 (by kernel_rfl) rfl #[.int .i64 (a0*256+a1)] (by rfl) rfl rfl (by(try simp only[List.map_toArray,List.map_cons,List.map_nil]);first | done | rfl) ?_
 refine(Fr.size_calls _ _).mono ?_
 rintro e v1 ⟨rfl,hw⟩
 subst hw
 refine⟨_,rfl,?_⟩
 have hHeld:=hHeld
 refine kz_ hK hHeld fun hHeld=>?_;clear hK K
 refine on_ 16 131071 (some 62) HT_ rfl rfl (by kernel_rfl) (by decide) (fun K hK=>?_)
 refine goes_ Tryz.func50 (by kernel_rfl) rfl #[.pointer (some ⟨g,0,none⟩),.string s,.int .i64 at_,.int .i64 (sizeI (a0*256+a1))] (by rfl) rfl rfl (by(try simp only[List.map_toArray,List.map_cons,List.map_nil]);first | done | rfl) ?_
 refine(HRD2.out _ (HB5.out.trans (hHeld.mono HB5.out.size))).mono ?_
 rintro e w6 ⟨v6,rfl,hv6,hb⟩
 refine⟨_,rfl,?_⟩
 have hHeld:=hHeld.trans (hb.mono hHeld.size)
 refine kz_ hK hHeld fun hHeld=>?_;clear hK K
 obtain⟨A6,c6,hA6⟩:=Kd.R_slice hv6
 subst hA6
 refine fl_ [17,45,262143,18,63,524287,19,64,1048575,20,14,2097151,21,10,4194303] ?_
 iterate 5 refine pz_ HT_ ?_
 refine fe_ ?_
 have HV6:=ak (Kd.R_reads' hv6).2
 have HB6:=ak hHeld
 clear hv6 hb hHeld
 refine dz_ HT_ ?_
 clear p1 p2 p3 p4 q1 q2 o1 z0 z1 hrow5
 have HZ6:=ak ((HB6.out.block _ (blk_lt HZ5.out)).trans HZ5.out)
 have HBW6:=ak (HB5.out.trans (HB6.out.mono HB5.out.size))
 by_cases he6:e6=0
 case neg=>
  have d2:(e6==0)=false:=beq_eq_false_iff_ne.mpr he6
  have HE6:=ak he6
  have hz6:=HZ6.out
  have k0:=bq hz6 0 (.int .i64 0)
  have k1:=bq hz6 1 (.string ⟨#[]⟩)
  have k2:=bq hz6 2 (.int .i64 0)
  have k3:=bq hz6 3 (.int .i64 0)
  have k4:=bq hz6 4 (.int .i64 0)
  have k5:=bq hz6 5 (.slice none 0 0)
  have k6:=bq hz6 6 (.slice none 0 0)
  have g0:=blk_frozen hz6 0
  have g1:=blk_frozen hz6 1
  have g2:=blk_frozen hz6 2
  have g3:=blk_frozen hz6 3
  have g4:=blk_frozen hz6 4
  have g5:=blk_frozen hz6 5
  have g6:=blk_frozen hz6 6
  by_cases h61:e6=1
  ·have d3:(e6==1)=true:=by rw[h61];rfl
   have HE1:=ak h61
   clear he6 h61 hz6
   go_wp2
   obtain⟨W',p1,p2,p3⟩:=zero_end HRC.out HZ6.out HBW6.out
   rw[← p1]
   refine bodyPost_ret (results_ct rfl _ _ rc 38 (recC zeroR none 0 none 0) (0,0) _ rfl p2 Tryz.underlying38 rfl (by kernel_rfl)) rfl ?_
   rw[HDEF4.out,show bodyG (b6,e6)=(zeroR,21) by unfold bodyG;rw[if_neg HE6.out,if_pos HE1.out]]
   exact⟨none,0,none,0,rfl,Kd.R_nil _ _ _ _ _,Kd.R_nil _ _ _ _ _,p3⟩
  ·have d3:(e6==1)=false:=beq_eq_false_iff_ne.mpr h61
   have HE1:=ak h61
   clear he6 h61 hz6
   go_wp2
   obtain⟨W',p1,p2,p3⟩:=zero_end HRC.out HZ6.out HBW6.out
   rw[← p1]
   refine bodyPost_ret (results_ct rfl _ _ rc 38 (recC zeroR none 0 none 0) (0,0) _ rfl p2 Tryz.underlying38 rfl (by kernel_rfl)) rfl ?_
   rw[HDEF4.out,show bodyG (b6,e6)=(zeroR,e6) by unfold bodyG;rw[if_neg HE6.out,if_neg HE1.out]]
   exact⟨none,0,none,0,rfl,Kd.R_nil _ _ _ _ _,Kd.R_nil _ _ _ _ _,p3⟩
 subst he6
 obtain⟨x7,n7,e7,hf7⟩:∃x n e,firstL b6=(x,n,e):=⟨_,_,_,rfl⟩
 obtain⟨hx1,hx2,-,-⟩:=first_facts HF6.out.1 hf7
 have HFB7:=ak (frame_First.calls A6 c6 b6 x7 n7 e7 w6 HV6.out.2 HV6.out.1 (by rw[Pure.first_some b6 HF6.out.1,hf7]))
 have HDEF5:=ak (show GM=if e7=0 then if(Rc.getM x7).2=true then((Rc.getM x7).1,0) else(zeroR,22) else(zeroR,e7) by
  rw[HDEF4.out]
  unfold bodyG
  rw[if_pos rfl,hf7])
 have HX1:=ak hx1
 have HX2:=ak hx2
 have HROW6:=ak ((HB6.out.block _ (blk_lt HROW5.out)).trans HROW5.out)
 clear hf7 HDEF4 hx1 hx2
 go_upto_region 15 with(go_at_call 74;(with_reducible refine HFB7.out.mono ?_);rintro e w7 ⟨v7,rfl,hv7,hb7⟩;obtain⟨A7,c7,hA7⟩:=Kd.R_slice hv7;subst hA7;have HZ7:=ak ((hb7.block _ (blk_lt HZ6.out)).trans HZ6.out);have HV7:=ak (Kd.R_reads' hv7).2;have HB7:=ak (HBW6.out.trans (hb7.mono HBW6.out.size));clear hv7 hb7)
 by_cases he7:e7=0
 case neg=>
  have d2:(e7 !=0)=true:=bne_iff_ne.mpr he7
  have HE7:=ak he7
  have hz7:=HZ7.out
  have k0:=bq hz7 0 (.int .i64 0)
  have k1:=bq hz7 1 (.string ⟨#[]⟩)
  have k2:=bq hz7 2 (.int .i64 0)
  have k3:=bq hz7 3 (.int .i64 0)
  have k4:=bq hz7 4 (.int .i64 0)
  have k5:=bq hz7 5 (.slice none 0 0)
  have k6:=bq hz7 6 (.slice none 0 0)
  have g0:=blk_frozen hz7 0
  have g1:=blk_frozen hz7 1
  have g2:=blk_frozen hz7 2
  have g3:=blk_frozen hz7 3
  have g4:=blk_frozen hz7 4
  have g5:=blk_frozen hz7 5
  have g6:=blk_frozen hz7 6
  clear he7 hz7
  go_wp2
  obtain⟨W',p1,p2,p3⟩:=zero_end HRC.out HZ7.out HB7.out
  rw[← p1]
  refine bodyPost_ret (results_ct rfl _ _ rc 38 (recC zeroR none 0 none 0) (0,0) _ rfl p2 Tryz.underlying38 rfl (by kernel_rfl)) rfl ?_
  rw[HDEF5.out,if_neg HE7.out]
  exact⟨none,0,none,0,rfl,Kd.R_nil _ _ _ _ _,Kd.R_nil _ _ _ _ _,p3⟩
 subst he7
 have hdef6:=HDEF5.out
 rw[if_pos rfl] at hdef6
 have hG:Calls Tryz.prog 75 #[.slice A7 x7.length c7] w7 fun e w'=>Rc.Got w7 w' e (Rc.getM x7).1 (Rc.getM x7).2:=Rc.Get_calls A7 c7 x7 w7 HV7.out.1 (by have:=HX2.out;omega) HX1.out HV7.out.2
 generalize Rc.getM x7=gm at hdef6 hG
 obtain⟨R,ok⟩:=gm
 have HG7:=ak hG
 have HDEF7:=ak hdef6
 clear hG hdef6 HDEF5
 go_upto_region 18 with(go_at_call 75;(with_reducible refine HG7.out.mono ?_);rintro e w8 ⟨A5',c5',A6',c6',rfl,hl8,hb8,hbb8⟩;have HZ8:=ak ((hbb8.block _ (blk_lt HZ7.out)).trans HZ7.out);have HL8:=ak (Kd.R_lower hl8 HB7.out.size);have HY8:=ak (Kd.R_lower hb8 HB7.out.size);have HB8:=ak (HB7.out.trans (hbb8.mono HB7.out.size));clear hl8 hb8 hbb8;simp only[recC])
 have hn9:=heap_alloc_new w8 (.cells (recC R A5' c5' A6' c6') 38)
 have hb9:=below_alloc (RowKit.Below.refl w8.heap.size w8) (.cells (recC R A5' c5' A6' c6') 38)
 have hz9:=(hb9.block _ (blk_lt HZ8.out)).trans HZ8.out
 have HL9:=ak (Kd.R_below HL8.out hb9)
 have HY9:=ak (Kd.R_below HY8.out hb9)
 have HB9:=ak (HB8.out.trans (hb9.mono HB8.out.size))
 simp only[recC] at hn9 hb9 hz9 HL9 HY9 HB9
 generalize w8.alloc (.cells #[.int .i64 R.f0,.string R.f1,.int .i64 R.f2,.int .i64 R.f3,.int .i64 R.f4,.slice A5' R.f5.length c5',.slice A6' R.f6.length c6'] 38)=w9 at hn9 hb9 hz9 HL9 HY9 HB9 ⊢
 have HZ9:=ak hz9
 have k0:=bq hz9 0 (.int .i64 0)
 have k1:=bq hz9 1 (.string ⟨#[]⟩)
 have k2:=bq hz9 2 (.int .i64 0)
 have k3:=bq hz9 3 (.int .i64 0)
 have k4:=bq hz9 4 (.int .i64 0)
 have k5:=bq hz9 5 (.slice none 0 0)
 have k6:=bq hz9 6 (.slice none 0 0)
 have g0:=blk_frozen hz9 0
 have g1:=blk_frozen hz9 1
 have g2:=blk_frozen hz9 2
 have g3:=blk_frozen hz9 3
 have g4:=blk_frozen hz9 4
 have g5:=blk_frozen hz9 5
 have g6:=blk_frozen hz9 6
 cases ok with
 | false=>
  clear hn9 hb9 hz9
  go_wp2
  obtain⟨W',p1,p2,p3⟩:=zero_end HRC.out HZ9.out HB9.out
  rw[← p1]
  refine bodyPost_ret (results_ct rfl _ _ rc 38 (recC zeroR none 0 none 0) (0,0) _ rfl p2 Tryz.underlying38 rfl (by kernel_rfl)) rfl ?_
  rw[HDEF7.out,if_neg (by decide)]
  exact⟨none,0,none,0,rfl,Kd.R_nil _ _ _ _ _,Kd.R_nil _ _ _ _ _,p3⟩
 | true=>
  have n0:=bq hn9 0 (.int .i64 R.f0)
  have n1:=bq hn9 1 (.string R.f1)
  have n2:=bq hn9 2 (.int .i64 R.f2)
  have n3:=bq hn9 3 (.int .i64 R.f3)
  have n4:=bq hn9 4 (.int .i64 R.f4)
  have n5:=bq hn9 5 (.slice A5' R.f5.length c5')
  have n6:=bq hn9 6 (.slice A6' R.f6.length c6')
  clear hn9 hb9 hz9
  go_wp2
  refine bodyPost_ret (results_ct rfl _ _ rc 38 (recC R A5' c5' A6' c6') (0,0) _ rfl (blk_put (blk_put (blk_put (blk_put (blk_put (blk_put (blk_put (HZ9.out) 0 _ rfl) 1 _ rfl) 2 _ rfl) 3 _ rfl) 4 _ rfl) 5 _ rfl) 6 _ rfl) Tryz.underlying38 rfl (by kernel_rfl)) rfl ?_
  rw[HDEF7.out,if_pos (by trivial)]
  exact⟨A5',c5',A6',c6',rfl,Kd.R_mono (Kd.R_far (p:=⟨rc,6,none⟩) (Kd.R_far (p:=⟨rc,5,none⟩) (Kd.R_far (p:=⟨rc,4,none⟩) (Kd.R_far (p:=⟨rc,3,none⟩) (Kd.R_far (p:=⟨rc,2,none⟩) (Kd.R_far (p:=⟨rc,1,none⟩) (Kd.R_far (p:=⟨rc,0,none⟩) (Kd.R_types HL9.out HZ9.out (by decide)) (fun k hk=>hk.2) _) (fun k hk=>hk.2) _) (fun k hk=>hk.2) _) (fun k hk=>hk.2) _) (fun k hk=>hk.2) _) (fun k hk=>hk.2) _) (fun k hk=>hk.2) _) (fun _ _=>trivial),Kd.R_mono (Kd.R_far (p:=⟨rc,6,none⟩) (Kd.R_far (p:=⟨rc,5,none⟩) (Kd.R_far (p:=⟨rc,4,none⟩) (Kd.R_far (p:=⟨rc,3,none⟩) (Kd.R_far (p:=⟨rc,2,none⟩) (Kd.R_far (p:=⟨rc,1,none⟩) (Kd.R_far (p:=⟨rc,0,none⟩) (Kd.R_types HY9.out HZ9.out (by decide)) (fun k hk=>hk.2) _) (fun k hk=>hk.2) _) (fun k hk=>hk.2) _) (fun k hk=>hk.2) _) (fun k hk=>hk.2) _) (fun k hk=>hk.2) _) (fun k hk=>hk.2) _) (fun _ _=>trivial),(((((((HB9.out.setCell (p:=⟨rc,0,none⟩) (Nat.le_of_eq HRC.out) _).setCell (p:=⟨rc,1,none⟩) (Nat.le_of_eq HRC.out) _).setCell (p:=⟨rc,2,none⟩) (Nat.le_of_eq HRC.out) _).setCell (p:=⟨rc,3,none⟩) (Nat.le_of_eq HRC.out) _).setCell (p:=⟨rc,4,none⟩) (Nat.le_of_eq HRC.out) _).setCell (p:=⟨rc,5,none⟩) (Nat.le_of_eq HRC.out) _).setCell (p:=⟨rc,6,none⟩) (Nat.le_of_eq HRC.out) _)⟩
end Sg
end
section
namespace Sg
open Go.Shelf Go.Maps Fr Ext Go.Proofs.YtcieieacfoaklaaGreat.Nm Dk Mn
open Rc (Norm Norm.intro Norm.elim cell_lt recC Re Lo zeroR)
attribute [local go_sem] Oper.semAt_some

abbrev It:=Pt.S200
abbrev Fo:=Pt.S206
def foundOf (x:It):Option Fo:=if(Rc.getM x.f2).2=true then some ⟨x.f0,x.f1,(Rc.getM x.f2).1⟩ else none
def foundsL (l:List It):List Fo:=l.filterMap foundOf
def badL (l:List It):Nat:=(l.filter fun x=>!(Rc.getM x.f2).2).length
theorem founds_snoc (l:List It) (x:It):foundsL (l++[x])=foundsL l++(foundOf x).toList:=by
 unfold foundsL
 rw[List.filterMap_append]
 cases h:foundOf x <;> simp [h]
theorem bad_snoc (l:List It) (x:It):badL (l++[x])=badL l+if(Rc.getM x.f2).2=true then 0 else 1:=by
 unfold badL
 rw[List.filter_append,List.length_append]
 cases h:(Rc.getM x.f2).2 <;> simp [h]
theorem bad_le (l:List It):badL l≤l.length:=List.length_filter_le _ _
theorem founds_le (l:List It):(foundsL l).length≤l.length:=List.length_filterMap_le _ _
abbrev foundC (a b:Int) (R:Re) (A5:Option Addr) (c5:Nat) (A6:Option Addr) (c6:Nat):Array Value:=
 #[.int .i64 a,.int .i64 b,.int .i64 R.f0,.string R.f1,.int .i64 R.f2,.int .i64 R.f3,.int .i64 R.f4,.slice A5 R.f5.length c5,.slice A6 R.f6.length c6]
structure Hr (w0 W:World) (sb b1 b2:Nat) (A:Option Addr) (n c:Nat) (bad:Nat):Prop where
 st:W.heap[sb]? =some (.cells #[.int .i64 (bad:Int)] 3 (0,0))
 x1:W.heap[b1]? =some (.cells #[.slice A n c] 196 (0,0))
 x2:W.heap[b2]? =some (.cells #[.pointer (some ⟨sb,0,none⟩)] 204 (0,0))
 bel:RowKit.Below w0.heap.size w0 W
theorem Hr.below {w0 W W':World} {sb b1 b2 n c bad:Nat} {A:Option Addr} (h:Hr w0 W sb b1 b2 A n c bad) (hb:RowKit.Below W.heap.size W W'):Hr w0 W' sb b1 b2 A n c bad:=
 ⟨(hb.block _ (blk_lt h.st)).trans h.st,(hb.block _ (blk_lt h.x1)).trans h.x1,(hb.block _ (blk_lt h.x2)).trans h.x2,h.bel.trans (hb.mono h.bel.size)⟩
theorem Hr.set {w0 W:World} {sb b1 b2 n c bad:Nat} {A:Option Addr} (h:Hr w0 W sb b1 b2 A n c bad) (h1:b1≠sb) (h2:b2≠sb) (hs:w0.heap.size≤sb) (bad':Nat) (v:Int) (hv:v=(bad':Int)):Hr w0 (W.setCell ⟨sb,0,none⟩ (.int .i64 v)) sb b1 b2 A n c bad':=by
 subst hv
 exact⟨blk_put (cs:=#[.int .i64 (bad:Int)]) h.st 0 _ rfl,blk_far h.x1 h1 _,blk_far h.x2 h2 _,h.bel.setCell hs _⟩
theorem records_calls (A:Option Addr) (n c g:Nat) (w:World):
  Calls Tryz.prog 144 #[.slice A n c,.pointer (some ⟨g,0,none⟩)] w fun e w'=>e=.returned (.func (.func 165) #[] #[.pointer (some ⟨w.heap.size,0,none⟩),.pointer (some ⟨w.heap.size+1,0,none⟩)])∧
   w'=(w.alloc (.cells #[.slice A n c] 196)).alloc (.cells #[.pointer (some ⟨g,0,none⟩)] 204):=by
 go_enter Tryz.func144,Tryz.ntmps144
 go_wp2
 go_ret
 exact⟨by simp,rfl⟩
theorem records1_calls (w0:World) (lb:Nat) (A:Option Addr) (c:Nat) (l:List It) (sb b1 b2:Nat) (hne1:b1≠sb) (hne2:b2≠sb) (hsb:w0.heap.size≤sb) (J:List Fo→Nat→World→Prop) (W:World) (N0 bad0:Nat)
  (hr0:Kd.C Pt.k200 w0 A l.length l) (hl:l.length≤1000000000) (hB:∀x∈l,IsBytes x.f2∧x.f2.length≤1000000000) (hb0:bad0≤1000000000)
  (hJ1:∀pre N W W',J pre N W→N≤W.heap.size→RowKit.Below W.heap.size W W'→J pre N W')
  (hJ2:∀pre N W p v,p.block=sb→J pre N W→J pre N (W.setCell p v))
  (hY:∀pre N bad (x:It) (R:Re) A5 c5 A6 c6 W1,J pre N W1→N≤W1.heap.size→Hr w0 W1 sb b1 b2 A l.length c bad→pre.length < l.length→
   Kd.R Pt.k57 57 W1 N (fun _=>True) (.slice A5 R.f5.length c5) R.f5→Kd.R (Kd.int .u8) 5 W1 N (fun _=>True) (.slice A6 R.f6.length c6) R.f6→
   YieldAt Fence.wide 0 Tryz.prog lb #[.agg (foundC x.f0 x.f1 R A5 c5 A6 c6)] W1 fun e W'=>e=.returned (.bool true)∧(∃N',N'≤W'.heap.size∧J (pre++[⟨x.f0,x.f1,R⟩]) N' W')∧Hr w0 W' sb b1 b2 A l.length c bad)
  (h0:J [] N0 W) (hN0:N0≤W.heap.size) (hH:Hr w0 W sb b1 b2 A l.length c bad0):
  Calls Tryz.prog 165 #[.func (.yield lb) #[] #[],.pointer (some ⟨b1,0,none⟩),.pointer (some ⟨b2,0,none⟩)] W fun e W'=>(∃v,e=.returned v)∧
   ∃N,N≤W'.heap.size∧J (foundsL l) N W'∧Hr w0 W' sb b1 b2 A l.length c (bad0+badL l):=by
 have HJ:=ak h0
 have HH:=ak hH
 have HN0:=ak hN0
 have HB:=ak hB
 have HR0:=ak hr0
 have x1:=(blk_cell hH.x1 0).trans rfl
 clear h0 hH hN0 hB hr0
 go_enter Tryz.func165,Tryz.ntmps165
 go_wp2
 go_loopg [10] l.length (fun kq v10 wr=>∃k N,v10=.int .i64 (k:Nat)∧Aside0 (k+kq=l.length)∧Aside0 (J (foundsL (l.take k)) N wr)∧Aside0 (N≤wr.heap.size)∧Aside0 (Hr w0 wr sb b1 b2 A l.length c (bad0+badL (l.take k))))
 case atStart=>exact⟨0,N0,rfl,⟨by omega⟩,HJ,HN0,HH⟩
 case round=>
  clear HJ HH HN0 x1
  obtain⟨k,N,rfl,HK,HJ,HN,HH⟩:=hrel
  cases gk with
  | zero=>
   obtain rfl:k=l.length:=by have:=HK.out;omega
   have d1:decide ((l.length:Int) < (l.length:Int))=false:=decide_eq_false (by omega)
   have d2:decide (l.length < l.length)=false:=decide_eq_false (by omega)
   go_wp2
   go_end0
   have hj:=HJ.out
   have hh:=HH.out
   rw[List.take_length] at hj hh
   exact⟨⟨_,rfl⟩,N,HN.out,hj,hh⟩
  | succ gk=>
   have hk0:k < l.length:=by have:=HK.out;omega
   have d1:decide ((k:Int) < (l.length:Int))=true:=decide_eq_true (by omega)
   have d2:decide (k < l.length)=true:=decide_eq_true hk0
   obtain⟨ad,A2,c2,e1,y0,y1,y2,hlc,hC2⟩:=Pt.at_T200 (Kd.C_below HR0.out HH.out.bel) (k:Int) (by omega) (by omega)
   cases e1
   have hrd:Pt.rd_T200 l (k:Int)=l[k]:=by simp [Pt.rd_T200,List.getD_eq_getElem?_getD,List.getElem?_eq_getElem hk0]
   rw[hrd] at y0 y1 y2 hlc hC2
   rw[Int.toNat_natCast] at y0 y1 y2
   have htk:l.take (k+1)=l.take k++[l[k]]:=List.take_succ_eq_append_getElem hk0
   have hxB:=HB.out l[k] (List.getElem_mem hk0)
   have hfl:(foundsL (l.take k)).length < l.length:=Nat.lt_of_le_of_lt (founds_le _) (by rw[List.length_take];omega)
   have hbl:badL (l.take k)≤1000000000:=Nat.le_trans (bad_le _) (by rw[List.length_take];omega)
   generalize l[k]=x at y0 y1 y2 hlc hC2 htk hxB
   have hjj:=HJ.out
   have hhh:=HH.out
   have HFS:=ak (show foundsL (l.take (k+1))=foundsL (l.take k)++(foundOf x).toList by rw[htk,founds_snoc])
   have HBS:=ak (show badL (l.take (k+1))=badL (l.take k)+if(Rc.getM x.f2).2=true then 0 else 1 by rw[htk,bad_snoc])
   generalize foundsL (l.take k)=pre at hjj HFS hfl
   generalize badL (l.take k)=bk at hhh HBS hbl
   clear htk hrd HJ HH
   have HC2:=ak hC2
   have HLC:=ak hlc
   have HXB:=ak hxB
   have HPL:=ak hfl
   have HBL:=ak hbl
   have hn5:=heap_alloc_new wr (.cells #[.int .i64 x.f0,.int .i64 x.f1,.slice A2 x.f2.length c2] 200)
   have hb5:=below_alloc (RowKit.Below.refl wr.heap.size wr) (.cells #[.int .i64 x.f0,.int .i64 x.f1,.slice A2 x.f2.length c2] 200)
   have HJ5:=ak (hJ1 _ _ _ _ hjj HN.out hb5)
   have HH5:=ak (hhh.below hb5)
   have HN5:=ak (Nat.le_trans HN.out hb5.size)
   have HC5:=ak (Kd.C_below hC2 hb5)
   clear hC2 hlc hxB hfl hbl hjj hhh
   go_upto_region 3 with(fail)
   generalize hw5:wr.alloc (.cells #[.int .i64 x.f0,.int .i64 x.f1,.slice A2 x.f2.length c2] 200)=w5 at hn5 hb5 HJ5 HH5 HN5 HC5 ⊢
   obtain⟨ib,hib⟩:∃ib,wr.heap.size=ib:=⟨_,rfl⟩
   rw[hib] at hn5 ⊢
   have HI5:=ak hn5
   have u2:=bq hn5 2 (.slice A2 x.f2.length c2)
   clear y0 y1 y2 hw5 hb5 hib hn5
   have hG:Calls Tryz.prog 75 #[.slice A2 x.f2.length c2] w5 fun e w'=>Rc.Got w5 w' e (Rc.getM x.f2).1 (Rc.getM x.f2).2:=Rc.Get_calls A2 c2 x.f2 w5 HLC.out HXB.out.2 HXB.out.1 HC5.out
   have hfo:foundOf x=if(Rc.getM x.f2).2=true then some ⟨x.f0,x.f1,(Rc.getM x.f2).1⟩ else none:=rfl
   generalize Rc.getM x.f2=gm at hG hfo HBS
   obtain⟨R,ok⟩:=gm
   have HG:=ak hG
   have HFO:=ak hfo
   clear hG hfo
   go_upto_region 4 with(go_at_call 75;(with_reducible refine HG.out.mono ?_);rintro e w6 ⟨A5,c5,A6,c6,rfl,hl6,hb6,hbb6⟩;have HI6:=ak ((hbb6.block _ (blk_lt HI5.out)).trans HI5.out);have HL6:=ak (Kd.R_lower hl6 HN5.out);have HY6:=ak (Kd.R_lower hb6 HN5.out);have HJ6:=ak (hJ1 _ _ _ _ HJ5.out HN5.out hbb6);have HH6:=ak (HH5.out.below hbb6);have HN6:=ak (Nat.le_trans HN5.out hbb6.size);clear hl6 hb6 hbb6;simp only[recC])
   have hn7:=heap_alloc_new w6 (.cells #[.int .i64 R.f0,.string R.f1,.int .i64 R.f2,.int .i64 R.f3,.int .i64 R.f4,.slice A5 R.f5.length c5,.slice A6 R.f6.length c6] 38)
   have hb7:=below_alloc (RowKit.Below.refl w6.heap.size w6) (.cells #[.int .i64 R.f0,.string R.f1,.int .i64 R.f2,.int .i64 R.f3,.int .i64 R.f4,.slice A5 R.f5.length c5,.slice A6 R.f6.length c6] 38)
   have hi7:=(hb7.block _ (blk_lt HI6.out)).trans HI6.out
   have HL7:=ak (Kd.R_below HL6.out hb7)
   have HY7:=ak (Kd.R_below HY6.out hb7)
   have HJ7:=ak (hJ1 _ _ _ _ HJ6.out HN6.out hb7)
   have HH7:=ak (HH6.out.below hb7)
   have HN7:=ak (Nat.le_trans HN6.out hb7.size)
   generalize w6.alloc (.cells #[.int .i64 R.f0,.string R.f1,.int .i64 R.f2,.int .i64 R.f3,.int .i64 R.f4,.slice A5 R.f5.length c5,.slice A6 R.f6.length c6] 38)=w7 at hn7 hb7 hi7 HL7 HY7 HJ7 HH7 HN7 ⊢
   generalize w6.heap.size=tb at hn7 ⊢
   clear u2 HL6 HY6 HJ6 HH6 HN6 HI6 HI5 HJ5 HH5 HN5
   cases ok with
   | false=>
    have s0:=(blk_cell HH7.out.st 0).trans rfl
    have z0:=blk_frozen HH7.out.st 0
    have s2:=(blk_cell HH7.out.x2 0).trans rfl
    have e1:wrap64 ((bad0:Int)+(bk:Int)+1)=(bad0:Int)+(bk:Int)+1:=by unfold wrap64;have:=HBL.out;omega
    clear hn7 hi7 hb7
    go_wp2
    go_roundg gk
    case measure=>omega
    case rel=>
     have hF:foundsL (l.take (k+1))=pre:=by rw[HFS.out,HFO.out];simp
     have hBd:badL (l.take (k+1))=bk+1:=by rw[HBS.out];simp
     refine⟨k+1,N,by go_num,⟨by have:=HK.out;omega⟩,⟨?_⟩,⟨?_⟩,⟨?_⟩⟩
     ·rw[hF]
      exact hJ2 _ _ _ _ _ rfl HJ7.out
     ·rw[World.size_setCell]
      exact HN7.out
     ·rw[hBd]
      exact HH7.out.set hne1 hne2 hsb (bad0+(bk+1)) _ (by omega)
   | true=>
    have hF:foundsL (l.take (k+1))=pre++[⟨x.f0,x.f1,R⟩]:=by rw[HFS.out,HFO.out];simp
    have hBd:badL (l.take (k+1))=bk:=by rw[HBS.out];simp
    have u0:=(blk_cell hi7 0).trans rfl
    have u1:=(blk_cell hi7 1).trans rfl
    have v0:=(blk_cell hn7 0).trans rfl
    have v1:=(blk_cell hn7 1).trans rfl
    have v2:=(blk_cell hn7 2).trans rfl
    have v3:=(blk_cell hn7 3).trans rfl
    have v4:=(blk_cell hn7 4).trans rfl
    have v5:=(blk_cell hn7 5).trans rfl
    have v6:=(blk_cell hn7 6).trans rfl
    obtain⟨fn,tmps,assign,body,hy,hR5⟩:=hY pre N (bad0+bk) x R A5 c5 A6 c6 w7 HJ7.out HN7.out HH7.out HPL.out HL7.out HY7.out
    have HF:=ak hF
    have HBd:=ak hBd
    clear hi7 hn7 hb7 hF hBd
    go_upto_region 6 with(fail)
    refine(wpIn_wide (n:=1)).1 ?_
    gi_wp2
    refine hR5.mono ?_
    clear u0 u1 v0 v1 v2 v3 v4 v5 v6 hy hR5 hY
    rintro e W' ⟨rfl,⟨N',hN',hJ'⟩,hH'⟩
    gi_wp2
    go_wp2
    go_roundg gk
    case measure=>omega
    case rel=>exact⟨k+1,N',by go_num,⟨by have:=HK.out;omega⟩,⟨by rw[HF.out];exact hJ'⟩,⟨hN'⟩,⟨by rw[HBd.out];exact hH'⟩⟩
end Sg
end
end Go.Proofs.YtcieieacfoaklaaGreat

