/- Texts of this claim, joined. -/
import Derived.Test.YtcieieacfoaklaaGreatV0
import Derived.Test.YtcieieacfoaklaaGreatV4
import Derived.Test.YtcieieacfoaklaaGreatV3
import Derived.Test.YtcieieacfoaklaaGreatV2
import Derived.Test.YtcieieacfoaklaaGreatV1
set_option linter.unusedVariables false
set_option linter.unusedSimpArgs false
set_option maxRecDepth 100000
set_option maxHeartbeats 8000000
namespace Go.Proofs.YtcieieacfoaklaaGreat
open Go.RowKit YtcieieacfoaklaaGreatW.PrintWords YtcieieacfoaklaaGreatW.PrintLast YtcieieacfoaklaaGreatW.PrintMore
section
namespace Lg
open Go.Maps Fr Ext Go.Proofs.YtcieieacfoaklaaGreat.Nm Dk Mn
open Sg (segN segN_le segN_ascii It Fo foundsL foundOf allSM)
open Rc (Re Lo zeroR recC Norm Norm.intro Norm.elim)
variable {w w' w1:World} {B l g N:Nat} {M M':DiskM} {F F' G:Nat→Prop} {S S':LogS}
def hi1T:Bool×List (List Nat×List Nat):=(true,[([],[]),([0],[0]),([1],[1]),([2],[2]),([],[]),([3,4],[3,4]),([5],[5]),([6],[6]),([6],[6]),([6],[6]),([7,5,0,1,2,3,4,5,6,7],[7]),([8,10,0,1,2,3,4,5,6,7,8,10],[8]),([9,11,0,1,2,3,4,5,6,7,8,9,10,11],[9])])
def hi1B:List Nat:=[0,1,3,7,0,31,63,127,127,127,255,1535,4095]
theorem hi1tab:rtab .any (opsOf Tryz.f65 1)=hi1T:=by kernel_rfl
theorem hi1bits:waitsOk hi1T.2 hi1B=true:=by kernel_rfl
def hi2T:Bool×List (List Nat×List Nat):=(true,[([],[]),([0],[0]),([],[]),([2],[2]),([3],[3]),([4],[4]),([],[]),([5,6,1],[5,6]),([1,7,7],[1,7]),([],[]),([9,8,8,0,1,2,3,4,5,6,7,8,9],[8,9])])
def hi2B:List Nat:=[0,1,0,4,12,28,0,127,255,0,1023]
theorem hi2tab:rtab .any (opsOf Tryz.f65 2)=hi2T:=by kernel_rfl
theorem hi2bits:waitsOk hi2T.2 hi2B=true:=by kernel_rfl
theorem run_hint1 (args:Array Value) (W:World):(callFunc 118 args).run Tryz.prog W=.ok (.enter 118 args) W:=enters_ Tryz.func118 (by kernel_rfl) rfl args W
theorem run_hint2 (args:Array Value) (W:World):(callFunc 120 args).run Tryz.prog W=.ok (.enter 120 args) W:=enters_ Tryz.func120 (by kernel_rfl) rfl args W
theorem run_hint3 (args:Array Value) (W:World):(callFunc 121 args).run Tryz.prog W=.ok (.enter 121 args) W:=enters_ Tryz.func121 (by kernel_rfl) rfl args W
theorem hint_calls (hd:DiskAt w B g N M F) (hM:Fit M) (h:LogO w B l g F S) (n:Int) (hN:N+3≤1000000000000):Calls Tryz.prog 65 #[ptr l,.int .i64 n] w fun e w'=>e=.returned (.tuple #[])∧Turned w w' B g (N+3) F (hintM M n):=by
 have HD:=ak hd
 have HM:=ak hM
 have HO:=ak h
 have HN:=ak hN
 have HHB:=ak (hintB_fit hM n)
 have hdef:hintM M n=(turnsM (hintSteps n (hintB M n)) M).1:=rfl
 have hbdef:hintB M n=Hu.putAll (Hn.ofL (allSM M n).1) (sizeM M (segN n)):=rfl
 have HALL:=ak (fun W (hW:RowKit.Below w.heap.size w W)=>Sg.allS_calls (hd.below hW) hM n)
 have HSZ:=ak (fun W (hW:RowKit.Below w.heap.size w W)=>Sg.Size_calls (hd.below hW) n)
 have HAF:=ak (all_founds hM n)
 generalize allSM M n=am at HALL HAF hbdef
 generalize sizeM M (segN n)=sz at HSZ hbdef
 obtain⟨fo,bad,er⟩:=am
 dsimp only at hbdef
 have hOfL:=ofGo_len fo []
 have HOF:=ak (fun W (A:Option Addr) (c:Nat) (hr:Kd.C Pt.k206 W A fo.length fo) (hc:fo.length≤c)=>hint_Of.calls A c fo (Hn.ofL fo) W hr hc (by
  have h1:=HAF.out.1
  have h2:=HAF.out.2
  unfold hint_Of.f
  refine if_pos ⟨?_,List.all_eq_true.2 fun x hx=>decide_eq_true (Nat.le_trans (h2 x hx) (by decide))⟩
  dsimp only at h1
  omega))
 have hol:(Hn.ofL fo).length≤1000000000:=by
  have h1:=HAF.out.1
  have h2:(Hn.ofL fo).length≤fo.length:=hOfL
  dsimp only at h1
  omega
 generalize Hn.ofL fo=hs at hbdef HOF hol
 have HPU:=ak (fun W (A:Option Addr) (c:Nat) (hr:Kd.C Pt.k45 W A hs.length hs) (hc:hs.length≤c)=>Hu.put_calls A c hs sz W hr hc hol)
 rw[← hbdef] at HPU
 generalize hintB M n=bs at hdef HPU HHB
 have HDEF:=ak hdef
 obtain⟨⟨A,c,h1,h2,h3⟩,hs',ha⟩:=h
 obtain⟨hb1,hb2,hB⟩:=two_blocks w (.cells #[ptr l] 29) (.cells #[.int .i64 n] 3)
 have hl1:=(hB.block _ (blk_lt h1)).trans h1
 clear hd hM hN hdef hbdef hol hOfL h1 h2 h3 hs' ha
 go_enter Tryz.func65,Tryz.ntmps65
 go_upto_region 1 with(fail)
 generalize (w.alloc (.cells #[ptr l] 29)).alloc (.cells #[.int .i64 n] 3)=w1 at hb1 hb2 hB hl1 ⊢
 have HB:=ak hB
 have HL1:=ak hb1
 have HN1:=ak hb2
 have HG1:=ak hl1
 have x0:=bq hb1 0 (ptr l)
 have x1:=bq hb2 0 (.int .i64 n)
 have x2:=bq hl1 0 (ptr g)
 clear hb1 hb2 hB hl1
 refine st_ 13 (S:=(fun w'=>RowKit.Below w1.heap.size w1 w')) (ds:=[]) (by kernel_rfl) rfl (by kernel_rfl) (RowKit.Below.refl _ _).drew (fun hHeld=>?_);refine with_tabW hi1tab hi1bits (fun HT_ HW_=>?_)
 generalize w1.drew=w2 at hHeld ⊢
 refine tk_ 0 1 (N:=some 9) (v:=?_) (a':=?_) HT_ HW_ rfl rfl (.inl ⟨by rfl,?_⟩) hHeld ?_ ?_
 rotate_left
 ·rintro w' hs
  have xx:=pw_cell_below hs x0
  go_simp
  with_reducible rfl
 rotate_left
 ·simp only[Act.put,zq1,zq2,zq3,i64_w,i32_w]
  rfl
 refine fl_ [1,10,3,2,11,7] ?_
 iterate 2 refine pz_ HT_ ?_
 refine fe_ ?_
 refine tk_ 3 15 (N:=some 12) (v:=?_) (a':=?_) HT_ HW_ rfl rfl (.inl ⟨by rfl,?_⟩) hHeld ?_ ?_
 rotate_left
 ·rintro w' hs
  have xx:=pw_cell_below hs x2
  go_simp
  with_reducible rfl
 rotate_left
 ·simp only[Act.put,zq1,zq2,zq3,i64_w,i32_w]
  rfl
 refine tk_ 4 31 (N:=some 13) (v:=?_) (a':=?_) HT_ HW_ rfl rfl (.inl ⟨by rfl,?_⟩) hHeld ?_ ?_
 rotate_left
 ·rintro w' hs
  have xx:=pw_cell_below hs x1
  go_simp
  with_reducible rfl
 rotate_left
 ·simp only[Act.put,zq1,zq2,zq3,i64_w,i32_w]
  rfl
 refine on_ 5 63 (some 14) HT_ rfl rfl (by kernel_rfl) (by decide) (fun K hK=>?_)
 refine goes_ Tryz.func115 (by kernel_rfl) rfl #[.pointer (some ⟨g,0,none⟩),.int .i64 n] (by rfl) rfl rfl (by(try simp only[List.map_toArray,List.map_cons,List.map_nil]);first | done | rfl) ?_
 refine(HALL.out _ (HB.out.trans (hHeld.mono HB.out.size))).mono ?_
 rintro e w3 ⟨v3,rfl,hv3,hb⟩
 refine⟨_,rfl,?_⟩
 have hHeld:=hHeld.trans (hb.mono hHeld.size)
 refine kn_ (a':=?_) hK hHeld ?_ fun hHeld=>?_
 rotate_left;(focus show Act.put _ (some 14) _=_;simp only[Act.put,zq1,zq2,zq3,i64_w,i32_w];rfl);clear hK K
 obtain⟨A4,c4,hA4⟩:=Kd.S_slice hv3
 subst hA4
 refine fl_ [6,8,127,7,15,255,8,16,511,9,17,1023,10,4,2047,11,5,4095,12,6,8191] ?_
 iterate 7 refine pz_ HT_ ?_
 refine fe_ ?_
 have HB13:=ak hHeld
 obtain⟨hcap,hCF⟩:fo.length≤c4∧Kd.C Pt.k206 w3 A4 fo.length fo:=by
  obtain⟨A',c',e1,e2,e3⟩:=Kd.S_reads hv3
  injection e1 with e4 e5 e6
  subst e4 e6
  exact⟨e2,e3⟩
 have HCF:=ak hCF
 have HCAP:=ak hcap
 clear hb hHeld hCF hcap hv3
 refine dz_ HT_ ?_
 have y0:=pw_cell_below HB13.out x0
 have y1:=pw_cell_below HB13.out x1
 have y2:=pw_cell_below HB13.out x2
 go_upto_region 2 with(fail)
 refine Code.wp_mono (Q:=Norm fun a' W=>∃(hb:Nat) (A5:Option Addr) (c5:Nat) (A6:Option Addr) (c6:Nat),a'={tmps:=#[ptr l,.int .i64 n,.pointer (some ⟨w.heap.size,0,none⟩),.pointer (some ⟨w.heap.size+1,0,none⟩),.slice A4 fo.length c4,.int .i64 bad,.int .i64 er,.pointer (some ⟨hb,0,none⟩),.tuple #[.slice A4 fo.length c4,.int .i64 bad,.int .i64 er],ptr l,.pointer (some ⟨l,0,none⟩),.pointer (some ⟨l,0,none⟩),ptr g,.int .i64 n,.tuple #[.slice A4 fo.length c4,.int .i64 bad,.int .i64 er],.slice A4 fo.length c4,.int .i64 bad,.int .i64 er,.slice A4 fo.length c4,.slice A5 hs.length c5,ptr l,.pointer (some ⟨l,0,none⟩),.pointer (some ⟨l,0,none⟩),ptr g,.int .i64 n,.int .i64 sz,.slice A6 bs.length c6,undef,undef,undef,undef,undef],defers:=[]}∧W.heap[hb]? =some (.cells #[.slice A6 bs.length c6] 35 (0,0))∧Kd.R (Kd.int .u8) 5 W w3.heap.size (fun _=>True) (.slice A6 bs.length c6) bs∧RowKit.Below w3.heap.size w3 W∧w3.heap.size≤hb) (Norm.elim ?mono) ?reg
 case reg=>
  refine st_ 11 (S:=(fun w'=>RowKit.Below w3.heap.size w3 w')) (ds:=[]) (by kernel_rfl) rfl (by kernel_rfl) (RowKit.Below.refl _ _).drew (fun hHeld=>?_);refine with_tabW hi2tab hi2bits (fun HT_ HW_=>?_)
  generalize w3.drew=v0 at hHeld ⊢
  refine fl_ [0,18,1] ?_
  refine pz_ HT_ ?_
  refine fe_ ?_
  refine tk_ 2 5 (N:=some 20) (v:=?_) (a':=?_) HT_ HW_ rfl rfl (.inl ⟨by rfl,?_⟩) hHeld ?_ ?_
  rotate_left
  ·rintro w' hs
   have xx:=pw_cell_below hs y0
   go_simp
   with_reducible rfl
  rotate_left
  ·simp only[Act.put,zq1,zq2,zq3,i64_w,i32_w]
   rfl
  refine fl_ [3,21,13,4,22,29] ?_
  iterate 2 refine pz_ HT_ ?_
  refine fe_ ?_
  refine tk_ 5 61 (N:=some 23) (v:=?_) (a':=?_) HT_ HW_ rfl rfl (.inl ⟨by rfl,?_⟩) hHeld ?_ ?_
  rotate_left
  ·rintro w' hs
   have xx:=pw_cell_below hs y2
   go_simp
   with_reducible rfl
  rotate_left
  ·simp only[Act.put,zq1,zq2,zq3,i64_w,i32_w]
   rfl
  refine tk_ 6 125 (N:=some 24) (v:=?_) (a':=?_) HT_ HW_ rfl rfl (.inl ⟨by rfl,?_⟩) hHeld ?_ ?_
  rotate_left
  ·rintro w' hs
   have xx:=pw_cell_below hs y1
   go_simp
   with_reducible rfl
  rotate_left
  ·simp only[Act.put,zq1,zq2,zq3,i64_w,i32_w]
   rfl
  refine tw_ 1 9 127 637 (some 19) (some 7) HT_ rfl rfl rfl rfl (by kernel_rfl) (by decide) (by decide) (fun K hK=>?_) (fun K hK=>?_)
  ·refine goes_ Tryz.func117 (by kernel_rfl) rfl #[.slice A4 fo.length c4] (by rfl) rfl rfl (by(try simp only[List.map_toArray,List.map_cons,List.map_nil]);first | done | rfl) ?_
   refine(HOF.out _ A4 c4 (Kd.C_below HCF.out hHeld) HCAP.out).mono ?_
   rintro e a1 ⟨v1,rfl,hv1,hb⟩
   refine⟨_,rfl,?_⟩
   have hHeld:=hHeld.trans (hb.mono hHeld.size)
   refine kn_ (a':=?_) hK hHeld ?_ fun hHeld=>?_
   rotate_left;(focus show Act.put _ (some 19) _=_;simp only[Act.put,zq1,zq2,zq3,i64_w,i32_w];rfl);clear hK K
   obtain⟨A5,c5,hA5⟩:=Kd.R_slice hv1
   subst hA5
   have hrd:=Kd.R_reads' hv1
   clear hb
   refine tw_ 7 9 255 639 (some 25) (some 7) HT_ rfl rfl rfl rfl (by kernel_rfl) (by decide) (by decide) (fun K hK=>?_) (fun K hK=>?_)
   ·refine goes_ Tryz.func33 (by kernel_rfl) rfl #[.pointer (some ⟨g,0,none⟩),.int .i64 n] (by rfl) rfl rfl (by(try simp only[List.map_toArray,List.map_cons,List.map_nil]);first | done | rfl) ?_
    refine(HSZ.out _ ((HB.out.trans (HB13.out.mono HB.out.size)).trans (hHeld.mono (HB.out.trans (HB13.out.mono HB.out.size)).size))).mono ?_
    rintro e a7 ⟨rfl,hb⟩
    refine⟨_,rfl,?_⟩
    have hHeld:=hHeld.trans (hb.mono hHeld.size)
    refine kn_ (a':=?_) hK hHeld ?_ fun hHeld=>?_
    rotate_left;(focus show Act.put _ (some 25) _=_;simp only[Act.put,zq1,zq2,zq3,i64_w,i32_w];rfl);clear hK K
    have hrd:=(⟨hrd.1,hrd.2.1,Kd.C_below hrd.2.2 hb⟩:_∧_∧Kd.C Pt.k45 _ A5 hs.length hs)
    clear hb
    have hle8:=hHeld.size
    refine tw_ 8 9 511 767 (some 26) (some 7) HT_ rfl rfl rfl rfl (by kernel_rfl) (by decide) (by decide) (fun K hK=>?_) (fun K hK=>?_)
    ·refine goes_ Tryz.func116 (by kernel_rfl) rfl #[.slice A5 hs.length c5,.int .i64 sz] (by rfl) rfl rfl (by(try simp only[List.map_toArray,List.map_cons,List.map_nil]);first | done | rfl) ?_
     refine(HPU.out _ A5 c5 hrd.2.2 hrd.2.1).mono ?_
     rintro e a8 ⟨v8,rfl,hv8,hb⟩
     refine⟨_,rfl,?_⟩
     have hHeld:=hHeld.trans (hb.mono hHeld.size)
     refine kn_ (a':=?_) hK hHeld ?_ fun hHeld=>?_
     rotate_left;(focus show Act.put _ (some 26) _=_;simp only[Act.put,zq1,zq2,zq3,i64_w,i32_w];rfl);clear hK K
     obtain⟨A6,c6,hA6⟩:=Kd.R_slice hv8
     subst hA6
     clear hb
     refine on_ 9 1023 (some 7) HT_ rfl rfl (by kernel_rfl) (by decide) (fun K hK=>?_)
     refine Mn.alloc_step rfl (by go_simp;exact⟨rfl,rfl⟩) ?_
     have hrow:=heap_alloc_new a8 (.cells #[.slice none 0 0] 35)
     have hb:=below_alloc (RowKit.Below.refl a8.heap.size a8) (.cells #[.slice none 0 0] 35)
     have hle:w3.heap.size≤a8.heap.size:=hHeld.size
     have hHeld:=below_alloc hHeld (.cells #[.slice none 0 0] 35)
     refine kn_ (a':=?_) hK hHeld ?_ fun hHeld=>?_
     rotate_left;(focus show Act.put _ (some 7) _=_;simp only[Act.put,zq1,zq2,zq3,i64_w,i32_w];rfl);clear hK K
     have hv8:=Kd.R_below hv8 hb
     generalize a8.alloc (.cells #[.slice none 0 0] 35)=z99 at hHeld hrow hb hv8 ⊢
     clear hb
     have hv8:=Kd.R_lower hv8 hle8
     have hvt:=Kd.R_mono (ok':=fun q=>q≠a8.heap.size) (Kd.R_types hv8 hrow (by decide)) (fun q hq=>hq.2)
     refine on_ 10 2047 none HT_ rfl rfl (by kernel_rfl) (by decide) (fun K hK=>?_)
     have q0:_root_.Go.World.cell? z99 ⟨a8.heap.size,0,none⟩=some (.slice none 0 0):=(blk_cell hrow 0).trans rfl
     have f0:=blk_frozen hrow 0
     refine Rc.store_step rfl (by go_simp;rfl) ?_
     refine hK.out _ _ (hHeld.setCell (p:=⟨a8.heap.size,0,none⟩) hle _) (fun hHeld=>?_)
     clear hK K
     refine norm_ (a':=?_) ?_ ?_
     rotate_left
     ·show Act.put _ (none) _=_
      simp only[Act.put]
      rfl
     refine dz_ HT_ ?_
     exact Norm.intro ⟨a8.heap.size,A5,c5,A6,c6,rfl,blk_put hrow 0 _ rfl,Kd.R_mono (Kd.R_far (p:=⟨a8.heap.size,0,none⟩) hvt (fun q hq=>hq) _) (fun _ _=>trivial),hHeld,hle⟩
    ·refine Mn.alloc_step rfl (by go_simp;exact⟨rfl,rfl⟩) ?_
     have hrow:=heap_alloc_new a7 (.cells #[.slice none 0 0] 35)
     have hb:=below_alloc (RowKit.Below.refl a7.heap.size a7) (.cells #[.slice none 0 0] 35)
     have hle:w3.heap.size≤a7.heap.size:=hHeld.size
     have hHeld:=below_alloc hHeld (.cells #[.slice none 0 0] 35)
     refine kn_ (a':=?_) hK hHeld ?_ fun hHeld=>?_
     rotate_left;(focus show Act.put _ (some 7) _=_;simp only[Act.put,zq1,zq2,zq3,i64_w,i32_w];rfl);clear hK K
     have hrd:=(⟨hrd.1,hrd.2.1,Kd.C_below hrd.2.2 hb⟩:_∧_∧Kd.C Pt.k45 _ A5 hs.length hs)
     generalize a7.alloc (.cells #[.slice none 0 0] 35)=z8 at hHeld hrow hb hrd ⊢
     clear hb
     have hle8:=hHeld.size
     refine on_ 8 1023 (some 26) HT_ rfl rfl (by kernel_rfl) (by decide) (fun K hK=>?_)
     refine goes_ Tryz.func116 (by kernel_rfl) rfl #[.slice A5 hs.length c5,.int .i64 sz] (by rfl) rfl rfl (by(try simp only[List.map_toArray,List.map_cons,List.map_nil]);first | done | rfl) ?_
     refine(HPU.out _ A5 c5 hrd.2.2 hrd.2.1).mono ?_
     rintro e a8 ⟨v8,rfl,hv8,hb⟩
     refine⟨_,rfl,?_⟩
     have hrow:=(hb.block _ (blk_lt hrow)).trans hrow
     have hHeld:=hHeld.trans (hb.mono hHeld.size)
     refine kn_ (a':=?_) hK hHeld ?_ fun hHeld=>?_
     rotate_left;(focus show Act.put _ (some 26) _=_;simp only[Act.put,zq1,zq2,zq3,i64_w,i32_w];rfl);clear hK K
     obtain⟨A6,c6,hA6⟩:=Kd.R_slice hv8
     subst hA6
     clear hb
     have hv8:=Kd.R_lower hv8 hle8
     have hvt:=Kd.R_mono (ok':=fun q=>q≠a7.heap.size) (Kd.R_types hv8 hrow (by decide)) (fun q hq=>hq.2)
     refine on_ 10 2047 none HT_ rfl rfl (by kernel_rfl) (by decide) (fun K hK=>?_)
     have q0:_root_.Go.World.cell? a8 ⟨a7.heap.size,0,none⟩=some (.slice none 0 0):=(blk_cell hrow 0).trans rfl
     have f0:=blk_frozen hrow 0
     refine Rc.store_step rfl (by go_simp;rfl) ?_
     refine hK.out _ _ (hHeld.setCell (p:=⟨a7.heap.size,0,none⟩) hle _) (fun hHeld=>?_)
     clear hK K
     refine norm_ (a':=?_) ?_ ?_
     rotate_left
     ·show Act.put _ (none) _=_
      simp only[Act.put]
      rfl
     refine dz_ HT_ ?_
     exact Norm.intro ⟨a7.heap.size,A5,c5,A6,c6,rfl,blk_put hrow 0 _ rfl,Kd.R_mono (Kd.R_far (p:=⟨a7.heap.size,0,none⟩) hvt (fun q hq=>hq) _) (fun _ _=>trivial),hHeld,hle⟩
   ·refine Mn.alloc_step rfl (by go_simp;exact⟨rfl,rfl⟩) ?_
    have hrow:=heap_alloc_new a1 (.cells #[.slice none 0 0] 35)
    have hb:=below_alloc (RowKit.Below.refl a1.heap.size a1) (.cells #[.slice none 0 0] 35)
    have hle:w3.heap.size≤a1.heap.size:=hHeld.size
    have hHeld:=below_alloc hHeld (.cells #[.slice none 0 0] 35)
    refine kn_ (a':=?_) hK hHeld ?_ fun hHeld=>?_
    rotate_left;(focus show Act.put _ (some 7) _=_;simp only[Act.put,zq1,zq2,zq3,i64_w,i32_w];rfl);clear hK K
    have hrd:=(⟨hrd.1,hrd.2.1,Kd.C_below hrd.2.2 hb⟩:_∧_∧Kd.C Pt.k45 _ A5 hs.length hs)
    generalize a1.alloc (.cells #[.slice none 0 0] 35)=z7 at hHeld hrow hb hrd ⊢
    clear hb
    refine on_ 7 767 (some 25) HT_ rfl rfl (by kernel_rfl) (by decide) (fun K hK=>?_)
    refine goes_ Tryz.func33 (by kernel_rfl) rfl #[.pointer (some ⟨g,0,none⟩),.int .i64 n] (by rfl) rfl rfl (by(try simp only[List.map_toArray,List.map_cons,List.map_nil]);first | done | rfl) ?_
    refine(HSZ.out _ ((HB.out.trans (HB13.out.mono HB.out.size)).trans (hHeld.mono (HB.out.trans (HB13.out.mono HB.out.size)).size))).mono ?_
    rintro e a7 ⟨rfl,hb⟩
    refine⟨_,rfl,?_⟩
    have hrow:=(hb.block _ (blk_lt hrow)).trans hrow
    have hHeld:=hHeld.trans (hb.mono hHeld.size)
    refine kn_ (a':=?_) hK hHeld ?_ fun hHeld=>?_
    rotate_left;(focus show Act.put _ (some 25) _=_;simp only[Act.put,zq1,zq2,zq3,i64_w,i32_w];rfl);clear hK K
    have hrd:=(⟨hrd.1,hrd.2.1,Kd.C_below hrd.2.2 hb⟩:_∧_∧Kd.C Pt.k45 _ A5 hs.length hs)
    clear hb
    have hle8:=hHeld.size
    refine on_ 8 1023 (some 26) HT_ rfl rfl (by kernel_rfl) (by decide) (fun K hK=>?_)
    refine goes_ Tryz.func116 (by kernel_rfl) rfl #[.slice A5 hs.length c5,.int .i64 sz] (by rfl) rfl rfl (by(try simp only[List.map_toArray,List.map_cons,List.map_nil]);first | done | rfl) ?_
    refine(HPU.out _ A5 c5 hrd.2.2 hrd.2.1).mono ?_
    rintro e a8 ⟨v8,rfl,hv8,hb⟩
    refine⟨_,rfl,?_⟩
    have hrow:=(hb.block _ (blk_lt hrow)).trans hrow
    have hHeld:=hHeld.trans (hb.mono hHeld.size)
    refine kn_ (a':=?_) hK hHeld ?_ fun hHeld=>?_
    rotate_left;(focus show Act.put _ (some 26) _=_;simp only[Act.put,zq1,zq2,zq3,i64_w,i32_w];rfl);clear hK K
    obtain⟨A6,c6,hA6⟩:=Kd.R_slice hv8
    subst hA6
    clear hb
    have hv8:=Kd.R_lower hv8 hle8
    have hvt:=Kd.R_mono (ok':=fun q=>q≠a1.heap.size) (Kd.R_types hv8 hrow (by decide)) (fun q hq=>hq.2)
    refine on_ 10 2047 none HT_ rfl rfl (by kernel_rfl) (by decide) (fun K hK=>?_)
    have q0:_root_.Go.World.cell? a8 ⟨a1.heap.size,0,none⟩=some (.slice none 0 0):=(blk_cell hrow 0).trans rfl
    have f0:=blk_frozen hrow 0
    refine Rc.store_step rfl (by go_simp;rfl) ?_
    refine hK.out _ _ (hHeld.setCell (p:=⟨a1.heap.size,0,none⟩) hle _) (fun hHeld=>?_)
    clear hK K
    refine norm_ (a':=?_) ?_ ?_
    rotate_left
    ·show Act.put _ (none) _=_
     simp only[Act.put]
     rfl
    refine dz_ HT_ ?_
    exact Norm.intro ⟨a1.heap.size,A5,c5,A6,c6,rfl,blk_put hrow 0 _ rfl,Kd.R_mono (Kd.R_far (p:=⟨a1.heap.size,0,none⟩) hvt (fun q hq=>hq) _) (fun _ _=>trivial),hHeld,hle⟩
  ·refine Mn.alloc_step rfl (by go_simp;exact⟨rfl,rfl⟩) ?_
   have hrow:=heap_alloc_new v0 (.cells #[.slice none 0 0] 35)
   have hb:=below_alloc (RowKit.Below.refl v0.heap.size v0) (.cells #[.slice none 0 0] 35)
   have hle:w3.heap.size≤v0.heap.size:=hHeld.size
   have hHeld:=below_alloc hHeld (.cells #[.slice none 0 0] 35)
   refine kn_ (a':=?_) hK hHeld ?_ fun hHeld=>?_
   rotate_left;(focus show Act.put _ (some 7) _=_;simp only[Act.put,zq1,zq2,zq3,i64_w,i32_w];rfl);clear hK K
   generalize v0.alloc (.cells #[.slice none 0 0] 35)=z1 at hHeld hrow hb ⊢
   clear hb
   refine on_ 1 639 (some 19) HT_ rfl rfl (by kernel_rfl) (by decide) (fun K hK=>?_)
   refine goes_ Tryz.func117 (by kernel_rfl) rfl #[.slice A4 fo.length c4] (by rfl) rfl rfl (by(try simp only[List.map_toArray,List.map_cons,List.map_nil]);first | done | rfl) ?_
   refine(HOF.out _ A4 c4 (Kd.C_below HCF.out hHeld) HCAP.out).mono ?_
   rintro e a1 ⟨v1,rfl,hv1,hb⟩
   refine⟨_,rfl,?_⟩
   have hrow:=(hb.block _ (blk_lt hrow)).trans hrow
   have hHeld:=hHeld.trans (hb.mono hHeld.size)
   refine kn_ (a':=?_) hK hHeld ?_ fun hHeld=>?_
   rotate_left;(focus show Act.put _ (some 19) _=_;simp only[Act.put,zq1,zq2,zq3,i64_w,i32_w];rfl);clear hK K
   obtain⟨A5,c5,hA5⟩:=Kd.R_slice hv1
   subst hA5
   have hrd:=Kd.R_reads' hv1
   clear hb
   refine on_ 7 767 (some 25) HT_ rfl rfl (by kernel_rfl) (by decide) (fun K hK=>?_)
   refine goes_ Tryz.func33 (by kernel_rfl) rfl #[.pointer (some ⟨g,0,none⟩),.int .i64 n] (by rfl) rfl rfl (by(try simp only[List.map_toArray,List.map_cons,List.map_nil]);first | done | rfl) ?_
   refine(HSZ.out _ ((HB.out.trans (HB13.out.mono HB.out.size)).trans (hHeld.mono (HB.out.trans (HB13.out.mono HB.out.size)).size))).mono ?_
   rintro e a7 ⟨rfl,hb⟩
   refine⟨_,rfl,?_⟩
   have hrow:=(hb.block _ (blk_lt hrow)).trans hrow
   have hHeld:=hHeld.trans (hb.mono hHeld.size)
   refine kn_ (a':=?_) hK hHeld ?_ fun hHeld=>?_
   rotate_left;(focus show Act.put _ (some 25) _=_;simp only[Act.put,zq1,zq2,zq3,i64_w,i32_w];rfl);clear hK K
   have hrd:=(⟨hrd.1,hrd.2.1,Kd.C_below hrd.2.2 hb⟩:_∧_∧Kd.C Pt.k45 _ A5 hs.length hs)
   clear hb
   have hle8:=hHeld.size
   refine on_ 8 1023 (some 26) HT_ rfl rfl (by kernel_rfl) (by decide) (fun K hK=>?_)
   refine goes_ Tryz.func116 (by kernel_rfl) rfl #[.slice A5 hs.length c5,.int .i64 sz] (by rfl) rfl rfl (by(try simp only[List.map_toArray,List.map_cons,List.map_nil]);first | done | rfl) ?_
   refine(HPU.out _ A5 c5 hrd.2.2 hrd.2.1).mono ?_
   rintro e a8 ⟨v8,rfl,hv8,hb⟩
   refine⟨_,rfl,?_⟩
   have hrow:=(hb.block _ (blk_lt hrow)).trans hrow
   have hHeld:=hHeld.trans (hb.mono hHeld.size)
   refine kn_ (a':=?_) hK hHeld ?_ fun hHeld=>?_
   rotate_left;(focus show Act.put _ (some 26) _=_;simp only[Act.put,zq1,zq2,zq3,i64_w,i32_w];rfl);clear hK K
   obtain⟨A6,c6,hA6⟩:=Kd.R_slice hv8
   subst hA6
   clear hb
   have hv8:=Kd.R_lower hv8 hle8
   have hvt:=Kd.R_mono (ok':=fun q=>q≠v0.heap.size) (Kd.R_types hv8 hrow (by decide)) (fun q hq=>hq.2)
   refine on_ 10 2047 none HT_ rfl rfl (by kernel_rfl) (by decide) (fun K hK=>?_)
   have q0:_root_.Go.World.cell? a8 ⟨v0.heap.size,0,none⟩=some (.slice none 0 0):=(blk_cell hrow 0).trans rfl
   have f0:=blk_frozen hrow 0
   refine Rc.store_step rfl (by go_simp;rfl) ?_
   refine hK.out _ _ (hHeld.setCell (p:=⟨v0.heap.size,0,none⟩) hle _) (fun hHeld=>?_)
   clear hK K
   refine norm_ (a':=?_) ?_ ?_
   rotate_left
   ·show Act.put _ (none) _=_
    simp only[Act.put]
    rfl
   refine dz_ HT_ ?_
   exact Norm.intro ⟨v0.heap.size,A5,c5,A6,c6,rfl,blk_put hrow 0 _ rfl,Kd.R_mono (Kd.R_far (p:=⟨v0.heap.size,0,none⟩) hvt (fun q hq=>hq) _) (fun _ _=>trivial),hHeld,hle⟩
 case mono=>
  rintro a' w4 ⟨hb,A5,c5,A6,c6,rfl,hrow,hR,hb4,hle4⟩
  have hb14:=HB13.out.trans (hb4.mono HB13.out.size)
  have hx1:=(hb14.block _ (blk_lt HL1.out)).trans HL1.out
  have hx2:=(hb14.block _ (blk_lt HN1.out)).trans HN1.out
  have hB0:=HB.out.trans (hb14.mono HB.out.size)
  have hw3:w.heap.size≤w3.heap.size:=(HB.out.trans (HB13.out.mono HB.out.size)).size
  have HT:Calls Tryz.prog 60 #[.slice (some ⟨w4.heap.size,0,none⟩) 3 3] (w4.alloc (.cells #[.func (.func 118) #[] #[.pointer (some ⟨w.heap.size,0,none⟩),.pointer (some ⟨w.heap.size+1,0,none⟩)],.func (.func 120) #[] #[.pointer (some ⟨w.heap.size,0,none⟩),.pointer (some ⟨w.heap.size+1,0,none⟩),.pointer (some ⟨hb,0,none⟩)],.func (.func 121) #[] #[.pointer (some ⟨w.heap.size,0,none⟩),.pointer (some ⟨w.heap.size+1,0,none⟩)]] 92)) fun e w'=>e=.returned (.int .i64 (turnsM (hintSteps n bs) M).2)∧Turned w w' B g (N+3) F (turnsM (hintSteps n bs) M).1:=by
   have hcs:=heap_alloc_new w4 (.cells #[.func (.func 118) #[] #[.pointer (some ⟨w.heap.size,0,none⟩),.pointer (some ⟨w.heap.size+1,0,none⟩)],.func (.func 120) #[] #[.pointer (some ⟨w.heap.size,0,none⟩),.pointer (some ⟨w.heap.size+1,0,none⟩),.pointer (some ⟨hb,0,none⟩)],.func (.func 121) #[] #[.pointer (some ⟨w.heap.size,0,none⟩),.pointer (some ⟨w.heap.size+1,0,none⟩)]] 92)
   have hB5:=below_alloc (RowKit.Below.refl w4.heap.size w4) (.cells #[.func (.func 118) #[] #[.pointer (some ⟨w.heap.size,0,none⟩),.pointer (some ⟨w.heap.size+1,0,none⟩)],.func (.func 120) #[] #[.pointer (some ⟨w.heap.size,0,none⟩),.pointer (some ⟨w.heap.size+1,0,none⟩),.pointer (some ⟨hb,0,none⟩)],.func (.func 121) #[] #[.pointer (some ⟨w.heap.size,0,none⟩),.pointer (some ⟨w.heap.size+1,0,none⟩)]] 92)
   have hx1:=(hB5.block _ (blk_lt hx1)).trans hx1
   have hx2:=(hB5.block _ (blk_lt hx2)).trans hx2
   have hrow:=(hB5.block _ (blk_lt hrow)).trans hrow
   have hR:=Kd.R_below hR hB5
   generalize w4.alloc (.cells #[.func (.func 118) #[] #[.pointer (some ⟨w.heap.size,0,none⟩),.pointer (some ⟨w.heap.size+1,0,none⟩)],.func (.func 120) #[] #[.pointer (some ⟨w.heap.size,0,none⟩),.pointer (some ⟨w.heap.size+1,0,none⟩),.pointer (some ⟨hb,0,none⟩)],.func (.func 121) #[] #[.pointer (some ⟨w.heap.size,0,none⟩),.pointer (some ⟨w.heap.size+1,0,none⟩)]] 92)=w5 at hcs hB5 hx1 hx2 hrow hR ⊢
   have hB:=hB0.trans (hB5.mono hB0.size)
   have hlt:=HD.out.lt
   have hn4:=hB0.size
   have hNN:=HN.out
   have nF:∀k,w.heap.size≤k→¬F k:=fun k hk hf=>by have:=hlt k hf;omega
   have key:=turns_disk log_turns (hintSteps n bs) (by simp [hintSteps]) w4.heap.size #[.func (.func 118) #[] #[.pointer (some ⟨w.heap.size,0,none⟩),.pointer (some ⟨w.heap.size+1,0,none⟩)],.func (.func 120) #[] #[.pointer (some ⟨w.heap.size,0,none⟩),.pointer (some ⟨w.heap.size+1,0,none⟩),.pointer (some ⟨hb,0,none⟩)],.func (.func 121) #[] #[.pointer (some ⟨w.heap.size,0,none⟩),.pointer (some ⟨w.heap.size+1,0,none⟩)]] hcs (nF _ hn4) (HD.out.below hB) HM.out (hintSteps_fit n bs HHB.out.1) ?_
   ·refine key.mono ?_
    rintro e w' ⟨rfl,ht⟩
    exact⟨rfl,Turned.after (Keeps.of_below hB) ht⟩
   ·intro j hj
    have hj3:j < 3:=hj
    have hc1:∀W,Keeps F w5 W→W.cell? ⟨w.heap.size,0,none⟩=some (ptr l):=fun W hk=>hk.cell ((blk_cell hx1 0).trans rfl) (nF _ (Nat.le_refl _))
    have hc2:∀W,Keeps F w5 W→W.cell? ⟨w.heap.size+1,0,none⟩=some (.int .i64 n):=fun W hk=>hk.cell ((blk_cell hx2 0).trans rfl) (nF _ (Nat.le_succ _))
    have hc3:∀W,Keeps F w5 W→W.cell? ⟨hb,0,none⟩=some (.slice A6 bs.length c6):=fun W hk=>hk.cell ((blk_cell hrow 0).trans rfl) (nF _ (Nat.le_trans hw3 hle4))
    have hlo:∀W F',Keeps F w5 W→(∀k,F' k→F k∨w5.heap.size≤k)→LogO W B l g F' S:=fun W F' hk hf=>(HO.out.below hB).keep hk hf
    have hrw:∀W F',Keeps F w5 W→(∀k,F' k→F k∨w5.heap.size≤k)→∀W',Keeps F' W W'→Kd.C (Kd.int .u8) W' A6 bs.length bs:=fun W F' hk hf W' hk'=>(Kd.R_reads' (row_keep (row_keep hR hk (fun j hj=>nF _ (by have:=Kd.R_base hR j hj;omega))) hk' (fun j hj hf'=>by
     have h1:=Kd.R_base hR j hj
     have h2:=Kd.R_lt hR j hj
     rcases hf j hf' with h | h
     ·have:=hlt j h;omega
     ·omega))).2.2
    match j,hj3 with
    | 0,_=>exact⟨_,_,_,rfl,run_hint1,fun W M' F' hd' hM' hk hs=>by rw[Array.empty_append];exact hcreate_calls w.heap.size (w.heap.size+1) n hd' (by omega) (hlo W F' hk hs) (hc1 W hk) (hc2 W hk)⟩
    | 1,_=>exact⟨_,_,_,rfl,run_hint2,fun W M' F' hd' hM' hk hs=>by
      rw[Array.empty_append]
      refine(happend_calls w.heap.size (w.heap.size+1) hb n bs A6 c6 hd' hM' (hlo W F' hk hs) (hc1 W hk) (hc2 W hk) (hc3 W hk) HHB.out.2 (hrw W F' hk hs)).mono ?_
      rintro e w' ⟨rfl,h⟩
      exact⟨rfl,h.mono (by omega)⟩⟩
    | 2,_=>exact⟨_,_,_,rfl,run_hint3,fun W M' F' hd' hM' hk hs=>by
      rw[Array.empty_append]
      refine(hsync_calls w.heap.size (w.heap.size+1) n hd' (hlo W F' hk hs) (hc1 W hk) (hc2 W hk)).mono ?_
      rintro e w' ⟨rfl,h⟩
      exact⟨rfl,h.mono (by omega)⟩⟩
  have HT:=ak HT
  clear hx1 hx2 hrow hR hb4 hb14 hB0
  go_wp2_with (go_at_call 60;(with_reducible refine HT.out.mono ?_);rintro e w6 ⟨rfl,h6⟩;have H6:=ak h6;clear h6)
  go_end0
  rw[HDEF.out]
  exact⟨rfl,H6.out⟩
end Lg
end
section
namespace Lg
open Go.Maps Fr Ext Go.Proofs.YtcieieacfoaklaaGreat.Nm Dk Mn
open Sg (segN segN_le segN_ascii It Fo foundsL foundOf allSM)
open Rc (Re Lo zeroR recC Norm Norm.intro Norm.elim)
variable {w w' w1:World} {B l g N:Nat} {M M':DiskM} {F F' G:Nat→Prop} {S S':LogS}
end Lg
end
section
namespace Lg
open Go.Maps Fr Ext Go.Proofs.YtcieieacfoaklaaGreat.Nm Dk Mn
open Sg (segN segN_le segN_ascii makeM makeM_fit)
open Rc (Norm Norm.intro Norm.elim)
variable {w w' w1:World} {B l g N:Nat} {M M':DiskM} {F F' G:Nat→Prop} {S S':LogS}
theorem turns_disk8 {f:Nat} (hf:TurnsSpec f) (fs:List (DiskM→DiskM×Int)) (hn:fs.length≤1000) (b:Nat) (cs:Array Value) (hb:w.heap[b]? =some (.cells cs 92 (0,0))) (hbF:¬F b) (hd:DiskAt w B g N M F) (hM:Fit M)
  (hfit:∀f∈fs,∀M,Fit M→Fit (f M).1)
  (hstep:∀j (hj:j < fs.length),∃fid pre caps,cs[j]? =some (.func (.func fid) pre caps)∧(∀args W,(callFunc fid args).run Tryz.prog W=.ok (.enter fid args) W)∧
   ∀W M' F',DiskAt W B g (N+8*j) M' F'→Fit M'→Keeps F w W→(∀k,F' k→F k∨w.heap.size≤k)→
    Calls Tryz.prog fid (pre++caps) W fun e W'=>e=.returned (.int .i64 (fs[j] M').2)∧Turned W W' B g (N+8*j+8) F' (fs[j] M').1):
  Calls Tryz.prog f #[.slice (some ⟨b,0,none⟩) fs.length fs.length] w fun e W'=>e=.returned (.int .i64 (turnsM fs M).2)∧Turned w W' B g (N+8*fs.length) F (turnsM fs M).1:=by
 refine(hf fs.length b (by omega) cs w hb (fun j W=>(turnsM (fs.take j) M).2=0∧Fit (turnsM (fs.take j) M).1∧Turned w W B g (N+8*j) F (turnsM (fs.take j) M).1)
  (fun x W=>x=(turnsM fs M).2∧Turned w W B g (N+8*fs.length) F (turnsM fs M).1) ⟨rfl,hM,Turned.refl hd⟩ ?_ ?_).mono ?_
 ·rintro j W ⟨_,_,h⟩
  exact h.keeps.block b (blk_lt hb) hbF
 ·intro j hj
  obtain⟨fid,pre,caps,hc,hr,hcall⟩:=hstep j hj
  refine⟨fid,pre,caps,hc,hr,?_⟩
  rintro W ⟨hz,hFM,F',h1,h2,h3,h4⟩
  refine(hcall W _ F' h1 hFM h4 h3).mono ?_
  rintro e W' ⟨rfl,ht⟩
  have htk:=turnsM_take fs M j hj
  rw[if_pos hz] at htk
  have htw:Turned w W' B g (N+8*j+8) F (fs[j] (turnsM (fs.take j) M).1).1:=(Turned.glue h2 h3 h4 ht)
  refine⟨_,rfl,fun hx=>?_,fun hx=>?_⟩
  ·rw[htk]
   exact⟨hx,hfit _ (List.getElem_mem hj) _ hFM,htw.mono (by omega)⟩
  ·have hs:=turnsM_stop fs M (j+1) (by rw[htk];exact hx)
   rw[hs,htk]
   exact⟨rfl,htw.mono (by omega)⟩
 ·rintro e W' ⟨x,rfl,h1,h2⟩
  by_cases hx:x=0
  ·obtain⟨a1,_,a3⟩:=h1 hx
   rw[List.take_length] at a1 a3
   exact⟨by rw[hx,a1],a3⟩
  ·obtain⟨a1,a2⟩:=h2 hx
   exact⟨by rw[a1],a2⟩
def rm1T:Bool×List (List Nat×List Nat):=(true,[([],[]),([0],[0]),([1],[1]),([2],[2]),([],[]),([3,4],[3,4]),([5,5,0,1,2,3,4,5],[5])])
def rm1B:List Nat:=[0,1,3,7,0,31,63]
theorem rm1tab:rtab .any (opsOf Tryz.f61 1)=rm1T:=by kernel_rfl
theorem rm1bits:waitsOk rm1T.2 rm1B=true:=by kernel_rfl
def rs1T:Bool×List (List Nat×List Nat):=(true,[([],[]),([0],[0]),([1],[1]),([2],[2]),([],[]),([3,4],[3,4]),([5,5,0,1,2,3,4,5],[5])])
def rs1B:List Nat:=[0,1,3,7,0,31,63]
theorem rs1tab:rtab .any (opsOf Tryz.f63 1)=rs1T:=by kernel_rfl
theorem rs1bits:waitsOk rs1T.2 rs1B=true:=by kernel_rfl
theorem rmake_calls (lb nb:Nat) (n:Int) (hd:DiskAt w B g N M F) (hM:Fit M) (hN:N+2≤1000000000000) (h:LogO w B l g F S) (x0:w.cell? ⟨lb,0,none⟩=some (ptr l)) (x1:w.cell? ⟨nb,0,none⟩=some (.int .i64 n)):
  Calls Tryz.prog 61 #[.pointer (some ⟨lb,0,none⟩),.pointer (some ⟨nb,0,none⟩)] w fun e w'=>e=.returned (.int .i64 (makeM M n).2)∧Turned w w' B g (N+2) F (makeM M n).1:=by
 obtain⟨⟨A,c,h1,h2,h3⟩,hs,ha⟩:=h
 have x2:=bq h1 0 (ptr g)
 have HC:=ak (fun W (hW:RowKit.Below w.heap.size w W)=>Sg.make_calls (hd.below hW) hM n hN)
 clear h1 h2 h3 hs ha hd hN hM
 go_enter Tryz.func61,Tryz.ntmps61
 go_upto_region 1 with(fail)
 refine st_ 7 (S:=(fun w'=>RowKit.Below w.heap.size w w')) (ds:=[5]) (by kernel_rfl) rfl (by kernel_rfl) (RowKit.Below.refl _ _).drew (fun hHeld=>?_);refine with_tabW rm1tab rm1bits (fun HT_ HW_=>?_)
 generalize w.drew=w1 at hHeld ⊢
 refine tk_ 0 1 (N:=some 3) (v:=?_) (a':=?_) HT_ HW_ rfl rfl (.inl ⟨by rfl,?_⟩) hHeld ?_ ?_
 rotate_left
 ·rintro w' hs
  have xx:=pw_cell_below hs x0
  go_simp
  with_reducible rfl
 rotate_left
 ·simp only[Act.put,zq1,zq2,zq3,i64_w,i32_w]
  rfl
 refine fl_ [1,4,3,2,5,7] ?_
 iterate 2 refine pz_ HT_ ?_
 refine fe_ ?_
 refine tk_ 3 15 (N:=some 6) (v:=?_) (a':=?_) HT_ HW_ rfl rfl (.inl ⟨by rfl,?_⟩) hHeld ?_ ?_
 rotate_left
 ·rintro w' hs
  have xx:=pw_cell_below hs x2
  go_simp
  with_reducible rfl
 rotate_left
 ·simp only[Act.put,zq1,zq2,zq3,i64_w,i32_w]
  rfl
 refine tk_ 4 31 (N:=some 7) (v:=?_) (a':=?_) HT_ HW_ rfl rfl (.inl ⟨by rfl,?_⟩) hHeld ?_ ?_
 rotate_left
 ·rintro w' hs
  have xx:=pw_cell_below hs x1
  go_simp
  with_reducible rfl
 rotate_left
 ·simp only[Act.put,zq1,zq2,zq3,i64_w,i32_w]
  rfl
 refine la_ 5 63 (some 8) HT_ rfl rfl (by kernel_rfl) (by decide) (fun K hK=>?_)
 refine goes_ Tryz.func62 (by kernel_rfl) rfl #[.pointer (some ⟨g,0,none⟩),.int .i64 n] (by rfl) rfl rfl (by(try simp only[List.map_toArray,List.map_cons,List.map_nil]);first | done | rfl) ?_
 refine(HC.out _ hHeld).mono ?_
 rintro e w3 ⟨rfl,h3⟩
 refine⟨_,rfl,?_⟩
 refine hK.out _ _ ?_
 clear hK K
 refine norm_ (a':=?_) ?_ ?_
 rotate_left
 ·show Act.put _ (some 8) _=_
  simp only[Act.put,zq1,zq2,zq3,i64_w,i32_w]
  rfl
 refine fl_ [6,2,127] ?_
 refine pz_ HT_ ?_
 refine fe_ ?_
 have H3:=ak (Turned.after (Keeps.of_below hHeld) h3)
 clear hHeld h3
 refine dz_ HT_ ?_
 go_wp2
 go_ret
 exact⟨rfl,H3.out⟩
theorem rsave_calls (lb mb:Nat) (m:ManM) (Am:Option Addr) (cm:Nat) (hd:DiskAt w B g N M F) (hM:Fit M) (hN:N+6≤1000000000000) (h:LogO w B l g F S) (x0:w.cell? ⟨lb,0,none⟩=some (ptr l)) (hm:w.heap[mb]? =some (.cells (manC m Am cm) 78 (0,0)))
  (hl:m.segs.length≤1000000000) (hc:m.segs.length≤cm) (hr:∀W,Keeps F w W→Kd.C (Kd.int .i64) W Am m.segs.length m.segs):
  Calls Tryz.prog 63 #[.pointer (some ⟨lb,0,none⟩),.pointer (some ⟨mb,0,none⟩)] w fun e w'=>e=.returned (.int .i64 (saveM M m).2)∧Turned w w' B g (N+6) F (saveM M m).1:=by
 obtain⟨⟨A,c,h1,h2,h3⟩,hs,ha⟩:=h
 have x2:=bq h1 0 (ptr g)
 have y0:=bq hm 0 (.slice Am m.segs.length cm)
 have y1:=bq hm 1 (.int .i64 m.next)
 have HC:=ak (fun W (hW:RowKit.Below w.heap.size w W)=>save_calls m Am cm (hd.below hW) hM hN hl hc (fun W' hW'=>hr W' ((Keeps.of_below hW).trans hW')))
 clear h1 h2 h3 hs ha hd hN hM hl hc hr hm
 go_enter Tryz.func63,Tryz.ntmps63
 go_upto_region 1 with(fail)
 refine st_ 7 (S:=(fun w'=>RowKit.Below w.heap.size w w')) (ds:=[5]) (by kernel_rfl) rfl (by kernel_rfl) (RowKit.Below.refl _ _).drew (fun hHeld=>?_);refine with_tabW rs1tab rs1bits (fun HT_ HW_=>?_)
 generalize w.drew=w1 at hHeld ⊢
 refine tk_ 0 1 (N:=some 3) (v:=?_) (a':=?_) HT_ HW_ rfl rfl (.inl ⟨by rfl,?_⟩) hHeld ?_ ?_
 rotate_left
 ·rintro w' hs
  have xx:=pw_cell_below hs x0
  go_simp
  with_reducible rfl
 rotate_left
 ·simp only[Act.put,zq1,zq2,zq3,i64_w,i32_w]
  rfl
 refine fl_ [1,4,3,2,5,7] ?_
 iterate 2 refine pz_ HT_ ?_
 refine fe_ ?_
 refine tk_ 3 15 (N:=some 6) (v:=?_) (a':=?_) HT_ HW_ rfl rfl (.inl ⟨by rfl,?_⟩) hHeld ?_ ?_
 rotate_left
 ·rintro w' hs
  have xx:=pw_cell_below hs x2
  go_simp
  with_reducible rfl
 rotate_left
 ·simp only[Act.put,zq1,zq2,zq3,i64_w,i32_w]
  rfl
 refine tk_ 4 31 (N:=some 7) (v:=?_) (a':=?_) HT_ HW_ rfl rfl (.inl ⟨by rfl,?_⟩) hHeld ?_ ?_
 rotate_left
 ·rintro w' hs
  have xx:=pw_cell_below hs y0
  have xy:=pw_cell_below hs y1
  go_simp
  with_reducible rfl
 rotate_left
 ·simp only[Act.put,zq1,zq2,zq3,i64_w,i32_w]
  rfl
 refine la_ 5 63 (some 8) HT_ rfl rfl (by kernel_rfl) (by decide) (fun K hK=>?_)
 refine goes_ Tryz.func64 (by kernel_rfl) rfl #[.pointer (some ⟨g,0,none⟩),.agg #[.slice Am m.segs.length cm,.int .i64 m.next]] (by rfl) rfl rfl (by(try simp only[List.map_toArray,List.map_cons,List.map_nil]);first | done | rfl) ?_
 refine(HC.out _ hHeld).mono ?_
 rintro e w3 ⟨rfl,h3⟩
 refine⟨_,rfl,?_⟩
 refine hK.out _ _ ?_
 clear hK K
 refine norm_ (a':=?_) ?_ ?_
 rotate_left
 ·show Act.put _ (some 8) _=_
  simp only[Act.put,zq1,zq2,zq3,i64_w,i32_w]
  rfl
 refine fl_ [6,2,127] ?_
 refine pz_ HT_ ?_
 refine fe_ ?_
 have H3:=ak (Turned.after (Keeps.of_below hHeld) h3)
 clear hHeld h3
 refine dz_ HT_ ?_
 go_wp2
 go_ret
 exact⟨rfl,H3.out⟩
theorem run_roll1 (args:Array Value) (W:World):(callFunc 61 args).run Tryz.prog W=.ok (.enter 61 args) W:=enters_ Tryz.func61 (by kernel_rfl) rfl args W
theorem run_roll2 (args:Array Value) (W:World):(callFunc 63 args).run Tryz.prog W=.ok (.enter 63 args) W:=enters_ Tryz.func63 (by kernel_rfl) rfl args W
def rollSteps (n:Int) (m:ManM):List (DiskM→DiskM×Int):=[fun M=>makeM M n,fun M=>saveM M m]
theorem rollSteps_fit (n:Int) (m:ManM):∀f∈rollSteps n m,∀M,Fit M→Fit (f M).1:=by
 intro f hf M hM
 simp only[rollSteps,List.mem_cons,List.not_mem_nil,or_false] at hf
 rcases hf with rfl | rfl
 ·exact makeM_fit hM n
 ·exact saveM_fit hM m
theorem logSync_fit (hM:Fit M) (S:LogS):Fit (logSync M S).1:=by
 unfold logSync
 split
 ·exact hM
 ·exact hM.sync _
def rollMan (S:LogS) (n:Int):ManM:=⟨S.man.segs++[n],wrap64 (n+1)⟩
def rollEnd (M:DiskM) (S:LogS) (n:Int) (p:DiskM×Int):DiskM×LogS×Int:=
 if p.2=0 then((if 0≤S.last then hintM p.1 S.last else p.1),{S with man:=rollMan S n,last:=n},0)
 else(p.1,{S with man:=⟨S.man.segs,wrap64 (n+1)⟩},p.2)
def rollN (M:DiskM) (S:LogS) (n:Int):DiskM×LogS×Int:=
 if n≥99999999 then(M,S,5) else if S.man.segs.length≥1000 then(M,S,5)
 else rollEnd M S n (turnsM (rollSteps n (rollMan S n)) M)
def rollM (M:DiskM) (S:LogS):DiskM×LogS×Int:=
 if(logSync M S).2=0 then rollN (logSync M S).1 S (nextM (logSync M S).1 S) else((logSync M S).1,S,(logSync M S).2)
theorem rollM_fit (hM:Fit M) (S:LogS):Fit (rollM M S).1:=by
 have h1:=logSync_fit hM S
 unfold rollM
 split
 ·unfold rollN
  split
  ·exact h1
  split
  ·exact h1
  have h2:=turnsM_fit (rollSteps (nextM (logSync M S).1 S) (rollMan S (nextM (logSync M S).1 S))) (rollSteps_fit _ _) _ h1
  unfold rollEnd
  split
  ·show Fit (if 0≤S.last then _ else _)
   split
   ·exact hintM_fit h2 _
   ·exact h2
  ·exact h2
 ·exact h1
theorem three_ {P:Program} {md:Region.Mode} {ops:Array Oper} {Q:Exit→Act→World→Prop} {Sx:World→Prop} {ds:List Nat} {i j k:Nat} {Ni Nj Nk:Option Tmp} {oi oj ok:Oper} {fuel:Nat} {l:Array Bool} {a:Act} {w:World} (li lj lk:Array Bool) (hi:ops[i]? =some oi) (hj:ops[j]? =some oj) (hk:ops[k]? =some ok) (hNi:oi.dst=Ni) (hNj:oj.dst=Nj) (hNk:ok.dst=Nk)
  (hc:(Region.ready md ops l==[i,j,k] && l.setIfInBounds i true==li && l.setIfInBounds j true==lj && l.setIfInBounds k true==lk)=true) (hdi:i ∉ ds) (hdj:j ∉ ds) (hdk:k ∉ ds)
  (h1:∀K:Act→World→Prop,Shut (∀a' w',Sx w'→(Sx w'→wpAnyLast P md ops Q Sx ds fuel li a' w')→K a' w')→if Region.wanted oi (yielded ops a.tmps)=true then Oper.wp P oi a w K Q else K (a.put Ni undef) w)
  (h2:∀K:Act→World→Prop,Shut (∀a' w',Sx w'→(Sx w'→wpAnyLast P md ops Q Sx ds fuel lj a' w')→K a' w')→if Region.wanted oj (yielded ops a.tmps)=true then Oper.wp P oj a w K Q else K (a.put Nj undef) w)
  (h3:∀K:Act→World→Prop,Shut (∀a' w',Sx w'→(Sx w'→wpAnyLast P md ops Q Sx ds fuel lk a' w')→K a' w')→if Region.wanted ok (yielded ops a.tmps)=true then Oper.wp P ok a w K Q else K (a.put Nk undef) w):
  wpAnyLast P md ops Q Sx ds (fuel+1) l a w:=by
 subst hNi
 subst hNj
 subst hNk
 simp only[Bool.and_eq_true,beq_iff_eq] at hc
 obtain⟨⟨⟨g1,g2⟩,g3⟩,g4⟩:=hc
 subst g2
 subst g3
 subst g4
 exact wpAnyLast_ready g1 (by simp) (AllReadyL.cons hi hdi (fun K hK=>h1 K hK) (AllReadyL.cons hj hdj (fun K hK=>h2 K hK) (AllReadyL.cons hk hdk (fun K hK=>h3 K hK) AllReadyL.nil)))
end Lg
end
section
namespace Lg
open Go.Maps Fr Ext Go.Proofs.YtcieieacfoaklaaGreat.Nm Dk Mn
open Sg (segN segN_le segN_ascii makeM makeM_fit)
open Rc (Norm Norm.intro Norm.elim)
variable {w w' w1:World} {B l g N:Nat} {M M':DiskM} {F F' G:Nat→Prop} {S S':LogS}
def rl8T:Bool×List (List Nat×List Nat):=(true,[([],[]),([0],[0]),([],[]),([2],[2]),([1,3,1],[1,3]),([],[]),([5],[5]),([4,6],[4,6]),([],[]),([8,7,4,0,1,2,3,4,5,6,7,8],[7,8])])
def rl8B:List Nat:=[0,1,0,4,15,0,32,127,0,511]
theorem rl8tab:rtab .any (opsOf Tryz.f34 8)=rl8T:=by kernel_rfl
theorem rl8bits:waitsOk rl8T.2 rl8B=true:=by kernel_rfl
theorem LogO.setNext (h:LogO w B l g F S) (x:Int):LogO (w.setCell ⟨l,3,none⟩ (.int .i64 x)) B l g F {S with man:=⟨S.man.segs,x⟩}:=by
 obtain⟨⟨A,c,h1,h2,h3⟩,hs,ha⟩:=h
 refine⟨⟨A,c,blk_put h1 3 (.int .i64 x) rfl,Kd.R_mono (Kd.R_far (p:=⟨l,3,none⟩) (Kd.R_types h2 h1 (by decide)) (fun k hk=>hk.2) _) (fun _ _=>trivial),h3⟩,hs,ha⟩
theorem LogO.setLast (h:LogO w B l g F S) (x:Int):LogO (w.setCell ⟨l,4,none⟩ (.int .i64 x)) B l g F {S with last:=x}:=by
 obtain⟨⟨A,c,h1,h2,h3⟩,hs,ha⟩:=h
 refine⟨⟨A,c,blk_put h1 4 (.int .i64 x) rfl,Kd.R_mono (Kd.R_far (p:=⟨l,4,none⟩) (Kd.R_types h2 h1 (by decide)) (fun k hk=>hk.2) _) (fun _ _=>trivial),h3⟩,hs,ha⟩
theorem LogO.setMan (h:LogO w B l g F S) (m:ManM) (Am:Option Addr) (cm:Nat) (hr:Kd.R (Kd.int .i64) 3 w B (fun _=>True) (.slice Am m.segs.length cm) m.segs) (hn:∀k,(Value.slice Am m.segs.length cm).ownBlock=some k→¬F k):
  LogO ((w.setCell ⟨l,2,none⟩ (.slice Am m.segs.length cm)).setCell ⟨l,3,none⟩ (.int .i64 m.next)) B l g F {S with man:=m}:=by
 obtain⟨⟨A,c,h1,h2,h3⟩,hs,ha⟩:=h
 refine⟨⟨Am,cm,blk_put (blk_put h1 2 (.slice Am m.segs.length cm) rfl) 3 (.int .i64 m.next) rfl,Kd.R_mono (Kd.R_far (p:=⟨l,3,none⟩) (Kd.R_far (p:=⟨l,2,none⟩) (Kd.R_types hr h1 (by decide)) (fun k hk=>hk.2) _) (fun k hk=>hk.2) _) (fun _ _=>trivial),hn⟩,hs,ha⟩
theorem keeps_l (w:World) (l i:Nat) (v:Value):Keeps (fun k=>k=l) w (w.setCell ⟨l,i,none⟩ v):=(Keeps.refl _ _).set rfl
theorem DiskAt.setL (h:DiskAt w B g N M F) (hl:¬F l) (i:Nat) (v:Value):DiskAt (w.setCell ⟨l,i,none⟩ v) B g N M F:=h.keep (keeps_l w l i v) (fun k hk e=>hl (by rw[← e];exact hk))
theorem one_int {w:World} {sb:Nat} {n:Int} (h:w.heap[sb]? =some (.cells #[.int .i64 n] 3 (0,0))):Kd.C (Kd.int .i64) w (some ⟨sb,0,none⟩) 1 [n]:=
 Kd.C_of_reads (d:=(0:Int)) (h1:=fun _=>rfl) (reads_of_block (k:=.i64) (xs:=[n]) h (by simp))
theorem three_of {T:Bool×List (List Nat×List Nat)} {md:Region.Mode} {ops:Array Oper} {i j k:Nat} {l li lj lk:Array Bool} (hT:rtab md ops=T) (h:(readyT T.2 l.toList==[i,j,k] && l.toList.set i true==li.toList && l.toList.set j true==lj.toList && l.toList.set k true==lk.toList)=true):(Region.ready md ops l==[i,j,k] && l.setIfInBounds i true==li && l.setIfInBounds j true==lj && l.setIfInBounds k true==lk)=true:=by
 simp only[Bool.and_eq_true] at h ⊢
 obtain⟨⟨⟨h1,h2⟩,h3⟩,h4⟩:=h
 subst hT
 exact⟨⟨⟨by rw[ready_eq];exact h1,set_of h2⟩,set_of h3⟩,set_of h4⟩
theorem roll_calls (hd:DiskAt w B g N M F) (hM:Fit M) (h:LogO w B l g F S) (hl:S.man.segs.length≤1000000) (hN:N+32≤1000000000000):Calls Tryz.prog 34 #[ptr l] w fun e w'=>e=.returned (.int .i64 (rollM M S).2.2)∧LTurned w w' B l g (N+32) F (rollM M S).1 (rollM M S).2.1:=by
 have HD:=ak hd
 have HM:=ak hM
 have HO:=ak h
 have HN:=ak hN
 have HL:=ak hl
 have hdef:rollM M S=if(logSync M S).2=0 then rollN (logSync M S).1 S (nextM (logSync M S).1 S) else((logSync M S).1,S,(logSync M S).2):=rfl
 have hb1:=heap_alloc_new w (.cells #[ptr l] 29)
 have hB:=below_alloc (RowKit.Below.refl w.heap.size w) (.cells #[ptr l] 29)
 have hsy:=sync_calls (hd.below hB) (h.below hB)
 have hf1:=logSync_fit hM S
 clear hd hM h hl hN
 go_enter Tryz.func34,Tryz.ntmps34
 go_upto_region 1 with(fail)
 generalize w.alloc (.cells #[ptr l] 29)=w1 at hb1 hB hsy ⊢
 generalize logSync M S=p at hdef hsy hf1
 obtain⟨M1,e1⟩:=p
 have HB:=ak hB
 have HB1:=ak hb1
 have HSY:=ak hsy
 have HF1:=ak hf1
 have HDEF:=ak hdef
 have x0:=bq hb1 0 (ptr l)
 clear hb1 hB hsy hf1 hdef
 go_upto_region 2 with(go_at_call 57;(with_reducible refine HSY.out.mono ?_);rintro e w2 ⟨rfl,h2⟩;have H2:=ak h2;clear h2)
 by_cases he:e1=0
 case neg=>
  have d1:(e1 !=0)=true:=bne_iff_ne.mpr he
  have HE:=ak he
  clear he
  go_wp2
  go_ret
  rw[HDEF.out,if_neg HE.out]
  exact⟨rfl,(LTurned.after HB.out (LTurned.of_turned (HO.out.below HB.out) H2.out)).mono (by omega)⟩
 subst he
 obtain⟨F1,hd1,hs1,hs2,hk1,ho1⟩:=(HO.out.below HB.out).turned H2.out
 have hlt:=HD.out.lt
 have hn1:¬F w.heap.size:=fun hf=>by have:=hlt _ hf;omega
 have hx2:=hk1.obj HB1.out hn1
 have HX2:=ak hx2
 have HD1:=ak hd1
 have HO1:=ak ho1
 have HG1:=ak (And.intro hs1 (And.intro hs2 hk1))
 have HNX:=ak (next_calls hd1 HF1.out ho1)
 have hdef:=HDEF.out
 rw[if_pos rfl] at hdef
 generalize nextM M1 S=n at hdef HNX
 have HDEF2:=ak hdef
 have y0:=bq hx2 0 (ptr l)
 clear hd1 hs1 hs2 hk1 ho1 hlt hn1 hdef HDEF hx2 x0
 go_upto_region 5 with(go_at_call 58;(with_reducible refine HNX.out.mono ?_);rintro e w3 ⟨rfl,hb3⟩;have HB3:=ak hb3;clear hb3)
 have hn4:=heap_alloc_new w3 (.cells #[.int .i64 n] 3)
 have hb4:=below_alloc (RowKit.Below.refl w3.heap.size w3) (.cells #[.int .i64 n] 3)
 have HB24:=ak (HB3.out.trans (hb4.mono HB3.out.size))
 generalize w3.alloc (.cells #[.int .i64 n] 3)=w4 at hn4 hb4 HB24 ⊢
 obtain⟨nb,hnb⟩:∃nb,w3.heap.size=nb:=⟨_,rfl⟩
 rw[hnb] at hn4 ⊢
 have HNB:=ak (show w2.heap.size≤nb by rw[← hnb];exact HB3.out.size)
 have HN4:=ak hn4
 have HX4:=ak ((HB24.out.block _ (blk_lt HX2.out)).trans HX2.out)
 have HO4:=ak (HO1.out.below HB24.out)
 have HD4:=ak (HD1.out.below HB24.out)
 obtain⟨⟨A,c,h1,h2,h3⟩,h4,h5⟩:=HO4.out
 have z0:=bq HX4.out 0 (ptr l)
 have z1:=bq hn4 0 (.int .i64 n)
 have z2:=bq h1 2 (.slice A S.man.segs.length c)
 have z3:=bq h1 3 (.int .i64 S.man.next)
 have f3:=blk_frozen h1 3
 clear hn4 hb4 hnb h1 h2 h3 h4 h5 y0
 have HRET:=ak (fun W M' S' (h:LTurned w2 W B l g (N+32) F1 M' S')=>LTurned.after HB.out (LTurned.glue HG1.out.1 HG1.out.2.1 (HG1.out.2.2.mono (fun k hk=>.inl hk)) h))
 by_cases hn9:n≥99999999
 ·have d1:decide (n≥99999999)=true:=decide_eq_true hn9
  have d2:decide (99999999≤n)=true:=decide_eq_true hn9
  have H9:=ak hn9
  clear hn9
  go_wp2
  go_ret
  rw[HDEF2.out,show rollN M1 S n=(M1,S,5) by unfold rollN;rw[if_pos H9.out]]
  exact⟨rfl,HRET.out _ _ _ ((LTurned.of_turned HO1.out (Turned.of_below HD1.out HB24.out)).mono (by omega))⟩
 have d1:decide (n≥99999999)=false:=decide_eq_false hn9
 have d2:decide (99999999≤n)=false:=decide_eq_false hn9
 by_cases hl9:S.man.segs.length≥1000
 ·have d3:decide ((S.man.segs.length:Int)≥1000)=true:=decide_eq_true (by omega)
  have d4:decide (1000≤(S.man.segs.length:Int))=true:=decide_eq_true (by omega)
  have d5:decide (1000≤S.man.segs.length)=true:=decide_eq_true hl9
  have H9:=ak hn9
  have HL9:=ak hl9
  clear hn9 hl9
  go_wp2
  go_ret
  rw[HDEF2.out,show rollN M1 S n=(M1,S,5) by unfold rollN;rw[if_neg (by have:=H9.out;omega),if_pos HL9.out]]
  exact⟨rfl,HRET.out _ _ _ ((LTurned.of_turned HO1.out (Turned.of_below HD1.out HB24.out)).mono (by omega))⟩
 have d3:decide ((S.man.segs.length:Int)≥1000)=false:=decide_eq_false (by omega)
 have d4:decide (1000≤(S.man.segs.length:Int))=false:=decide_eq_false (by omega)
 have d5:decide (1000≤S.man.segs.length)=false:=decide_eq_false hl9
 have hdef:=HDEF2.out
 rw[show rollN M1 S n=rollEnd M1 S n (turnsM (rollSteps n (rollMan S n)) M1) by unfold rollN;rw[if_neg (by omega),if_neg hl9]] at hdef
 have HDEF3:=ak hdef
 have HL9:=ak hl9
 clear hdef HDEF2 hn9 hl9
 go_upto_region 8 with(fail)
 have HO5:=ak (HO4.out.setNext (wrap64 (n+1)))
 have HD5:=ak (DiskAt.setL HD4.out HO4.out.self 3 (.int .i64 (wrap64 (n+1))))
 have HK5:=ak (keeps_l w4 l 3 (.int .i64 (wrap64 (n+1))))
 have hln:w.heap.size≠l:=fun e=>by have:=HO.out.lt;omega
 have hlnb:nb≠l:=fun e=>by have h1:=HO1.out.lt;have h2:=HNB.out;omega
 have HX5:=ak ((HK5.out.block _ (blk_lt HX4.out) hln).trans HX4.out)
 have HN5:=ak ((HK5.out.block _ (blk_lt HN4.out) hlnb).trans HN4.out)
 generalize w4.setCell ⟨l,3,none⟩ (.int .i64 (wrap64 (n+1)))=w5 at HO5 HD5 HK5 HX5 HN5 ⊢
 clear z0 z1 z2 z3 f3 hln hlnb
 have z0:=bq HX5.out 0 (ptr l)
 have z1:=bq HN5.out 0 (.int .i64 n)
 obtain⟨L6,hL6⟩:∃L6,(S.man.segs++[n]).length=L6:=⟨_,rfl⟩
 have HL6:=ak hL6
 clear hL6
 have HLA:=ak (show(S.man.segs.length+1)*8≤140737488355328 by have:=HL.out;omega)
 refine Code.wp_mono (Q:=Norm fun a' W=>∃(mb sb:Nat) (A1:Option Addr) (c1:Nat) (A6:Option Addr) (c6:Nat),a'={tmps:=#[ptr l,.pointer (some ⟨w.heap.size,0,none⟩),.int .i64 0,.int .i64 0,.pointer (some ⟨nb,0,none⟩),.pointer (some ⟨mb,0,none⟩),undef,ptr l,.int .i64 0,.int .i64 0,.bool false,undef,ptr l,.int .i64 n,.int .i64 n,.bool false,.bool false,ptr l,.pointer (some ⟨l,0,none⟩),.pointer (some ⟨l,2,none⟩),.pointer (some ⟨l,2,none⟩),.slice A S.man.segs.length c,.int .i64 S.man.segs.length,.bool false,.bool false,ptr l,.int .i64 n,.int .i64 (wrap64 (n+1)),.pointer (some ⟨l,0,none⟩),.pointer (some ⟨l,2,none⟩),.pointer (some ⟨l,3,none⟩),ptr l,.slice A1 S.man.segs.length c1,.int .i64 n,.slice (some ⟨sb,0,none⟩) 1 1,.slice A6 L6 c6,.int .i64 n,.int .i64 (wrap64 (n+1)),.agg #[.slice A6 L6 c6,.int .i64 (wrap64 (n+1))],undef,undef,undef,undef,undef,undef,undef,undef,undef,undef,undef,undef,undef,undef,undef,undef,undef,undef,undef,undef,undef,undef,undef,undef,undef,undef],defers:=[]}∧W.heap[mb]? =some (.cells #[.slice A6 L6 c6,.int .i64 (wrap64 (n+1))] 78 (0,0))∧Kd.R (Kd.int .i64) 3 W w5.heap.size (fun _=>True) (.slice A6 L6 c6) (S.man.segs++[n])∧RowKit.Below w5.heap.size w5 W∧w5.heap.size≤mb) (Norm.elim ?mono) ?reg
 case reg=>
  refine st_ 10 (S:=(fun w'=>RowKit.Below w5.heap.size w5 w')) (ds:=[]) (by kernel_rfl) rfl (by kernel_rfl) (RowKit.Below.refl _ _).drew (fun hHeld=>?_);refine with_tabW rl8tab rl8bits (fun HT_ HW_=>?_)
  generalize w5.drew=b0 at hHeld ⊢
  refine tk_ 0 1 (N:=some 31) (v:=?_) (a':=?_) HT_ HW_ rfl rfl (.inl ⟨by rfl,?_⟩) hHeld ?_ ?_
  rotate_left
  ·rintro w' hs
   have xx:=pw_cell_below hs z0
   go_simp
   with_reducible rfl
  rotate_left
  ·simp only[Act.put,zq1,zq2,zq3,i64_w,i32_w]
   rfl
  refine tk_ 2 5 (N:=some 33) (v:=?_) (a':=?_) HT_ HW_ rfl rfl (.inl ⟨by rfl,?_⟩) hHeld ?_ ?_
  rotate_left
  ·rintro w' hs
   have xx:=pw_cell_below hs z1
   go_simp
   with_reducible rfl
  rotate_left
  ·simp only[Act.put,zq1,zq2,zq3,i64_w,i32_w]
   rfl
  refine tk_ 5 37 (N:=some 36) (v:=?_) (a':=?_) HT_ HW_ rfl rfl (.inl ⟨by rfl,?_⟩) hHeld ?_ ?_
  rotate_left
  ·rintro w' hs
   have xx:=pw_cell_below hs z1
   go_simp
   with_reducible rfl
  rotate_left
  ·simp only[Act.put,zq1,zq2,zq3,i64_w,i32_w]
   rfl
  refine fl_ [6,37,101] ?_
  refine pz_ HT_ ?_
  refine fe_ ?_
  refine join_ (σ:=Nat×Nat×(Option Addr×Nat)×(Option Addr×Nat)) 1 (bl 10 511) (fun s=>[(32,.slice s.2.2.1.1 S.man.segs.length s.2.2.1.2),(34,.slice (some ⟨s.2.1,0,none⟩) 1 1),(35,.slice s.2.2.2.1 L6 s.2.2.2.2),(38,.agg #[.slice s.2.2.2.1 L6 s.2.2.2.2,.int .i64 (wrap64 (n+1))]),(5,.pointer (some ⟨s.1,0,none⟩))]) (fun s W=>W.heap[s.1]? =some (.cells #[.slice none 0 0,.int .i64 0] 78 (0,0))∧Kd.R (Kd.int .i64) 3 W w5.heap.size (fun _=>True) (.slice s.2.2.2.1 L6 s.2.2.2.2) (S.man.segs++[n])∧RowKit.Below w5.heap.size w5 W∧w5.heap.size≤s.1) ?_ ?_
  ·rintro ⟨mb,sb,⟨A1,c1⟩,⟨A6,c6⟩⟩ W ⟨hrow,hv4,hHeld,hle8⟩
   dsimp only at hrow hv4 hle8
   refine norm_ (a':=?_) ?_ ?_
   rotate_left
   ·simp only[putAll,Act.put,zq1,zq2,zq3]
    rfl
   have hvt:=Kd.R_mono (ok':=fun q=>q≠mb) (Kd.R_types hv4 hrow (by decide)) (fun q hq=>hq.2)
   refine on_ 9 1023 none HT_ rfl rfl (by kernel_rfl) (by decide) (fun K hK=>?_)
   have q0:_root_.Go.World.cell? W ⟨mb,0,none⟩=some (.slice none 0 0):=(blk_cell hrow 0).trans rfl
   have q1:_root_.Go.World.cell? W ⟨mb,1,none⟩=some (.int .i64 0):=(blk_cell hrow 1).trans rfl
   have f0:=blk_frozen hrow 0
   have f1:=blk_frozen hrow 1
   refine Rc.store_step rfl (by go_simp;rfl) ?_
   refine hK.out _ _ ((hHeld.setCell (p:=⟨mb,0,none⟩) hle8 _).setCell (p:=⟨mb,1,none⟩) hle8 _) (fun hHeld=>?_)
   clear hK K
   refine norm_ (a':=?_) ?_ ?_
   rotate_left
   ·show Act.put _ (none) _=_
    simp only[Act.put]
    rfl
   refine dz_ HT_ ?_
   exact Norm.intro ⟨mb,sb,A1,c1,A6,c6,rfl,blk_put (blk_put hrow 0 _ rfl) 1 _ rfl,Kd.R_mono (Kd.R_far (p:=⟨mb,1,none⟩) (Kd.R_far (p:=⟨mb,0,none⟩) hvt (fun q hq=>hq) _) (fun q hq=>hq) _) (fun _ _=>trivial),hHeld,hle8⟩
  intro hCont
  refine three_ (i:=1) (j:=3) (k:=8) (Ni:=some 32) (Nj:=some 34) (Nk:=some 5) (bl 10 103) (bl 10 109) (bl 10 357) rfl rfl rfl rfl rfl rfl (three_of HT_.out (by kernel_rfl)) (by decide) (by decide) (by decide) (fun K hK=>?_) (fun K hK=>?_) (fun K hK=>?_)
  ·refine goes_ Tryz.func59 (by kernel_rfl) rfl #[.pointer (some ⟨l,0,none⟩)] (by rfl) rfl rfl (by(try simp only[List.map_toArray,List.map_cons,List.map_nil]);first | done | rfl) ?_
   refine(segs_calls (HO5.out.below hHeld) HL.out).mono ?_
   rintro e b1 ⟨v1,rfl,hv1,hb⟩
   refine⟨_,rfl,?_⟩
   have hv1:=Kd.R_lower hv1 hHeld.size
   have hHeld:=hHeld.trans (hb.mono hHeld.size)
   refine kn_ (a':=?_) hK hHeld ?_ fun hHeld=>?_
   rotate_left;(focus show Act.put _ (some 32) _=_;simp only[Act.put,zq1,zq2,zq3,i64_w,i32_w];rfl);clear hK K
   obtain⟨A1,c1,hA1⟩:=Kd.R_slice hv1
   subst hA1
   clear hb
   refine tw_ 3 8 111 359 (some 34) (some 5) HT_ rfl rfl rfl rfl (by kernel_rfl) (by decide) (by decide) (fun K hK=>?_) (fun K hK=>?_)
   ·refine Mn.alloc_step rfl (by go_simp;exact⟨rfl,rfl⟩) ?_
    have hb:=below_alloc (RowKit.Below.refl b1.heap.size b1) (.cells #[.int .i64 n] 3)
    have hv1:=Kd.R_below hv1 hb
    have hlit:=heap_alloc_new b1 (.cells #[.int .i64 n] 3)
    have hle3:w5.heap.size≤b1.heap.size:=hHeld.size
    have hHeld:=below_alloc hHeld (.cells #[.int .i64 n] 3)
    refine kn_ (a':=?_) hK hHeld ?_ fun hHeld=>?_
    rotate_left;(focus show Act.put _ (some 34) _=_;simp only[Act.put,zq1,zq2,zq3,i64_w,i32_w];rfl);clear hK K
    generalize b1.alloc (.cells #[.int .i64 n] 3)=b2 at hHeld hb hlit hv1 ⊢
    clear hb
    refine tw_ 4 8 127 367 (some 35) (some 5) HT_ rfl rfl rfl rfl (by kernel_rfl) (by decide) (by decide) (fun K hK=>?_) (fun K hK=>?_)
    ·refine Kd.R_append_rows_step (Kd.int .i64) (w0:=b2) (W:=b2) w5.heap.size rfl (.tmp 32) (.tmp 34) 76 3 (.int .i64 0) 8 rfl Tryz.underlying76 Nm.infoI rfl (by decide) (by decide) (.slice A1 S.man.segs.length c1) S.man.segs [n] (some ⟨b1.heap.size,0,none⟩) 1 1 (fun _=>True) (fun _=>False) rfl rfl hv1 (one_int hlit) (fun x cs hk=>hk) (fun _ h=>h.elim) (fun _ _=>trivial) (RowKit.Below.refl _ _) hHeld.size HLA.out ?_
     intro v4 b3 hv4 hb4 hg4 hat4
     have hHg:=hHeld.grown hg4 hHeld.size (Kd.R_base hv1)
     have hHeld:=hHg
     refine kn_ (a':=?_) hK hHeld ?_ fun hHeld=>?_
     rotate_left;(focus show Act.put _ (some 35) _=_;simp only[Act.put,zq1,zq2,zq3,i64_w,i32_w];rfl);clear hK K
     obtain⟨A6,c6,hA6⟩:=Kd.R_slice hv4
     rw[HL6.out] at hA6
     subst hA6
     refine fl_ [7,38,255] ?_
     refine pz_ HT_ ?_
     refine fe_ ?_
     refine on_ 8 511 (some 5) HT_ rfl rfl (by kernel_rfl) (by decide) (fun K hK=>?_)
     refine Mn.alloc_step rfl (by go_simp;exact⟨rfl,rfl⟩) ?_
     have hb:=below_alloc (RowKit.Below.refl b3.heap.size b3) (.cells #[.slice none 0 0,.int .i64 0] 78)
     have hv4:=Kd.R_below hv4 hb
     have hrow:=heap_alloc_new b3 (.cells #[.slice none 0 0,.int .i64 0] 78)
     have hle8:w5.heap.size≤b3.heap.size:=hHeld.size
     have hHeld:=below_alloc hHeld (.cells #[.slice none 0 0,.int .i64 0] 78)
     refine kn_ (a':=?_) hK hHeld ?_ fun hHeld=>?_
     rotate_left;(focus show Act.put _ (some 5) _=_;simp only[Act.put,zq1,zq2,zq3,i64_w,i32_w];rfl);clear hK K
     generalize b3.alloc (.cells #[.slice none 0 0,.int .i64 0] 78)=b4 at hHeld hb hrow hv4 ⊢
     clear hb
     exact norm_ (by simp only[putAll,Act.put,zq1,zq2,zq3]) (hCont (b3.heap.size,b1.heap.size,(A1,c1),(A6,c6)) _ ⟨hrow,hv4,hHeld,hle8⟩)
    ·refine Mn.alloc_step rfl (by go_simp;exact⟨rfl,rfl⟩) ?_
     have hb:=below_alloc (RowKit.Below.refl b2.heap.size b2) (.cells #[.slice none 0 0,.int .i64 0] 78)
     have hv1:=Kd.R_below hv1 hb
     have hlit:=(hb.block _ (blk_lt hlit)).trans hlit
     have hrow:=heap_alloc_new b2 (.cells #[.slice none 0 0,.int .i64 0] 78)
     have hle8:w5.heap.size≤b2.heap.size:=hHeld.size
     have hHeld:=below_alloc hHeld (.cells #[.slice none 0 0,.int .i64 0] 78)
     refine kn_ (a':=?_) hK hHeld ?_ fun hHeld=>?_
     rotate_left;(focus show Act.put _ (some 5) _=_;simp only[Act.put,zq1,zq2,zq3,i64_w,i32_w];rfl);clear hK K
     generalize b2.alloc (.cells #[.slice none 0 0,.int .i64 0] 78)=b5 at hHeld hb hrow hv1 hlit ⊢
     clear hb
     refine on_ 4 383 (some 35) HT_ rfl rfl (by kernel_rfl) (by decide) (fun K hK=>?_)
     refine Kd.R_append_rows_step (Kd.int .i64) (w0:=b5) (W:=b5) w5.heap.size rfl (.tmp 32) (.tmp 34) 76 3 (.int .i64 0) 8 rfl Tryz.underlying76 Nm.infoI rfl (by decide) (by decide) (.slice A1 S.man.segs.length c1) S.man.segs [n] (some ⟨b1.heap.size,0,none⟩) 1 1 (fun _=>True) (fun _=>False) rfl rfl hv1 (one_int hlit) (fun x cs hk=>hk) (fun _ h=>h.elim) (fun _ _=>trivial) (RowKit.Below.refl _ _) hHeld.size HLA.out ?_
     intro v4 b6 hv4 hb4 hg4 hat4
     have hHg:=hHeld.grown hg4 hHeld.size (Kd.R_base hv1)
     have hrow:=blk_grown hrow hg4 (Kd.R_ne hv1 hrow (by decide))
     have hHeld:=hHg
     refine kn_ (a':=?_) hK hHeld ?_ fun hHeld=>?_
     rotate_left;(focus show Act.put _ (some 35) _=_;simp only[Act.put,zq1,zq2,zq3,i64_w,i32_w];rfl);clear hK K
     obtain⟨A6,c6,hA6⟩:=Kd.R_slice hv4
     rw[HL6.out] at hA6
     subst hA6
     refine fl_ [7,38,511] ?_
     refine pz_ HT_ ?_
     refine fe_ ?_
     exact norm_ (by simp only[putAll,Act.put,zq1,zq2,zq3]) (hCont (b2.heap.size,b1.heap.size,(A1,c1),(A6,c6)) _ ⟨hrow,hv4,hHeld,hle8⟩)
   ·refine Mn.alloc_step rfl (by go_simp;exact⟨rfl,rfl⟩) ?_
    have hb:=below_alloc (RowKit.Below.refl b1.heap.size b1) (.cells #[.slice none 0 0,.int .i64 0] 78)
    have hv1:=Kd.R_below hv1 hb
    have hrow:=heap_alloc_new b1 (.cells #[.slice none 0 0,.int .i64 0] 78)
    have hle8:w5.heap.size≤b1.heap.size:=hHeld.size
    have hHeld:=below_alloc hHeld (.cells #[.slice none 0 0,.int .i64 0] 78)
    refine kn_ (a':=?_) hK hHeld ?_ fun hHeld=>?_
    rotate_left;(focus show Act.put _ (some 5) _=_;simp only[Act.put,zq1,zq2,zq3,i64_w,i32_w];rfl);clear hK K
    generalize b1.alloc (.cells #[.slice none 0 0,.int .i64 0] 78)=b7 at hHeld hb hrow hv1 ⊢
    clear hb
    refine on_ 3 367 (some 34) HT_ rfl rfl (by kernel_rfl) (by decide) (fun K hK=>?_)
    refine Mn.alloc_step rfl (by go_simp;exact⟨rfl,rfl⟩) ?_
    have hb:=below_alloc (RowKit.Below.refl b7.heap.size b7) (.cells #[.int .i64 n] 3)
    have hv1:=Kd.R_below hv1 hb
    have hrow:=(hb.block _ (blk_lt hrow)).trans hrow
    have hlit:=heap_alloc_new b7 (.cells #[.int .i64 n] 3)
    have hle3:w5.heap.size≤b7.heap.size:=hHeld.size
    have hHeld:=below_alloc hHeld (.cells #[.int .i64 n] 3)
    refine kn_ (a':=?_) hK hHeld ?_ fun hHeld=>?_
    rotate_left;(focus show Act.put _ (some 34) _=_;simp only[Act.put,zq1,zq2,zq3,i64_w,i32_w];rfl);clear hK K
    generalize b7.alloc (.cells #[.int .i64 n] 3)=b8 at hHeld hb hlit hv1 hrow ⊢
    clear hb
    refine on_ 4 383 (some 35) HT_ rfl rfl (by kernel_rfl) (by decide) (fun K hK=>?_)
    refine Kd.R_append_rows_step (Kd.int .i64) (w0:=b8) (W:=b8) w5.heap.size rfl (.tmp 32) (.tmp 34) 76 3 (.int .i64 0) 8 rfl Tryz.underlying76 Nm.infoI rfl (by decide) (by decide) (.slice A1 S.man.segs.length c1) S.man.segs [n] (some ⟨b7.heap.size,0,none⟩) 1 1 (fun _=>True) (fun _=>False) rfl rfl hv1 (one_int hlit) (fun x cs hk=>hk) (fun _ h=>h.elim) (fun _ _=>trivial) (RowKit.Below.refl _ _) hHeld.size HLA.out ?_
    intro v4 b9 hv4 hb4 hg4 hat4
    have hHg:=hHeld.grown hg4 hHeld.size (Kd.R_base hv1)
    have hrow:=blk_grown hrow hg4 (Kd.R_ne hv1 hrow (by decide))
    have hHeld:=hHg
    refine kn_ (a':=?_) hK hHeld ?_ fun hHeld=>?_
    rotate_left;(focus show Act.put _ (some 35) _=_;simp only[Act.put,zq1,zq2,zq3,i64_w,i32_w];rfl);clear hK K
    obtain⟨A6,c6,hA6⟩:=Kd.R_slice hv4
    rw[HL6.out] at hA6
    subst hA6
    refine fl_ [7,38,511] ?_
    refine pz_ HT_ ?_
    refine fe_ ?_
    exact norm_ (by simp only[putAll,Act.put,zq1,zq2,zq3]) (hCont (b1.heap.size,b7.heap.size,(A1,c1),(A6,c6)) _ ⟨hrow,hv4,hHeld,hle8⟩)
  ·refine Mn.alloc_step rfl (by go_simp;exact⟨rfl,rfl⟩) ?_
   have hb:=below_alloc (RowKit.Below.refl b0.heap.size b0) (.cells #[.int .i64 n] 3)
   have hlit:=heap_alloc_new b0 (.cells #[.int .i64 n] 3)
   have hle3:w5.heap.size≤b0.heap.size:=hHeld.size
   have hHeld:=below_alloc hHeld (.cells #[.int .i64 n] 3)
   refine kn_ (a':=?_) hK hHeld ?_ fun hHeld=>?_
   rotate_left;(focus show Act.put _ (some 34) _=_;simp only[Act.put,zq1,zq2,zq3,i64_w,i32_w];rfl);clear hK K
   generalize b0.alloc (.cells #[.int .i64 n] 3)=b10 at hHeld hb hlit ⊢
   clear hb
   refine tw_ 1 8 111 365 (some 32) (some 5) HT_ rfl rfl rfl rfl (by kernel_rfl) (by decide) (by decide) (fun K hK=>?_) (fun K hK=>?_)
   ·refine goes_ Tryz.func59 (by kernel_rfl) rfl #[.pointer (some ⟨l,0,none⟩)] (by rfl) rfl rfl (by(try simp only[List.map_toArray,List.map_cons,List.map_nil]);first | done | rfl) ?_
    refine(segs_calls (HO5.out.below hHeld) HL.out).mono ?_
    rintro e b11 ⟨v1,rfl,hv1,hb⟩
    refine⟨_,rfl,?_⟩
    have hv1:=Kd.R_lower hv1 hHeld.size
    have hlit:=(hb.block _ (blk_lt hlit)).trans hlit
    have hHeld:=hHeld.trans (hb.mono hHeld.size)
    refine kn_ (a':=?_) hK hHeld ?_ fun hHeld=>?_
    rotate_left;(focus show Act.put _ (some 32) _=_;simp only[Act.put,zq1,zq2,zq3,i64_w,i32_w];rfl);clear hK K
    obtain⟨A1,c1,hA1⟩:=Kd.R_slice hv1
    subst hA1
    clear hb
    refine tw_ 4 8 127 367 (some 35) (some 5) HT_ rfl rfl rfl rfl (by kernel_rfl) (by decide) (by decide) (fun K hK=>?_) (fun K hK=>?_)
    ·refine Kd.R_append_rows_step (Kd.int .i64) (w0:=b11) (W:=b11) w5.heap.size rfl (.tmp 32) (.tmp 34) 76 3 (.int .i64 0) 8 rfl Tryz.underlying76 Nm.infoI rfl (by decide) (by decide) (.slice A1 S.man.segs.length c1) S.man.segs [n] (some ⟨b0.heap.size,0,none⟩) 1 1 (fun _=>True) (fun _=>False) rfl rfl hv1 (one_int hlit) (fun x cs hk=>hk) (fun _ h=>h.elim) (fun _ _=>trivial) (RowKit.Below.refl _ _) hHeld.size HLA.out ?_
     intro v4 b12 hv4 hb4 hg4 hat4
     have hHg:=hHeld.grown hg4 hHeld.size (Kd.R_base hv1)
     have hHeld:=hHg
     refine kn_ (a':=?_) hK hHeld ?_ fun hHeld=>?_
     rotate_left;(focus show Act.put _ (some 35) _=_;simp only[Act.put,zq1,zq2,zq3,i64_w,i32_w];rfl);clear hK K
     obtain⟨A6,c6,hA6⟩:=Kd.R_slice hv4
     rw[HL6.out] at hA6
     subst hA6
     refine fl_ [7,38,255] ?_
     refine pz_ HT_ ?_
     refine fe_ ?_
     refine on_ 8 511 (some 5) HT_ rfl rfl (by kernel_rfl) (by decide) (fun K hK=>?_)
     refine Mn.alloc_step rfl (by go_simp;exact⟨rfl,rfl⟩) ?_
     have hb:=below_alloc (RowKit.Below.refl b12.heap.size b12) (.cells #[.slice none 0 0,.int .i64 0] 78)
     have hv4:=Kd.R_below hv4 hb
     have hrow:=heap_alloc_new b12 (.cells #[.slice none 0 0,.int .i64 0] 78)
     have hle8:w5.heap.size≤b12.heap.size:=hHeld.size
     have hHeld:=below_alloc hHeld (.cells #[.slice none 0 0,.int .i64 0] 78)
     refine kn_ (a':=?_) hK hHeld ?_ fun hHeld=>?_
     rotate_left;(focus show Act.put _ (some 5) _=_;simp only[Act.put,zq1,zq2,zq3,i64_w,i32_w];rfl);clear hK K
     generalize b12.alloc (.cells #[.slice none 0 0,.int .i64 0] 78)=b13 at hHeld hb hrow hv4 ⊢
     clear hb
     exact norm_ (by simp only[putAll,Act.put,zq1,zq2,zq3]) (hCont (b12.heap.size,b0.heap.size,(A1,c1),(A6,c6)) _ ⟨hrow,hv4,hHeld,hle8⟩)
    ·refine Mn.alloc_step rfl (by go_simp;exact⟨rfl,rfl⟩) ?_
     have hb:=below_alloc (RowKit.Below.refl b11.heap.size b11) (.cells #[.slice none 0 0,.int .i64 0] 78)
     have hv1:=Kd.R_below hv1 hb
     have hlit:=(hb.block _ (blk_lt hlit)).trans hlit
     have hrow:=heap_alloc_new b11 (.cells #[.slice none 0 0,.int .i64 0] 78)
     have hle8:w5.heap.size≤b11.heap.size:=hHeld.size
     have hHeld:=below_alloc hHeld (.cells #[.slice none 0 0,.int .i64 0] 78)
     refine kn_ (a':=?_) hK hHeld ?_ fun hHeld=>?_
     rotate_left;(focus show Act.put _ (some 5) _=_;simp only[Act.put,zq1,zq2,zq3,i64_w,i32_w];rfl);clear hK K
     generalize b11.alloc (.cells #[.slice none 0 0,.int .i64 0] 78)=b14 at hHeld hb hrow hv1 hlit ⊢
     clear hb
     refine on_ 4 383 (some 35) HT_ rfl rfl (by kernel_rfl) (by decide) (fun K hK=>?_)
     refine Kd.R_append_rows_step (Kd.int .i64) (w0:=b14) (W:=b14) w5.heap.size rfl (.tmp 32) (.tmp 34) 76 3 (.int .i64 0) 8 rfl Tryz.underlying76 Nm.infoI rfl (by decide) (by decide) (.slice A1 S.man.segs.length c1) S.man.segs [n] (some ⟨b0.heap.size,0,none⟩) 1 1 (fun _=>True) (fun _=>False) rfl rfl hv1 (one_int hlit) (fun x cs hk=>hk) (fun _ h=>h.elim) (fun _ _=>trivial) (RowKit.Below.refl _ _) hHeld.size HLA.out ?_
     intro v4 b15 hv4 hb4 hg4 hat4
     have hHg:=hHeld.grown hg4 hHeld.size (Kd.R_base hv1)
     have hrow:=blk_grown hrow hg4 (Kd.R_ne hv1 hrow (by decide))
     have hHeld:=hHg
     refine kn_ (a':=?_) hK hHeld ?_ fun hHeld=>?_
     rotate_left;(focus show Act.put _ (some 35) _=_;simp only[Act.put,zq1,zq2,zq3,i64_w,i32_w];rfl);clear hK K
     obtain⟨A6,c6,hA6⟩:=Kd.R_slice hv4
     rw[HL6.out] at hA6
     subst hA6
     refine fl_ [7,38,511] ?_
     refine pz_ HT_ ?_
     refine fe_ ?_
     exact norm_ (by simp only[putAll,Act.put,zq1,zq2,zq3]) (hCont (b11.heap.size,b0.heap.size,(A1,c1),(A6,c6)) _ ⟨hrow,hv4,hHeld,hle8⟩)
   ·refine Mn.alloc_step rfl (by go_simp;exact⟨rfl,rfl⟩) ?_
    have hb:=below_alloc (RowKit.Below.refl b10.heap.size b10) (.cells #[.slice none 0 0,.int .i64 0] 78)
    have hlit:=(hb.block _ (blk_lt hlit)).trans hlit
    have hrow:=heap_alloc_new b10 (.cells #[.slice none 0 0,.int .i64 0] 78)
    have hle8:w5.heap.size≤b10.heap.size:=hHeld.size
    have hHeld:=below_alloc hHeld (.cells #[.slice none 0 0,.int .i64 0] 78)
    refine kn_ (a':=?_) hK hHeld ?_ fun hHeld=>?_
    rotate_left;(focus show Act.put _ (some 5) _=_;simp only[Act.put,zq1,zq2,zq3,i64_w,i32_w];rfl);clear hK K
    generalize b10.alloc (.cells #[.slice none 0 0,.int .i64 0] 78)=b16 at hHeld hb hrow hlit ⊢
    clear hb
    refine on_ 1 367 (some 32) HT_ rfl rfl (by kernel_rfl) (by decide) (fun K hK=>?_)
    refine goes_ Tryz.func59 (by kernel_rfl) rfl #[.pointer (some ⟨l,0,none⟩)] (by rfl) rfl rfl (by(try simp only[List.map_toArray,List.map_cons,List.map_nil]);first | done | rfl) ?_
    refine(segs_calls (HO5.out.below hHeld) HL.out).mono ?_
    rintro e b17 ⟨v1,rfl,hv1,hb⟩
    refine⟨_,rfl,?_⟩
    have hv1:=Kd.R_lower hv1 hHeld.size
    have hlit:=(hb.block _ (blk_lt hlit)).trans hlit
    have hrow:=(hb.block _ (blk_lt hrow)).trans hrow
    have hHeld:=hHeld.trans (hb.mono hHeld.size)
    refine kn_ (a':=?_) hK hHeld ?_ fun hHeld=>?_
    rotate_left;(focus show Act.put _ (some 32) _=_;simp only[Act.put,zq1,zq2,zq3,i64_w,i32_w];rfl);clear hK K
    obtain⟨A1,c1,hA1⟩:=Kd.R_slice hv1
    subst hA1
    clear hb
    refine on_ 4 383 (some 35) HT_ rfl rfl (by kernel_rfl) (by decide) (fun K hK=>?_)
    refine Kd.R_append_rows_step (Kd.int .i64) (w0:=b17) (W:=b17) w5.heap.size rfl (.tmp 32) (.tmp 34) 76 3 (.int .i64 0) 8 rfl Tryz.underlying76 Nm.infoI rfl (by decide) (by decide) (.slice A1 S.man.segs.length c1) S.man.segs [n] (some ⟨b0.heap.size,0,none⟩) 1 1 (fun _=>True) (fun _=>False) rfl rfl hv1 (one_int hlit) (fun x cs hk=>hk) (fun _ h=>h.elim) (fun _ _=>trivial) (RowKit.Below.refl _ _) hHeld.size HLA.out ?_
    intro v4 b18 hv4 hb4 hg4 hat4
    have hHg:=hHeld.grown hg4 hHeld.size (Kd.R_base hv1)
    have hrow:=blk_grown hrow hg4 (Kd.R_ne hv1 hrow (by decide))
    have hHeld:=hHg
    refine kn_ (a':=?_) hK hHeld ?_ fun hHeld=>?_
    rotate_left;(focus show Act.put _ (some 35) _=_;simp only[Act.put,zq1,zq2,zq3,i64_w,i32_w];rfl);clear hK K
    obtain⟨A6,c6,hA6⟩:=Kd.R_slice hv4
    rw[HL6.out] at hA6
    subst hA6
    refine fl_ [7,38,511] ?_
    refine pz_ HT_ ?_
    refine fe_ ?_
    exact norm_ (by simp only[putAll,Act.put,zq1,zq2,zq3]) (hCont (b10.heap.size,b0.heap.size,(A1,c1),(A6,c6)) _ ⟨hrow,hv4,hHeld,hle8⟩)
  ·refine Mn.alloc_step rfl (by go_simp;exact⟨rfl,rfl⟩) ?_
   have hb:=below_alloc (RowKit.Below.refl b0.heap.size b0) (.cells #[.slice none 0 0,.int .i64 0] 78)
   have hrow:=heap_alloc_new b0 (.cells #[.slice none 0 0,.int .i64 0] 78)
   have hle8:w5.heap.size≤b0.heap.size:=hHeld.size
   have hHeld:=below_alloc hHeld (.cells #[.slice none 0 0,.int .i64 0] 78)
   refine kn_ (a':=?_) hK hHeld ?_ fun hHeld=>?_
   rotate_left;(focus show Act.put _ (some 5) _=_;simp only[Act.put,zq1,zq2,zq3,i64_w,i32_w];rfl);clear hK K
   generalize b0.alloc (.cells #[.slice none 0 0,.int .i64 0] 78)=b19 at hHeld hb hrow ⊢
   clear hb
   refine tw_ 1 3 359 365 (some 32) (some 34) HT_ rfl rfl rfl rfl (by kernel_rfl) (by decide) (by decide) (fun K hK=>?_) (fun K hK=>?_)
   ·refine goes_ Tryz.func59 (by kernel_rfl) rfl #[.pointer (some ⟨l,0,none⟩)] (by rfl) rfl rfl (by(try simp only[List.map_toArray,List.map_cons,List.map_nil]);first | done | rfl) ?_
    refine(segs_calls (HO5.out.below hHeld) HL.out).mono ?_
    rintro e b20 ⟨v1,rfl,hv1,hb⟩
    refine⟨_,rfl,?_⟩
    have hv1:=Kd.R_lower hv1 hHeld.size
    have hrow:=(hb.block _ (blk_lt hrow)).trans hrow
    have hHeld:=hHeld.trans (hb.mono hHeld.size)
    refine kn_ (a':=?_) hK hHeld ?_ fun hHeld=>?_
    rotate_left;(focus show Act.put _ (some 32) _=_;simp only[Act.put,zq1,zq2,zq3,i64_w,i32_w];rfl);clear hK K
    obtain⟨A1,c1,hA1⟩:=Kd.R_slice hv1
    subst hA1
    clear hb
    refine on_ 3 367 (some 34) HT_ rfl rfl (by kernel_rfl) (by decide) (fun K hK=>?_)
    refine Mn.alloc_step rfl (by go_simp;exact⟨rfl,rfl⟩) ?_
    have hb:=below_alloc (RowKit.Below.refl b20.heap.size b20) (.cells #[.int .i64 n] 3)
    have hv1:=Kd.R_below hv1 hb
    have hrow:=(hb.block _ (blk_lt hrow)).trans hrow
    have hlit:=heap_alloc_new b20 (.cells #[.int .i64 n] 3)
    have hle3:w5.heap.size≤b20.heap.size:=hHeld.size
    have hHeld:=below_alloc hHeld (.cells #[.int .i64 n] 3)
    refine kn_ (a':=?_) hK hHeld ?_ fun hHeld=>?_
    rotate_left;(focus show Act.put _ (some 34) _=_;simp only[Act.put,zq1,zq2,zq3,i64_w,i32_w];rfl);clear hK K
    generalize b20.alloc (.cells #[.int .i64 n] 3)=b21 at hHeld hb hlit hv1 hrow ⊢
    clear hb
    refine on_ 4 383 (some 35) HT_ rfl rfl (by kernel_rfl) (by decide) (fun K hK=>?_)
    refine Kd.R_append_rows_step (Kd.int .i64) (w0:=b21) (W:=b21) w5.heap.size rfl (.tmp 32) (.tmp 34) 76 3 (.int .i64 0) 8 rfl Tryz.underlying76 Nm.infoI rfl (by decide) (by decide) (.slice A1 S.man.segs.length c1) S.man.segs [n] (some ⟨b20.heap.size,0,none⟩) 1 1 (fun _=>True) (fun _=>False) rfl rfl hv1 (one_int hlit) (fun x cs hk=>hk) (fun _ h=>h.elim) (fun _ _=>trivial) (RowKit.Below.refl _ _) hHeld.size HLA.out ?_
    intro v4 b22 hv4 hb4 hg4 hat4
    have hHg:=hHeld.grown hg4 hHeld.size (Kd.R_base hv1)
    have hrow:=blk_grown hrow hg4 (Kd.R_ne hv1 hrow (by decide))
    have hHeld:=hHg
    refine kn_ (a':=?_) hK hHeld ?_ fun hHeld=>?_
    rotate_left;(focus show Act.put _ (some 35) _=_;simp only[Act.put,zq1,zq2,zq3,i64_w,i32_w];rfl);clear hK K
    obtain⟨A6,c6,hA6⟩:=Kd.R_slice hv4
    rw[HL6.out] at hA6
    subst hA6
    refine fl_ [7,38,511] ?_
    refine pz_ HT_ ?_
    refine fe_ ?_
    exact norm_ (by simp only[putAll,Act.put,zq1,zq2,zq3]) (hCont (b0.heap.size,b20.heap.size,(A1,c1),(A6,c6)) _ ⟨hrow,hv4,hHeld,hle8⟩)
   ·refine Mn.alloc_step rfl (by go_simp;exact⟨rfl,rfl⟩) ?_
    have hb:=below_alloc (RowKit.Below.refl b19.heap.size b19) (.cells #[.int .i64 n] 3)
    have hrow:=(hb.block _ (blk_lt hrow)).trans hrow
    have hlit:=heap_alloc_new b19 (.cells #[.int .i64 n] 3)
    have hle3:w5.heap.size≤b19.heap.size:=hHeld.size
    have hHeld:=below_alloc hHeld (.cells #[.int .i64 n] 3)
    refine kn_ (a':=?_) hK hHeld ?_ fun hHeld=>?_
    rotate_left;(focus show Act.put _ (some 34) _=_;simp only[Act.put,zq1,zq2,zq3,i64_w,i32_w];rfl);clear hK K
    generalize b19.alloc (.cells #[.int .i64 n] 3)=b23 at hHeld hb hlit hrow ⊢
    clear hb
    refine on_ 1 367 (some 32) HT_ rfl rfl (by kernel_rfl) (by decide) (fun K hK=>?_)
    refine goes_ Tryz.func59 (by kernel_rfl) rfl #[.pointer (some ⟨l,0,none⟩)] (by rfl) rfl rfl (by(try simp only[List.map_toArray,List.map_cons,List.map_nil]);first | done | rfl) ?_
    refine(segs_calls (HO5.out.below hHeld) HL.out).mono ?_
    rintro e b24 ⟨v1,rfl,hv1,hb⟩
    refine⟨_,rfl,?_⟩
    have hv1:=Kd.R_lower hv1 hHeld.size
    have hlit:=(hb.block _ (blk_lt hlit)).trans hlit
    have hrow:=(hb.block _ (blk_lt hrow)).trans hrow
    have hHeld:=hHeld.trans (hb.mono hHeld.size)
    refine kn_ (a':=?_) hK hHeld ?_ fun hHeld=>?_
    rotate_left;(focus show Act.put _ (some 32) _=_;simp only[Act.put,zq1,zq2,zq3,i64_w,i32_w];rfl);clear hK K
    obtain⟨A1,c1,hA1⟩:=Kd.R_slice hv1
    subst hA1
    clear hb
    refine on_ 4 383 (some 35) HT_ rfl rfl (by kernel_rfl) (by decide) (fun K hK=>?_)
    refine Kd.R_append_rows_step (Kd.int .i64) (w0:=b24) (W:=b24) w5.heap.size rfl (.tmp 32) (.tmp 34) 76 3 (.int .i64 0) 8 rfl Tryz.underlying76 Nm.infoI rfl (by decide) (by decide) (.slice A1 S.man.segs.length c1) S.man.segs [n] (some ⟨b19.heap.size,0,none⟩) 1 1 (fun _=>True) (fun _=>False) rfl rfl hv1 (one_int hlit) (fun x cs hk=>hk) (fun _ h=>h.elim) (fun _ _=>trivial) (RowKit.Below.refl _ _) hHeld.size HLA.out ?_
    intro v4 b25 hv4 hb4 hg4 hat4
    have hHg:=hHeld.grown hg4 hHeld.size (Kd.R_base hv1)
    have hrow:=blk_grown hrow hg4 (Kd.R_ne hv1 hrow (by decide))
    have hHeld:=hHg
    refine kn_ (a':=?_) hK hHeld ?_ fun hHeld=>?_
    rotate_left;(focus show Act.put _ (some 35) _=_;simp only[Act.put,zq1,zq2,zq3,i64_w,i32_w];rfl);clear hK K
    obtain⟨A6,c6,hA6⟩:=Kd.R_slice hv4
    rw[HL6.out] at hA6
    subst hA6
    refine fl_ [7,38,511] ?_
    refine pz_ HT_ ?_
    refine fe_ ?_
    exact norm_ (by simp only[putAll,Act.put,zq1,zq2,zq3]) (hCont (b0.heap.size,b19.heap.size,(A1,c1),(A6,c6)) _ ⟨hrow,hv4,hHeld,hle8⟩)
 case mono=>
  rintro a' w6 ⟨mb,sb,A1,c1,A6,c6,rfl,hrow,hR,hb6,hle6⟩
  have hx6:=(hb6.block _ (blk_lt HX5.out)).trans HX5.out
  have hn6:=(hb6.block _ (blk_lt HN5.out)).trans HN5.out
  have HD6:=ak (HD5.out.below hb6)
  have HO6:=ak (HO5.out.below hb6)
  have HX6:=ak hx6
  have HN6:=ak hn6
  have HROW6:=ak hrow
  have HR6:=ak hR
  have HB56:=ak hb6
  have hF1:∀k,F1 k→k < w2.heap.size:=HD1.out.lt
  have h24:=HB24.out.size
  have h45:=HK5.out.size
  have h12:=HG1.out.2.2.size
  have h01:w.heap.size≤w1.heap.size:=HB.out.size
  have hlo:=HO.out.lt
  have hF0:¬F1 w.heap.size:=fun hf=>by
   rcases HG1.out.2.1 _ hf with h | h
   ·have:=HD.out.lt _ h;omega
   ·have:=blk_lt HB1.out;omega
  have hFn:¬F1 nb:=fun hf=>by have h1:=hF1 _ hf;have h2:=HNB.out;omega
  have hFm:¬F1 mb:=fun hf=>by have h1:=hF1 _ hf;omega
  have HFF:=ak (And.intro hF0 (And.intro hFn hFm))
  have hcm:(rollMan S n).segs.length≤c6∧Kd.C (Kd.int .i64) w6 A6 (rollMan S n).segs.length (rollMan S n).segs:=by
   have h:=hR
   rw[← HL6.out] at h
   exact(Kd.R_reads' h).2
  have HT:Calls Tryz.prog 60 #[.slice (some ⟨w6.heap.size,0,none⟩) 2 2] (w6.alloc (.cells #[.func (.func 61) #[] #[.pointer (some ⟨w.heap.size,0,none⟩),.pointer (some ⟨nb,0,none⟩)],.func (.func 63) #[] #[.pointer (some ⟨w.heap.size,0,none⟩),.pointer (some ⟨mb,0,none⟩)]] 92)) fun e w'=>e=.returned (.int .i64 (turnsM (rollSteps n (rollMan S n)) M1).2)∧Turned w6 w' B g (N+16) F1 (turnsM (rollSteps n (rollMan S n)) M1).1:=by
   have hcs:=heap_alloc_new w6 (.cells #[.func (.func 61) #[] #[.pointer (some ⟨w.heap.size,0,none⟩),.pointer (some ⟨nb,0,none⟩)],.func (.func 63) #[] #[.pointer (some ⟨w.heap.size,0,none⟩),.pointer (some ⟨mb,0,none⟩)]] 92)
   have hB7:=below_alloc (RowKit.Below.refl w6.heap.size w6) (.cells #[.func (.func 61) #[] #[.pointer (some ⟨w.heap.size,0,none⟩),.pointer (some ⟨nb,0,none⟩)],.func (.func 63) #[] #[.pointer (some ⟨w.heap.size,0,none⟩),.pointer (some ⟨mb,0,none⟩)]] 92)
   have hx7:=(hB7.block _ (blk_lt hx6)).trans hx6
   have hn7:=(hB7.block _ (blk_lt hn6)).trans hn6
   have hrow:=(hB7.block _ (blk_lt hrow)).trans hrow
   have hR:=Kd.R_below hR hB7
   generalize w6.alloc (.cells #[.func (.func 61) #[] #[.pointer (some ⟨w.heap.size,0,none⟩),.pointer (some ⟨nb,0,none⟩)],.func (.func 63) #[] #[.pointer (some ⟨w.heap.size,0,none⟩),.pointer (some ⟨mb,0,none⟩)]] 92)=w7 at hcs hB7 hx7 hn7 hrow hR ⊢
   have hNN:=HN.out
   have hb67:=hb6.size
   have nF:¬F1 w6.heap.size:=fun hf=>by have:=hF1 _ hf;omega
   have key:=turns_disk8 log_turns (rollSteps n (rollMan S n)) (by simp [rollSteps]) w6.heap.size #[.func (.func 61) #[] #[.pointer (some ⟨w.heap.size,0,none⟩),.pointer (some ⟨nb,0,none⟩)],.func (.func 63) #[] #[.pointer (some ⟨w.heap.size,0,none⟩),.pointer (some ⟨mb,0,none⟩)]] hcs nF (HD6.out.below hB7) HF1.out (rollSteps_fit n (rollMan S n)) ?_
   ·refine key.mono ?_
    rintro e w' ⟨rfl,ht⟩
    exact⟨rfl,Turned.after (Keeps.of_below hB7) ht⟩
   ·intro j hj
    have hj2:j < 2:=hj
    have hc1:∀W,Keeps F1 w7 W→W.cell? ⟨w.heap.size,0,none⟩=some (ptr l):=fun W hk=>hk.cell ((blk_cell hx7 0).trans rfl) hF0
    have hc2:∀W,Keeps F1 w7 W→W.cell? ⟨nb,0,none⟩=some (.int .i64 n):=fun W hk=>hk.cell ((blk_cell hn7 0).trans rfl) hFn
    have hlog:∀W F',Keeps F1 w7 W→(∀k,F' k→F1 k∨w7.heap.size≤k)→LogO W B l g F' {S with man:=⟨S.man.segs,wrap64 (n+1)⟩}:=fun W F' hk hf=>(HO6.out.below hB7).keep hk hf
    have hrw:∀W F',Keeps F1 w7 W→(∀k,F' k→F1 k∨w7.heap.size≤k)→∀W',Keeps F' W W'→Kd.C (Kd.int .i64) W' A6 (rollMan S n).segs.length (rollMan S n).segs:=fun W F' hk hf W' hk'=>by
     have h1:=row_keep (row_keep hR hk (fun j hj hf'=>by have h2:=Kd.R_base hR j hj;have h3:=hF1 j hf';omega)) hk' (fun j hj hf'=>by
      have h1:=Kd.R_base hR j hj
      have h2:=Kd.R_lt hR j hj
      rcases hf j hf' with h | h
      ·have:=hF1 j h;omega
      ·omega)
     rw[← HL6.out] at h1
     exact(Kd.R_reads' h1).2.2
    match j,hj2 with
    | 0,_=>exact⟨_,_,_,rfl,run_roll1,fun W M' F' hd' hM' hk hs=>by
      rw[Array.empty_append]
      refine(rmake_calls w.heap.size nb n hd' hM' (by omega) (hlog W F' hk hs) (hc1 W hk) (hc2 W hk)).mono ?_
      rintro e w' ⟨rfl,h⟩
      exact⟨rfl,h.mono (by omega)⟩⟩
    | 1,_=>exact⟨_,_,_,rfl,run_roll2,fun W M' F' hd' hM' hk hs=>by
      rw[Array.empty_append]
      refine(rsave_calls w.heap.size mb (rollMan S n) A6 c6 hd' hM' (by omega) (hlog W F' hk hs) (hc1 W hk) (by
       have h:=hk.obj hrow hFm
       rw[← HL6.out] at h
       exact h) (by have:=HL.out;simp only[rollMan,List.length_append,List.length_singleton];omega) hcm.1 (hrw W F' hk hs)).mono ?_
      rintro e w' ⟨rfl,h⟩
      exact⟨rfl,h.mono (by omega)⟩⟩
  have hdef:=HDEF3.out
  have HF2:=ak (turnsM_fit (rollSteps n (rollMan S n)) (rollSteps_fit n (rollMan S n)) M1 HF1.out)
  generalize turnsM (rollSteps n (rollMan S n)) M1=p2 at hdef HT HF2
  obtain⟨M2,e2⟩:=p2
  have HT:=ak HT
  have HDEF4:=ak hdef
  clear hdef HDEF3 hx6 hn6 hrow hR hb6 hcm hF0 hFn hFm z0 z1
  go_upto_region 10 with(go_at_call 60;(with_reducible refine HT.out.mono ?_);rintro e w7 ⟨rfl,h7⟩;have H7:=ak h7;clear h7)
  obtain⟨F2,hd2,hs1,hs2,hk2,ho2⟩:=HO6.out.turned H7.out
  have hk27:Keeps (fun k=>F1 k∨k=l) w2 w7:=(((Keeps.of_below HB24.out).trans (HK5.out.mono (fun k hk=>.inr hk))).trans (Keeps.of_below HB56.out)).trans (hk2.mono (fun k hk=>.inl hk))
  have hs27:∀k,F2 k→F1 k∨w2.heap.size≤k:=fun k hk=>(hs2 k hk).imp id (fun h=>by have:=HB56.out.size;omega)
  have HK27:=ak hk27
  have HS27:=ak (And.intro hs1 hs27)
  have HD7:=ak hd2
  have HO7:=ak ho2
  by_cases he2:e2=0
  case neg=>
   have d6:(e2 !=0)=true:=bne_iff_ne.mpr he2
   have HE:=ak he2
   clear he2 hd2 hs1 hs2 hk2 ho2 hk27 hs27
   go_wp2
   go_ret
   rw[HDEF4.out,show rollEnd M1 S n (M2,e2)=(M2,{S with man:=⟨S.man.segs,wrap64 (n+1)⟩},e2) by unfold rollEnd;rw[if_neg HE.out]]
   exact⟨rfl,HRET.out _ _ _ (LTurned.mono ⟨F2,HD7.out,HS27.out.1,HS27.out.2,HO7.out,HK27.out⟩ (by omega))⟩
  subst he2
  have hdef:rollM M S=((if 0≤S.last then hintM M2 S.last else M2),{S with man:=rollMan S n,last:=n},0):=by rw[HDEF4.out];unfold rollEnd;rw[if_pos (by trivial)]
  have HDEF5:=ak hdef
  have hx7:=hk2.obj HX6.out HFF.out.1
  have hn7:=hk2.obj HN6.out HFF.out.2.1
  have hm7:=hk2.obj HROW6.out HFF.out.2.2
  have hf2x:¬F2 w.heap.size:=fun hf=>by
   rcases hs2 _ hf with h | h
   ·exact HFF.out.1 h
   ·have:=blk_lt HX6.out;omega
  have hf2n:¬F2 nb:=fun hf=>by
   rcases hs2 _ hf with h | h
   ·exact HFF.out.2.1 h
   ·have:=blk_lt HN6.out;omega
  have HF2N:=ak (And.intro hf2x hf2n)
  clear hf2x hf2n
  have hb5l:B≤w5.heap.size:=by have:=HO.out.above;omega
  have hr7:=row_keep HR6.out hk2 (fun j hj hf=>by have h1:=Kd.R_base HR6.out j hj;have h2:=hF1 j hf;omega)
  have hrn:∀k,(Value.slice A6 L6 c6).ownBlock=some k→¬F2 k:=fun k hk hf=>by
   have h1:=Kd.R_base HR6.out k hk
   have h2:=Kd.R_lt HR6.out k hk
   rcases hs2 k hf with h | h
   ·have:=hF1 k h;omega
   ·omega
  have hO8:LogO ((w7.setCell ⟨l,2,none⟩ (.slice A6 L6 c6)).setCell ⟨l,3,none⟩ (.int .i64 (wrap64 (n+1)))) B l g F2 {S with man:=rollMan S n}:=by
   have hr8:=Kd.R_lower hr7 hb5l
   rw[← HL6.out] at hr8 hrn ⊢
   exact ho2.setMan (rollMan S n) A6 c6 hr8 hrn
  have hD8:=DiskAt.setL (DiskAt.setL hd2 ho2.self 2 (.slice A6 L6 c6)) ho2.self 3 (.int .i64 (wrap64 (n+1)))
  have hk8:Keeps (fun k=>k=l) w7 ((w7.setCell ⟨l,2,none⟩ (.slice A6 L6 c6)).setCell ⟨l,3,none⟩ (.int .i64 (wrap64 (n+1)))):=(keeps_l w7 l 2 _).trans (keeps_l _ l 3 _)
  obtain⟨⟨A2,c2,b1,-,-⟩,-,-⟩:=ho2
  have z0:=bq hx7 0 (ptr l)
  have z1:=bq hm7 0 (.slice A6 L6 c6)
  have z2:=bq hm7 1 (.int .i64 (wrap64 (n+1)))
  have y2:=bq b1 2 (.slice A2 S.man.segs.length c2)
  have y3:=bq b1 3 (.int .i64 (wrap64 (n+1)))
  have f2:=blk_frozen b1 2
  have f3:=blk_frozen b1 3
  have hne:w.heap.size≠l:=fun e=>by omega
  have hnn:nb≠l:=fun e=>by have h1:=HO1.out.lt;have h2:=HNB.out;omega
  have HX7:=ak hx7
  have HN7:=ak hn7
  clear hd2 hs1 hs2 hk2 hk27 hs27 hm7 hr7 hrn hb5l b1 hdef HDEF4 hx7 hn7
  go_upto_region 13 with(fail)
  generalize (w7.setCell ⟨l,2,none⟩ (.slice A6 L6 c6)).setCell ⟨l,3,none⟩ (.int .i64 (wrap64 (n+1)))=w8 at hO8 hD8 hk8 ⊢
  have hx8:=(hk8.block _ (blk_lt HX7.out) hne).trans HX7.out
  have hn8:=(hk8.block _ (blk_lt HN7.out) hnn).trans HN7.out
  have HX8:=ak hx8
  have HN8:=ak hn8
  have HK28:=ak (HK27.out.trans (hk8.mono (fun k hk=>.inr hk)))
  have HD8:=ak hD8
  have HO8:=ak hO8
  have HNE:=ak (And.intro hne hnn)
  have HF3:=ak HF2.out
  obtain⟨⟨A8,c8,b1,-,-⟩,-,-⟩:=hO8
  have u0:=bq hx8 0 (ptr l)
  have u1:=bq hn8 0 (.int .i64 n)
  have u4:=bq b1 4 (.int .i64 S.last)
  have f4:=blk_frozen b1 4
  clear z0 z1 z2 y2 y3 f2 f3 hne hnn hx8 hn8 hk8 hD8 b1 HF2
  by_cases hla:S.last≥0
  case neg=>
   have d6:decide (S.last≥0)=false:=decide_eq_false hla
   have d7:decide (0≤S.last)=false:=decide_eq_false hla
   have HLA2:=ak hla
   clear hla
   go_wp2
   go_ret
   rw[HDEF5.out,if_neg (by have:=HLA2.out;omega)]
   exact⟨rfl,HRET.out _ _ _ (LTurned.mono ⟨F2,DiskAt.setL HD8.out HO8.out.self 4 _,HS27.out.1,HS27.out.2,HO8.out.setLast n,HK28.out.trans ((keeps_l w8 l 4 _).mono (fun k hk=>.inr hk))⟩ (by omega))⟩
  case pos=>
   have d6:decide (S.last≥0)=true:=decide_eq_true hla
   have d7:decide (0≤S.last)=true:=decide_eq_true hla
   have HLA2:=ak hla
   have HHI:=ak (fun W (hW:RowKit.Below w8.heap.size w8 W)=>hint_calls (HD8.out.below hW) HF3.out (HO8.out.below hW) S.last (by have:=HN.out;omega))
   clear hla
   go_upto_region 14 with(fail)
   go_region_with (go_at_call 65;(with_reducible refine(HHI.out _ ((RowKit.Below.refl w8.heap.size w8).drew)).mono ?_);rintro e w9 ⟨rfl,h9⟩;have H9:=ak (Turned.after (Keeps.of_below ((RowKit.Below.refl w8.heap.size w8).drew)) h9);clear h9)
   all_goals
    try go_upto_region 15 with(fail)
    obtain⟨F3,hd3,hs31,hs32,hk3,ho3⟩:=HO8.out.turned H9.out
    have hF82:∀k,F2 k→F1 k∨w2.heap.size≤k:=HS27.out.2
    have hl28:w2.heap.size≤w8.heap.size:=HK28.out.size
    have hnF:∀k,k < w8.heap.size→¬F2 k→w9.heap[k]? =w8.heap[k]? :=fun k h1 h2=>hk3.block k h1 h2
    have hx9:=hk3.obj HX8.out HF2N.out.1
    have hn9:=hk3.obj HN8.out HF2N.out.2
    have hk29:Keeps (fun k=>F1 k∨k=l) w2 w9:=⟨hk3.os.trans HK28.out.os,hk3.tape.trans HK28.out.tape,hk3.output.trans HK28.out.output,Nat.le_trans hl28 hk3.size,fun k hk hf=>(hnF k (Nat.lt_of_lt_of_le hk hl28) (fun h=>by
     rcases hF82 k h with h | h
     ·exact hf (.inl h)
     ·omega)).trans (HK28.out.block k hk hf)⟩
    have hs39:∀k,F3 k→F1 k∨w2.heap.size≤k:=fun k hk=>by
     rcases hs32 k hk with h | h
     ·exact hF82 k h
     ·exact .inr (Nat.le_trans hl28 h)
    have HK29:=ak hk29
    have HS39:=ak (And.intro (fun k hk=>hs31 k (HS27.out.1 k hk)) hs39)
    have HD9:=ak hd3
    have HO9:=ak ho3
    obtain⟨⟨A9,c9,b9,-,-⟩,-,-⟩:=ho3
    have v0:=bq hx9 0 (ptr l)
    have v1:=bq hn9 0 (.int .i64 n)
    have v4:=bq b9 4 (.int .i64 S.last)
    have f9:=blk_frozen b9 4
    clear hd3 hs31 hs32 hk3 hF82 hl28 hnF hx9 hn9 hk29 hs39 b9
    go_wp2
    go_ret
    rw[HDEF5.out,if_pos HLA2.out]
    exact⟨rfl,HRET.out _ _ _ (LTurned.mono ⟨F3,DiskAt.setL HD9.out HO9.out.self 4 _,HS39.out.1,HS39.out.2,HO9.out.setLast n,HK29.out.trans ((keeps_l w9 l 4 _).mono (fun k hk=>.inr hk))⟩ (by omega))⟩
end Lg
end
section
namespace Lg
open Go.Maps Fr Ext Go.Proofs.YtcieieacfoaklaaGreat.Nm Dk Mn
open Sg (segN segN_le segN_ascii putL_le)
open Rc (Norm Norm.intro Norm.elim Re Lo recC)
variable {w w' w1:World} {B l g N:Nat} {M M':DiskM} {F F' G:Nat→Prop} {S S':LogS}
def addEnd (M:DiskM) (S:LogS) (R:Re):DiskM×LogS×Int×Int×Int×Int:=
 if(Sg.addM M S.last R).2.2.2=0 then((Sg.addM M S.last R).1,S,S.last,(Sg.addM M S.last R).2.1,(Sg.addM M S.last R).2.2.1,0)
 else((Sg.addM M S.last R).1,S,0,0,0,(Sg.addM M S.last R).2.2.2)
def wantsRoll (M:DiskM) (S:LogS) (n:Int):Bool:=
 decide (S.last < 0) || (decide (sizeM M (segN S.last) > 13) && decide (wrap64 (sizeM M (segN S.last)+n) > S.limit))
def addRoll (R:Re) (p:DiskM×LogS×Int):DiskM×LogS×Int×Int×Int×Int:=
 if p.2.2=0 then addEnd p.1 p.2.1 R else(p.1,p.2.1,0,0,0,p.2.2)
def laddM (M:DiskM) (S:LogS) (R:Re):DiskM×LogS×Int×Int×Int×Int:=
 if sizeI (Rc.putM R).length=0 then(M,S,0,0,0,1)
 else if wantsRoll M S (sizeI (Rc.putM R).length)=true then addRoll R (rollM M S) else addEnd M S R
theorem addEnd_fit (hM:Fit M) (S:LogS) (R:Re) (hb:IsBytes (Rc.putM R)):Fit (addEnd M S R).1:=by
 have h:Fit (Sg.addM M S.last R).1:=by
  unfold Sg.addM
  split
  ·exact hM
  split
  ·exact hM.append _ _ (put_bytes _ hb)
  ·exact hM.append _ _ (put_bytes _ hb)
 unfold addEnd
 split <;> exact h
theorem laddM_fit (hM:Fit M) (S:LogS) (R:Re) (hb:IsBytes (Rc.putM R)):Fit (laddM M S R).1:=by
 unfold laddM
 split
 ·exact hM
 split
 ·unfold addRoll
  split
  ·exact addEnd_fit (rollM_fit hM S) _ _ hb
  ·exact rollM_fit hM S
 ·exact addEnd_fit hM _ _ hb
end Lg
end
section
namespace Lg
open Go.Maps Fr Ext Go.Proofs.YtcieieacfoaklaaGreat.Nm Dk Mn
open Sg (segN segN_le segN_ascii putL_le)
open Rc (Norm Norm.intro Norm.elim Re Lo recC)
variable {w w' w1:World} {B l g N:Nat} {M M':DiskM} {F F' G:Nat→Prop} {S S':LogS}
theorem results_tmp4 {fn:Func} {t u v x:Tmp} (h:fn.results=#[.tmp t,.tmp u,.tmp v,.tmp x]) (tmps:Array Value) (P:Program) (w:World):
  (results fn tmps).run P w=.ok (.tuple #[tmps.getD t undef,tmps.getD u undef,tmps.getD v undef,tmps.getD x undef]) w:=by
 simp [results,h]
theorem ladd_calls (hd:DiskAt w B g N M F) (hM:Fit M) (h:LogO w B l g F S) (hsl:S.man.segs.length≤1000000) (hN:N+32≤1000000000000) (R:Re) (A5 A6:Option Addr) (c5 c6:Nat) (h0:(Lit.int .i64 R.f0).wf=true)
  (hl:∀W,Keeps (fun k=>F k∨k=l) w W→Kd.C Pt.k57 W A5 R.f5.length R.f5) (hn:R.f5.length≤1000000000) (h6:∀W,Keeps (fun k=>F k∨k=l) w W→Kd.C (Kd.int .u8) W A6 R.f6.length R.f6):
  Calls Tryz.prog 13 #[ptr l,.agg (recC R A5 c5 A6 c6)] w fun e w'=>e=.returned (.tuple #[.int .i64 (laddM M S R).2.2.1,.int .i64 (laddM M S R).2.2.2.1,.int .i64 (laddM M S R).2.2.2.2.1,.int .i64 (laddM M S R).2.2.2.2.2])∧LTurned w w' B l g (N+32) F (laddM M S R).1 (laddM M S R).2.1:=by
 have HD:=ak hd
 have HM:=ak hM
 have HO:=ak h
 have HN:=ak hN
 have HSL:=ak hsl
 have HL:=ak hl
 have H6:=ak h6
 have HW0:=ak h0
 have HNN:=ak hn
 have hbx:=heap_alloc_new w (.cells (recC R A5 c5 A6 c6) 38)
 have hB:=below_alloc (RowKit.Below.refl w.heap.size w) (.cells (recC R A5 c5 A6 c6) 38)
 have hdef:laddM M S R=if sizeI (Rc.putM R).length=0 then(M,S,0,0,0,1) else if wantsRoll M S (sizeI (Rc.putM R).length)=true then addRoll R (rollM M S) else addEnd M S R:=rfl
 have hrp:=fun W (hW:RowKit.Below w.heap.size w W)=>Rc.Put_calls R A5 A6 c5 c6 W h0 (hl W (Keeps.of_below hW)) hn (h6 W (Keeps.of_below hW))
 generalize Rc.putM R=pm at hdef hrp
 simp only[recC] at hrp
 have HRP:=ak hrp
 have HDEF:=ak hdef
 clear hd hM h hsl hN hl hn h6 h0 hdef hrp
 go_enter Tryz.func13,Tryz.ntmps13
 go_upto_region 1 with(fail)
 generalize w.alloc (.cells (recC R A5 c5 A6 c6) 38)=w2 at hbx hB ⊢
 have HBX:=ak hbx
 have HB2:=ak hB
 obtain⟨rb,hrb⟩:∃rb,w.heap.size=rb:=⟨_,rfl⟩
 rw[hrb] at hbx HBX ⊢
 have HRB:=ak hrb
 clear hrb hB
 have x0:=bq hbx 0 (.int .i64 R.f0)
 have x1:=bq hbx 1 (.string R.f1)
 have x2:=bq hbx 2 (.int .i64 R.f2)
 have x3:=bq hbx 3 (.int .i64 R.f3)
 have x4:=bq hbx 4 (.int .i64 R.f4)
 have x5:=bq hbx 5 (.slice A5 R.f5.length c5)
 have x6:=bq hbx 6 (.slice A6 R.f6.length c6)
 clear hbx
 go_upto_region 2 with(first
  | (go_at_call 32;(with_reducible refine(HRP.out _ HB2.out).mono ?_);rintro e w3 ⟨v,rfl,hr3,hb3⟩;obtain⟨A4,c4,hv⟩:=Kd.R_slice hr3;subst hv;have HB3:=ak (HB2.out.trans (hb3.mono HB2.out.size));have HB23:=ak hb3;clear hr3 hb3)
  | (go_at_call 31;(with_reducible refine(Fr.size_calls _ _).mono ?_);rintro e w4 ⟨rfl,rfl⟩))
 have hdef:=HDEF.out
 generalize sizeI (pm.length:Int)=z at hdef ⊢
 by_cases hz:z=0
 ·subst hz
  have HDEF1:=ak hdef
  clear hdef HDEF
  go_wp2
  (try simp only[Exit.inBlock,Exit.then])
  refine bodyPost_ret (results_tmp4 rfl _ _ _) rfl ?_
  rw[HDEF1.out,if_pos (by trivial)]
  exact⟨rfl,(LTurned.of_turned HO.out (Turned.of_below HD.out HB3.out)).mono (by omega)⟩
 have dz:(z==0)=false:=beq_eq_false_iff_ne.mpr hz
 rw[if_neg hz] at hdef
 have HO3:=ak (HO.out.below HB3.out)
 have HD3:=ak (HD.out.below HB3.out)
 have HSZ:=ak (fun W (hW:RowKit.Below w3.heap.size w3 W)=>Sg.Size_calls (HD3.out.below hW) S.last)
 obtain⟨⟨A,c,b1,-,-⟩,-,-⟩:=HO3.out
 have y0:=bq b1 0 (ptr g)
 have y4:=bq b1 4 (.int .i64 S.last)
 have hwr:wantsRoll M S z=(decide (S.last < 0) || (decide (sizeM M (segN S.last) > 13) && decide (wrap64 (sizeM M (segN S.last)+z) > S.limit))):=rfl
 generalize sizeM M (segN S.last)=z1 at hwr HSZ
 have HWR:=ak hwr
 have HDEF1:=ak hdef
 clear hz hdef HDEF b1 hwr x0 x1 x2 x3 x4 x5 x6
 go_upto_region 4 with(fail)
 go_region_with (go_at_call 33;(with_reducible refine(HSZ.out _ ((RowKit.Below.refl w3.heap.size w3).drew)).mono ?_);rintro e w4 ⟨rfl,hb4⟩;have HB34:=ak ((RowKit.Below.refl w3.heap.size w3).drew.trans hb4);clear hb4)
 all_goals
  try go_upto_region 5 with(fail)
  have HB4:=ak (HB3.out.trans (HB34.out.mono HB3.out.size))
  have hx4:w4.heap[rb]? =some (.cells (recC R A5 c5 A6 c6) 38 (0,0)):=((HB23.out.trans (HB34.out.mono HB23.out.size)).block _ (blk_lt HBX.out)).trans HBX.out
  have HX4:=ak hx4
  simp only[recC] at hx4
  have x0:=bq hx4 0 (.int .i64 R.f0)
  have x1:=bq hx4 1 (.string R.f1)
  have x2:=bq hx4 2 (.int .i64 R.f2)
  have x3:=bq hx4 3 (.int .i64 R.f3)
  have x4:=bq hx4 4 (.int .i64 R.f4)
  have x5:=bq hx4 5 (.slice A5 R.f5.length c5)
  have x6:=bq hx4 6 (.slice A6 R.f6.length c6)
  have HO4:=ak (HO.out.below HB4.out)
  obtain⟨⟨A1,c1,b1,-,-⟩,-,-⟩:=HO4.out
  have z0:=bq b1 0 (ptr g)
  have z1':=bq b1 1 (.int .i64 S.limit)
  have z4:=bq b1 4 (.int .i64 S.last)
  clear hx4 b1 y0 y4
  by_cases h1:S.last < 0
  case pos=>
   have d1:decide (S.last < 0)=true:=decide_eq_true h1
   have HR:=ak (show wantsRoll M S z=true by rw[HWR.out,d1];rfl)
   clear h1
   have hdef:=HDEF1.out
   rw[if_pos HR.out] at hdef
   have hro:=roll_calls (HD.out.below HB4.out) HM.out HO4.out HSL.out HN.out
   have hrf:=rollM_fit HM.out S
   generalize rollM M S=p at hdef hro hrf
   obtain⟨M5,S5,e5⟩:=p
   have HRO:=ak hro
   have HFM:=ak hrf
   have HDEF4:=ak hdef
   clear hdef HDEF1 hro hrf
   go_upto_region 7 with(go_at_call 34;(with_reducible refine HRO.out.mono ?_);rintro e w5 ⟨rfl,h5⟩;have H5:=ak h5;clear h5)
   by_cases he:e5=0
   case neg=>
    have d9:(e5 !=0)=true:=bne_iff_ne.mpr he
    have HE:=ak he
    clear he
    go_wp2
    (try simp only[Exit.inBlock,Exit.then])
    refine bodyPost_ret (results_tmp4 rfl _ _ _) rfl ?_
    rw[HDEF4.out,show addRoll R (M5,S5,e5)=(M5,S5,0,0,0,e5) by unfold addRoll;rw[if_neg HE.out]]
    exact⟨rfl,LTurned.after HB4.out H5.out⟩
   subst he
   have HDEF5:=ak (HDEF4.out.trans (show addRoll R (M5,S5,0)=addEnd M5 S5 R by unfold addRoll;rw[if_pos (by trivial)]))
   have HT:=ak (LTurned.after HB4.out H5.out)
   obtain⟨F1,hd1,hs1,hs2,ho1,hk1⟩:=H5.out
   have hrbl:rb≠l:=fun e=>by have h1:=HO.out.lt;have h2:=HRB.out;omega
   have hrbf:¬F rb:=fun hf=>by have h1:=HD.out.lt _ hf;have h2:=HRB.out;omega
   have hx5:w5.heap[rb]? =some (.cells (recC R A5 c5 A6 c6) 38 (0,0)):=hk1.obj HX4.out (fun h=>h.elim hrbf hrbl)
   simp only[recC] at hx5
   clear x0 x1 x2 x3 x4 x5 x6 hd1 hs1 hs2 ho1 hk1 hrbl hrbf z0 z1' z4
   have x0:=bq hx5 0 (.int .i64 R.f0)
   have x1:=bq hx5 1 (.string R.f1)
   have x2:=bq hx5 2 (.int .i64 R.f2)
   have x3:=bq hx5 3 (.int .i64 R.f3)
   have x4:=bq hx5 4 (.int .i64 R.f4)
   have x5:=bq hx5 5 (.slice A5 R.f5.length c5)
   have x6:=bq hx5 6 (.slice A6 R.f6.length c6)
   clear hx5
   obtain⟨F2,hd2,hs1,hs2,ho2,hk2⟩:=HT.out
   have had:=fun W (hW:RowKit.Below w5.heap.size w5 W)=>Sg.add_calls (hd2.below hW) HFM.out S5.last R A5 A6 c5 c6 HW0.out (HL.out W (hk2.trans (Keeps.of_below hW))) HNN.out (H6.out W (hk2.trans (Keeps.of_below hW)))
   simp only[recC] at had
   have hdef:=HDEF5.out
   unfold addEnd at hdef
   generalize Sg.addM M5 S5.last R=p at hdef had
   obtain⟨M6,at6,n6,e6⟩:=p
   have HAD:=ak had
   have HDEF6:=ak hdef
   have HD2:=ak hd2
   have HO2:=ak ho2
   have HG:=ak (And.intro hs1 (And.intro hs2 hk2))
   obtain⟨⟨A,c,b1,-,-⟩,-,-⟩:=ho2
   have u0:=bq b1 0 (ptr g)
   have u4:=bq b1 4 (.int .i64 S5.last)
   clear hd2 hs1 hs2 hk2 had hdef b1 HDEF5
   go_upto_region 9 with(fail)
   go_region_with (go_at_call 35;(with_reducible refine(HAD.out _ ((RowKit.Below.refl w5.heap.size w5).drew)).mono ?_);rintro e w6 ⟨rfl,h9⟩;have H9:=ak (Turned.after (Keeps.of_below ((RowKit.Below.refl w5.heap.size w5).drew)) h9);clear h9)
   all_goals
    try go_upto_region 10 with(fail)
    have HFIN:=ak (LTurned.glue HG.out.1 HG.out.2.1 HG.out.2.2 (LTurned.of_turned HO2.out H9.out))
    obtain⟨F3,hd3,hs31,hs32,hk3,ho3⟩:=HO2.out.turned H9.out
    obtain⟨⟨A9,c9,b9,-,-⟩,-,-⟩:=ho3
    have v4:=bq b9 4 (.int .i64 S5.last)
    clear hd3 hs31 hs32 hk3 b9
    by_cases he:e6=0
    ·subst he
     go_wp2
     (try simp only[Exit.inBlock,Exit.then])
     refine bodyPost_ret (results_tmp4 rfl _ _ _) rfl ?_
     rw[HDEF6.out,if_pos (by trivial)]
     exact⟨rfl,HFIN.out⟩
    ·have d9:(e6 !=0)=true:=bne_iff_ne.mpr he
     have HE:=ak he
     clear he
     go_wp2
     (try simp only[Exit.inBlock,Exit.then])
     refine bodyPost_ret (results_tmp4 rfl _ _ _) rfl ?_
     rw[HDEF6.out,if_neg HE.out]
     exact⟨rfl,HFIN.out⟩
  have d1:decide (S.last < 0)=false:=decide_eq_false h1
  by_cases h2:z1 > 13
  case neg=>
   have d2:decide (z1 > 13)=false:=decide_eq_false h2
   have d2':decide (13 < z1)=false:=d2
   have HR:=ak (show ¬(wantsRoll M S z=true) by rw[HWR.out,d1,d2];simp)
   clear h1 h2
   have HDEF5:=ak (show laddM M S R=addEnd M S R by have h:=HDEF1.out;rw[if_neg HR.out] at h;exact h)
   have HFM:=HM
   have HT:=ak ((LTurned.of_turned HO.out (Turned.of_below HD.out HB4.out)).mono (show N≤N+32 by omega))
   clear HDEF1
   obtain⟨F2,hd2,hs1,hs2,ho2,hk2⟩:=HT.out
   have had:=fun W (hW:RowKit.Below w4.heap.size w4 W)=>Sg.add_calls (hd2.below hW) HFM.out S.last R A5 A6 c5 c6 HW0.out (HL.out W (hk2.trans (Keeps.of_below hW))) HNN.out (H6.out W (hk2.trans (Keeps.of_below hW)))
   simp only[recC] at had
   have hdef:=HDEF5.out
   unfold addEnd at hdef
   generalize Sg.addM M S.last R=p at hdef had
   obtain⟨M6,at6,n6,e6⟩:=p
   have HAD:=ak had
   have HDEF6:=ak hdef
   have HD2:=ak hd2
   have HO2:=ak ho2
   have HG:=ak (And.intro hs1 (And.intro hs2 hk2))
   obtain⟨⟨A,c,b1,-,-⟩,-,-⟩:=ho2
   have u0:=bq b1 0 (ptr g)
   have u4:=bq b1 4 (.int .i64 S.last)
   clear hd2 hs1 hs2 hk2 had hdef b1 HDEF5
   go_upto_region 9 with(fail)
   go_region_with (go_at_call 35;(with_reducible refine(HAD.out _ ((RowKit.Below.refl w4.heap.size w4).drew)).mono ?_);rintro e w6 ⟨rfl,h9⟩;have H9:=ak (Turned.after (Keeps.of_below ((RowKit.Below.refl w4.heap.size w4).drew)) h9);clear h9)
   all_goals
    try go_upto_region 10 with(fail)
    have HFIN:=ak (LTurned.glue HG.out.1 HG.out.2.1 HG.out.2.2 (LTurned.of_turned HO2.out H9.out))
    obtain⟨F3,hd3,hs31,hs32,hk3,ho3⟩:=HO2.out.turned H9.out
    obtain⟨⟨A9,c9,b9,-,-⟩,-,-⟩:=ho3
    have v4:=bq b9 4 (.int .i64 S.last)
    clear hd3 hs31 hs32 hk3 b9
    by_cases he:e6=0
    ·subst he
     go_wp2
     (try simp only[Exit.inBlock,Exit.then])
     refine bodyPost_ret (results_tmp4 rfl _ _ _) rfl ?_
     rw[HDEF6.out,if_pos (by trivial)]
     exact⟨rfl,HFIN.out⟩
    ·have d9:(e6 !=0)=true:=bne_iff_ne.mpr he
     have HE:=ak he
     clear he
     go_wp2
     (try simp only[Exit.inBlock,Exit.then])
     refine bodyPost_ret (results_tmp4 rfl _ _ _) rfl ?_
     rw[HDEF6.out,if_neg HE.out]
     exact⟨rfl,HFIN.out⟩
  have d2:decide (z1 > 13)=true:=decide_eq_true h2
  have d2':decide (13 < z1)=true:=d2
  by_cases h3:wrap64 (z1+z) > S.limit
  case pos=>
   have d3:decide (wrap64 (z1+z) > S.limit)=true:=decide_eq_true h3
   have d3':decide (S.limit < wrap64 (z1+z))=true:=d3
   have HR:=ak (show wantsRoll M S z=true by rw[HWR.out,d1,d2,d3];rfl)
   clear h1 h2 h3
   have hdef:=HDEF1.out
   rw[if_pos HR.out] at hdef
   have hro:=roll_calls (HD.out.below HB4.out) HM.out HO4.out HSL.out HN.out
   have hrf:=rollM_fit HM.out S
   generalize rollM M S=p at hdef hro hrf
   obtain⟨M5,S5,e5⟩:=p
   have HRO:=ak hro
   have HFM:=ak hrf
   have HDEF4:=ak hdef
   clear hdef HDEF1 hro hrf
   go_upto_region 7 with(go_at_call 34;(with_reducible refine HRO.out.mono ?_);rintro e w5 ⟨rfl,h5⟩;have H5:=ak h5;clear h5)
   by_cases he:e5=0
   case neg=>
    have d9:(e5 !=0)=true:=bne_iff_ne.mpr he
    have HE:=ak he
    clear he
    go_wp2
    (try simp only[Exit.inBlock,Exit.then])
    refine bodyPost_ret (results_tmp4 rfl _ _ _) rfl ?_
    rw[HDEF4.out,show addRoll R (M5,S5,e5)=(M5,S5,0,0,0,e5) by unfold addRoll;rw[if_neg HE.out]]
    exact⟨rfl,LTurned.after HB4.out H5.out⟩
   subst he
   have HDEF5:=ak (HDEF4.out.trans (show addRoll R (M5,S5,0)=addEnd M5 S5 R by unfold addRoll;rw[if_pos (by trivial)]))
   have HT:=ak (LTurned.after HB4.out H5.out)
   obtain⟨F1,hd1,hs1,hs2,ho1,hk1⟩:=H5.out
   have hrbl:rb≠l:=fun e=>by have h1:=HO.out.lt;have h2:=HRB.out;omega
   have hrbf:¬F rb:=fun hf=>by have h1:=HD.out.lt _ hf;have h2:=HRB.out;omega
   have hx5:w5.heap[rb]? =some (.cells (recC R A5 c5 A6 c6) 38 (0,0)):=hk1.obj HX4.out (fun h=>h.elim hrbf hrbl)
   simp only[recC] at hx5
   clear x0 x1 x2 x3 x4 x5 x6 hd1 hs1 hs2 ho1 hk1 hrbl hrbf z0 z1' z4
   have x0:=bq hx5 0 (.int .i64 R.f0)
   have x1:=bq hx5 1 (.string R.f1)
   have x2:=bq hx5 2 (.int .i64 R.f2)
   have x3:=bq hx5 3 (.int .i64 R.f3)
   have x4:=bq hx5 4 (.int .i64 R.f4)
   have x5:=bq hx5 5 (.slice A5 R.f5.length c5)
   have x6:=bq hx5 6 (.slice A6 R.f6.length c6)
   clear hx5
   obtain⟨F2,hd2,hs1,hs2,ho2,hk2⟩:=HT.out
   have had:=fun W (hW:RowKit.Below w5.heap.size w5 W)=>Sg.add_calls (hd2.below hW) HFM.out S5.last R A5 A6 c5 c6 HW0.out (HL.out W (hk2.trans (Keeps.of_below hW))) HNN.out (H6.out W (hk2.trans (Keeps.of_below hW)))
   simp only[recC] at had
   have hdef:=HDEF5.out
   unfold addEnd at hdef
   generalize Sg.addM M5 S5.last R=p at hdef had
   obtain⟨M6,at6,n6,e6⟩:=p
   have HAD:=ak had
   have HDEF6:=ak hdef
   have HD2:=ak hd2
   have HO2:=ak ho2
   have HG:=ak (And.intro hs1 (And.intro hs2 hk2))
   obtain⟨⟨A,c,b1,-,-⟩,-,-⟩:=ho2
   have u0:=bq b1 0 (ptr g)
   have u4:=bq b1 4 (.int .i64 S5.last)
   clear hd2 hs1 hs2 hk2 had hdef b1 HDEF5
   go_upto_region 9 with(fail)
   go_region_with (go_at_call 35;(with_reducible refine(HAD.out _ ((RowKit.Below.refl w5.heap.size w5).drew)).mono ?_);rintro e w6 ⟨rfl,h9⟩;have H9:=ak (Turned.after (Keeps.of_below ((RowKit.Below.refl w5.heap.size w5).drew)) h9);clear h9)
   all_goals
    try go_upto_region 10 with(fail)
    have HFIN:=ak (LTurned.glue HG.out.1 HG.out.2.1 HG.out.2.2 (LTurned.of_turned HO2.out H9.out))
    obtain⟨F3,hd3,hs31,hs32,hk3,ho3⟩:=HO2.out.turned H9.out
    obtain⟨⟨A9,c9,b9,-,-⟩,-,-⟩:=ho3
    have v4:=bq b9 4 (.int .i64 S5.last)
    clear hd3 hs31 hs32 hk3 b9
    by_cases he:e6=0
    ·subst he
     go_wp2
     (try simp only[Exit.inBlock,Exit.then])
     refine bodyPost_ret (results_tmp4 rfl _ _ _) rfl ?_
     rw[HDEF6.out,if_pos (by trivial)]
     exact⟨rfl,HFIN.out⟩
    ·have d9:(e6 !=0)=true:=bne_iff_ne.mpr he
     have HE:=ak he
     clear he
     go_wp2
     (try simp only[Exit.inBlock,Exit.then])
     refine bodyPost_ret (results_tmp4 rfl _ _ _) rfl ?_
     rw[HDEF6.out,if_neg HE.out]
     exact⟨rfl,HFIN.out⟩
  have d3:decide (wrap64 (z1+z) > S.limit)=false:=decide_eq_false h3
  have d3':decide (S.limit < wrap64 (z1+z))=false:=d3
  have HR:=ak (show ¬(wantsRoll M S z=true) by rw[HWR.out,d1,d2,d3];decide)
  clear h1 h2 h3
  have HDEF5:=ak (show laddM M S R=addEnd M S R by have h:=HDEF1.out;rw[if_neg HR.out] at h;exact h)
  have HFM:=HM
  have HT:=ak ((LTurned.of_turned HO.out (Turned.of_below HD.out HB4.out)).mono (show N≤N+32 by omega))
  clear HDEF1
  obtain⟨F2,hd2,hs1,hs2,ho2,hk2⟩:=HT.out
  have had:=fun W (hW:RowKit.Below w4.heap.size w4 W)=>Sg.add_calls (hd2.below hW) HFM.out S.last R A5 A6 c5 c6 HW0.out (HL.out W (hk2.trans (Keeps.of_below hW))) HNN.out (H6.out W (hk2.trans (Keeps.of_below hW)))
  simp only[recC] at had
  have hdef:=HDEF5.out
  unfold addEnd at hdef
  generalize Sg.addM M S.last R=p at hdef had
  obtain⟨M6,at6,n6,e6⟩:=p
  have HAD:=ak had
  have HDEF6:=ak hdef
  have HD2:=ak hd2
  have HO2:=ak ho2
  have HG:=ak (And.intro hs1 (And.intro hs2 hk2))
  obtain⟨⟨A,c,b1,-,-⟩,-,-⟩:=ho2
  have u0:=bq b1 0 (ptr g)
  have u4:=bq b1 4 (.int .i64 S.last)
  clear hd2 hs1 hs2 hk2 had hdef b1 HDEF5
  go_upto_region 9 with(fail)
  go_region_with (go_at_call 35;(with_reducible refine(HAD.out _ ((RowKit.Below.refl w4.heap.size w4).drew)).mono ?_);rintro e w6 ⟨rfl,h9⟩;have H9:=ak (Turned.after (Keeps.of_below ((RowKit.Below.refl w4.heap.size w4).drew)) h9);clear h9)
  all_goals
   try go_upto_region 10 with(fail)
   have HFIN:=ak (LTurned.glue HG.out.1 HG.out.2.1 HG.out.2.2 (LTurned.of_turned HO2.out H9.out))
   obtain⟨F3,hd3,hs31,hs32,hk3,ho3⟩:=HO2.out.turned H9.out
   obtain⟨⟨A9,c9,b9,-,-⟩,-,-⟩:=ho3
   have v4:=bq b9 4 (.int .i64 S.last)
   clear hd3 hs31 hs32 hk3 b9
   by_cases he:e6=0
   ·subst he
    go_wp2
    (try simp only[Exit.inBlock,Exit.then])
    refine bodyPost_ret (results_tmp4 rfl _ _ _) rfl ?_
    rw[HDEF6.out,if_pos (by trivial)]
    exact⟨rfl,HFIN.out⟩
   ·have d9:(e6 !=0)=true:=bne_iff_ne.mpr he
    have HE:=ak he
    clear he
    go_wp2
    (try simp only[Exit.inBlock,Exit.then])
    refine bodyPost_ret (results_tmp4 rfl _ _ _) rfl ?_
    rw[HDEF6.out,if_neg HE.out]
    exact⟨rfl,HFIN.out⟩
end Lg
end
section
namespace Pw
open Go.Shelf Go.Maps Fr Ext Go.Proofs.YtcieieacfoaklaaGreat.Nm Dk Mn Pu Ct Lg
open Rc (Re Lo withinB keyB zeroR recC Norm Norm.intro Norm.elim)
variable {w w' w1:World} {B l g wb cb c N:Nat} {M M':DiskM} {F F':Nat→Prop} {S S':LogS} {p p':Wr} {hv pv hv' pv':Value} {A A':Option Addr}
abbrev LX (F:Nat→Prop) (l:Nat) (k:Nat):Prop:=F k∨k=l
structure AtP (w:World) (B l g wb cb N:Nat) (F:Nat→Prop) (M:DiskM) (S:LogS) (p:Wr) (hv pv:Value) (A:Option Addr) (c:Nat):Prop where
 disk:DiskAt w B g N M F
 log:LogO w B l g F S
 wr:WrO w B wb cb l (LX F l) p hv pv A c
theorem AtP.mono {N':Nat} (h:AtP w B l g wb cb N F M S p hv pv A c) (hN:N≤N'):AtP w B l g wb cb N' F M S p hv pv A c:=⟨h.disk.mono hN,h.log,h.wr⟩
theorem AtP.xlt (h:AtP w B l g wb cb N F M S p hv pv A c):∀k,LX F l k→k < w.heap.size:=fun k hk=>hk.elim (h.disk.lt k) (fun e=>e ▸ h.log.lt)
theorem AtP.below (h:AtP w B l g wb cb N F M S p hv pv A c) (hb:RowKit.Below w.heap.size w w'):AtP w' B l g wb cb N F M S p hv pv A c:=⟨h.disk.below hb,h.log.below hb,h.wr.below hb⟩
theorem AtP.ne (h:AtP w B l g wb cb N F M S p hv pv A c):wb≠l:=fun e=>h.wr.self (.inr e)
theorem AtP.turned {N':Nat} (h:AtP w B l g wb cb N F M S p hv pv A c) (ht:LTurned w w' B l g N' F M' S'):∃F',AtP w' B l g wb cb N' F' M' S' p hv pv A c∧(∀k,F k→F' k)∧(∀k,F' k→F k∨w.heap.size≤k)∧Keeps (LX F l) w w':=by
 obtain⟨F',h1,h2,h3,h4,h5⟩:=ht
 exact⟨F',⟨h1,h4,h.wr.keep h5 (fun k hk=>by
  rcases hk with hk | hk
  ·exact(h3 k hk).imp .inl id
  ·exact .inl (.inr hk))⟩,h2,h3,h5⟩
theorem LogO.far {k t:Nat} {cells:Array Value} (h:LogO w B l g F S) (hb:w.heap[k]? =some (.cells cells t (0,0))) (ht:t≠3) (hk:k≠l) (i:Nat) (v:Value):LogO (w.setCell ⟨k,i,none⟩ v) B l g F S:=by
 obtain⟨⟨A,c,h1,h2,h3⟩,hs,ha⟩:=h
 exact⟨⟨A,c,blk_far h1 (fun e=>hk e.symm) v,Kd.R_mono (Kd.R_far (p:=⟨k,i,none⟩) (Kd.R_types h2 hb (fun q hq e=>by rcases List.mem_cons.1 hq with rfl | hq;exact ht e.symm;cases hq)) (fun k hk=>hk.2) _) (fun _ _=>trivial),h3⟩,hs,ha⟩
theorem AtP.store (h:AtP w B l g wb cb N F M S p hv pv A c) (i:Nat) (v:Value) (hi:(wrC cb l p hv pv).setIfInBounds i v=wrC cb l p' hv pv) (e1:p'.held=p.held) (e2:p'.pieces=p.pieces) (e3:p'.c=p.c) (e4:p'.all=p.all) (e5:p'.left=p.left):AtP (w.setCell ⟨wb,i,none⟩ v) B l g wb cb N F M S p' hv pv A c:=
 ⟨h.disk.keep (show Keeps (fun k=>k=wb) w (w.setCell ⟨wb,i,none⟩ v) from(Keeps.refl _ _).set rfl) (fun k hk e=>h.wr.self (.inl (by rw[← e];exact hk))),LogO.far h.log h.wr.blk (by decide) h.ne i v,h.wr.store i v hi e1 e2 e3 e4 e5⟩
theorem add_of {N':Nat} (h:AtP w B l g wb cb N F M S p hv pv A c) (R:Re) (A5 A6:Option Addr) (c5 c6:Nat) (x0 x1 x2 x3:Int) (hadd:∀W,RowKit.Below w.heap.size w W→Calls Tryz.prog 13 #[ptr l,.agg (recC R A5 c5 A6 c6)] W fun e w'=>e=.returned (.tuple #[.int .i64 x0,.int .i64 x1,.int .i64 x2,.int .i64 x3])∧LTurned W w' B l g N' F M' S'):
  Calls Tryz.prog 42 #[ptr wb,.agg (recC R A5 c5 A6 c6)] w fun e w'=>e=.returned (.tuple #[.int .i64 x0,.int .i64 x1,.int .i64 x2,.int .i64 x3])∧∃F',AtP w' B l g wb cb N' F' M' S' {p with spoilt:=decide (x3≠0)} hv pv A c∧(∀k,F k→F' k)∧(∀k,F' k→F k∨w.heap.size≤k)∧Keeps (fun k=>LX F l k∨k=wb) w w':=by
 have HH:=ak h
 have hbx:=heap_alloc_new w (.cells (recC R A5 c5 A6 c6) 38)
 have HB:=ak (below_alloc (RowKit.Below.refl w.heap.size w) (.cells (recC R A5 c5 A6 c6) 38))
 simp only[recC] at hadd
 have HA:=ak hadd
 clear h hadd
 go_enter Tryz.func42,Tryz.ntmps42
 go_upto_region 1 with(fail)
 generalize w.alloc (.cells (recC R A5 c5 A6 c6) 38)=w2 at hbx HB ⊢
 have HBX:=ak hbx
 have hnb:¬LX F l w.heap.size:=fun hx=>by have:=HH.out.xlt _ hx;omega
 have HN:=ak hnb
 clear hnb
 obtain⟨rb,hrb⟩:∃rb,w.heap.size=rb:=⟨_,rfl⟩
 rw[hrb] at hbx HBX HN ⊢
 have HRB:=ak hrb
 clear hrb
 have HH2:=ak (HH.out.below HB.out)
 have y:=(blk_cell HH2.out.wr.blk 1).trans rfl
 have x0':=bq hbx 0 (.int .i64 R.f0)
 have x1':=bq hbx 1 (.string R.f1)
 have x2':=bq hbx 2 (.int .i64 R.f2)
 have x3':=bq hbx 3 (.int .i64 R.f3)
 have x4':=bq hbx 4 (.int .i64 R.f4)
 have x5':=bq hbx 5 (.slice A5 R.f5.length c5)
 have x6':=bq hbx 6 (.slice A6 R.f6.length c6)
 clear hbx
 go_region_held3 (fun w'=>w'.cell? ⟨wb,1,none⟩=some (ptr l)∧w'.cell? ⟨rb,0,none⟩=some (.int .i64 R.f0)∧w'.cell? ⟨rb,1,none⟩=some (.string R.f1)∧w'.cell? ⟨rb,2,none⟩=some (.int .i64 R.f2)∧w'.cell? ⟨rb,3,none⟩=some (.int .i64 R.f3)∧w'.cell? ⟨rb,4,none⟩=some (.int .i64 R.f4)∧w'.cell? ⟨rb,5,none⟩=some (.slice A5 R.f5.length c5)∧w'.cell? ⟨rb,6,none⟩=some (.slice A6 R.f6.length c6))
  (first | go_keep | exact KP.out | fail)
  ((go_at_call 13;(with_reducible refine(HA.out _ (below_drew1 HB.out)).mono ?_);rintro e w3 ⟨rfl,h3⟩;have H3:=ak h3;have KP:=ak (show w3.cell? ⟨wb,1,none⟩=some (ptr l)∧w3.cell? ⟨rb,0,none⟩=some (.int .i64 R.f0)∧w3.cell? ⟨rb,1,none⟩=some (.string R.f1)∧w3.cell? ⟨rb,2,none⟩=some (.int .i64 R.f2)∧w3.cell? ⟨rb,3,none⟩=some (.int .i64 R.f3)∧w3.cell? ⟨rb,4,none⟩=some (.int .i64 R.f4)∧w3.cell? ⟨rb,5,none⟩=some (.slice A5 R.f5.length c5)∧w3.cell? ⟨rb,6,none⟩=some (.slice A6 R.f6.length c6) from by
   obtain⟨F',h4,h5,h6,h7⟩:=(HH2.out.below (below_drew1 (RowKit.Below.refl _ _))).turned h3
   have h8:=h7.obj HBX.out HN.out
   exact⟨(blk_cell h4.wr.blk 1).trans rfl,(blk_cell h8 0).trans rfl,(blk_cell h8 1).trans rfl,(blk_cell h8 2).trans rfl,(blk_cell h8 3).trans rfl,(blk_cell h8 4).trans rfl,(blk_cell h8 5).trans rfl,(blk_cell h8 6).trans rfl⟩);clear h3))
 all_goals
  obtain⟨F',h4,h5,h6,h7⟩:=(HH2.out.below (below_drew1 (RowKit.Below.refl _ _))).turned H3.out
  have z:=blk_frozen h4.wr.blk 12
  have y:=bq h4.wr.blk 12 (.bool p.spoilt)
  have H4:=ak (h4.store (p':={p with spoilt:=decide (x3≠0)}) 12 (.bool (decide (x3≠0))) rfl rfl rfl rfl rfl rfl)
  have H5:=ak h5
  have H6:=ak (show ∀k,F' k→F k∨w.heap.size≤k from fun k hk=>(h6 k hk).imp id (fun h=>Nat.le_trans HB.out.size h))
  have H7:=ak (show Keeps (fun k=>LX F l k∨k=wb) w (w3.setCell ⟨wb,12,none⟩ (.bool (decide (x3≠0)))) from(((Keeps.of_below (HB.out.trans (below_drew1 (RowKit.Below.refl _ _)))).trans h7).mono (fun k hk=>.inl hk)).set (.inr rfl))
  clear h4 h5 h6 h7 KP HN HBX HRB HB HA x0' x1' x2' x3' x4' x5' x6'
  by_cases he:x3=0
  ·subst he
   go_wp2
   refine bodyPost_ret (results_tmp4 rfl _ _ _) rfl ?_
   exact⟨rfl,F',H4.out,H5.out,H6.out,H7.out⟩
  ·have d1:(x3 !=0)=true:=bne_iff_ne.mpr he
   go_wp2
   refine bodyPost_ret (results_tmp4 rfl _ _ _) rfl ?_
   have h4:=H4.out
   have h7:=H7.out
   have d2:decide (x3≠0)=true:=decide_eq_true he
   rw[d2] at h4 h7 ⊢
   exact⟨rfl,F',h4,H5.out,H6.out,h7⟩
end Pw
end
section
namespace La
open Go.Maps Fr Ext Pt
open Rc (Re Lo putM toM rightM isKind numB locB locsB rootB)
theorem bytes_app {a b:List Int} (ha:IsBytes a) (hb:IsBytes b):IsBytes (a++b):=fun x hx=>(List.mem_append.1 hx).elim (ha x) (hb x)
theorem numB_bytes (n:Int) (k:Nat):IsBytes (numB n k):=by
 intro x hx
 obtain⟨i,_,rfl⟩:=List.mem_map.1 hx
 exact⟨Int.emod_nonneg _ (by decide),Int.emod_lt_of_pos _ (by decide)⟩
theorem bytesOf_isBytes (s:ByteArray):IsBytes (bytesOf s):=by
 intro x hx
 obtain⟨b,_,rfl⟩:=List.mem_map.1 hx
 have:=b.toNat_lt
 constructor <;> omega
theorem locsB_bytes (ls:List Lo):IsBytes (locsB ls):=by
 intro x hx
 unfold locsB at hx
 obtain⟨l,hl,hx⟩:=List.mem_flatten.1 hx
 obtain⟨y,_,rfl⟩:=List.mem_map.1 hl
 have h:IsBytes (locB y):=by
  unfold locB
  first
   | exact bytes_app (bytes_app (numB_bytes _ _) (numB_bytes _ _)) (numB_bytes _ _)
   | exact bytes_app (numB_bytes _ _) (bytes_app (numB_bytes _ _) (numB_bytes _ _))
 exact h x hx
theorem putM_isBytes (R:Re) (h6:IsBytes R.f6):IsBytes (putM R):=by
 unfold putM
 split
 next h=>
  have hk:isKind R.f0=true:=(Rc.right_bounds h).1
  have h0:0≤R.f0∧R.f0 < 256:=by
   simp only[isKind,Bool.and_eq_true,decide_eq_true_eq] at hk
   omega
  have ht:IsBytes (toM R):=by
   unfold toM
   split
   ·exact bytes_app (bytes_app (numB_bytes _ _) (numB_bytes _ _)) h6
   split
   ·refine bytes_app ?_ (locsB_bytes _)
    unfold rootB
    exact bytes_app (bytes_app (bytes_app (bytes_app (numB_bytes _ _) (bytesOf_isBytes _)) (numB_bytes _ _)) (numB_bytes _ _)) (numB_bytes _ _)
   split
   ·exact bytes_app (bytes_app (numB_bytes _ _) (bytesOf_isBytes _)) h6
   ·exact bytesOf_isBytes _
  intro x hx
  rcases List.mem_cons.1 hx with rfl | hx
  ·exact h0
  ·exact ht x hx
 ·intro x hx
  cases hx
end La
end
section
namespace Rc
open Go.Maps Go.WideShapes Fr Ext Pt

theorem numB_succ (n:Int) (s:Nat):numB n (s+1)=n / 2 ^ (8*s) % 256::numB n s:=by
 unfold numB
 rw[List.range_succ_eq_map,List.map_cons,List.map_map]
 congr 1
 refine List.map_congr_left fun i _=>?_
 rw[Function.comp_apply,show 8*(s+1 - 1 - (i+1))=8*(s - 1 - i) from by omega]
theorem fold_num (k:Nat):∀(s:Nat) (a:Int),(numB (k:Int) s).foldl (fun n c=>n*256+c) a=a*256 ^ s+((k % 256 ^ s:Nat):Int)
 | 0,a=>by simp [numB,Nat.mod_one]
 | s+1,a=>by
  rw[numB_succ,List.foldl_cons,fold_num k s]
  have e1:(2:Nat) ^ (8*s)=256 ^ s:=by rw[Nat.pow_mul]
  have e2:k % 256 ^ (s+1)=k % 256 ^ s+256 ^ s*(k / 256 ^ s % 256):=by rw[Nat.pow_succ,Nat.mod_mul]
  have e3:((k:Int) / 2 ^ (8*s) % 256)=((k / 256 ^ s % 256:Nat):Int):=by
   rw[← e1,show((2:Int) ^ (8*s))=((2 ^ (8*s):Nat):Int) by rw[Int.natCast_pow];rfl,Int.natCast_emod,Int.natCast_ediv]
   rfl
  rw[e2,e3]
  generalize k / 256 ^ s % 256=d
  generalize k % 256 ^ s=q
  have e4:((256:Int) ^ s)=((256 ^ s:Nat):Int):=by rw[Int.natCast_pow];rfl
  have e5:((256:Int) ^ (s+1))=((256 ^ s:Nat):Int)*256:=by rw[Int.pow_succ,e4]
  rw[e5,e4]
  generalize 256 ^ s=p
  push_cast
  rw[Int.add_mul,Int.mul_assoc,Int.mul_comm (256:Int) p,Int.mul_comm (d:Int) p]
  omega
theorem beN_numB {n:Int} (s:Nat) (h0:0≤n) (h1:n < ((256 ^ s:Nat):Int)):beN (numB n s)=n:=by
 obtain⟨k,rfl⟩:=Int.eq_ofNat_of_zero_le h0
 unfold beN
 rw[fold_num,Int.zero_mul,Nat.mod_eq_of_lt (by exact_mod_cast h1)]
 omega
theorem numP_numB {n:Int} (s:Nat) (r:List Int) (h0:0≤n) (h1:n < ((256 ^ s:Nat):Int)):numP (numB n s++r) s=(n,r):=by
 unfold numP
 have hl:=numB_length n s
 rw[if_neg (by rw[List.length_append];omega),List.take_left' hl,List.drop_left' hl,beN_numB s h0 h1]
theorem str_bytes (s:ByteArray):strOfNums (bytesOf s)=s:=by
 have h:(strOfNums (bytesOf s)).data.toList=s.data.toList:=by
  simp only[strOfNums,bytesOf,List.map_map]
  conv=>rhs;rw[← List.map_id s.data.toList]
  refine List.map_congr_left fun b _=>?_
  rw[Function.comp_apply,Int.toNat_natCast,UInt8.ofNat_toNat]
  rfl
 exact bytes_inj h
theorem keyed_put (s:ByteArray) (r:List Int) (h:s.size≤64):keyedP (numB (s.size:Int) 1++bytesOf s++r)=(s,true,r):=by
 have e:numP (numB (s.size:Int) 1++bytesOf s++r) 1=((s.size:Int),bytesOf s++r):=by
  rw[List.append_assoc]
  exact numP_numB 1 _ (by omega) (by show(s.size:Int) < 256;omega)
 have e2:(max (s.size:Int) 0).toNat=s.size:=by omega
 have hl:=bytesOf_length s
 unfold keyedP
 rw[e]
 dsimp only
 rw[e2,if_neg (by rw[List.length_append];omega),List.take_left' hl,List.drop_left' hl,str_bytes]
theorem locs_fine:∀(l:List Lo) (a:Int) (s:Int),locsM l a=some s→∀x∈l,locFine x=true
 | [],_,_,_,x,hx=>by cases hx
 | y::l,a,s,h,x,hx=>by
  rw[locsM_cons] at h
  split at h
  ·rename_i hy
   rcases List.mem_cons.1 hx with rfl | hx
   ·exact hy
   ·exact locs_fine l _ s h x hx
  ·cases h
theorem locFine_iff {l:Lo} (h:locFine l=true):0≤l.f0∧l.f0≤99999999∧0≤l.f1∧l.f1≤1073741824∧1≤l.f2∧l.f2≤4096:=by
 unfold locFine withinB at h
 simp only[Bool.and_eq_true,decide_eq_true_eq] at h
 omega
theorem rootLoop_put:∀(l ls:List Lo),(∀x∈l,locFine x=true)→rootLoop l.length (locsB l) ls=(true,ls++l,[])
 | [],ls,_=>by simp [rootLoop,locsB]
 | x::l,ls,h=>by
  obtain⟨h1,h2,h3,h4,h5,h6⟩:=locFine_iff (h x (by simp))
  have e:locsB (x::l)=numB x.f0 4++(numB x.f1 4++(numB x.f2 2++locsB l)):=by
   simp [locsB,locB,List.append_assoc]
  have e1:numP (locsB (x::l)) 4=(x.f0,numB x.f1 4++(numB x.f2 2++locsB l)):=by rw[e];exact numP_numB 4 _ h1 (by show x.f0 < 4294967296;omega)
  have e2:numP (numB x.f1 4++(numB x.f2 2++locsB l)) 4=(x.f1,numB x.f2 2++locsB l):=numP_numB 4 _ h3 (by show x.f1 < 4294967296;omega)
  have e3:numP (numB x.f2 2++locsB l) 2=(x.f2,locsB l):=numP_numB 2 _ (by omega) (by show x.f2 < 65536;omega)
  rw[List.length_cons,rootLoop_succ,e1]
  dsimp only
  rw[e2]
  dsimp only
  rw[e3]
  dsimp only
  rw[if_neg (by omega),rootLoop_put l _ (fun y hy=>h y (by simp [hy])),List.append_assoc]
  rfl
theorem ba_beq {s t:ByteArray} (h:(s==t)=true):s=t:=by
 have h':(s.data==t.data)=true:=h
 exact bytes_inj (by rw[eq_of_beq h'])
theorem len_nil {α:Type} {l:List α} (h:(l.length==([]:List α).length)=true):l=[]:=List.eq_nil_of_length_eq_zero (by simpa using h)
theorem get_put {R:Re} (h:rightM R=true):getM (putM R)=(R,true):=by
 have hp:putM R=R.f0::toM R:=by unfold putM;rw[if_pos h]
 have h':=h
 unfold rightM at h
 simp only[Bool.and_eq_true] at h
 obtain⟨hk,h2,h3,h4⟩:=h
 have h20:0≤R.f2∧R.f2≤1099511627776:=by
  unfold withinB at h2
  simpa only[Bool.and_eq_true,decide_eq_true_eq] using h2
 have hof:(ofM {zeroR with f0:=R.f0} (toM R))=(true,R):=by
  obtain⟨f0,f1,f2,f3,f4,f5,f6⟩:=R
  dsimp only at *
  unfold bareM at h3
  simp only[Bool.and_eq_true] at h3
  obtain⟨b1,b2,b3,b4,b5,b6⟩:=h3
  unfold fineM at h4
  dsimp only at h4
  unfold ofM toM
  dsimp only
  by_cases k1:f0=1
  ·subst k1
   rw[if_pos rfl] at h4 ⊢
   rw[if_pos rfl]
   simp only[hasM,if_pos] at b1 b4 b5
   obtain rfl:=ba_beq b1
   obtain rfl:=eq_of_beq b4
   obtain rfl:=len_nil b5
   unfold pieceFineM withinB at h4
   simp only[Bool.and_eq_true,decide_eq_true_eq] at h4
   have e1:numP (numB f2 6++numB f3 2++f6) 6=(f2,numB f3 2++f6):=by rw[List.append_assoc];exact numP_numB 6 _ h20.1 (by show f2 < 281474976710656;omega)
   have e2:numP (numB f3 2++f6) 2=(f3,f6):=numP_numB 2 _ h4.1.1 (by show f3 < 65536;omega)
   unfold pieceOfM zeroR
   rw[e1]
   dsimp only
   rw[e2]
   dsimp only
   rw[decide_eq_true h4.1.1]
  rw[if_neg k1] at h4 ⊢
  rw[if_neg k1]
  by_cases k2:f0=2
  ·subst k2
   rw[if_pos rfl] at h4 ⊢
   rw[if_pos rfl]
   simp only[hasM,if_neg (show ¬(2:Int)=1 by decide),if_pos] at b1 b3 b6
   obtain rfl:=eq_of_beq b3
   obtain rfl:=len_nil b6
   unfold rootFineM at h4
   dsimp only at h4
   cases hl:locsM f5 0 with
   | none=>rw[hl] at h4;cases h4
   | some s=>
    rw[hl] at h4
    dsimp only at h4
    simp only[Bool.and_eq_true,decide_eq_true_eq] at h4
    obtain⟨hkb,hn,hs,hw⟩:=h4
    obtain rfl:=eq_of_beq hs
    unfold keyB withinB at hkb
    unfold withinB at hw
    simp only[Bool.and_eq_true,decide_eq_true_eq] at hkb hw
    have hlf:=locs_fine f5 0 s hl
    have e0:keyedP (rootB ⟨2,f1,f2,0,s,f5,[]⟩++locsB f5)=(f1,true,numB f2 6++(numB s 3++(numB (f5.length:Int) 2++locsB f5))):=by
     have:=keyed_put f1 (numB f2 6++(numB s 3++(numB (f5.length:Int) 2++locsB f5))) (by omega)
     simpa only[rootB,List.append_assoc] using this
    have e1:numP (numB f2 6++(numB s 3++(numB (f5.length:Int) 2++locsB f5))) 6=(f2,numB s 3++(numB (f5.length:Int) 2++locsB f5)):=numP_numB 6 _ h20.1 (by show f2 < 281474976710656;omega)
    have e2:numP (numB s 3++(numB (f5.length:Int) 2++locsB f5)) 3=(s,numB (f5.length:Int) 2++locsB f5):=numP_numB 3 _ (by omega) (by show s < 16777216;omega)
    have e3:numP (numB (f5.length:Int) 2++locsB f5) 2=((f5.length:Int),locsB f5):=numP_numB 2 _ (by omega) (by show(f5.length:Int) < 65536;omega)
    have e4:=rootLoop_put f5 [] hlf
    unfold rootOfM
    rw[e0]
    dsimp only
    rw[if_pos rfl]
    unfold rootTail
    dsimp only
    rw[e1]
    dsimp only
    rw[e2]
    dsimp only
    rw[e3]
    dsimp only
    rw[show(max (f5.length:Int) 0).toNat=f5.length from by omega,e4,decide_eq_true (show(0:Int)≤(f5.length:Int) from by omega)]
    rfl
  rw[if_neg k2] at h4 ⊢
  rw[if_neg k2]
  by_cases k3:f0=3
  ·subst k3
   rw[if_pos rfl] at h4 ⊢
   rw[if_pos rfl]
   simp only[hasM,if_neg (show ¬(3:Int)=1 by decide),if_neg (show ¬(3:Int)=2 by decide),if_pos] at b2 b3 b4 b5
   obtain rfl:=eq_of_beq b2
   obtain rfl:=eq_of_beq b3
   obtain rfl:=eq_of_beq b4
   obtain rfl:=len_nil b5
   unfold inlineFineM keyB withinB at h4
   simp only[Bool.and_eq_true,decide_eq_true_eq] at h4
   have e0:=keyed_put f1 f6 (by omega)
   unfold inlineOfM
   rw[e0]
   rfl
  ·rw[if_neg k3] at h4 ⊢
   rw[if_neg k3]
   simp only[hasM,if_neg k1,if_neg k2,if_neg k3] at b2 b3 b4 b5 b6
   obtain rfl:=eq_of_beq b2
   obtain rfl:=eq_of_beq b3
   obtain rfl:=eq_of_beq b4
   obtain rfl:=len_nil b5
   obtain rfl:=len_nil b6
   unfold tombOfM zeroR
   rw[str_bytes]
 rw[hp]
 show(if isKind R.f0=true then(if(ofM {zeroR with f0:=R.f0} (toM R)).1=true then(if rightM (ofM {zeroR with f0:=R.f0} (toM R)).2=true then((ofM {zeroR with f0:=R.f0} (toM R)).2,true) else(zeroR,false)) else(zeroR,false)) else(zeroR,false))=(R,true)
 rw[if_pos hk,hof]
 dsimp only
 rw[if_pos rfl,if_pos h']
theorem put_len (R:Re):(putM R).length≤5300:=by
 unfold putM
 split
 ·rename_i h
  obtain⟨hk,h1,h2,h3,h4⟩:=right_bounds h
  simp only[List.length_cons]
  unfold toM
  rcases isKind_cases hk with e | e | e | e
  ·have:=h1 e
   rw[if_pos e]
   simp only[List.length_append,numB_length]
   omega
  ·have:=h2 e
   rw[if_neg (by omega),if_pos e,List.length_append,rootB_length,locsB_length]
   omega
  ·have:=h3 e
   rw[if_neg (by omega),if_neg (by omega),if_pos e]
   simp only[List.length_append,numB_length,bytesOf_length]
   omega
  ·have:=h4 e
   rw[if_neg (by omega),if_neg (by omega),if_neg (by omega),bytesOf_length]
   omega
 ·simp
theorem put_nil {R:Re}:(putM R).length=0↔rightM R=false:=by
 unfold putM
 split
 ·rename_i h
  simp [h]
 ·rename_i h
  simp [h]
end Rc
end
section
namespace Pu
open Go.Maps Fr Ext Pt Dk Lg
open Rc (Re Lo withinB keyB zeroR)
def pieceR (p:Wr) (b:List Int):Re:=⟨1,⟨#[]⟩,p.id,p.pieces.length,0,[],b⟩
abbrev St:=DiskM×LogS×Wr
abbrev AddR:=DiskM×LogS×Int×Int×Int×Int
def pieceW (p:Wr) (n:Int) (r:AddR):Wr:=if r.2.2.2.2.2=0 then {p with spoilt:=false,pieces:=p.pieces++[⟨r.2.2.1,r.2.2.2.1,n⟩]} else {p with spoilt:=true}
def pieceM (q:St) (b:List Int):St×Int:=
 (((laddM q.1 q.2.1 (pieceR q.2.2 b)).1,(laddM q.1 q.2.1 (pieceR q.2.2 b)).2.1,pieceW q.2.2 b.length (laddM q.1 q.2.1 (pieceR q.2.2 b))),(laddM q.1 q.2.1 (pieceR q.2.2 b)).2.2.2.2.2)
def eachM:List (List Int)→St→St×Int
 | [],q=>(q,0)
 | b::l,q=>if(pieceM q b).2=0 then eachM l (pieceM q b).1 else pieceM q b
def cutIn (p:Wr) (h:List Int):Wr:={p with held:=[],all:=wrap64 (p.all+h.length),left:=(cutW p.c.piece (p.left++h)).2}
def heldIn (p:Wr) (b:List Int):Wr:={p with size:=wrap64 (p.size+b.length),held:=p.held++b}
def writeM (q:St) (b:List Int):St×Int:=
 if stateM q.2.2≠0 then(q,stateM q.2.2)
 else if(b.length:Int) > wrap64 (q.2.2.c.max - q.2.2.size) then(q,2)
 else if(heldIn q.2.2 b).size≤q.2.2.c.small then((q.1,q.2.1,heldIn q.2.2 b),0)
 else eachM (cutW q.2.2.c.piece (q.2.2.left++(q.2.2.held++b))).1 (q.1,q.2.1,cutIn (heldIn q.2.2 b) (q.2.2.held++b))
def rootR (p:Wr):Re:=⟨2,p.key,p.id,0,p.size,p.pieces,[]⟩
def inlineR (p:Wr):Re:=⟨3,p.key,0,0,0,[],p.held⟩
def recM (q:St):St×Re×Int:=
 if q.2.2.size≤q.2.2.c.small then(q,inlineR q.2.2,0)
 else if q.2.2.left=[] then(q,rootR q.2.2,0)
 else if(pieceM (q.1,q.2.1,{q.2.2 with left:=[]}) q.2.2.left).2=0 then((pieceM (q.1,q.2.1,{q.2.2 with left:=[]}) q.2.2.left).1,rootR (pieceM (q.1,q.2.1,{q.2.2 with left:=[]}) q.2.2.left).1.2.2,0)
 else((pieceM (q.1,q.2.1,{q.2.2 with left:=[]}) q.2.2.left).1,zeroR,(pieceM (q.1,q.2.1,{q.2.2 with left:=[]}) q.2.2.left).2)
structure Pl where
 seg:Int
 kind:Int
 key:ByteArray
 at_:Int
 size:Int
def noPl:Pl:=⟨0,0,⟨#[]⟩,0,0⟩
def commitEnd (p:Wr) (R:Re) (r:AddR):St×Pl×Int:=
 if r.2.2.2.2.2=0 then((r.1,r.2.1,{p with spoilt:=false,done:=true}),⟨r.2.2.1,R.f0,p.key,r.2.2.2.1,r.2.2.2.2.1⟩,0) else((r.1,r.2.1,{p with spoilt:=true}),noPl,r.2.2.2.2.2)
def commitR (x:St×Re×Int):St×Pl×Int:=
 if x.2.2=0 then commitEnd x.1.2.2 x.2.1 (laddM x.1.1 x.1.2.1 x.2.1) else(x.1,noPl,x.2.2)
def commitM (q:St):St×Pl×Int:=
 if stateM q.2.2≠0 then(q,noPl,stateM q.2.2) else commitR (recM q)
def locsW (p:Wr):List Lo:=p.pieces.map fun x=>⟨x.f0,x.f1,wrap64 (x.f2+17)⟩
theorem piece_len (p:Wr) (b:List Int) (h:Rc.rightM (pieceR p b)=true):(Rc.putM (pieceR p b)).length=9+b.length:=by
 unfold Rc.putM
 rw[if_pos h]
 unfold Rc.toM
 simp [pieceR,Rc.numB]
 omega
theorem piece_right {p:Wr} {b:List Int} (hid:withinB p.id 0 1099511627776=true) (hn:p.pieces.length≤511) (h1:1≤b.length) (h2:b.length≤4096):Rc.rightM (pieceR p b)=true:=by
 unfold Rc.rightM Rc.fineM Rc.pieceFineM Rc.isKind
 simp only[pieceR,if_true,hid,Bool.true_and,Bool.and_eq_true]
 refine⟨by constructor <;> rfl,?_,?_,?_⟩
 ·simp [Rc.bareM,Rc.hasM];rfl
 ·simp only[withinB,Bool.and_eq_true,decide_eq_true_eq];omega
 ·simp only[withinB,Bool.and_eq_true,decide_eq_true_eq];omega
end Pu
end
section
namespace Pw
open Go.Shelf Go.Maps Fr Ext Pt Go.Proofs.YtcieieacfoaklaaGreat.Nm Dk Mn Pu Ct Lg
open Rc (Re Lo withinB keyB zeroR recC Norm Norm.intro Norm.elim)
variable {w w' w1:World} {B l g wb cb c N:Nat} {M M':DiskM} {F F' G:Nat→Prop} {S S':LogS} {p p':Wr} {hv pv hv' pv':Value} {A A':Option Addr}
theorem ownT {α:Type} {d:Kd α} {e base:Nat} {ok:Nat→Prop} {w:World} {v:Value} {xs:List α} (h:d.R e w base ok v xs) {k:Nat} (hk:v.ownBlock=some k):∃cells,w.heap[k]? =some (.cells cells e (0,0)):=by
 obtain⟨inner,ho⟩:=Kd.R_own h
 exact own_typed ho k hk
theorem clash {w:World} {k t u:Nat} {x y:Array Value} (h1:w.heap[k]? =some (.cells x t (0,0))) (h2:w.heap[k]? =some (.cells y u (0,0))) (hn:t≠u):False:=by
 rw[h1] at h2
 injection h2 with h2
 injection h2 with _ ht
 exact hn ht
theorem LogO.keepT (h:LogO w B l g F S) (hk:Keeps G w w') (hl:¬G l) (hG:∀k,G k→∃cells t,w.heap[k]? =some (.cells cells t (0,0))∧t≠3):LogO w' B l g F S:=by
 obtain⟨⟨A,c,h1,h2,h3⟩,hs,ha⟩:=h
 refine⟨⟨A,c,hk.obj h1 hl,rowK rfl h2 hk (fun j hj hg=>?_),h3⟩,hs,ha⟩
 obtain⟨x,hx⟩:=ownT h2 hj
 obtain⟨y,t,hy,ht⟩:=hG j hg
 exact clash hx hy (fun e=>ht e.symm)
theorem AtP.append (h:AtP w B l g wb cb N F M S p hv pv A c) {x:Lo} (hr:Kd.R k57 57 w1 B (fun _=>True) pv' (p.pieces++[x])) (hg:w.grownBy w1 pv.ownBlock) (hat:pv'.ownBlock=pv.ownBlock∨∃b,pv'.ownBlock=some b∧w.heap.size≤b):
  AtP (w1.setCell ⟨wb,11,none⟩ pv') B l g wb cb N F M S {p with pieces:=p.pieces++[x]} hv pv' A c∧Keeps (fun k=>some k=pv.ownBlock∨k=wb) w (w1.setCell ⟨wb,11,none⟩ pv'):=by
 have hk1:Keeps (fun k=>some k=pv.ownBlock) w w1:=Rc.Keeps.of_grown hg
 have hk:Keeps (fun k=>some k=pv.ownBlock∨k=wb) w (w1.setCell ⟨wb,11,none⟩ pv'):=(hk1.mono (fun k hk=>.inl hk)).set (.inr rfl)
 have hne:∀{k t:Nat} {cells:Array Value},w.heap[k]? =some (.cells cells t (0,0))→t≠57→¬some k=pv.ownBlock:=fun hb ht e=>by
  obtain⟨y,hy⟩:=ownT h.wr.rows e.symm
  exact clash hb hy ht
 have hw:=h.wr
 have hwp:¬some wb=pv.ownBlock:=hne hw.blk (by decide)
 have hb1:=hk1.obj hw.blk hwp
 have hG:∀k,(some k=pv.ownBlock∨k=wb)→∃cells t,w.heap[k]? =some (.cells cells t (0,0))∧t≠3:=fun k e=>by
  rcases e with e | rfl
  ·obtain⟨y,hy⟩:=ownT h.wr.rows e.symm
   exact⟨y,_,hy,by decide⟩
  ·exact⟨_,_,hw.blk,by decide⟩
 have hGF:∀k,LX F l k→¬(some k=pv.ownBlock∨k=wb):=fun k hx e=>by
  rcases e with e | rfl
  ·exact hw.rowsX k e.symm hx
  ·exact hw.self hx
 refine⟨⟨h.disk.keep hk (fun k hf e=>hGF k (.inl hf) e),LogO.keepT h.log hk (hGF l (.inr rfl)) hG,?_⟩,hk⟩
 refine⟨blk_put (cs:=wrC cb l p hv pv) hb1 11 pv' rfl,rowK rfl hw.held hk (fun j hj e=>?_),Kd.R_mono (Kd.R_far (p:=⟨wb,11,none⟩) (Kd.R_types hr hb1 (by decide)) (fun k hk=>hk.2) _) (fun _ _=>trivial),hw.heldX,fun k e hx=>?_,⟨hk.obj hw.cut.st (fun e=>?_),C_blk hw.cut.rd (fun a e=>hk.block _ (hw.cutX a e).2.1 (fun hh=>?_)),hw.cut.cap⟩,fun a e=>?_,hw.self,hw.cself,hw.above,hw.cabove⟩
 ·obtain⟨y,hy⟩:=ownT hw.held hj
  rcases e with e | rfl
  ·exact hne hy (by decide) e
  ·exact clash hy hw.blk (by decide)
 ·rcases hat with hat | ⟨b,hb,hle⟩
  ·exact hw.rowsX k (hat ▸ e) hx
  ·rw[hb] at e
   cases e
   have:=h.xlt _ hx
   omega
 ·rcases e with e | e
  ·exact hne hw.cut.st (by decide) e
  ·exact hw.cne e
 ·have h1:=hw.cutX a e
  rcases hh with hh | hh
  ·exact h1.2.2.2.2.2.2 hh.symm
  ·exact h1.2.2.2.1 hh
 ·obtain⟨h1,h2,h3,h4,h5,h6,h7⟩:=hw.cutX a e
  refine⟨h1,Nat.lt_of_lt_of_le h2 hk.size,h3,h4,h5,h6,fun hh=>?_⟩
  rcases hat with hat | ⟨b,hb,hle⟩
  ·exact h7 (hat ▸ hh)
  ·rw[hb] at hh
   cases hh
   omega
theorem add_calls (h:AtP w B l g wb cb N F M S p hv pv A c) (hM:Fit M) (hsl:S.man.segs.length≤1000000) (hN:N+32≤1000000000000) (R:Re) (A5 A6:Option Addr) (c5 c6:Nat) (h0:(Lit.int .i64 R.f0).wf=true)
  (hl:∀W,Keeps (LX F l) w W→Kd.C k57 W A5 R.f5.length R.f5) (hn:R.f5.length≤1000000000) (h6:∀W,Keeps (LX F l) w W→Kd.C (Kd.int .u8) W A6 R.f6.length R.f6):
  Calls Tryz.prog 42 #[ptr wb,.agg (recC R A5 c5 A6 c6)] w fun e w'=>e=.returned (.tuple #[.int .i64 (laddM M S R).2.2.1,.int .i64 (laddM M S R).2.2.2.1,.int .i64 (laddM M S R).2.2.2.2.1,.int .i64 (laddM M S R).2.2.2.2.2])∧∃F',AtP w' B l g wb cb (N+32) F' (laddM M S R).1 (laddM M S R).2.1 {p with spoilt:=decide ((laddM M S R).2.2.2.2.2≠0)} hv pv A c∧(∀k,F k→F' k)∧(∀k,F' k→F k∨w.heap.size≤k)∧Keeps (fun k=>LX F l k∨k=wb) w w':=
 add_of h R A5 A6 c5 c6 _ _ _ _ (fun W hW=>ladd_calls (h.disk.below hW) hM (h.log.below hW) hsl hN R A5 A6 c5 c6 h0 (fun W' hk=>hl W' ((Keeps.of_below hW).trans hk)) hn (fun W' hk=>h6 W' ((Keeps.of_below hW).trans hk)))
theorem pieceM_ok {q:St} {b:List Int} (h:(laddM q.1 q.2.1 (pieceR q.2.2 b)).2.2.2.2.2=0):pieceM q b=(((laddM q.1 q.2.1 (pieceR q.2.2 b)).1,(laddM q.1 q.2.1 (pieceR q.2.2 b)).2.1,{q.2.2 with spoilt:=false,pieces:=q.2.2.pieces++[⟨(laddM q.1 q.2.1 (pieceR q.2.2 b)).2.2.1,(laddM q.1 q.2.1 (pieceR q.2.2 b)).2.2.2.1,b.length⟩]}),0):=by
 unfold pieceM pieceW
 rw[h,if_pos rfl]
theorem pieceM_no {q:St} {b:List Int} (h:¬(laddM q.1 q.2.1 (pieceR q.2.2 b)).2.2.2.2.2=0):pieceM q b=(((laddM q.1 q.2.1 (pieceR q.2.2 b)).1,(laddM q.1 q.2.1 (pieceR q.2.2 b)).2.1,{q.2.2 with spoilt:=true}),(laddM q.1 q.2.1 (pieceR q.2.2 b)).2.2.2.2.2):=by
 unfold pieceM pieceW
 rw[if_neg h]
theorem piece_calls (h:AtP w B l g wb cb N F M S p hv pv A c) (hM:Fit M) (hsl:S.man.segs.length≤1000000) (hN:N+32≤1000000000000) (b:List Int) (Ab:Option Addr) (c6:Nat) (hn:p.pieces.length≤1000000) (h6:∀W,Keeps (LX F l) w W→Kd.C (Kd.int .u8) W Ab b.length b):
  Calls Tryz.prog 40 #[ptr wb,.slice Ab b.length c6] w fun e w'=>e=.returned (.int .i64 (pieceM (M,S,p) b).2)∧∃F' pv',AtP w' B l g wb cb (N+32) F' (pieceM (M,S,p) b).1.1 (pieceM (M,S,p) b).1.2.1 (pieceM (M,S,p) b).1.2.2 hv pv' A c∧(∀k,F k→F' k)∧(∀k,F' k→F k∨w.heap.size≤k)∧(∀k,pv'.ownBlock=some k→pv.ownBlock=some k∨w.heap.size≤k)∧Keeps (fun k=>LX F l k∨k=wb∨some k=pv.ownBlock) w w':=by
 have HH:=ak h
 have hadd:=fun W (hW:RowKit.Below w.heap.size w W)=>add_calls (h.below hW) hM hsl hN (pieceR p b) none Ab 0 c6 (show(Lit.int .i64 1).wf=true by decide) (fun W' _=>Kd.C_nil _ _) (by simp [pieceR]) (fun W' hk=>h6 W' ((Keeps.of_below hW).trans hk))
 have hok:=pieceM_ok (q:=(M,S,p)) (b:=b)
 have hno:=pieceM_no (q:=(M,S,p)) (b:=b)
 dsimp only at hok hno
 generalize laddM M S (pieceR p b)=r at hadd hok hno
 obtain⟨M',S',x0,x1,x2,x3⟩:=r
 dsimp only at hadd hok hno
 obtain⟨Ap,cp,hpv⟩:=Kd.R_slice h.wr.rows
 subst hpv
 simp only[recC,pieceR,List.length_nil] at hadd
 have HA:=ak hadd
 have HN:=ak hn
 have HOK:=ak hok
 have HNO:=ak hno
 clear h hadd hok hno hM hsl hN hn h6
 go_enter Tryz.func40,Tryz.ntmps40
 have y3:=bq HH.out.wr.blk 3 (.int .i64 p.id)
 have y11:=bq HH.out.wr.blk 11 (.slice Ap p.pieces.length cp)
 go_upto_region 1 with(fail)
 go_region_held3 (fun w'=>w'.cell? ⟨wb,3,none⟩=some (.int .i64 p.id)∧w'.cell? ⟨wb,11,none⟩=some (.slice Ap p.pieces.length cp))
  (first | go_keep | exact KP.out | fail)
  ((go_at_call 42;(with_reducible refine(HA.out _ (below_drew1 (RowKit.Below.refl _ _))).mono ?_);rintro e w3 ⟨rfl,h3⟩;have H3:=ak h3;have KP:=ak (show w3.cell? ⟨wb,3,none⟩=some (.int .i64 p.id)∧w3.cell? ⟨wb,11,none⟩=some (.slice Ap p.pieces.length cp) from by
   obtain⟨F',h4,_⟩:=h3
   exact⟨(blk_cell h4.wr.blk 3).trans rfl,(blk_cell h4.wr.blk 11).trans rfl⟩);clear h3))
 all_goals
  obtain⟨F',h4,h5,h6,h7⟩:=H3.out
  have H5:=ak h5
  have H6:=ak (show ∀k,F' k→F k∨w.heap.size≤k from h6)
  have hk3:Keeps (fun k=>LX F l k∨k=wb∨some k=(Value.slice Ap p.pieces.length cp).ownBlock) w w3:=((Keeps.of_below (below_drew1 (RowKit.Below.refl w.heap.size w))).trans h7).mono (fun k hk=>hk.imp id .inl)
  have HK3:=ak hk3
  have H4:=ak h4
  clear h4 h5 h6 h7 hk3 KP H3 HA y3 y11
  by_cases he:x3=0
  case neg=>
   have hno:=HNO.out he
   have d1:(x3==0)=false:=beq_eq_false_iff_ne.mpr he
   have h4:=H4.out
   rw[show decide (x3≠0)=true from decide_eq_true he] at h4
   have H4:=ak h4
   have HNO:=ak hno
   clear h4 hno HOK
   go_wp2
   go_ret
   rw[HNO.out]
   exact⟨rfl,F',_,H4.out,H5.out,H6.out,fun k hk=>.inl hk,HK3.out⟩
  case pos=>
   subst he
   have h4:=H4.out
   have HOK1:=ak (HOK.out rfl)
   clear HOK HNO
   have x11:=bq h4.wr.blk 11 (.slice Ap p.pieces.length cp)
   have hB3:B≤w3.heap.size:=Nat.le_trans h4.log.above (Nat.le_of_lt h4.log.lt)
   have HB3:=ak hB3
   have HRW:=ak h4.wr.rows
   have HL:=ak (show(p.pieces.length+1)*24≤140737488355328 by have:=HN.out;omega)
   have HBK:=ak h4.wr.blk
   clear h4 hB3
   go_wp2_with (at_builtin;refine Kd.R_append k57 (w0:=w3) B rfl (.tmp 33) (.tmp 39) 36 57 (.agg #[.int .i64 0,.int .i64 0,.int .i64 0]) 24 rfl Tryz.underlying36 info57 rfl (by decide) (by decide) (.slice Ap p.pieces.length cp) p.pieces (⟨x0,x1,b.length⟩:Lo) [.int .i64 x0,.int .i64 x1,.int .i64 b.length] (fun _=>True) (fun _=>False) rfl rfl (k57_mkM _ _ _ (⟨x0,x1,b.length⟩:Lo)) (fun _ h=>h.elim) (fun _ _=>trivial) HRW.out (RowKit.Below.refl _ _) HB3.out HL.out ?_;intro v5 w5 hr5 hb5 hg5 hat5;obtain⟨A5,c5,hv5⟩:=Kd.R_slice hr5;generalize hn5:(p.pieces++[(⟨x0,x1,b.length⟩:Lo)]).length=n5 at hv5;subst hv5;clear hn5;have hx5:=blk_grown HBK.out hg5 (Kd.R_ne HRW.out HBK.out (by decide));have y11:=bq hx5 11 (.slice Ap p.pieces.length cp);have f11:=blk_frozen hx5 11;have HR5:=ak hr5;have HG5:=ak hg5;have HAT:=ak hat5;clear hr5 hb5 hg5 hat5 hx5)
   go_ret
   have h4:=H4.out
   rw[show decide ((0:Int)≠0)=false from rfl] at h4
   obtain⟨h5,h6⟩:=h4.append HR5.out HG5.out HAT.out
   rw[HOK1.out]
   refine⟨rfl,F',_,h5,H5.out,H6.out,fun k hk=>?_,Rc.Keeps.trans_new HK3.out h6 (fun k hk hg=>hg.elim (fun e=>.inr (.inr e)) (fun e=>.inr (.inl e)))⟩
   rcases HAT.out with hat | ⟨b,hb,hle⟩
   ·exact .inl (hat ▸ hk)
   ·rw[hb] at hk
    cases hk
    exact .inr (Nat.le_trans HK3.out.size hle)
end Pw
end
section
namespace Pw
open Go.Shelf Go.Maps Fr Ext Pt Go.Proofs.YtcieieacfoaklaaGreat.Nm Dk Mn Pu Ct Lg
open Rc (Re Lo withinB keyB zeroR recC Norm Norm.intro Norm.elim)
variable {w w' w1:World} {B l g wb cb c N:Nat} {M M':DiskM} {F F' G:Nat→Prop} {S S':LogS} {p p':Wr} {hv pv hv' pv':Value} {A A':Option Addr}
theorem rollN_segs {L:Nat} (M:DiskM) (S:LogS) (n:Int) (h:S.man.segs.length≤L) (hL:1000≤L):(rollN M S n).2.1.man.segs.length≤L:=by
 unfold rollN
 split
 ·exact h
 split
 ·exact h
 unfold rollEnd
 split
 ·simp only[rollMan,List.length_append,List.length_singleton]
  omega
 ·exact h
theorem rollM_segs {L:Nat} (M:DiskM) (S:LogS) (h:S.man.segs.length≤L) (hL:1000≤L):(rollM M S).2.1.man.segs.length≤L:=by
 unfold rollM
 split
 ·exact rollN_segs _ _ _ h hL
 ·exact h
theorem addEnd_segs (M:DiskM) (S:LogS) (R:Re):(addEnd M S R).2.1=S:=by
 unfold addEnd
 split <;> rfl
theorem laddM_segs {L:Nat} (M:DiskM) (S:LogS) (R:Re) (h:S.man.segs.length≤L) (hL:1000≤L):(laddM M S R).2.1.man.segs.length≤L:=by
 unfold laddM
 split
 ·exact h
 split
 ·unfold addRoll
  split
  ·rw[addEnd_segs];exact rollM_segs M S h hL
  ·exact rollM_segs M S h hL
 ·rw[addEnd_segs];exact h
theorem pieceM_fit (hM:Fit M) (S:LogS) (p:Wr) {b:List Int} (hb:IsBytes b):Fit (pieceM (M,S,p) b).1.1:=laddM_fit hM S _ (La.putM_isBytes _ hb)
theorem pieceM_segs (S:LogS) (p:Wr) (b:List Int) (h:S.man.segs.length≤1000000):(pieceM (M,S,p) b).1.2.1.man.segs.length≤1000000:=laddM_segs _ _ _ h (by decide)
theorem pieceM_len (M:DiskM) (S:LogS) (p:Wr) (b:List Int):(pieceM (M,S,p) b).1.2.2.pieces.length≤p.pieces.length+1:=by
 show(pieceW p _ _).pieces.length≤_
 unfold pieceW
 split
 ·simp
 ·exact Nat.le_succ _
theorem rowsB {base:Nat} {ok:Nat→Prop} {v:Value} {xs:List (List Int)} (h:Kd.S kB 35 w base ok v xs) (hG:∀k,G k→k < base):∃Al cl,v=.slice Al xs.length cl∧∀j (hj:j < xs.length),∃ad A' c',Al=some ad∧∀W,Keeps G w W→W.cell? (ad.add j)=some (.slice A' (xs[j]).length c')∧Kd.C (Kd.int .u8) W A' (xs[j]).length xs[j]:=by
 obtain⟨Al,cl,rfl⟩:=Kd.S_slice h
 refine⟨Al,cl,rfl,fun j hj=>?_⟩
 have hC:=(Kd.S_reads' h).2.2
 obtain⟨ad,e,_⟩:=hC.2.2 (by omega)
 subst e
 obtain⟨cs,hc1,hc2,hc3⟩:=Kd.S_get h [] (j:Int) (by omega) (by omega)
 rw[show(xs.getD (j:Int).toNat [])=xs[j] from by simp [List.getD_eq_getElem?_getD,hj]] at hc2
 obtain⟨v',hcs,hr⟩:=hc2
 obtain⟨A',c',rfl⟩:=Kd.R_slice hr
 refine⟨ad,A',c',rfl,fun W hW=>⟨?_,?_⟩⟩
 ·have h0:=hc3 0 (.slice A' (xs[j]).length c') (by rw[hcs];rfl)
  rw[show(j:Int).toNat *kB.sz+0=j from by simp [kB,Kd.slice]] at h0
  have hown:=Kd.R_base (Kd.S_R h) ad.block rfl
  have hlt:=Kd.R_lt (Kd.S_R h) ad.block rfl
  have hbk:=hW.block ad.block hlt (fun hg=>by have:=hG _ hg;omega)
  unfold World.cell? at h0 ⊢
  have e2:(ad.add j).block=ad.block:=by unfold Addr.add;split <;> rfl
  rw[e2] at h0 ⊢
  rw[hbk]
  exact h0
 ·exact(Kd.R_reads' (rowK rfl hr hW (fun k hk hg=>by have h1:=Kd.R_base hr k hk;have h2:=hG _ hg;omega))).2.2
def PTo (w w':World) (B l g wb cb N:Nat) (F:Nat→Prop) (pv:Value) (q:St) (hv:Value) (A:Option Addr) (c:Nat):Prop:=
 ∃F' pv',AtP w' B l g wb cb N F' q.1 q.2.1 q.2.2 hv pv' A c∧(∀k,F k→F' k)∧(∀k,F' k→F k∨w.heap.size≤k)∧(∀k,pv'.ownBlock=some k→pv.ownBlock=some k∨w.heap.size≤k)∧Keeps (fun k=>LX F l k∨k=wb∨some k=pv.ownBlock) w w'
theorem PTo.refl (h:AtP w B l g wb cb N F M S p hv pv A c):PTo w w B l g wb cb N F pv (M,S,p) hv A c:=⟨F,pv,h,fun _ h=>h,fun _ h=>.inl h,fun _ h=>.inl h,Keeps.refl _ _⟩
theorem PTo.mono {N':Nat} {q:St} (h:PTo w w' B l g wb cb N F pv q hv A c) (hN:N≤N'):PTo w w' B l g wb cb N' F pv q hv A c:=by
 obtain⟨F',pv',h1,h2⟩:=h
 exact⟨F',pv',h1.mono hN,h2⟩
theorem PTo.glue {w2:World} {q:St} {N2:Nat} (k2:∀k,F k→F' k) (k3:∀k,F' k→F k∨w.heap.size≤k) (k4:∀k,pv'.ownBlock=some k→pv.ownBlock=some k∨w.heap.size≤k) (k5:Keeps (fun k=>LX F l k∨k=wb∨some k=pv.ownBlock) w w1) (h:PTo w1 w2 B l g wb cb N2 F' pv' q hv A c):PTo w w2 B l g wb cb N2 F pv q hv A c:=by
 obtain⟨F2,pv2,h1,h2,h3,h4,h5⟩:=h
 refine⟨F2,pv2,h1,fun k hk=>h2 k (k2 k hk),fun k hk=>?_,fun k hk=>?_,Rc.Keeps.trans_new k5 h5 (fun k hk hg=>?_)⟩
 ·rcases h3 k hk with h | h
  ·exact k3 k h
  ·exact .inr (Nat.le_trans k5.size h)
 ·rcases h4 k hk with h | h
  ·exact k4 k h
  ·exact .inr (Nat.le_trans k5.size h)
 ·rcases hg with(h | h) | h | h
  ·rcases k3 k h with h | h
   ·exact .inl (.inl h)
   ·omega
  ·exact .inl (.inr h)
  ·exact .inr (.inl h)
  ·rcases k4 k h.symm with h | h
   ·exact .inr (.inr h.symm)
   ·omega
theorem eachM_cons (b:List Int) (l:List (List Int)) (q:St):eachM (b::l) q=if(pieceM q b).2=0 then eachM l (pieceM q b).1 else pieceM q b:=rfl
theorem each_calls (h:AtP w B l g wb cb N F M S p hv pv A c) (hM:Fit M) (hsl:S.man.segs.length≤1000000) (xs:List (List Int)) (hN:N+32*xs.length≤1000000000000) (hp:p.pieces.length+xs.length≤1000000) (hx:∀x∈xs,IsBytes x) (Al:Option Addr) (cl:Nat)
  (hrd:∀j (hj:j < xs.length),∃ad A' c',Al=some ad∧∀W,Keeps (fun k=>LX F l k∨k=wb∨some k=pv.ownBlock) w W→W.cell? (ad.add j)=some (.slice A' (xs[j]).length c')∧Kd.C (Kd.int .u8) W A' (xs[j]).length xs[j]):
  Calls Tryz.prog 39 #[.slice Al xs.length cl,.func (.func 40) #[ptr wb] #[]] w fun e w'=>e=.returned (.int .i64 (eachM xs (M,S,p)).2)∧PTo w w' B l g wb cb (N+32*xs.length) F pv (eachM xs (M,S,p)).1 hv A c:=by
 have H0:=ak (PTo.refl h)
 have HM:=ak hM
 have HSL:=ak hsl
 have HN:=ak hN
 have HP:=ak hp
 have HX:=ak hx
 have HRD:=ak hrd
 obtain⟨R,hR⟩:∃R,eachM xs (M,S,p)=R:=⟨_,rfl⟩
 rw[hR]
 have HR:=ak hR
 clear h hM hsl hN hp hx hrd hR
 go_enter Tryz.func39,Tryz.ntmps39
 go_wp2
 go_loopg [10] xs.length (fun kq v10 wr=>∃(k:Nat) (q:St),v10=.int .i64 k∧Aside0 (k+kq=xs.length)∧Aside0 (eachM (xs.drop k) q=R)∧Aside0 (PTo w wr B l g wb cb (N+32*k) F pv q hv A c)∧Aside0 (Fit q.1)∧Aside0 (q.2.1.man.segs.length≤1000000)∧Aside0 (q.2.2.pieces.length≤p.pieces.length+k))
 case atStart=>exact⟨0,(M,S,p),rfl,⟨by omega⟩,HR,H0,HM,HSL,⟨Nat.le_refl _⟩⟩
 case round=>
  obtain⟨k,q,rfl,HQ,HE,HI,HF,HS,HL⟩:=hrel
  cases gk with
  | zero=>
   obtain rfl:k=xs.length:=by have:=HQ.out;omega
   have d1:decide ((xs.length:Int) < (xs.length:Int))=false:=decide_eq_false (by omega)
   have d2:decide (xs.length < xs.length)=false:=decide_eq_false (by omega)
   go_wp2
   go_ret
   have he:=HE.out
   rw[List.drop_length] at he
   rw[← he]
   exact⟨rfl,HI.out⟩
  | succ gk=>
   have hk0:k < xs.length:=by have:=HQ.out;omega
   have d1:decide ((k:Int) < (xs.length:Int))=true:=decide_eq_true (by omega)
   have d2:decide (k < xs.length)=true:=decide_eq_true hk0
   obtain⟨ad,A',c',e1,hW⟩:=HRD.out k hk0
   subst e1
   obtain⟨F1,pv1,k1,k2,k3,k4,k5⟩:=HI.out
   have he:=HE.out
   rw[List.drop_eq_getElem_cons hk0,eachM_cons] at he
   have hxk:=HX.out xs[k] (List.getElem_mem hk0)
   have y0:=(hW wr k5).1
   have hcall:=piece_calls k1 HF.out HS.out (by have:=HN.out;have:=HQ.out;omega) xs[k] A' c' (by have:=HP.out;have:=HL.out;omega) (fun W hk=>(hW W (Rc.Keeps.trans_new k5 hk (fun j hj hg=>by
    rcases hg with hg | hg
    ·rcases k3 j hg with hg | hg
     ·exact .inl (.inl hg)
     ·omega
    ·exact .inl (.inr hg)))).2)
   have hf2:=pieceM_fit HF.out q.2.1 q.2.2 hxk
   have hs2:=pieceM_segs (M:=q.1) q.2.1 q.2.2 xs[k] HS.out
   have hl2:=pieceM_len q.1 q.2.1 q.2.2 xs[k]
   rw[show((q.1,q.2.1,q.2.2):St)=q from rfl] at hcall hf2 hs2 hl2
   generalize pieceM q xs[k]=r at he hcall hf2 hs2 hl2
   generalize xs[k]=b at y0 hcall
   have HC:=ak hcall
   have HE1:=ak he
   have HF2:=ak hf2
   have HS2:=ak hs2
   have HL2:=ak (Nat.le_trans hl2 (Nat.add_le_add_right HL.out 1))
   have K2:=ak k2
   have K3:=ak k3
   have K4:=ak k4
   have K5:=ak k5
   clear hcall he hf2 hs2 hl2 k1 k2 k3 k4 k5 hW hxk
   clear HRD H0 HM HSL HR HX
   go_upto_region 5 with((with_reducible refine HC.out.mono ?_);rintro e w1 ⟨rfl,h2⟩;have H2:=ak h2;clear h2)
   have hq:=H2.out
   have hg:PTo w w1 B l g wb cb (N+32*(k+1)) F pv r.1 hv A c:=PTo.mono (PTo.glue K2.out K3.out K4.out K5.out hq) (by omega)
   have HG:=ak hg
   clear hg hq H2 HC K2 K3 K4 K5 y0
   obtain⟨r1,r2⟩:=r
   dsimp only at HE1 HF2 HS2 HL2 HG ⊢
   by_cases hx:r2=0
   ·subst hx
    have he:=HE1.out
    rw[if_pos rfl] at he
    have HE2:=ak he
    clear he HE1
    go_wp2
    go_roundg gk
    case measure=>omega
    case rel=>exact⟨k+1,r1,by rw[wrap_succ k (by have:=HP.out;omega)],⟨by have:=HQ.out;omega⟩,HE2,HG,HF2,HS2,HL2⟩
   ·have e1:(r2 !=0)=true:=bne_iff_ne.mpr hx
    have he:=HE1.out
    rw[if_neg hx] at he
    have HE2:=ak he
    clear he HE1 hx
    go_wp2
    go_ret
    rw[← HE2.out]
    exact⟨rfl,HG.out.mono (by have:=HQ.out;omega)⟩
end Pw
end
section
namespace Pw
open Go.Shelf Go.Maps Fr Ext Pt Go.Proofs.YtcieieacfoaklaaGreat.Nm Dk Mn Pu Ct Lg
open Rc (Re Lo withinB keyB zeroR recC Norm Norm.intro Norm.elim)
variable {w w' w1:World} {B l g wb cb c N:Nat} {M M':DiskM} {F F' G:Nat→Prop} {S S':LogS} {p p':Wr} {hv pv hv' pv':Value} {A A':Option Addr}
theorem AtP.cne (h:AtP w B l g wb cb N F M S p hv pv A c):cb≠l:=fun e=>h.wr.cself (.inr e)
theorem AtP.setHeld (h:AtP w B l g wb cb N F M S p hv pv A c) {xs:List Int} (hr:Kd.R (Kd.int .u8) 5 w B (fun _=>True) hv' xs) (hX:∀k,hv'.ownBlock=some k→¬LX F l k∧∀a,A=some a→k≠a.block):
  AtP (w.setCell ⟨wb,9,none⟩ hv') B l g wb cb N F M S {p with held:=xs} hv' pv A c:=by
 have hw:=h.wr
 refine⟨h.disk.keep (show Keeps (fun k=>k=wb) w (w.setCell ⟨wb,9,none⟩ hv') from(Keeps.refl _ _).set rfl) (fun k hk e=>hw.self (.inl (by rw[← e];exact hk))),LogO.far h.log hw.blk (by decide) h.ne 9 hv',?_⟩
 refine⟨blk_put (cs:=wrC cb l p hv pv) hw.blk 9 hv' rfl,Kd.R_mono (Kd.R_far (p:=⟨wb,9,none⟩) (Kd.R_types hr hw.blk (by decide)) (fun k hk=>hk.2) _) (fun _ _=>trivial),Kd.R_mono (Kd.R_far (p:=⟨wb,9,none⟩) (Kd.R_types hw.rows hw.blk (by decide)) (fun k hk=>hk.2) _) (fun _ _=>trivial),fun k e=>(hX k e).1,hw.rowsX,⟨blk_far hw.cut.st hw.cne _,C_blk hw.cut.rd (fun a e=>Below.heap_setCell _ _ _ _ (hw.cutX a e).2.2.2.1),hw.cut.cap⟩,fun a e=>?_,hw.self,hw.cself,hw.above,hw.cabove⟩
 obtain⟨h1,h2,h3,h4,h5,h6,h7⟩:=hw.cutX a e
 exact⟨h1,Nat.lt_of_lt_of_le h2 (KeepsWalks.setCell _ _ _).size,h3,h4,h5,fun hh=>(hX _ hh).2 a e rfl,h7⟩
theorem AtP.cutTo {c':Nat} {all':Int} {left':List Int} (h:AtP w B l g wb cb N F M S p hv pv A c) (hk:Keeps (fun k=>k=cb) w w') (hc:CutO w' cb p.c.piece all' A' c' left') (hA:∀a,A'=some a→w.heap.size≤a.block∧a.block < w'.heap.size):
  AtP w' B l g wb cb N F M S {p with all:=all',left:=left'} hv pv A' c':=by
 have hw:=h.wr
 have hcb:=hw.cut.st
 have hne:∀{k:Nat},LX F l k→¬k=cb:=fun hx e=>hw.cself (e ▸ hx)
 refine⟨h.disk.keep hk (fun k hf e=>hne (.inl hf) e),LogO.keepT h.log hk (fun e=>h.cne e.symm) (fun k e=>⟨_,_,e ▸ hcb,by decide⟩),?_⟩
 refine⟨hk.obj hw.blk (fun e=>hw.cne e.symm),rowK rfl hw.held hk (fun j hj e=>?_),rowK rfl hw.rows hk (fun j hj e=>?_),hw.heldX,hw.rowsX,hc,fun a e=>?_,hw.self,hw.cself,hw.above,hw.cabove⟩
 ·obtain⟨y,hy⟩:=ownT hw.held hj
  exact clash hy (e ▸ hcb) (by decide)
 ·obtain⟨y,hy⟩:=ownT hw.rows hj
  exact clash hy (e ▸ hcb) (by decide)
 ·obtain⟨h1,h2⟩:=hA a e
  have hB:B≤w.heap.size:=Nat.le_trans h.log.above (Nat.le_of_lt h.log.lt)
  refine⟨by omega,h2,fun hx=>by have:=h.xlt _ hx;omega,fun e=>by have:=hw.lt;omega,fun e=>by have:=blk_lt hcb;omega,fun e=>by have:=Kd.R_lt hw.held _ e;omega,fun e=>by have:=Kd.R_lt hw.rows _ e;omega⟩
def WTo (w w':World) (B l g wb cb N:Nat) (F:Nat→Prop) (pv:Value) (q:St):Prop:=
 ∃F' hv' pv' A' c',AtP w' B l g wb cb N F' q.1 q.2.1 q.2.2 hv' pv' A' c'∧(∀k,F k→F' k)∧(∀k,F' k→F k∨w.heap.size≤k)∧(∀k,pv'.ownBlock=some k→pv.ownBlock=some k∨w.heap.size≤k)∧Keeps (fun k=>LX F l k∨k=wb∨k=cb∨some k=pv.ownBlock) w w'
theorem WTo.mono {N':Nat} {q:St} (h:WTo w w' B l g wb cb N F pv q) (hN:N≤N'):WTo w w' B l g wb cb N' F pv q:=by
 obtain⟨F',hv',pv',A',c',h1,h2⟩:=h
 exact⟨F',hv',pv',A',c',h1.mono hN,h2⟩
theorem WTo.here {q:St} (h:AtP w' B l g wb cb N F q.1 q.2.1 q.2.2 hv' pv A' c) (hk:Keeps (fun k=>LX F l k∨k=wb∨k=cb∨some k=pv.ownBlock) w w'):WTo w w' B l g wb cb N F pv q:=⟨F,hv',pv,A',c,h,fun _ h=>h,fun _ h=>.inl h,fun _ h=>.inl h,hk⟩
theorem WTo.of_p {q:St} (hk:Keeps (fun k=>LX F l k∨k=wb∨k=cb∨some k=pv.ownBlock) w w1) (h:PTo w1 w' B l g wb cb N F pv q hv A c):WTo w w' B l g wb cb N F pv q:=by
 obtain⟨F',pv',h1,h2,h3,h4,h5⟩:=h
 exact⟨F',hv,pv',A,c,h1,h2,fun k hk'=>(h3 k hk').imp id (fun h=>Nat.le_trans hk.size h),fun k hk'=>(h4 k hk').imp id (fun h=>Nat.le_trans hk.size h),Rc.Keeps.trans_new hk h5 (fun k _ hg=>by
  rcases hg with hg | hg | hg
  ·exact .inl hg
  ·exact .inr (.inl hg)
  ·exact .inr (.inr (.inr hg)))⟩
theorem chunk_len {k:Nat} (hk:0 < k):∀(f:Nat) (l:List Int),(chunk k f l).1.length≤l.length
 | 0,l=>Nat.zero_le _
 | f+1,l=>by
  unfold chunk
  split
  ·rename_i hl
   have:=chunk_len hk f (l.drop k)
   rw[List.length_drop] at this
   simp only[List.length_cons]
   omega
  ·exact Nat.zero_le _
theorem chunk_mem {k:Nat}:∀(f:Nat) (l:List Int),∀x∈(chunk k f l).1,∀y∈x,y∈l
 | 0,l,x,hx,y,hy=>by cases hx
 | f+1,l,x,hx,y,hy=>by
  unfold chunk at hx
  split at hx
  ·rcases List.mem_cons.1 hx with rfl | hx
   ·exact List.mem_of_mem_take hy
   ·exact List.mem_of_mem_drop (chunk_mem f (l.drop k) x hx y hy)
  ·cases hx
theorem Write_calls (h:AtP w B l g wb cb N F M S p hv pv A c) (hM:Fit M) (hsl:S.man.segs.length≤1000000) (hN:N+16000000≤1000000000000) (hk1:1≤p.c.piece) (hk2:p.c.piece≤4096) (b:List Int) (hp:p.pieces.length≤500000) (hl:p.left.length+(p.held.length+b.length)≤500000) (hx:IsBytes (p.left++(p.held++b))) (Ab:Option Addr) (c6:Nat) (hc6:b.length≤c6) (hrd:∀W,Keeps (fun k=>k=wb) w W→Kd.C (Kd.int .u8) W Ab b.length b):
  Calls Tryz.prog 14 #[ptr wb,.slice Ab b.length c6] w fun e w'=>e=.returned (.int .i64 (writeM (M,S,p) b).2)∧WTo w w' B l g wb cb (N+16000000) F pv (writeM (M,S,p) b).1:=by
 have HH:=ak h
 have HM:=ak hM
 have HSL:=ak hsl
 have HN:=ak hN
 have HK:=ak (And.intro hk1 hk2)
 have HP:=ak hp
 have HL:=ak hl
 have HX:=ak hx
 have HRD:=ak hrd
 have HC6:=ak hc6
 have HST:=ak (state_calls h.wr)
 have hdef:writeM (M,S,p) b=if stateM p≠0 then((M,S,p),stateM p) else if(b.length:Int) > wrap64 (p.c.max - p.size) then((M,S,p),2) else if(heldIn p b).size≤p.c.small then((M,S,heldIn p b),0) else eachM (cutW p.c.piece (p.left++(p.held++b))).1 (M,S,cutIn (heldIn p b) (p.held++b)):=rfl
 generalize writeM (M,S,p) b=R at hdef ⊢
 generalize stateM p=st at hdef HST
 have HDEF:=ak hdef
 clear hdef h hM hsl hN hk1 hk2 hp hl hx hrd hc6
 go_enter Tryz.func14,Tryz.ntmps14
 by_cases hs:st=0
 case neg=>
  have d1:(st !=0)=true:=bne_iff_ne.mpr hs
  have hdef:=HDEF.out
  rw[if_pos hs] at hdef
  have HD:=ak hdef
  clear hdef hs HDEF
  go_wp2_with (go_at_call 36;(with_reducible refine HST.out.mono ?_);rintro e w1 ⟨rfl,rfl⟩)
  go_ret
  rw[HD.out]
  exact⟨rfl,WTo.here (HH.out.mono (by omega)) (Keeps.refl _ _)⟩
 subst hs
 have hdef:=HDEF.out
 rw[if_neg (fun h=>h rfl)] at hdef
 have HD:=ak hdef
 clear hdef HDEF
 go_upto_region 4 with(go_at_call 36;(with_reducible refine HST.out.mono ?_);rintro e w1 ⟨rfl,rfl⟩)
 have y6:=bq HH.out.wr.blk 6 (.int .i64 p.c.max)
 have y10:=bq HH.out.wr.blk 10 (.int .i64 p.size)
 go_quiet (fail)
 have HB2:=ak (pw_below_drewN (RowKit.Below.refl w1.heap.size w1) nq)
 have HH2:=ak (HH.out.below HB2.out)
 have HRD2:=ak (fun W hW=>HRD.out W ((Keeps.of_below HB2.out).trans hW))
 clear HRD HST y6 y10
 generalize w1.drewN nq=w2 at HB2 HH2 HRD2 ⊢
 by_cases hmx:(b.length:Int) > wrap64 (p.c.max - p.size)
 case pos=>
  have d1:decide (wrap64 (p.c.max - p.size) < (b.length:Int))=true:=decide_eq_true hmx
  have hd:=HD.out
  rw[if_pos hmx] at hd
  have HD1:=ak hd
  clear hd hmx HD
  rw[d1]
  go_wp2
  go_ret
  rw[HD1.out]
  exact⟨rfl,WTo.here (HH2.out.mono (by omega)) (Keeps.of_below HB2.out)⟩
 have d1:decide (wrap64 (p.c.max - p.size) < (b.length:Int))=false:=decide_eq_false hmx
 have hd:=HD.out
 rw[if_neg hmx] at hd
 have HD1:=ak hd
 clear hd hmx HD
 rw[d1]
 have x10:=bq HH2.out.wr.blk 10 (.int .i64 p.size)
 have z10:=blk_frozen HH2.out.wr.blk 10
 go_upto_region 7 with(fail)
 have HH3:=ak (HH2.out.store (p':={p with size:=wrap64 (p.size+b.length)}) 10 (.int .i64 (wrap64 (p.size+b.length))) rfl rfl rfl rfl rfl rfl)
 have HK3:=ak (show Keeps (fun k=>k=wb) w2 (w2.setCell ⟨wb,10,none⟩ (.int .i64 (wrap64 (p.size+b.length)))) from(Keeps.refl _ _).set rfl)
 clear x10 z10 d1
 generalize w2.setCell ⟨wb,10,none⟩ (.int .i64 (wrap64 (p.size+b.length)))=w3 at HH3 HK3 ⊢
 have HB3:=ak (HRD2.out w3 HK3.out)
 obtain⟨Ah,ch,hhv⟩:=Kd.R_slice HH3.out.wr.held
 subst hhv
 have HC:=ak (Kd.R_reads' HH3.out.wr.held).2
 have x9:=bq HH3.out.wr.blk 9 (.slice Ah p.held.length ch)
 go_upto_region 8 with(go_at_call 37;refine(concat_calls (some ⟨w3.heap.size,0,none⟩) 2 [p.held,b] _ (by rw[flatN,flat_two,List.length_append];have:=HL.out;omega) (C_two w3 Ah Ab p.held.length ch c6 _ 35 p.held b HC.out.1 HC6.out rfl rfl HC.out.2 HB3.out)).mono ?_;rintro e w4 ⟨v2,rfl,hv2,hb2⟩;have HBE4:=ak ((below_alloc (RowKit.Below.refl w3.heap.size w3) _).trans (hb2.mono (by simp)));rw[flat_two] at hv2;obtain⟨A2,c2,rfl⟩:=own_slice hv2;have HV2:=ak (own_weaken hv2 (show w3.heap.size≤_ by simp only[World.size_alloc];omega));clear hb2 hv2;have HH4:=ak (HH3.out.below HBE4.out);have z9:=blk_frozen HH4.out.wr.blk 9;have y9:=bq HH4.out.wr.blk 9 (.slice Ah p.held.length ch))
 have hlen:p.held.length+b.length=(p.held++b).length:=List.length_append.symm
 have hl8:=HL.out
 rw[hlen] at hl8 ⊢
 have HL8:=ak hl8
 clear hlen hl8 HL
 obtain⟨xs,hxs⟩:∃x,p.held++b=x:=⟨_,rfl⟩
 rw[hxs] at HV2 HL8 HX HD1 ⊢
 have hB4:B≤w3.heap.size:=Nat.le_trans HH3.out.log.above (Nat.le_of_lt HH3.out.log.lt)
 have HH5:=ak (HH4.out.setHeld (hv':=.slice A2 xs.length c2) (R_ints (own_weaken HV2.out hB4)) (fun k e=>⟨fun hx=>by have h1:=own_base HV2.out k e;have h2:=HH3.out.xlt _ hx;omega,fun a ha=>by have h1:=own_base HV2.out k e;have h2:=(HH3.out.wr.cutX a ha).2.1;omega⟩))
 have HK5:=ak (show Keeps (fun k=>k=wb) w1 (w4.setCell ⟨wb,9,none⟩ (.slice A2 xs.length c2)) from(((Keeps.of_below HB2.out).trans HK3.out).trans (Keeps.of_below HBE4.out)).set rfl)
 dsimp only at HH5
 clear HH HH2 HH3 HH4 HK3 HB2 HB3 HBE4 HV2 HRD2 HC x9 z9 y9 hB4
 generalize w4.setCell ⟨wb,9,none⟩ (.slice A2 xs.length c2)=w5 at HH5 HK5 ⊢
 obtain⟨sz,hsz⟩:∃x,wrap64 (p.size+b.length)=x:=⟨_,rfl⟩
 have hi:heldIn p b={p with size:=sz,held:=xs}:=by unfold heldIn;rw[hsz,hxs]
 have hd:=HD1.out
 rw[hi] at hd
 dsimp only at hd
 have HD2:=ak hd
 rw[hsz] at HH5 ⊢
 clear hd hi hsz hxs HD1
 have y10:=bq HH5.out.wr.blk 10 (.int .i64 sz)
 have y5:=bq HH5.out.wr.blk 5 (.int .i64 p.c.small)
 go_wp2
 go_quiet (fail)
 have HB6:=ak (pw_below_drewN (RowKit.Below.refl w5.heap.size w5) nq)
 have HH6:=ak (HH5.out.below HB6.out)
 have HK6:=ak (HK5.out.trans (Keeps.of_below HB6.out))
 clear HH5 HK5 HB6 y10 y5
 generalize w5.drewN nq=w6 at HH6 HK6 ⊢
 by_cases hsm:sz≤p.c.small
 case pos=>
  have d1:decide (sz≤p.c.small)=true:=decide_eq_true hsm
  have hd:=HD2.out
  rw[if_pos hsm] at hd
  have HD3:=ak hd
  clear hd hsm HD2
  rw[d1]
  go_wp2
  go_ret
  rw[HD3.out]
  exact⟨rfl,WTo.here (HH6.out.mono (by omega)) (HK6.out.mono (fun k hk=>.inr (.inl hk)))⟩
 have d1:decide (sz≤p.c.small)=false:=decide_eq_false hsm
 have hd:=HD2.out
 rw[if_neg hsm] at hd
 have HD3:=ak hd
 clear hd hsm HD2
 rw[d1]
 clear d1
 have y0:=bq HH6.out.wr.blk 0 (ptr cb)
 have y9:=bq HH6.out.wr.blk 9 (.slice A2 xs.length c2)
 have HCW:=ak (fun W (hW:RowKit.Below w6.heap.size w6 W)=>by
  have h:=HH6.out.below hW
  exact Go.Proofs.YtcieieacfoaklaaGreat.Ct.write_calls W cb p.c.piece p.all HK.out.1 HK.out.2 A c p.left h.wr.cut (fun a e=>(h.wr.cutX a e).2.2.2.2.1) A2 c2 xs (Kd.R_reads' h.wr.held).2.2 (Kd.R_reads' h.wr.held).2.1 (fun a e e2=>by
   obtain⟨y,hy⟩:=ownT h.wr.held (k:=cb) (by rw[e,← e2];rfl)
   exact clash hy h.wr.cut.st (by decide)) (by have:=HL8.out;omega))
 go_upto_region 10 with(fail)
 go_region_held3 (fun w'=>w'.cell? ⟨wb,0,none⟩=some (ptr cb)∧w'.cell? ⟨wb,9,none⟩=some (.slice A2 xs.length c2))
  (first | go_keep | exact KP.out | fail)
  ((go_at_call 38;(with_reducible refine(HCW.out _ (below_drew1 (RowKit.Below.refl _ _))).mono ?_);rintro e w7 ⟨v7,A7,c7,rfl,h7⟩;have H7:=ak h7;have KP:=ak (show w7.cell? ⟨wb,0,none⟩=some (ptr cb)∧w7.cell? ⟨wb,9,none⟩=some (.slice A2 xs.length c2) from by
   have h8:=h7.2.2.2.obj (HH6.out.below (below_drew1 (RowKit.Below.refl _ _))).wr.blk (fun e=>HH6.out.wr.cne e.symm)
   exact⟨(blk_cell h8 0).trans rfl,(blk_cell h8 9).trans rfl⟩);clear h7))
 all_goals
  obtain⟨h7a,h7b,h7c,h7d⟩:=H7.out
  have hd6:RowKit.Below w6.heap.size w6 w6.drew:=below_drew1 (RowKit.Below.refl _ _)
  have h6d:=HH6.out.below hd6
  have h7:=h6d.cutTo h7d h7b h7c
  have z9:=blk_frozen h7.wr.blk 9
  have x9:=KP.out.2
  have HH8:=ak (show AtP (w7.setCell ⟨wb,9,none⟩ (.slice none 0 0)) B l g wb cb N F M S {p with all:=wrap64 (p.all+xs.length),left:=(cutW p.c.piece (p.left++xs)).2,held:=[],size:=sz} (.slice none 0 0) pv A7 c7 from h7.setHeld (hv':=.slice none 0 0) (xs:=[]) (Kd.R_nil ..) (fun k e=>by simp [Value.ownBlock] at e))
  have HK8:=ak (show Keeps (fun k=>k=wb∨k=cb) w1 (w7.setCell ⟨wb,9,none⟩ (.slice none 0 0)) from(((HK6.out.mono (fun k hk=>.inl hk)).trans (Keeps.of_below hd6)).trans (h7d.mono (fun k hk=>.inr hk))).set (.inl rfl))
  have HS8:=ak (Kd.S_far (p:=⟨wb,9,none⟩) (Kd.S_bound h7a) (fun k hk=>by have h1:=hk.2.1;have h2:=HH6.out.wr.lt;have h3:=hd6.size;simp only;omega) (.slice none 0 0))
  obtain⟨Al,cl,hv7,hrd⟩:=rowsB (G:=fun k=>LX F l k∨k=wb∨some k=pv.ownBlock) HS8.out (fun k hk=>by
   have h3:=hd6.size
   rcases hk with hk | hk | hk
   ·have:=HH6.out.xlt k hk;omega
   ·have:=HH6.out.wr.lt;omega
   ·have:=Kd.R_lt HH6.out.wr.rows k hk.symm;omega)
  subst hv7
  have hcl:=chunk_len (k:=p.c.piece.toNat) (by have:=HK.out.1;omega) (p.left++xs).length (p.left++xs)
  rw[show chunk p.c.piece.toNat (p.left++xs).length (p.left++xs)=cutW p.c.piece (p.left++xs) from rfl,List.length_append] at hcl
  have HCL:=ak hcl
  have hcm:∀x∈(cutW p.c.piece (p.left++xs)).1,IsBytes x:=fun x hx y hy=>HX.out y (chunk_mem _ _ x hx y hy)
  have HEA:=ak (each_calls HH8.out HM.out HSL.out _ (by have:=HN.out;have:=HL8.out;omega) (by have:=HP.out;have:=HL8.out;dsimp only;omega) hcm Al cl hrd)
  have HD4:=ak (show R=eachM (cutW p.c.piece (p.left++xs)).1 (M,S,{p with all:=wrap64 (p.all+xs.length),left:=(cutW p.c.piece (p.left++xs)).2,held:=[],size:=sz}) from HD3.out)
  clear h7a h7b h7c h7d hd6 h6d h7 hrd hcl hcm HD3 H7 KP HH6 HK6 HS8 HCW HX HC6 y0 y9
  go_upto_region 12 with(fail)
  generalize w7.setCell ⟨wb,9,none⟩ (.slice none 0 0)=w8 at HH8 HK8 HEA ⊢
  clear z9 x9
  go_wp2_with (go_at_call 39;(with_reducible refine HEA.out.mono ?_);rintro e w9 ⟨rfl,h9⟩;have H9:=ak h9;clear h9)
  go_ret
  rw[HD4.out]
  exact⟨rfl,(WTo.of_p (HK8.out.mono (fun k hk=>hk.elim (fun e=>.inr (.inl e)) (fun e=>.inr (.inr (.inl e))))) H9.out).mono (by have:=HCL.out;have:=HL8.out;omega)⟩
end Pw
end
section
namespace Pw
open Go.Shelf Go.Maps Fr Ext Pt Go.Proofs.YtcieieacfoaklaaGreat.Nm Dk Mn Pu Ct Lg
open Rc (Re Lo withinB keyB zeroR recC Norm Norm.intro Norm.elim)
variable {w w' w1:World} {B l g wb cb c N:Nat} {M M':DiskM} {F F' G:Nat→Prop} {S S':LogS} {p p':Wr} {hv pv hv' pv':Value} {A A':Option Addr}
theorem record_short (h:AtP w B l g wb cb N F M S p hv pv A c) (hs:p.size≤p.c.small):Calls Tryz.prog 41 #[ptr wb] w fun e w'=>∃Ah ch,hv=.slice Ah p.held.length ch∧e=.returned (.tuple #[.agg (recC (inlineR p) none 0 Ah ch),.int .i64 0])∧RowKit.Below w.heap.size w w':=by
 obtain⟨Ah,ch,hhv⟩:=Kd.R_slice h.wr.held
 subst hhv
 have h0:=heap_alloc_new w (.cells (recC zeroR none 0 none 0) 38)
 have hb:=below_alloc (RowKit.Below.refl w.heap.size w) (.cells (recC zeroR none 0 none 0) 38)
 have HH:=ak h
 have HS:=ak hs
 have HB:=ak hb
 clear h hs hb
 go_enter Tryz.func41,Tryz.ntmps41
 go_upto_region 1 with(fail)
 generalize hw1:w.alloc (.cells #[.int .i64 0,.string ⟨#[]⟩,.int .i64 0,.int .i64 0,.int .i64 0,.slice none 0 0,.slice none 0 0] 38)=w1
 have h1:w1.heap[w.heap.size]? =some (.cells (recC zeroR none 0 none 0) 38 (0,0)):=hw1 ▸ h0
 have HB1:=ak (show RowKit.Below w.heap.size w w1 from hw1 ▸ HB.out)
 clear h0 HB hw1
 have H1:=ak h1
 have HH1:=ak (HH.out.below HB1.out)
 have y10:=bq HH1.out.wr.blk 10 (.int .i64 p.size)
 have y5:=bq HH1.out.wr.blk 5 (.int .i64 p.c.small)
 clear h1
 go_quiet (fail)
 have d1:decide (p.size≤p.c.small)=true:=decide_eq_true HS.out
 rw[d1]
 have HB2:=ak (pw_below_drewN (RowKit.Below.refl w1.heap.size w1) nq)
 have H2:=ak ((HB2.out.block _ (blk_lt H1.out)).trans H1.out)
 have HH2:=ak (HH1.out.below HB2.out)
 have HB3:=ak (HB1.out.trans (HB2.out.mono HB1.out.size))
 clear y10 y5 HB2 H1 HH1 HB1
 generalize w1.drewN nq=w2 at HB3 H2 HH2 ⊢
 obtain⟨rb,hrb⟩:∃rb,w.heap.size=rb:=⟨_,rfl⟩
 rw[hrb] at H2 ⊢
 have y2:=bq HH2.out.wr.blk 2 (.string p.key)
 have y9:=bq HH2.out.wr.blk 9 (.slice Ah p.held.length ch)
 have x0:=bq H2.out 0 (.int .i64 0)
 have x1:=bq H2.out 1 (.string ⟨#[]⟩)
 have x2:=bq H2.out 2 (.int .i64 0)
 have x3:=bq H2.out 3 (.int .i64 0)
 have x4:=bq H2.out 4 (.int .i64 0)
 have x5:=bq H2.out 5 (.slice none 0 0)
 have x6:=bq H2.out 6 (.slice none 0 0)
 have z0:=blk_frozen H2.out 0
 have z1:=blk_frozen H2.out 1
 have z2:=blk_frozen H2.out 2
 have z3:=blk_frozen H2.out 3
 have z4:=blk_frozen H2.out 4
 have z5:=blk_frozen H2.out 5
 have z6:=blk_frozen H2.out 6
 clear d1
 go_upto_region 2 with(fail)
 refine Code.wp_mono (Q:=Norm fun a' W=>a'={tmps:=#[ptr wb,undef,.pointer (some ⟨rb,0,none⟩),.int .i64 0,undef,ptr wb,.pointer (some ⟨wb,0,none⟩),.pointer (some ⟨wb,10,none⟩),.int .i64 p.size,ptr wb,.pointer (some ⟨wb,0,none⟩),.pointer (some ⟨wb,4,none⟩),.pointer (some ⟨wb,5,none⟩),.int .i64 p.c.small,.bool true,ptr wb,.pointer (some ⟨wb,0,none⟩),.pointer (some ⟨wb,2,none⟩),.string p.key,ptr wb,.pointer (some ⟨wb,0,none⟩),.pointer (some ⟨wb,9,none⟩),.slice Ah p.held.length ch,.agg #[.int .i64 3,.string p.key,.int .i64 0,.int .i64 0,.int .i64 0,.slice none 0 0,.slice Ah p.held.length ch],undef,undef,undef,undef,undef,undef,undef,undef,undef,undef,undef,undef,undef,undef,undef,undef,undef,undef,undef,undef,undef,undef,undef,undef,undef,undef,undef,undef,undef,undef,undef,undef,undef,undef],defers:=[]}∧W=(((((((w2.setCell ⟨rb,0,none⟩ (.int .i64 3)).setCell ⟨rb,1,none⟩ (.string p.key)).setCell ⟨rb,2,none⟩ (.int .i64 0)).setCell ⟨rb,3,none⟩ (.int .i64 0)).setCell ⟨rb,4,none⟩ (.int .i64 0)).setCell ⟨rb,5,none⟩ (.slice none 0 0)).setCell ⟨rb,6,none⟩ (.slice Ah p.held.length ch)).drew) (Norm.elim ?mono) ?reg
 case reg=>
  go_region_with (fail)
  all_goals exact Norm.intro ⟨rfl,rfl⟩
 case mono=>
  rintro a' W ⟨rfl,rfl⟩
  dsimp only
  go_wp2
  refine bodyPost_ret (results_ct rfl _ _ rb 38 (recC (inlineR p) none 0 Ah ch) (0,0) _ rfl (blk_drew (blk_put (blk_put (blk_put (blk_put (blk_put (blk_put (blk_put (H2.out) 0 _ rfl) 1 _ rfl) 2 _ rfl) 3 _ rfl) 4 _ rfl) 5 _ rfl) 6 _ rfl)) Tryz.underlying38 rfl (by kernel_rfl)) rfl ?_
  have hk:∀{i:Nat} {v:Value} {W:World},RowKit.Below w.heap.size w W→RowKit.Below w.heap.size w (W.setCell ⟨rb,i,none⟩ v):=fun h=>h.setCell (p:=⟨rb,_,none⟩) (Nat.le_of_eq hrb) _
  exact⟨Ah,ch,rfl,rfl,below_drew1 (hk (hk (hk (hk (hk (hk (hk HB3.out)))))))⟩
theorem AtP.aside {rb T:Nat} {cells:Array Value} (h:AtP w B l g wb cb N F M S p hv pv A c) (hk:Keeps (fun k=>k=rb) w w') (hx:¬LX F l rb) (hb:w.heap[rb]? =some (.cells cells T (0,0))) (hA:∀a,A=some a→a.block≠rb) (h1:T≠3) (h2:T≠5) (h3:T≠57) (h4:T≠88) (h5:T≠117):AtP w' B l g wb cb N F M S p hv pv A c:=by
 have hw:=h.wr
 refine⟨h.disk.keep hk (fun k hf e=>hx (.inl (e ▸ hf))),LogO.keepT h.log hk (fun e=>hx (.inr e.symm)) (fun k e=>⟨_,_,e ▸ hb,h1⟩),?_⟩
 refine⟨hk.obj hw.blk (fun e=>clash hb (e ▸ hw.blk) h4),rowK rfl hw.held hk (fun j hj e=>?_),rowK rfl hw.rows hk (fun j hj e=>?_),hw.heldX,hw.rowsX,⟨hk.obj hw.cut.st (fun e=>clash hb (e ▸ hw.cut.st) h5),C_blk hw.cut.rd (fun a e=>hk.block _ (hw.cutX a e).2.1 (hA a e)),hw.cut.cap⟩,fun a e=>?_,hw.self,hw.cself,hw.above,hw.cabove⟩
 ·obtain⟨y,hy⟩:=ownT hw.held hj
  exact clash hb (e ▸ hy) h2
 ·obtain⟨y,hy⟩:=ownT hw.rows hj
  exact clash hb (e ▸ hy) h3
 ·have:=hw.cutX a e
  exact⟨this.1,Nat.lt_of_lt_of_le this.2.1 hk.size,this.2.2⟩
def Rows5 (w:World) (F:Nat→Prop) (l:Nat) (R:Re) (A5 A6:Option Addr):Prop:=∀W,Keeps (LX F l) w W→Kd.C k57 W A5 R.f5.length R.f5∧Kd.C (Kd.int .u8) W A6 R.f6.length R.f6
theorem AtP.rows5 (h:AtP w B l g wb cb N F M S p hv pv A c):∃Ap cp,pv=.slice Ap p.pieces.length cp∧Rows5 w F l (rootR p) Ap none:=by
 obtain⟨Ap,cp,rfl⟩:=Kd.R_slice h.wr.rows
 exact⟨Ap,cp,rfl,fun W hW=>⟨(Kd.R_reads' (rowK rfl h.wr.rows hW h.wr.rowsX)).2.2,Kd.C_nil _ _⟩⟩
theorem AtP.rows6 (h:AtP w B l g wb cb N F M S p hv pv A c):∃Ah ch,hv=.slice Ah p.held.length ch∧Rows5 w F l (inlineR p) none Ah:=by
 obtain⟨Ah,ch,rfl⟩:=Kd.R_slice h.wr.held
 exact⟨Ah,ch,rfl,fun W hW=>⟨Kd.C_nil _ _,(Kd.R_reads' (rowK rfl h.wr.held hW h.wr.heldX)).2.2⟩⟩
def RTo (w w':World) (B l g wb cb N:Nat) (F:Nat→Prop) (pv:Value) (A:Option Addr) (q:St) (R:Re) (A5 A6:Option Addr):Prop:=
 ∃F' hv' pv' A' c',AtP w' B l g wb cb N F' q.1 q.2.1 q.2.2 hv' pv' A' c'∧(∀k,F k→F' k)∧(∀k,F' k→F k∨w.heap.size≤k)∧(∀k,pv'.ownBlock=some k→pv.ownBlock=some k∨w.heap.size≤k)∧Keeps (fun k=>LX F l k∨k=wb∨k=cb∨some k=pv.ownBlock) w w'∧(∀a,A'=some a→A=some a)∧Rows5 w' F' l R A5 A6
theorem AtP.rest (h:AtP w B l g wb cb N F M S p hv pv A c):AtP (w.setCell ⟨cb,2,none⟩ (.slice none 0 0)) B l g wb cb N F M S {p with left:=[]} hv pv none 0∧∀W,Keeps (LX F l) (w.setCell ⟨cb,2,none⟩ (.slice none 0 0)) W→Kd.C (Kd.int .u8) W A p.left.length p.left:=by
 have hk:Keeps (fun k=>k=cb) w (w.setCell ⟨cb,2,none⟩ (.slice none 0 0)):=(Keeps.refl _ _).set rfl
 refine⟨h.cutTo (all':=p.all) hk ⟨blk_put h.wr.cut.st 2 (.slice none 0 0) rfl,Kd.C_nil _ _,Nat.le_refl _⟩ (fun a e=>by cases e),fun W hW=>?_⟩
 refine C_blk h.wr.cut.rd (fun a e=>?_)
 obtain⟨h1,h2,h3,h4,h5,h6,h7⟩:=h.wr.cutX a e
 exact(hW.block _ (Nat.lt_of_lt_of_le h2 hk.size) h3).trans (hk.block _ h2 h5)
theorem recM_short {q:St} (h:q.2.2.size≤q.2.2.c.small):recM q=(q,inlineR q.2.2,0):=if_pos h
theorem recM_whole {q:St} (h:¬q.2.2.size≤q.2.2.c.small) (hl:q.2.2.left=[]):recM q=(q,rootR q.2.2,0):=(if_neg h).trans (if_pos hl)
theorem recM_left {q:St} (h:¬q.2.2.size≤q.2.2.c.small) (hl:¬q.2.2.left=[]):recM q=if(pieceM (q.1,q.2.1,{q.2.2 with left:=[]}) q.2.2.left).2=0 then((pieceM (q.1,q.2.1,{q.2.2 with left:=[]}) q.2.2.left).1,rootR (pieceM (q.1,q.2.1,{q.2.2 with left:=[]}) q.2.2.left).1.2.2,0)
  else((pieceM (q.1,q.2.1,{q.2.2 with left:=[]}) q.2.2.left).1,zeroR,(pieceM (q.1,q.2.1,{q.2.2 with left:=[]}) q.2.2.left).2):=(if_neg h).trans (if_neg hl)
theorem record_long (h:AtP w B l g wb cb N F M S p hv pv A c) (hM:Fit M) (hsl:S.man.segs.length≤1000000) (hN:N+32≤1000000000000) (hn:p.pieces.length≤999999) (hs:¬p.size≤p.c.small):
  Calls Tryz.prog 41 #[ptr wb] w fun e w'=>∃A5 A6,(∃c5 c6,e=.returned (.tuple #[.agg (recC (recM (M,S,p)).2.1 A5 c5 A6 c6),.int .i64 (recM (M,S,p)).2.2]))∧RTo w w' B l g wb cb (N+32) F pv A (recM (M,S,p)).1 (recM (M,S,p)).2.1 A5 A6:=by
 have hw:=recM_whole (q:=(M,S,p)) hs
 have hl:=recM_left (q:=(M,S,p)) hs
 dsimp only at hw hl
 generalize recM (M,S,p)=Q at hw hl ⊢
 have h0:=heap_alloc_new w (.cells (recC zeroR none 0 none 0) 38)
 have hb:=below_alloc (RowKit.Below.refl w.heap.size w) (.cells (recC zeroR none 0 none 0) 38)
 have HH:=ak h
 have HS:=ak hs
 have HB:=ak hb
 have HM:=ak hM
 have HSL:=ak hsl
 have HN:=ak hN
 have HNP:=ak hn
 have HW:=ak hw
 have HL:=ak hl
 clear h hs hb hM hsl hN hn hw hl
 go_enter Tryz.func41,Tryz.ntmps41
 go_upto_region 1 with(fail)
 generalize hw1:w.alloc (.cells #[.int .i64 0,.string ⟨#[]⟩,.int .i64 0,.int .i64 0,.int .i64 0,.slice none 0 0,.slice none 0 0] 38)=w1
 have h1:w1.heap[w.heap.size]? =some (.cells (recC zeroR none 0 none 0) 38 (0,0)):=hw1 ▸ h0
 have HB1:=ak (show RowKit.Below w.heap.size w w1 from hw1 ▸ HB.out)
 clear h0 HB hw1
 have H1:=ak h1
 have HH1:=ak (HH.out.below HB1.out)
 have y10:=bq HH1.out.wr.blk 10 (.int .i64 p.size)
 have y5:=bq HH1.out.wr.blk 5 (.int .i64 p.c.small)
 clear h1
 go_quiet (fail)
 have d1:decide (p.size≤p.c.small)=false:=decide_eq_false HS.out
 rw[d1]
 have HB2:=ak (pw_below_drewN (RowKit.Below.refl w1.heap.size w1) nq)
 have H2:=ak ((HB2.out.block _ (blk_lt H1.out)).trans H1.out)
 have HH2:=ak (HH1.out.below HB2.out)
 have HB3:=ak (HB1.out.trans (HB2.out.mono HB1.out.size))
 clear y10 y5 HB2 H1 HH1 HB1 d1 HS
 generalize w1.drewN nq=w2 at HB3 H2 HH2 ⊢
 obtain⟨rb,hrb⟩:∃rb,w.heap.size=rb:=⟨_,rfl⟩
 rw[hrb] at H2 ⊢
 have HRB:=ak hrb
 clear hrb
 have y0:=bq HH2.out.wr.blk 0 (ptr cb)
 have HLE:=ak (left_calls HH2.out.wr.cut)
 go_upto_if 29 with(go_at_call 70;(with_reducible refine HLE.out.mono ?_);rintro e w3 ⟨rfl,hw⟩;obtain rfl:=hw.symm)
 go_cut [] (fun wc=>Aside0 (∃F' hv' pv' A' c',AtP wc B l g wb cb (N+32) F' Q.1.1 Q.1.2.1 Q.1.2.2 hv' pv' A' c'∧(∀k,F k→F' k)∧(∀k,F' k→F k∨w.heap.size≤k)∧(∀k,pv'.ownBlock=some k→pv.ownBlock=some k∨w.heap.size≤k)∧Keeps (fun k=>LX F l k∨k=wb∨k=cb∨some k=pv.ownBlock) w wc∧Q.2.1=rootR Q.1.2.2∧Q.2.2=0∧wc.heap[rb]? =some (.cells (recC zeroR none 0 none 0) 38 (0,0))∧¬LX F' l rb∧∀a,A'=some a→A=some a))
 case first=>
  by_cases hl0:p.left=[]
  ·have d:decide ((p.left.length:Int) > 0)=false:=decide_eq_false (by rw[hl0];exact Int.lt_irrefl 0)
   have d':decide (0 < (p.left.length:Int))=false:=d
   have d2:decide (0 < p.left.length)=false:=decide_eq_false (by rw[hl0];exact Nat.lt_irrefl 0)
   have HQ:=ak (HW.out hl0)
   clear hl0
   rw[d2]
   go_wp2
   go_meet
   case rel=>
    rw[HQ.out]
    exact⟨F,hv,pv,A,c,HH2.out.mono (by omega),fun _ h=>h,fun _ h=>.inl h,fun _ h=>.inl h,Keeps.of_below HB3.out,rfl,rfl,H2.out,fun hk=>by have h1:=HH.out.xlt _ hk;have h2:=HRB.out;omega,fun a e=>e⟩
  ·have hl1:0 < p.left.length:=List.length_pos_iff.2 hl0
   have d:decide ((p.left.length:Int) > 0)=true:=decide_eq_true (by omega)
   have d':decide (0 < (p.left.length:Int))=true:=d
   have d2:decide (0 < p.left.length)=true:=decide_eq_true hl1
   have hq:=HL.out hl0
   have HH4:=ak HH2.out.rest
   have hpc:=piece_calls HH4.out.1 HM.out HSL.out HN.out p.left A c (by have:=HNP.out;show p.pieces.length≤_;omega) HH4.out.2
   have hsz:w2.heap.size≤(w2.setCell ⟨cb,2,none⟩ (.slice none 0 0)).heap.size:=(KeepsWalks.setCell _ _ _).size
   have hk4:Keeps (fun k=>k=cb) w2 (w2.setCell ⟨cb,2,none⟩ (.slice none 0 0)):=(Keeps.refl _ _).set rfl
   have HR:=ak (rest_calls HH2.out.wr.cut)
   generalize pieceM (M,S,{p with left:=[]}) p.left=r at hq hpc
   have HPC:=ak hpc
   have HQ:=ak hq
   have HK4:=ak hk4
   clear hpc hq hsz hk4 hl0 hl1 HW HL
   rw[d2]
   go_upto_region 5 with(first
    | (go_at_call 71;(with_reducible refine HR.out.mono ?_);rintro e w4 ⟨rfl,rfl⟩)
    | (go_at_call 40;(with_reducible refine HPC.out.mono ?_);rintro e w5 ⟨rfl,h5⟩;have H5:=ak h5;clear h5))
   obtain⟨F5,pv5,k1,k2,k3,k4,k5⟩:=H5.out
   have hs4:w2.heap.size≤(w2.setCell ⟨cb,2,none⟩ (.slice none 0 0)).heap.size:=HK4.out.size
   have hrb4:rb < (w2.setCell ⟨cb,2,none⟩ (.slice none 0 0)).heap.size:=Nat.lt_of_lt_of_le (blk_lt H2.out) hs4
   have hnx:∀k,LX F l k→k < rb:=fun k hk=>HRB.out ▸ HH.out.xlt k hk
   have hnw:wb < rb:=HRB.out ▸ HH.out.wr.lt
   have hnp:∀k,some k=pv.ownBlock→k < rb:=fun k hk=>HRB.out ▸ Kd.R_lt HH.out.wr.rows k hk.symm
   have hnc:cb < rb:=HRB.out ▸ blk_lt HH.out.wr.cut.st
   have hb5:w5.heap[rb]? =some (.cells (recC zeroR none 0 none 0) 38 (0,0)):=k5.obj (HK4.out.obj H2.out (fun e=>by omega)) (fun hk=>by
    rcases hk with hk | hk | hk
    ·have:=hnx _ hk;omega
    ·omega
    ·have:=hnp _ hk;omega)
   have k3':∀k,F5 k→F k∨w.heap.size≤k:=fun k hk=>(k3 k hk).imp id (fun h=>Nat.le_trans (Nat.le_trans HB3.out.size hs4) h)
   have k4':∀k,pv5.ownBlock=some k→pv.ownBlock=some k∨w.heap.size≤k:=fun k hk=>(k4 k hk).imp id (fun h=>Nat.le_trans (Nat.le_trans HB3.out.size hs4) h)
   have k5':Keeps (fun k=>LX F l k∨k=wb∨k=cb∨some k=pv.ownBlock) w w5:=((Keeps.of_below HB3.out).trans (HK4.out.mono (fun k hk=>.inr (.inr (.inl hk))))).trans (k5.mono (fun k hk=>by
    rcases hk with hk | hk | hk
    ·exact .inl hk
    ·exact .inr (.inl hk)
    ·exact .inr (.inr (.inr hk))))
   have hx5:¬LX F5 l rb:=fun hk=>by
    rcases hk with hk | hk
    ·rcases k3 _ hk with hk | hk
     ·have:=hnx _ (.inl hk);omega
     ·omega
    ·have:=hnx _ (.inr rfl);omega
   have K1:=ak k1
   have K2:=ak k2
   have K3:=ak k3'
   have K4:=ak k4'
   have K5:=ak k5'
   have HX5:=ak hx5
   have HB5:=ak hb5
   clear k1 k2 k3 k4 k5 k3' k4' k5' hx5 hb5 hs4 hrb4 hnx hnw hnp hnc H5 HPC HR HH4 HK4 HH2 H2 HLE HB3 y0
   obtain⟨r1,r2⟩:=r
   dsimp only at HQ K1 ⊢
   by_cases he:r2=0
   ·subst he
    have HQ2:=ak (HQ.out.trans (if_pos rfl))
    clear HQ
    go_wp2
    go_meet
    case rel=>
     rw[HQ2.out]
     exact⟨F5,hv,pv5,none,0,K1.out,K2.out,K3.out,K4.out,K5.out,rfl,rfl,HB5.out,HX5.out,fun a e=>by cases e⟩
   ·have HQ2:=ak (HQ.out.trans (if_neg he))
    have d3:(r2 !=0)=true:=bne_iff_ne.mpr he
    clear HQ he
    have x0:=bq HB5.out 0 (.int .i64 0)
    have x1:=bq HB5.out 1 (.string ⟨#[]⟩)
    have x2:=bq HB5.out 2 (.int .i64 0)
    have x3:=bq HB5.out 3 (.int .i64 0)
    have x4:=bq HB5.out 4 (.int .i64 0)
    have x5:=bq HB5.out 5 (.slice none 0 0)
    have x6:=bq HB5.out 6 (.slice none 0 0)
    have z0:=blk_frozen HB5.out 0
    have z1:=blk_frozen HB5.out 1
    have z2:=blk_frozen HB5.out 2
    have z3:=blk_frozen HB5.out 3
    have z4:=blk_frozen HB5.out 4
    have z5:=blk_frozen HB5.out 5
    have z6:=blk_frozen HB5.out 6
    go_wp2
    refine bodyPost_ret (results_ct rfl _ _ rb 38 (recC zeroR none 0 none 0) (0,0) _ rfl (blk_put (blk_put (blk_put (blk_put (blk_put (blk_put (blk_put HB5.out 0 _ rfl) 1 _ rfl) 2 _ rfl) 3 _ rfl) 4 _ rfl) 5 _ rfl) 6 _ rfl) Tryz.underlying38 rfl (by kernel_rfl)) rfl ?_
    have hk6:=((((((((Keeps.refl (fun k=>k=rb) w5).set (j:=0) (u:=.int .i64 0) rfl).set (j:=1) (u:=.string ⟨#[]⟩) rfl).set (j:=2) (u:=.int .i64 0) rfl).set (j:=3) (u:=.int .i64 0) rfl).set (j:=4) (u:=.int .i64 0) rfl).set (j:=5) (u:=.slice none 0 0) rfl).set (j:=6) (u:=.slice none 0 0) rfl)
    rw[HQ2.out]
    exact⟨none,none,⟨0,0,rfl⟩,F5,hv,pv5,none,0,K1.out.aside hk6 HX5.out HB5.out (fun a e=>by cases e) (by decide) (by decide) (by decide) (by decide) (by decide),K2.out,K3.out,K4.out,Rc.Keeps.trans_new K5.out hk6 (fun k hk e=>by have:=HRB.out;omega),fun a e=>(by cases e),fun W hW=>⟨Kd.C_nil _ _,Kd.C_nil _ _⟩⟩
 case rest=>
  obtain⟨F6,hv6,pv6,A6,c6,k1,k2,k3,k4,k5,k6,k7,k8,k9,k10⟩:=hcut.out
  clear hcut
  obtain⟨⟨M6,S6,p6⟩,R6,e6⟩:=Q
  dsimp only at k1 k6 k7 ⊢
  subst k6 k7
  obtain⟨Ap,cp,rfl,-⟩:=k1.rows5
  have K1:=ak k1
  have K2:=ak k2
  have K3:=ak k3
  have K4:=ak k4
  have K5:=ak k5
  have K8:=ak k8
  have K9:=ak k9
  have K10:=ak k10
  clear k1 k2 k3 k4 k5 k8 k9 k10 HH2 HLE HW HL HB3 H2 y0
  have y2:=bq K1.out.wr.blk 2 (.string p6.key)
  have y3:=bq K1.out.wr.blk 3 (.int .i64 p6.id)
  have y10:=bq K1.out.wr.blk 10 (.int .i64 p6.size)
  have y11:=bq K1.out.wr.blk 11 (.slice Ap p6.pieces.length cp)
  have x0:=bq K8.out 0 (.int .i64 0)
  have x1:=bq K8.out 1 (.string ⟨#[]⟩)
  have x2:=bq K8.out 2 (.int .i64 0)
  have x3:=bq K8.out 3 (.int .i64 0)
  have x4:=bq K8.out 4 (.int .i64 0)
  have x5:=bq K8.out 5 (.slice none 0 0)
  have x6:=bq K8.out 6 (.slice none 0 0)
  have z0:=blk_frozen K8.out 0
  have z1:=blk_frozen K8.out 1
  have z2:=blk_frozen K8.out 2
  have z3:=blk_frozen K8.out 3
  have z4:=blk_frozen K8.out 4
  have z5:=blk_frozen K8.out 5
  have z6:=blk_frozen K8.out 6
  go_upto_region 7 with(fail)
  refine Code.wp_mono (Q:=Norm fun a' W=>a'.tmps.getD 2 undef=.pointer (some ⟨rb,0,none⟩)∧a'.tmps.getD 3 undef=.int .i64 0∧a'.defers=[]∧W=(((((((wc.setCell ⟨rb,0,none⟩ (.int .i64 2)).setCell ⟨rb,1,none⟩ (.string p6.key)).setCell ⟨rb,2,none⟩ (.int .i64 p6.id)).setCell ⟨rb,3,none⟩ (.int .i64 0)).setCell ⟨rb,4,none⟩ (.int .i64 p6.size)).setCell ⟨rb,5,none⟩ (.slice Ap p6.pieces.length cp)).setCell ⟨rb,6,none⟩ (.slice none 0 0)).drew) (Norm.elim ?mono) ?reg
  case reg=>
   go_region_with (fail)
   all_goals exact Norm.intro ⟨rfl,rfl,rfl,rfl⟩
  case mono=>
   rintro ⟨ts,ds⟩ W ⟨q1,q2,q3,rfl⟩
   have Q1:=ak q1
   have Q2:=ak q2
   have Q3:=ak q3
   clear q1 q2 q3
   go_wp2
   refine bodyPost_ret (results_ct rfl _ _ rb 38 (recC (rootR p6) Ap cp none 0) (0,0) _ Q1.out (blk_drew (blk_put (blk_put (blk_put (blk_put (blk_put (blk_put (blk_put K8.out 0 _ rfl) 1 _ rfl) 2 _ rfl) 3 _ rfl) 4 _ rfl) 5 _ rfl) 6 _ rfl)) Tryz.underlying38 rfl (by kernel_rfl)) Q3.out ?_
   have hk6:=(((((((((Keeps.refl (fun k=>k=rb) wc).set (j:=0) (u:=.int .i64 2) rfl).set (j:=1) (u:=.string p6.key) rfl).set (j:=2) (u:=.int .i64 p6.id) rfl).set (j:=3) (u:=.int .i64 0) rfl).set (j:=4) (u:=.int .i64 p6.size) rfl).set (j:=5) (u:=.slice Ap p6.pieces.length cp) rfl).set (j:=6) (u:=.slice none 0 0) rfl)).drew
   rw[Q2.out]
   have h9:=K1.out.aside hk6 K9.out K8.out (fun a e=>by have h1:=(HH.out.wr.cutX a (K10.out a e)).2.1;have h2:=HRB.out;omega) (by decide) (by decide) (by decide) (by decide) (by decide)
   obtain⟨Aq,cq,eq,hrow⟩:=h9.rows5
   cases eq
   exact⟨Ap,none,⟨cp,0,rfl⟩,F6,hv6,_,A6,c6,h9,K2.out,K3.out,K4.out,Rc.Keeps.trans_new K5.out hk6 (fun k hk e=>by have:=HRB.out;omega),K10.out,hrow⟩
theorem record_calls (h:AtP w B l g wb cb N F M S p hv pv A c) (hM:Fit M) (hsl:S.man.segs.length≤1000000) (hN:N+32≤1000000000000) (hn:p.pieces.length≤999999):
  Calls Tryz.prog 41 #[ptr wb] w fun e w'=>∃A5 A6,(∃c5 c6,e=.returned (.tuple #[.agg (recC (recM (M,S,p)).2.1 A5 c5 A6 c6),.int .i64 (recM (M,S,p)).2.2]))∧RTo w w' B l g wb cb (N+32) F pv A (recM (M,S,p)).1 (recM (M,S,p)).2.1 A5 A6:=by
 by_cases hs:p.size≤p.c.small
 ·rw[recM_short (q:=(M,S,p)) hs]
  refine(record_short h hs).mono ?_
  rintro e w' ⟨Ah,ch,rfl,rfl,hb⟩
  have h2:=(h.mono (show N≤N+32 by omega)).below hb
  obtain⟨Aq,cq,eq,hrow⟩:=h2.rows6
  cases eq
  exact⟨none,Ah,⟨0,ch,rfl⟩,F,_,pv,A,c,h2,fun _ h=>h,fun _ h=>.inl h,fun _ h=>.inl h,Keeps.of_below hb,fun a e=>e,hrow⟩
 ·exact record_long h hM hsl hN hn hs
end Pw
end
section
namespace Pw
open Go.Shelf Go.Maps Fr Ext Pt Go.Proofs.YtcieieacfoaklaaGreat.Nm Dk Mn Pu Ct Lg
open Rc (Re Lo withinB keyB zeroR recC Norm Norm.intro Norm.elim)
variable {w w' w1:World} {B l g wb cb c N:Nat} {M M':DiskM} {F F' G:Nat→Prop} {S S':LogS} {p p':Wr} {hv pv hv' pv':Value} {A A':Option Addr}
abbrev placeV (x:Pl):Array Value:=#[.int .i64 x.seg,.int .i64 x.kind,.string x.key,.int .i64 x.at_,.int .i64 x.size]
theorem recM_wf (q:St):(Lit.int .i64 (recM q).2.1.f0).wf=true:=by
 unfold recM
 split
 ·rfl
 split
 ·rfl
 split <;> rfl
theorem recM_len (q:St):(recM q).2.1.f5.length≤q.2.2.pieces.length+1:=by
 unfold recM
 split
 ·exact Nat.zero_le _
 split
 ·exact Nat.le_succ _
 split
 ·exact pieceM_len q.1 q.2.1 {q.2.2 with left:=[]} q.2.2.left
 ·exact Nat.zero_le _
theorem recM_fit {q:St} (h:Fit q.1) (hx:IsBytes q.2.2.left):Fit (recM q).1.1:=by
 unfold recM
 split
 ·exact h
 split
 ·exact h
 split <;> exact pieceM_fit h q.2.1 {q.2.2 with left:=[]} hx
theorem recM_segs {q:St} (h:q.2.1.man.segs.length≤1000000):(recM q).1.2.1.man.segs.length≤1000000:=by
 unfold recM
 split
 ·exact h
 split
 ·exact h
 split <;> exact pieceM_segs (M:=q.1) q.2.1 {q.2.2 with left:=[]} q.2.2.left h
theorem keeps5 (w:World) (zb:Nat) (a b c d e:Value):Keeps (fun k=>k=zb) w (((((w.setCell ⟨zb,0,none⟩ a).setCell ⟨zb,1,none⟩ b).setCell ⟨zb,2,none⟩ c).setCell ⟨zb,3,none⟩ d).setCell ⟨zb,4,none⟩ e):=((((((Keeps.refl (fun k=>k=zb) w).set rfl).set rfl).set rfl).set rfl).set rfl)
theorem put5 {w:World} {zb:Nat} {x:Pl} (h:w.heap[zb]? =some (.cells (placeV x) 47 (0,0))) (y:Pl):(((((w.setCell ⟨zb,0,none⟩ (.int .i64 y.seg)).setCell ⟨zb,1,none⟩ (.int .i64 y.kind)).setCell ⟨zb,2,none⟩ (.string y.key)).setCell ⟨zb,3,none⟩ (.int .i64 y.at_)).setCell ⟨zb,4,none⟩ (.int .i64 y.size)).heap[zb]? =some (.cells (placeV y) 47 (0,0)):=
 blk_put (blk_put (blk_put (blk_put (blk_put h 0 _ rfl) 1 _ rfl) 2 _ rfl) 3 _ rfl) 4 _ rfl
theorem commit_st (q:St) (h:stateM q.2.2≠0):commitM q=(q,noPl,stateM q.2.2):=if_pos h
theorem commit_ok (q:St) (h:stateM q.2.2=0):commitM q=commitR (recM q):=if_neg (fun e=>e h)
theorem commit_calls (h:AtP w B l g wb cb N F M S p hv pv A c) (hM:Fit M) (hsl:S.man.segs.length≤1000000) (hN:N+64≤1000000000000) (hn:p.pieces.length≤999999) (hx:IsBytes p.left):
  Calls Tryz.prog 15 #[ptr wb] w fun e w'=>e=.returned (.tuple #[.agg (placeV (commitM (M,S,p)).2.1),.int .i64 (commitM (M,S,p)).2.2])∧WTo w w' B l g wb cb (N+64) F pv (commitM (M,S,p)).1:=by
 have hs:=commit_st (M,S,p)
 have hr:=commit_ok (M,S,p)
 have hwf:=recM_wf (M,S,p)
 have hlen:=recM_len (M,S,p)
 have hfit:=recM_fit (q:=(M,S,p)) hM hx
 have hseg:=recM_segs (q:=(M,S,p)) hsl
 dsimp only at hs hr hlen
 generalize commitM (M,S,p)=CM at hs hr ⊢
 have h0:=heap_alloc_new w (.cells (placeV noPl) 47)
 have hb:=below_alloc (RowKit.Below.refl w.heap.size w) (.cells (placeV noPl) 47)
 have hrc:=fun W (hW:RowKit.Below w.heap.size w W)=>record_calls (h.below hW) hM hsl (show N+32≤1000000000000 by omega) hn
 generalize recM (M,S,p)=Q at hr hwf hlen hfit hseg hrc
 obtain⟨⟨M1,S1,p1⟩,R,e1⟩:=Q
 dsimp only at hwf hlen hfit hseg hrc
 simp only[recC] at hrc
 have HH:=ak h
 have HS:=ak hs
 have HR:=ak hr
 have HWF:=ak hwf
 have HLEN:=ak (show R.f5.length≤1000000 by omega)
 have HFIT:=ak hfit
 have HSEG:=ak hseg
 have HN:=ak hN
 have HB:=ak hb
 have HRC:=ak hrc
 clear h hM hsl hN hn hx hs hr hwf hlen hfit hseg hb hrc
 go_enter Tryz.func15,Tryz.ntmps15
 go_upto_region 1 with(fail)
 generalize hw1:w.alloc (.cells #[.int .i64 0,.int .i64 0,.string ⟨#[]⟩,.int .i64 0,.int .i64 0] 47)=w1
 have H1:=ak (show w1.heap[w.heap.size]? =some (.cells (placeV noPl) 47 (0,0)) from hw1 ▸ h0)
 have HB1:=ak (show RowKit.Below w.heap.size w w1 from hw1 ▸ HB.out)
 clear h0 HB hw1
 have HH1:=ak (HH.out.below HB1.out)
 obtain⟨zb,hzb⟩:∃zb,w.heap.size=zb:=⟨_,rfl⟩
 rw[hzb] at H1 ⊢
 have HZB:=ak hzb
 clear hzb
 have HST:=ak (state_calls HH1.out.wr)
 obtain⟨st,hst⟩:∃st,stateM p=st:=⟨_,rfl⟩
 rw[hst] at HS HR HST
 clear hst
 by_cases hst:st=0
 case neg=>
  have d1:(st !=0)=true:=bne_iff_ne.mpr hst
  have HC:=ak (HS.out hst)
  clear HS HR hst
  have x0:=bq H1.out 0 (.int .i64 0)
  have x1:=bq H1.out 1 (.int .i64 0)
  have x2:=bq H1.out 2 (.string ⟨#[]⟩)
  have x3:=bq H1.out 3 (.int .i64 0)
  have x4:=bq H1.out 4 (.int .i64 0)
  have z0:=blk_frozen H1.out 0
  have z1:=blk_frozen H1.out 1
  have z2:=blk_frozen H1.out 2
  have z3:=blk_frozen H1.out 3
  have z4:=blk_frozen H1.out 4
  go_wp2_with (go_at_call 36;(with_reducible refine HST.out.mono ?_);rintro e w2 ⟨rfl,hw⟩;obtain rfl:=hw.symm)
  refine bodyPost_ret (results_ct rfl _ _ zb 47 (placeV noPl) (0,0) _ rfl (put5 H1.out noPl) Tryz.underlying47 rfl (by kernel_rfl)) rfl ?_
  rw[HC.out]
  refine⟨rfl,WTo.here (HH1.out.aside (keeps5 _ zb _ _ _ _ _) (fun hk=>?_) H1.out (fun a e=>?_) (by decide) (by decide) (by decide) (by decide) (by decide) |>.mono (by omega)) (Rc.Keeps.trans_new (Keeps.of_below HB1.out) (keeps5 _ zb _ _ _ _ _) (fun k hk e=>by have:=HZB.out;omega))⟩
  ·have h1:=HH.out.xlt _ hk
   have h2:=HZB.out
   omega
  ·have h1:=(HH.out.wr.cutX a e).2.1
   have h2:=HZB.out
   omega
 subst hst
 have HC:=ak (HR.out rfl)
 clear HS HR
 have HRC1:=ak (HRC.out _ HB1.out)
 clear HRC
 go_upto_region 5 with(first
  | (go_at_call 36;(with_reducible refine HST.out.mono ?_);rintro e w2 ⟨rfl,hw⟩;obtain rfl:=hw.symm)
  | (go_at_call 41;(with_reducible refine HRC1.out.mono ?_);rintro e w3 ⟨A5,A6,⟨c5,c6,rfl⟩,h3⟩;have H3:=ak h3;clear h3))
 clear HST HRC1
 obtain⟨F3,hv3,pv3,A3,c3,k1,k2,k3,k4,k5,k6,k7⟩:=H3.out
 have hs4:=heap_alloc_new w3 (.cells (recC R A5 c5 A6 c6) 38)
 have hb4:=below_alloc (RowKit.Below.refl w3.heap.size w3) (.cells (recC R A5 c5 A6 c6) 38)
 have hzw:zb < w1.heap.size:=blk_lt H1.out
 have hz3:w3.heap[zb]? =some (.cells (placeV noPl) 47 (0,0)):=k5.obj H1.out (fun hk=>by
  have h0:=HZB.out
  rcases hk with hk | hk | hk | hk
  ·have:=HH.out.xlt _ hk;omega
  ·have:=HH.out.wr.lt;omega
  ·have:=blk_lt HH.out.wr.cut.st;omega
  ·have:=Kd.R_lt HH.out.wr.rows _ hk.symm;omega)
 have hx3:∀k,LX F3 l k→LX F l k∨w1.heap.size≤k:=fun k hk=>by
  rcases hk with hk | hk
  ·exact(k3 k hk).imp .inl id
  ·exact .inl (.inr hk)
 have HX3:=ak (show ¬LX F3 l zb from fun hk=>by
  have h0:=HZB.out
  rcases hx3 _ hk with hk | hk
  ·have:=HH.out.xlt _ hk;omega
  ·omega)
 have HA3:=ak (show ∀a,A3=some a→a.block < zb from fun a e=>by have h1:=(HH.out.wr.cutX a (k6 a e)).2.1;have h2:=HZB.out;omega)
 have HXL:=ak k1.xlt
 have HW3:=ak k1.wr.lt
 have HZ3:=ak (blk_lt hz3)
 have K5:=ak (show Keeps (fun k=>LX F l k∨k=wb∨k=cb∨some k=pv.ownBlock) w w3 from(Keeps.of_below HB1.out).trans k5)
 have K2:=ak k2
 have K3:=ak (show ∀k,F3 k→F k∨w.heap.size≤k from fun k hk=>(k3 k hk).imp id (fun h=>Nat.le_trans HB1.out.size h))
 have K4:=ak (show ∀k,pv3.ownBlock=some k→pv.ownBlock=some k∨w.heap.size≤k from fun k hk=>(k4 k hk).imp id (fun h=>Nat.le_trans HB1.out.size h))
 simp only[recC] at hs4 hb4
 generalize hw4:w3.alloc (.cells #[.int .i64 R.f0,.string R.f1,.int .i64 R.f2,.int .i64 R.f3,.int .i64 R.f4,.slice A5 R.f5.length c5,.slice A6 R.f6.length c6] 38)=w4 at hs4 hb4 ⊢
 have K1:=ak (k1.below hb4)
 have K7:=ak (show Rows5 w4 F3 l R A5 A6 from fun W hW=>k7 W ((Keeps.of_below hb4).trans hW))
 have HZ4:=ak ((hb4.block _ HZ3.out).trans hz3)
 have K54:=ak (K5.out.trans (Keeps.of_below hb4))
 have hlt4:w3.heap.size < w4.heap.size:=blk_lt hs4
 have HS4:=ak hs4
 obtain⟨sb,hsb⟩:∃sb,w3.heap.size=sb:=⟨_,rfl⟩
 rw[hsb] at HS4 HXL HW3 HZ3 ⊢
 have HSZ:=ak (show w.heap.size≤w4.heap.size from K54.out.size)
 clear k1 k2 k3 k4 k5 k6 k7 hs4 hb4 hzw hz3 hx3 hw4 hlt4 hsb H3 K5 HB1 HH1 H1
 by_cases he1:e1=0
 case neg=>
  have d1:(e1 !=0)=true:=bne_iff_ne.mpr he1
  have HC1:=ak (HC.out.trans (show commitR ((M1,S1,p1),R,e1)=((M1,S1,p1),noPl,e1) from if_neg he1))
  clear HC he1
  have x0:=bq HZ4.out 0 (.int .i64 0)
  have x1:=bq HZ4.out 1 (.int .i64 0)
  have x2:=bq HZ4.out 2 (.string ⟨#[]⟩)
  have x3:=bq HZ4.out 3 (.int .i64 0)
  have x4:=bq HZ4.out 4 (.int .i64 0)
  have z0:=blk_frozen HZ4.out 0
  have z1:=blk_frozen HZ4.out 1
  have z2:=blk_frozen HZ4.out 2
  have z3:=blk_frozen HZ4.out 3
  have z4:=blk_frozen HZ4.out 4
  go_wp2
  refine bodyPost_ret (results_ct rfl _ _ zb 47 (placeV noPl) (0,0) _ rfl (put5 HZ4.out noPl) Tryz.underlying47 rfl (by kernel_rfl)) rfl ?_
  rw[HC1.out]
  exact⟨rfl,F3,hv3,pv3,A3,c3,(K1.out.aside (keeps5 _ zb _ _ _ _ _) HX3.out HZ4.out (fun a e=>by have:=HA3.out a e;omega) (by decide) (by decide) (by decide) (by decide) (by decide)).mono (by omega),K2.out,K3.out,K4.out,Rc.Keeps.trans_new K54.out (keeps5 _ zb _ _ _ _ _) (fun k hk e=>by have:=HZB.out;omega)⟩
 subst he1
 have hadd:=add_calls K1.out HFIT.out HSEG.out (show N+32+32≤1000000000000 by have:=HN.out;omega) R A5 A6 c5 c6 HWF.out (fun W hW=>(K7.out W hW).1) (by have:=HLEN.out;omega) (fun W hW=>(K7.out W hW).2)
 have hc:=HC.out
 rw[show commitR ((M1,S1,p1),R,0)=commitEnd p1 R (laddM M1 S1 R) from if_pos rfl] at hc
 generalize laddM M1 S1 R=r at hadd hc
 obtain⟨M5,S5,x0,x1,x2,x3⟩:=r
 dsimp only at hadd
 simp only[recC] at hadd
 have HADD:=ak hadd
 have HC1:=ak hc
 clear hadd hc HC HFIT HSEG HWF HLEN K7
 have y0:=bq HS4.out 0 (.int .i64 R.f0)
 have y1:=bq HS4.out 1 (.string R.f1)
 have y2:=bq HS4.out 2 (.int .i64 R.f2)
 have y3:=bq HS4.out 3 (.int .i64 R.f3)
 have y4:=bq HS4.out 4 (.int .i64 R.f4)
 have y5:=bq HS4.out 5 (.slice A5 R.f5.length c5)
 have y6:=bq HS4.out 6 (.slice A6 R.f6.length c6)
 go_upto_region 8 with(go_at_call 42;(with_reducible refine HADD.out.mono ?_);rintro e w5 ⟨rfl,h5⟩;have H5:=ak h5;clear h5)
 obtain⟨F5,g1,g2,g3,g4⟩:=H5.out
 have hnz:¬(LX F3 l zb∨zb=wb):=fun hk=>by
  rcases hk with hk | hk
  ·exact HX3.out hk
  ·have:=HH.out.wr.lt;have:=HZB.out;omega
 have hns:¬(LX F3 l sb∨sb=wb):=fun hk=>by
  rcases hk with hk | hk
  ·have:=HXL.out _ hk;omega
  ·have:=HW3.out;omega
 have HZ5:=ak (g4.obj HZ4.out hnz)
 have HS5:=ak (g4.obj HS4.out hns)
 have HX5:=ak (show ¬LX F5 l zb from fun hk=>by
  rcases hk with hk | hk
  ·rcases g3 _ hk with hk | hk
   ·exact HX3.out (.inl hk)
   ·have:=blk_lt HZ4.out;omega
  ·exact HX3.out (.inr hk))
 have G2:=ak (show ∀k,F k→F5 k from fun k hk=>g2 k (K2.out k hk))
 have G3:=ak (show ∀k,F5 k→F k∨w.heap.size≤k from fun k hk=>by
  rcases g3 k hk with hk | hk
  ·exact K3.out k hk
  ·exact .inr (Nat.le_trans HSZ.out hk))
 have G4:=ak (show Keeps (fun k=>LX F l k∨k=wb∨k=cb∨some k=pv.ownBlock) w w5 from Rc.Keeps.trans_new K54.out g4 (fun k hk hg=>by
  rcases hg with(hg | hg) | hg
  ·rcases K3.out k hg with hg | hg
   ·exact .inl (.inl hg)
   ·omega
  ·exact .inl (.inr hg)
  ·exact .inr (.inl hg)))
 have G1:=ak g1
 clear g1 g2 g3 g4 hnz hns H5 HADD y0 y1 y2 y3 y4 y5 y6 HZ4 HS4 K54 K1 K2 K3 HX3 HXL HW3 HSZ
 have a0:=bq HZ5.out 0 (.int .i64 0)
 have a1:=bq HZ5.out 1 (.int .i64 0)
 have a2:=bq HZ5.out 2 (.string ⟨#[]⟩)
 have a3:=bq HZ5.out 3 (.int .i64 0)
 have a4:=bq HZ5.out 4 (.int .i64 0)
 have z0:=blk_frozen HZ5.out 0
 have z1:=blk_frozen HZ5.out 1
 have z2:=blk_frozen HZ5.out 2
 have z3:=blk_frozen HZ5.out 3
 have z4:=blk_frozen HZ5.out 4
 by_cases he:x3=0
 case neg=>
  have d1:(x3 !=0)=true:=bne_iff_ne.mpr he
  have HC2:=ak (HC1.out.trans (show commitEnd p1 R (M5,S5,x0,x1,x2,x3)=((M5,S5,{p1 with spoilt:=true}),noPl,x3) from if_neg he))
  have g1:=G1.out
  rw[show decide (x3≠0)=true from decide_eq_true he] at g1
  have G1:=ak g1
  clear HC1 he g1
  go_wp2
  refine bodyPost_ret (results_ct rfl _ _ zb 47 (placeV noPl) (0,0) _ rfl (put5 HZ5.out noPl) Tryz.underlying47 rfl (by kernel_rfl)) rfl ?_
  rw[HC2.out]
  exact⟨rfl,F5,hv3,pv3,A3,c3,G1.out.aside (keeps5 _ zb _ _ _ _ _) HX5.out HZ5.out (fun a e=>by have:=HA3.out a e;omega) (by decide) (by decide) (by decide) (by decide) (by decide),G2.out,G3.out,K4.out,Rc.Keeps.trans_new G4.out (keeps5 _ zb _ _ _ _ _) (fun k hk e=>by have:=HZB.out;omega)⟩
 subst he
 have HC2:=ak (HC1.out.trans (show commitEnd p1 R (M5,S5,x0,x1,x2,0)=((M5,S5,{p1 with spoilt:=false,done:=true}),⟨x0,R.f0,p1.key,x1,x2⟩,0) from if_pos rfl))
 have g1:=G1.out
 rw[show decide ((0:Int)≠0)=false from rfl] at g1
 have b13:=bq g1.wr.blk 13 (.bool p1.done)
 have f13:=blk_frozen g1.wr.blk 13
 have hzw:zb≠wb:=fun e=>by have:=HH.out.wr.lt;have:=HZB.out;omega
 have hsw:sb≠wb:=fun e=>clash HS5.out (e ▸ g1.wr.blk) (by decide)
 have G1:=ak (g1.store (p':={p1 with spoilt:=false,done:=true}) 13 (.bool true) rfl rfl rfl rfl rfl rfl)
 have HZ6:=ak (blk_far (p:=⟨wb,13,none⟩) HZ5.out hzw (.bool true))
 have HS6:=ak (blk_far (p:=⟨wb,13,none⟩) HS5.out hsw (.bool true))
 have G4:=ak (G4.out.set (g:=wb) (j:=13) (u:=.bool true) (.inr (.inl rfl)))
 clear HC1 g1 hzw hsw a0 a1 a2 a3 a4 z0 z1 z2 z3 z4
 go_upto_region 11 with(fail)
 clear b13 f13
 generalize w5.setCell ⟨wb,13,none⟩ (.bool true)=w6 at G1 G4 HZ6 HS6 ⊢
 have a0:=bq HZ6.out 0 (.int .i64 0)
 have a1:=bq HZ6.out 1 (.int .i64 0)
 have a2:=bq HZ6.out 2 (.string ⟨#[]⟩)
 have a3:=bq HZ6.out 3 (.int .i64 0)
 have a4:=bq HZ6.out 4 (.int .i64 0)
 have z0:=blk_frozen HZ6.out 0
 have z1:=blk_frozen HZ6.out 1
 have z2:=blk_frozen HZ6.out 2
 have z3:=blk_frozen HZ6.out 3
 have z4:=blk_frozen HZ6.out 4
 have y0:=bq HS6.out 0 (.int .i64 R.f0)
 have y2:=bq G1.out.wr.blk 2 (.string p1.key)
 refine Code.wp_mono (Q:=Norm fun a' W=>a'.tmps.getD 2 undef=.pointer (some ⟨zb,0,none⟩)∧a'.tmps.getD 3 undef=.int .i64 0∧a'.defers=[]∧W=(((((w6.setCell ⟨zb,0,none⟩ (.int .i64 x0)).setCell ⟨zb,1,none⟩ (.int .i64 R.f0)).setCell ⟨zb,2,none⟩ (.string p1.key)).setCell ⟨zb,3,none⟩ (.int .i64 x1)).setCell ⟨zb,4,none⟩ (.int .i64 x2)).drew) (Norm.elim ?mono) ?reg
 case reg=>
  go_region_with (fail)
  all_goals exact Norm.intro ⟨rfl,rfl,rfl,rfl⟩
 case mono=>
  rintro ⟨ts,ds⟩ W ⟨q1,q2,q3,rfl⟩
  have Q1:=ak q1
  have Q2:=ak q2
  have Q3:=ak q3
  clear q1 q2 q3
  go_wp2
  refine bodyPost_ret (results_ct rfl _ _ zb 47 (placeV ⟨x0,R.f0,p1.key,x1,x2⟩) (0,0) _ Q1.out (blk_drew (put5 HZ6.out ⟨x0,R.f0,p1.key,x1,x2⟩)) Tryz.underlying47 rfl (by kernel_rfl)) Q3.out ?_
  rw[Q2.out,HC2.out]
  have hk:=(keeps5 w6 zb (.int .i64 x0) (.int .i64 R.f0) (.string p1.key) (.int .i64 x1) (.int .i64 x2)).drew
  exact⟨rfl,F5,hv3,pv3,A3,c3,G1.out.aside hk HX5.out HZ6.out (fun a e=>by have:=HA3.out a e;omega) (by decide) (by decide) (by decide) (by decide) (by decide),G2.out,G3.out,K4.out,Rc.Keeps.trans_new G4.out hk (fun k hk e=>by have:=HZB.out;omega)⟩
end Pw
end
section
namespace Pw
open Go.Shelf Go.Maps Fr Ext Pt
variable {W w w' w1:World}
abbrev Lo8:=S57
theorem rd_lo {xs:List Lo8} {k:Nat} (hk:k < xs.length):rd_T57 xs (k:Int)=xs[k]:=by
 unfold rd_T57
 rw[Int.toNat_natCast,List.getD_eq_getElem?_getD,List.getElem?_eq_getElem hk];rfl
theorem at_lo {W:World} {a0:Option Addr} {xs:List Lo8} (hr:Kd.C k57 W a0 xs.length xs) (k:Nat) (hk:k < xs.length):∃ad,a0=some ad∧W.cell? (ad.add (k*3))=some (.int .i64 xs[k].f0)∧W.cell? ⟨(ad.add (k*3)).block,(ad.add (k*3)).off+1,none⟩=some (.int .i64 xs[k].f1)∧W.cell? ⟨(ad.add (k*3)).block,(ad.add (k*3)).off+2,none⟩=some (.int .i64 xs[k].f2):=by
 obtain⟨ad,e,h0,h1,h2⟩:=at_T57 hr (k:Int) (by omega) (by omega)
 rw[rd_lo hk] at h0 h1 h2
 rw[Int.toNat_natCast] at h0 h1 h2
 exact⟨ad,e,h0,h1,h2⟩
abbrev Op8:=S40
def costO (o:Op8):Nat:=o.f1.length+(o.f2.f6.length+(o.f2.f1.size+10*o.f2.f5.length))
theorem rd_op {xs:List Op8} {k:Nat} (hk:k < xs.length):rd_T40 xs (k:Int)=xs[k]:=by
 unfold rd_T40
 rw[Int.toNat_natCast,List.getD_eq_getElem?_getD,List.getElem?_eq_getElem hk];rfl
theorem at_op {W:World} {a0:Option Addr} {xs:List Op8} (hr:Kd.C k40 W a0 xs.length xs) (k:Nat) (hk:k < xs.length):∃ad A1 c1 A7 c7 A8 c8,a0=some ad∧W.cell? (ad.add (k*10))=some (.int .i64 xs[k].f0)∧W.cell? ⟨(ad.add (k*10)).block,(ad.add (k*10)).off+1,none⟩=some (.slice A1 xs[k].f1.length c1)∧W.cell? ⟨(ad.add (k*10)).block,(ad.add (k*10)).off+2,none⟩=some (.int .i64 xs[k].f2.f0)∧W.cell? ⟨(ad.add (k*10)).block,(ad.add (k*10)).off+3,none⟩=some (.string xs[k].f2.f1)∧W.cell? ⟨(ad.add (k*10)).block,(ad.add (k*10)).off+4,none⟩=some (.int .i64 xs[k].f2.f2)∧W.cell? ⟨(ad.add (k*10)).block,(ad.add (k*10)).off+5,none⟩=some (.int .i64 xs[k].f2.f3)∧W.cell? ⟨(ad.add (k*10)).block,(ad.add (k*10)).off+6,none⟩=some (.int .i64 xs[k].f2.f4)∧W.cell? ⟨(ad.add (k*10)).block,(ad.add (k*10)).off+7,none⟩=some (.slice A7 xs[k].f2.f5.length c7)∧W.cell? ⟨(ad.add (k*10)).block,(ad.add (k*10)).off+8,none⟩=some (.slice A8 xs[k].f2.f6.length c8)∧W.cell? ⟨(ad.add (k*10)).block,(ad.add (k*10)).off+9,none⟩=some (.int .i64 xs[k].f3)∧xs[k].f1.length≤c1∧(Kd.int .u8).C W A1 xs[k].f1.length xs[k].f1∧k57.C W A7 xs[k].f2.f5.length xs[k].f2.f5∧(Kd.int .u8).C W A8 xs[k].f2.f6.length xs[k].f2.f6:=by
 obtain⟨ad,A1,c1,A7,c7,A8,c8,e,h0,h1,h2,h3,h4,h5,h6,h7,h8,h9,l1,k1,l7,k7,l8,k8⟩:=at_T40 hr (k:Int) (by omega) (by omega)
 rw[rd_op hk] at h0 h1 h2 h3 h4 h5 h6 h7 h8 h9 l1 k1 k7 k8
 rw[Int.toNat_natCast] at h0 h1 h2 h3 h4 h5 h6 h7 h8 h9
 exact⟨ad,A1,c1,A7,c7,A8,c8,e,h0,h1,h2,h3,h4,h5,h6,h7,h8,h9,l1,k1,k7,k8⟩
def capO (o:Op8):Nat:=min (costO o) 20000
theorem cap_sum:∀(l:List Op8),(l.map capO).sum < 20000→(l.map costO).sum=(l.map capO).sum
 | [],_=>rfl
 | o::l,h=>by
  simp only[List.map_cons,List.sum_cons] at h ⊢
  have h1:costO o=capO o:=by unfold capO at h ⊢;omega
  rw[cap_sum l (by omega),h1]
theorem min_step (a b c d:Nat) (ha:a < 1000000000000000) (hb:b < 1000000000000000) (hc:c < 1000000000000000) (hd:d < 1000000000000000):min (wrap64 (wrap64 (wrap64 ((a:Int)+b)+c)+wrap64 (10*(d:Int)))) 20000=((min (a+(b+(c+10*d))) 20000:Nat):Int):=by
 have h1:wrap64 ((a:Int)+b)=(a:Int)+b:=by unfold wrap64;omega
 rw[h1]
 have h2:wrap64 ((a:Int)+b+c)=(a:Int)+b+c:=by unfold wrap64;omega
 rw[h2]
 have h3:wrap64 (10*(d:Int))=10*(d:Int):=by unfold wrap64;omega
 rw[h3]
 have h4:wrap64 ((a:Int)+b+c+10*(d:Int))=(a:Int)+b+c+10*(d:Int):=by unfold wrap64;omega
 rw[h4]
 omega
theorem wrap_k (k:Nat) (h:k < 100000000000000):wrap64 ((k:Int)+1)=((k+1:Nat):Int):=by unfold wrap64;omega
theorem wrap_at (m n:Nat) (h:m+n≤1000000):wrap64 ((m:Int)+((n:Nat):Int))=((m+n:Nat):Int):=by unfold wrap64;omega
theorem great_calls (a0:Option Addr) (c0:Nat) (xs:List Op8) (hn:xs.length < 100000000000000) (hr:Kd.C k40 w a0 xs.length xs) (hs:∀o∈xs,o.f1.length < 1000000000000000∧o.f2.f6.length < 1000000000000000∧o.f2.f1.size < 1000000000000000∧o.f2.f5.length < 1000000000000000):
  Calls Tryz.prog 10 #[.slice a0 xs.length c0] w fun e w'=>∃b,e=.returned (.bool b)∧RowKit.Below w.heap.size w w'∧(b=false→xs.length≤100∧(xs.map costO).sum≤20000):=by
 have HR:=ak hr
 have HN:=ak hn
 have HS:=ak hs
 clear hr hn hs
 go_enter Tryz.func10,Tryz.ntmps10
 go_wp2
 go_loopg [3,4] xs.length (fun kq v3 v4 wr=>∃(k m:Nat),v3=.int .i64 m∧v4=.int .i64 k∧Aside0 (k+kq=xs.length)∧Aside0 (m=xs.length+((xs.take k).map capO).sum)∧Aside0 (RowKit.Below w.heap.size w wr))
 case atStart=>exact⟨0,xs.length,rfl,rfl,⟨by omega⟩,⟨by simp⟩,⟨RowKit.Below.refl _ _⟩⟩
 case round=>
  obtain⟨k,m,rfl,rfl,HQ,HM,HB⟩:=hrel
  by_cases hm:m < 20000
  case neg=>
   have m1:decide ((m:Int) < 20000)=false:=decide_eq_false (by omega)
   have m2:decide (m < 20000)=false:=decide_eq_false hm
   have m3:decide ((m:Int)≥20000)=true:=decide_eq_true (by omega)
   have m4:decide (m≥20000)=true:=decide_eq_true (by omega)
   have m5:decide (20000≤(m:Int))=true:=m3
   have m6:decide (20000≤m)=true:=m4
   by_cases hk:k < xs.length
   ·have d1:decide ((k:Int) < (xs.length:Int))=true:=decide_eq_true (by omega)
    have d2:decide (k < xs.length)=true:=decide_eq_true hk
    clear hm hk
    go_wp2
    go_ret
    exact⟨_,rfl,HB.out,fun h=>by cases h⟩
   ·have d1:decide ((k:Int) < (xs.length:Int))=false:=decide_eq_false (by omega)
    have d2:decide (k < xs.length)=false:=decide_eq_false hk
    clear hm hk
    go_wp2
    go_ret
    exact⟨_,rfl,HB.out,fun h=>by cases h⟩
  have m1:decide ((m:Int) < 20000)=true:=decide_eq_true (by omega)
  have m2:decide (m < 20000)=true:=decide_eq_true hm
  have m3:decide ((m:Int)≥20000)=false:=decide_eq_false (by omega)
  have m4:decide (m≥20000)=false:=decide_eq_false (by omega)
  have m5:decide (20000≤(m:Int))=false:=m3
  have m6:decide (20000≤m)=false:=m4
  have HM2:=ak hm
  clear hm
  cases gk with
  | zero=>
   obtain rfl:k=xs.length:=by have:=HQ.out;omega
   have d1:decide ((xs.length:Int) < (xs.length:Int))=false:=decide_eq_false (by omega)
   have d2:decide (xs.length < xs.length)=false:=decide_eq_false (by omega)
   go_wp2
   go_ret
   refine⟨_,rfl,HB.out,fun h=>?_⟩
   have h1:=HM.out
   rw[List.take_length] at h1
   have h2:=cap_sum xs (by have:=HM2.out;omega)
   have h3:=of_decide_eq_false h
   have h4:=HM2.out
   exact⟨by omega,by omega⟩
  | succ gk=>
   have hk0:k < xs.length:=by have:=HQ.out;omega
   have d1:decide ((k:Int) < (xs.length:Int))=true:=decide_eq_true (by omega)
   have d2:decide (k < xs.length)=true:=decide_eq_true hk0
   obtain⟨ad,A1,c1,A7,c7,A8,c8,e0,x0,x1,x2,x3,x4,x5,x6,x7,x8,x9,-⟩:=at_op (Kd.C_below HR.out HB.out) k hk0
   subst e0
   have HSN:=ak (show((xs.take (k+1)).map capO).sum=((xs.take k).map capO).sum+capO xs[k] by rw[List.take_succ_eq_append_getElem hk0,List.map_append,List.sum_append];simp)
   have HSX:=ak (HS.out xs[k] (List.getElem_mem hk0))
   generalize xs[k]=x at x0 x1 x2 x3 x4 x5 x6 x7 x8 x9 HSN HSX
   have b0:(0:Int)≤(k:Int):=by omega
   have b1:(k:Int) < (xs.length:Int):=by omega
   clear x0 x2 x4 x5 x6 x9
   go_wp2
   go_quiet (fail)
   have hv:wrap64 ((m:Int)+min (wrap64 (wrap64 (wrap64 ((x.f1.length:Int)+x.f2.f6.length)+x.f2.f1.size)+wrap64 (10*(x.f2.f5.length:Int)))) 20000)=((m+capO x:Nat):Int):=by
    obtain⟨s1,s2,s3,s4⟩:=HSX.out
    rw[min_step _ _ _ _ s1 s2 s3 s4]
    exact wrap_at m (capO x) (by have:=HM2.out;unfold capO;omega)
   rw[hv]
   have HB2:=ak (pw_below_drewN HB.out nq)
   clear hv x1 x3 x7 x8
   generalize wr.drewN nq=w2 at HB2 ⊢
   go_wp2
   go_roundg gk
   case measure=>omega
   case rel=>exact⟨k+1,m+capO x,rfl,by rw[wrap_k k (by have:=HN.out;omega)],⟨by have:=HQ.out;omega⟩,⟨by rw[HSN.out,HM.out];omega⟩,HB2⟩
theorem sameLocs_true (a1 a2:Option Addr) (c1 c2:Nat) (xs:List Lo8) (hn:xs.length≤1000000) (h1:Kd.C k57 w a1 xs.length xs) (h2:Kd.C k57 w a2 xs.length xs):
  Calls Tryz.prog 20 #[.slice a1 xs.length c1,.slice a2 xs.length c2] w fun e w'=>e=.returned (.bool true)∧RowKit.Below w.heap.size w w':=by
 have H1:=ak h1
 have H2:=ak h2
 have HN:=ak hn
 have hu:=Tryz.underlying57
 clear h1 h2 hn
 go_enter Tryz.func20,Tryz.ntmps20
 go_wp2
 go_loopg [5] xs.length (fun kq v5 wr=>∃(k:Nat),v5=.int .i64 k∧Aside0 (k+kq=xs.length)∧Aside0 (RowKit.Below w.heap.size w wr))
 case atStart=>exact⟨0,rfl,⟨by omega⟩,⟨RowKit.Below.refl _ _⟩⟩
 case round=>
  obtain⟨k,rfl,HQ,HB⟩:=hrel
  cases gk with
  | zero=>
   obtain rfl:k=xs.length:=by have:=HQ.out;omega
   have d1:decide ((xs.length:Int) < (xs.length:Int))=false:=decide_eq_false (by omega)
   have d2:decide (xs.length < xs.length)=false:=decide_eq_false (by omega)
   go_wp2
   go_ret
   exact⟨rfl,HB.out⟩
  | succ gk=>
   have hk0:k < xs.length:=by have:=HQ.out;omega
   have d1:decide ((k:Int) < (xs.length:Int))=true:=decide_eq_true (by omega)
   have d2:decide (k < xs.length)=true:=decide_eq_true hk0
   obtain⟨ad,e0,x0,x1,x2⟩:=at_lo (Kd.C_below H1.out HB.out) k hk0
   obtain⟨ae,e1,y0,y1,y2⟩:=at_lo (Kd.C_below H2.out HB.out) k hk0
   subst e0 e1
   generalize xs[k]=x at x0 x1 x2 y0 y1 y2
   have b0:(0:Int)≤(k:Int):=by omega
   have b1:(k:Int) < (xs.length:Int):=by omega
   go_wp2
   go_quiet (fail)
   have HB2:=ak (pw_below_drewN HB.out nq)
   clear x0 x1 x2 y0 y1 y2
   generalize wr.drewN nq=w2 at HB2 ⊢
   go_wp2
   go_roundg gk
   case measure=>omega
   case rel=>exact⟨k+1,by rw[wrap_k k (by have:=HN.out;omega)],⟨by have:=HQ.out;omega⟩,HB2⟩
end Pw
end
section
namespace Pw
open Go.Shelf Go.Maps Fr Ext Pt Go.Proofs.YtcieieacfoaklaaGreat.Nm Dk Mn Pu Ct Lg
open Rc (Re Lo withinB keyB zeroR recC Norm Norm.intro Norm.elim)
variable {w w' w1:World} {B l g wb cb c N:Nat} {M M':DiskM} {F F' G:Nat→Prop} {S S':LogS} {p p':Wr} {hv pv hv' pv':Value} {A A':Option Addr}
def locOf (x:Lo):Lo:=⟨x.f0,x.f1,wrap64 (x.f2+17)⟩
theorem locsW_eq (p:Wr):locsW p=p.pieces.map locOf:=rfl
theorem locs_calls (h:AtP w B l g wb cb N F M S p hv pv A c) (hn:p.pieces.length≤1000000):Calls Tryz.prog 19 #[ptr wb] w fun e w'=>∃v,e=.returned v∧Kd.R k57 57 w' w.heap.size (fun _=>True) v (locsW p)∧RowKit.Below w.heap.size w w':=by
 obtain⟨Ap,cp,hpv⟩:=Kd.R_slice h.wr.rows
 subst hpv
 have HC:=ak (Kd.R_reads' h.wr.rows).2.2
 have y7:=bq h.wr.blk 11 (.slice Ap p.pieces.length cp)
 have HN:=ak hn
 rw[locsW_eq]
 clear h hn
 generalize p.pieces=xs at *
 go_enter Tryz.func19,Tryz.ntmps19
 go_wp2
 clear y7
 go_loopg [11,3] xs.length (fun kq v11 v3 wr=>∃(k:Nat),v11=.int .i64 k∧Aside0 (k+kq=xs.length)∧Aside0 (RowKit.Below w.heap.size w wr)∧Aside0 (Kd.R k57 57 wr w.heap.size (fun _=>True) v3 ((xs.take k).map locOf)))
 case atStart=>exact⟨0,rfl,⟨by omega⟩,⟨RowKit.Below.refl _ _⟩,⟨Kd.R_nil ..⟩⟩
 case round=>
  obtain⟨k,rfl,HQ,HB,HR⟩:=hrel
  cases gk with
  | zero=>
   obtain rfl:k=xs.length:=by have:=HQ.out;omega
   have d1:decide ((xs.length:Int) < (xs.length:Int))=false:=decide_eq_false (by omega)
   have d2:decide (xs.length < xs.length)=false:=decide_eq_false (by omega)
   have hr:=HR.out
   rw[List.take_length] at hr
   obtain⟨A3,c3,e3⟩:=Kd.R_slice hr
   subst e3
   have HR:=ak hr
   clear hr
   go_wp2
   go_ret
   exact⟨_,rfl,HR.out,HB.out⟩
  | succ gk=>
   have hk0:k < xs.length:=by have:=HQ.out;omega
   have d1:decide ((k:Int) < (xs.length:Int))=true:=decide_eq_true (by omega)
   have d2:decide (k < xs.length)=true:=decide_eq_true hk0
   obtain⟨ad,e0,x0,x1,x2⟩:=at_lo (Kd.C_below HC.out HB.out) k hk0
   subst e0
   have hr:=HR.out
   obtain⟨A3,c3,e3⟩:=Kd.R_slice hr
   subst e3
   have HSN:=ak (show(xs.take (k+1)).map locOf=(xs.take k).map locOf++[⟨xs[k].f0,xs[k].f1,wrap64 (xs[k].f2+17)⟩] by rw[List.take_succ_eq_append_getElem hk0,List.map_append];rfl)
   generalize xs[k]=x at x0 x1 x2 HSN
   have HL:=ak (show(((xs.take k).map locOf).length+1)*24≤140737488355328 by rw[List.length_map,List.length_take];have:=HN.out;omega)
   have hz:=heap_alloc_new wr (.cells #[.int .i64 x.f0,.int .i64 x.f1,.int .i64 x.f2] 57)
   have hb2:=below_alloc (RowKit.Below.refl wr.heap.size wr) (.cells #[.int .i64 x.f0,.int .i64 x.f1,.int .i64 x.f2] 57)
   go_upto_region 5 with(fail)
   generalize hw2:wr.alloc (.cells #[.int .i64 x.f0,.int .i64 x.f1,.int .i64 x.f2] 57)=w2 at hz hb2 ⊢
   clear hw2
   obtain⟨tb,htb⟩:∃tb,wr.heap.size=tb:=⟨_,rfl⟩
   have HB2:=ak hb2
   rw[htb] at hz ⊢
   have HT:=ak htb
   clear htb hb2
   have y0:=bq hz 0 (.int .i64 x.f0)
   have y1:=bq hz 1 (.int .i64 x.f1)
   have y2:=bq hz 2 (.int .i64 x.f2)
   have z2:=blk_frozen hz 2
   have HZ:=ak hz
   clear hz x0 x1 x2
   go_upto_region 6 with(fail)
   have hz3:=blk_put HZ.out 2 (.int .i64 (wrap64 (x.f2+17))) rfl
   have HK:=ak (show Keeps (fun k=>k=tb) wr (w2.setCell ⟨tb,2,none⟩ (.int .i64 (wrap64 (x.f2+17)))) from(Keeps.of_below HB2.out).set rfl)
   have HB3:=ak (show RowKit.Below w.heap.size w (w2.setCell ⟨tb,2,none⟩ (.int .i64 (wrap64 (x.f2+17)))) from RowKit.Below.setCell (p:=⟨tb,2,none⟩) (HB.out.trans (HB2.out.mono HB.out.size)) (by have:=HT.out;have:=HB.out.size;simp only;omega) _)
   clear y0 y1 y2 z2
   generalize w2.setCell ⟨tb,2,none⟩ (.int .i64 (wrap64 (x.f2+17)))=w3 at hz3 HK HB3 ⊢
   have y0:=bq hz3 0 (.int .i64 x.f0)
   have y1:=bq hz3 1 (.int .i64 x.f1)
   have y2:=bq hz3 2 (.int .i64 (wrap64 (x.f2+17)))
   have HR3:=ak (rowK rfl hr HK.out (fun j hj e=>by have h1:=Kd.R_lt hr j hj;have h2:=HT.out;omega))
   clear hr hz3
   generalize hys:(xs.take k).map locOf=ys at *
   clear hys
   go_wp2_with (at_builtin;refine Kd.R_append k57 (w0:=w) w.heap.size rfl (.tmp 19) (.tmp 21) 36 57 (.agg #[.int .i64 0,.int .i64 0,.int .i64 0]) 24 rfl Tryz.underlying36 info57 rfl (by decide) (by decide) (.slice A3 ys.length c3) ys (⟨x.f0,x.f1,wrap64 (x.f2+17)⟩:Lo) [.int .i64 x.f0,.int .i64 x.f1,.int .i64 (wrap64 (x.f2+17))] (fun _=>True) (fun _=>False) rfl rfl (k57_mkM _ _ _ (⟨x.f0,x.f1,wrap64 (x.f2+17)⟩:Lo)) (fun _ h=>h.elim) (fun _ _=>trivial) HR3.out HB3.out HB3.out.size HL.out ?_;intro v5 w5 hr5 hb5 hg5 hat5;have HR5:=ak hr5;have HB5:=ak hb5;clear hr5 hb5 hg5 hat5)
   go_roundg gk
   case measure=>omega
   case rel=>exact⟨k+1,by rw[wrap_succ k (by have:=HN.out;omega)],⟨by have:=HQ.out;omega⟩,HB5,⟨by rw[HSN.out];exact HR5.out⟩⟩
end Pw
end
section
namespace Pw
open Go.Shelf Go.Maps Fr Ext Pt Go.Proofs.YtcieieacfoaklaaGreat.Nm Dk Mn Pu Ct Lg
open Rc (Re Lo withinB keyB zeroR recC Norm Norm.intro Norm.elim)
variable {W w w' w1:World} {B l g wb cb c N k n:Nat} {M M':DiskM} {F F' G:Nat→Prop} {S S':LogS} {p p':Wr} {hv pv hv' pv':Value} {A A':Option Addr} {q q':St} {b:List Int}
structure Ok (q:St) (n:Nat):Prop where
 fit:Fit q.1
 segs:q.2.1.man.segs.length≤1000000
 len:q.2.2.pieces.length+(q.2.2.left.length+q.2.2.held.length)≤n
 bytes:IsBytes (q.2.2.left++q.2.2.held)
 p1:1≤q.2.2.c.piece
 p2:q.2.2.c.piece≤4096
theorem Ok.mono {m:Nat} (h:Ok q n) (hm:n≤m):Ok q m:=⟨h.fit,h.segs,Nat.le_trans h.len hm,h.bytes,h.p1,h.p2⟩
theorem isB_append {x y:List Int} (h1:IsBytes x) (h2:IsBytes y):IsBytes (x++y):=fun z hz=>(List.mem_append.1 hz).elim (h1 z) (h2 z)
theorem isB_left {x y:List Int} (h:IsBytes (x++y)):IsBytes x:=fun z hz=>h z (List.mem_append_left _ hz)
theorem isB_right {x y:List Int} (h:IsBytes (x++y)):IsBytes y:=fun z hz=>h z (List.mem_append_right _ hz)
theorem pieceM_c (q:St) (b:List Int):(pieceM q b).1.2.2.c=q.2.2.c∧(pieceM q b).1.2.2.left=q.2.2.left∧(pieceM q b).1.2.2.held=q.2.2.held:=by
 show(pieceW _ _ _).c=_∧(pieceW _ _ _).left=_∧(pieceW _ _ _).held=_
 unfold pieceW
 split <;> exact⟨rfl,rfl,rfl⟩
theorem Ok.piece (h:Ok q n) (hb:IsBytes b):Ok (pieceM q b).1 (n+1):=by
 obtain⟨e1,e2,e3⟩:=pieceM_c q b
 refine⟨pieceM_fit h.fit q.2.1 q.2.2 hb,pieceM_segs (M:=q.1) q.2.1 q.2.2 b h.segs,?_,by rw[e2,e3];exact h.bytes,by rw[e1];exact h.p1,by rw[e1];exact h.p2⟩
 have h1:=pieceM_len q.1 q.2.1 q.2.2 b
 have h2:=h.len
 rw[e2,e3]
 rw[show((q.1,q.2.1,q.2.2):St)=q from rfl] at h1
 omega
theorem Ok.each:∀(bs:List (List Int)) (q:St) (n:Nat),Ok q n→(∀x∈bs,IsBytes x)→Ok (eachM bs q).1 (n+bs.length)
 | [],q,n,h,_=>h
 | b::bs,q,n,h,hb=>by
  rw[eachM_cons]
  have h1:=h.piece (hb b (List.mem_cons_self ..))
  split
  ·exact(Ok.each bs _ _ h1 (fun x hx=>hb x (List.mem_cons_of_mem _ hx))).mono (by rw[List.length_cons];omega)
  ·exact h1.mono (by rw[List.length_cons];omega)
theorem chunk_sum {k:Nat} (hk:0 < k):∀(f:Nat) (l:List Int),(chunk k f l).1.length+(chunk k f l).2.length≤l.length
 | 0,l=>by unfold chunk;simp
 | f+1,l=>by
  unfold chunk
  split
  ·rename_i hl
   have:=chunk_sum hk f (l.drop k)
   rw[List.length_drop] at this
   simp only[List.length_cons]
   omega
  ·simp
theorem chunk_rest {k:Nat}:∀(f:Nat) (l:List Int),∀y∈(chunk k f l).2,y∈l
 | 0,l,y,hy=>hy
 | f+1,l,y,hy=>by
  unfold chunk at hy
  split at hy
  ·exact List.mem_of_mem_drop (chunk_rest f (l.drop k) y hy)
  ·exact hy
theorem Ok.write (h:Ok q n) (hb:IsBytes b):Ok (writeM q b).1 (n+b.length):=by
 unfold writeM
 split
 ·exact h.mono (Nat.le_add_right _ _)
 split
 ·exact h.mono (Nat.le_add_right _ _)
 have hl:=h.len
 split
 ·refine⟨h.fit,h.segs,?_,?_,h.p1,h.p2⟩
  ·show q.2.2.pieces.length+(q.2.2.left.length+(q.2.2.held++b).length)≤_
   rw[List.length_append];omega
  ·show IsBytes (q.2.2.left++(q.2.2.held++b))
   rw[← List.append_assoc]
   exact isB_append h.bytes hb
 ·have hx:IsBytes (q.2.2.left++(q.2.2.held++b)):=by rw[← List.append_assoc];exact isB_append h.bytes hb
  have hs:(cutW q.2.2.c.piece (q.2.2.left++(q.2.2.held++b))).1.length+(cutW q.2.2.c.piece (q.2.2.left++(q.2.2.held++b))).2.length≤(q.2.2.left++(q.2.2.held++b)).length:=chunk_sum (k:=q.2.2.c.piece.toNat) (by have:=h.p1;omega) _ _
  rw[List.length_append,List.length_append] at hs
  have h0:Ok (q.1,q.2.1,cutIn (heldIn q.2.2 b) (q.2.2.held++b)) (q.2.2.pieces.length+(cutW q.2.2.c.piece (q.2.2.left++(q.2.2.held++b))).2.length):=by
   refine⟨h.fit,h.segs,?_,?_,h.p1,h.p2⟩
   ·show q.2.2.pieces.length+((cutW q.2.2.c.piece (q.2.2.left++(q.2.2.held++b))).2.length+0)≤_
    omega
   ·show IsBytes ((cutW q.2.2.c.piece (q.2.2.left++(q.2.2.held++b))).2++[])
    rw[List.append_nil]
    exact fun y hy=>hx y (chunk_rest _ _ y hy)
  exact(Ok.each (cutW q.2.2.c.piece (q.2.2.left++(q.2.2.held++b))).1 _ _ h0 (fun x hx' y hy=>hx y (chunk_mem _ _ x hx' y hy))).mono (by omega)
theorem Ok.recd (h:Ok q n):Ok (recM q).1 n∧(recM q).2.1.f5.length≤n:=by
 have hl:=h.len
 unfold recM
 split
 ·exact⟨h,Nat.zero_le _⟩
 split
 ·exact⟨h,by show q.2.2.pieces.length≤n;omega⟩
 rename_i hne
 have h1:1≤q.2.2.left.length:=List.length_pos_iff.2 hne
 have h0:Ok (q.1,q.2.1,{q.2.2 with left:=[]}) (n - 1):=⟨h.fit,h.segs,by show q.2.2.pieces.length+(0+q.2.2.held.length)≤_;omega,isB_right h.bytes,h.p1,h.p2⟩
 have h2:=h0.piece (b:=q.2.2.left) (isB_left h.bytes)
 rw[show n - 1+1=n by omega] at h2
 split
 ·exact⟨h2,by have:=h2.len;show(pieceM _ _).1.2.2.pieces.length≤n;omega⟩
 ·exact⟨h2,Nat.zero_le _⟩
theorem recM_f6 (hb:IsBytes (q.2.2.left++q.2.2.held)):IsBytes (recM q).2.1.f6:=by
 unfold recM
 split
 ·exact isB_right hb
 split
 ·exact fun z hz=>by cases hz
 split <;> exact fun z hz=>by cases hz
theorem Ok.add {R:Re} (h:Ok q n) (h6:IsBytes R.f6) {p':Wr} (e1:p'.pieces=q.2.2.pieces) (e2:p'.left=q.2.2.left) (e3:p'.held=q.2.2.held) (e4:p'.c=q.2.2.c):Ok ((laddM q.1 q.2.1 R).1,(laddM q.1 q.2.1 R).2.1,p') n:=
 ⟨laddM_fit h.fit _ _ (La.putM_isBytes _ h6),laddM_segs _ _ _ h.segs (by decide),by rw[e1,e2,e3];exact h.len,by rw[e2,e3];exact h.bytes,by rw[e4];exact h.p1,by rw[e4];exact h.p2⟩
theorem Ok.commit (h:Ok q n):Ok (commitM q).1 n:=by
 unfold commitM
 split
 ·exact h
 have h1:=h.recd.1
 have h6:=recM_f6 h.bytes
 unfold commitR
 split
 ·unfold commitEnd
  split <;> exact h1.add h6 rfl rfl rfl rfl
 ·exact h1
structure AtW (W w:World) (l g wb cb:Nat) (q:St) (k n:Nat):Prop where
 ex:∃F hv pv A c,AtP w W.heap.size l g wb cb (16000000*k) F q.1 q.2.1 q.2.2 hv pv A c
 bel:RowKit.Below W.heap.size W w
 ok:Ok q n
theorem AtW.below (h:AtW W w l g wb cb q k n) (hb:RowKit.Below w.heap.size w w'):AtW W w' l g wb cb q k n:=by
 obtain⟨F,hv,pv,A,c,h1⟩:=h.ex
 exact⟨⟨F,hv,pv,A,c,h1.below hb⟩,h.bel.trans (hb.mono h.bel.size),h.ok⟩
theorem AtW.more {k':Nat} (h:AtW W w l g wb cb q k n) (hk:k≤k'):AtW W w l g wb cb q k' n:=by
 obtain⟨F,hv,pv,A,c,h1⟩:=h.ex
 exact⟨⟨F,hv,pv,A,c,h1.mono (Nat.mul_le_mul_left _ hk)⟩,h.bel,h.ok⟩
theorem AtW.to {N' k' n':Nat} (h:AtP w W.heap.size l g wb cb N F M S p hv pv A c) (hb:RowKit.Below W.heap.size W w) (ht:WTo w w' W.heap.size l g wb cb N' F pv q) (hN:N'≤16000000*k') (ho:Ok q n'):AtW W w' l g wb cb q k' n':=by
 obtain⟨F',hv',pv',A',c',h1,h2,h3,h4,h5⟩:=ht
 refine⟨⟨F',hv',pv',A',c',h1.mono hN⟩,Rc.below_keeps hb h5 (fun k hk=>?_),ho⟩
 rcases hk with(hk | rfl) | rfl | rfl | hk
 ·exact h.disk.base k hk
 ·exact h.log.above
 ·exact h.wr.above
 ·exact h.wr.cabove
 ·exact Kd.R_base h.wr.rows k hk.symm
theorem AtW.write (h:AtW W w l g wb cb q k n) (hk:k≤50000) (hb:IsBytes b) (hn:n+b.length≤500000) (Ab:Option Addr) (c6:Nat) (hc6:b.length≤c6) (hrd:∀W',Keeps (fun j=>j=wb) w W'→Kd.C (Kd.int .u8) W' Ab b.length b):
  Calls Tryz.prog 14 #[ptr wb,.slice Ab b.length c6] w fun e w'=>e=.returned (.int .i64 (writeM q b).2)∧AtW W w' l g wb cb (writeM q b).1 (k+1) (n+b.length):=by
 obtain⟨F,hv,pv,A,c,h1⟩:=h.ex
 have hl:=h.ok.len
 refine(Write_calls h1 h.ok.fit h.ok.segs (by omega) h.ok.p1 h.ok.p2 b (by omega) (by omega) (by rw[← List.append_assoc];exact isB_append h.ok.bytes hb) Ab c6 hc6 hrd).mono ?_
 rintro e w' ⟨rfl,ht⟩
 exact⟨rfl,AtW.to h1 h.bel ht (by omega) (h.ok.write hb)⟩
theorem AtW.commit (h:AtW W w l g wb cb q k n) (hk:k≤50000) (hn:n≤500000):Calls Tryz.prog 15 #[ptr wb] w fun e w'=>e=.returned (.tuple #[.agg (placeV (commitM q).2.1),.int .i64 (commitM q).2.2])∧AtW W w' l g wb cb (commitM q).1 (k+1) n:=by
 obtain⟨F,hv,pv,A,c,h1⟩:=h.ex
 have hl:=h.ok.len
 refine(commit_calls h1 h.ok.fit h.ok.segs (by omega) (by omega) (isB_left h.ok.bytes)).mono ?_
 rintro e w' ⟨rfl,ht⟩
 exact⟨rfl,AtW.to h1 h.bel ht (by omega) h.ok.commit⟩
theorem AtW.size (h:AtW W w l g wb cb q k n):Calls Tryz.prog 17 #[ptr wb] w fun e w'=>e=.returned (.int .i64 q.2.2.size)∧w'=w:=by
 obtain⟨F,hv,pv,A,c,h1⟩:=h.ex
 exact size_calls h1.wr
theorem AtW.spoilt (h:AtW W w l g wb cb q k n):Calls Tryz.prog 22 #[ptr wb] w fun e w'=>e=.returned (.bool q.2.2.spoilt)∧w'=w:=by
 obtain⟨F,hv,pv,A,c,h1⟩:=h.ex
 exact spoilt_calls h1.wr
theorem AtW.locs (h:AtW W w l g wb cb q k n) (hn:n≤500000):Calls Tryz.prog 19 #[ptr wb] w fun e w'=>∃A' c',e=.returned (.slice A' (locsW q.2.2).length c')∧Kd.R k57 57 w' w.heap.size (fun _=>True) (.slice A' (locsW q.2.2).length c') (locsW q.2.2)∧RowKit.Below w.heap.size w w':=by
 obtain⟨F,hv,pv,A,c,h1⟩:=h.ex
 refine(locs_calls h1 (by have:=h.ok.len;omega)).mono ?_
 rintro e w' ⟨v,rfl,hr,hb⟩
 obtain⟨A',c',rfl⟩:=Kd.R_slice hr
 exact⟨A',c',rfl,hr,hb⟩
theorem AtW.get (h:AtW W w l g wb cb q k n) (s a:Int):Calls Tryz.prog 26 #[ptr l,.int .i64 s,.int .i64 a] w fun e w'=>Sg.GotE w w' e (getLM q.1 q.2.1 s a).1 (getLM q.1 q.2.1 s a).2:=by
 obtain⟨F,hv,pv,A,c,h1⟩:=h.ex
 exact getL_calls h1.disk h.ok.fit h1.log s a
theorem AtW.done (h:AtW W w l g wb cb q k n):Calls Tryz.prog 24 #[ptr g] w fun e w'=>e=.returned (.int .i64 q.1.d.done)∧w'=w:=by
 obtain⟨F,hv,pv,A,c,h1⟩:=h.ex
 exact h1.disk.done?
theorem AtW.used (h:AtW W w l g wb cb q k n):Calls Tryz.prog 21 #[ptr g] w fun e w'=>e=.returned (.int .i64 (usedM q.1))∧RowKit.Below w.heap.size w w':=by
 obtain⟨F,hv,pv,A,c,h1⟩:=h.ex
 exact h1.disk.used?
theorem AtW.add (h:AtW W w l g wb cb q k n) (hk:k≤50000) (R:Re) (A5 A6:Option Addr) (c5 c6:Nat) (h0:(Lit.int .i64 R.f0).wf=true) (h6:IsBytes R.f6) (hl:∀W',RowKit.Below W.heap.size W W'→Kd.C k57 W' A5 R.f5.length R.f5) (hn:R.f5.length≤1000000000) (hr:∀W',RowKit.Below W.heap.size W W'→Kd.C (Kd.int .u8) W' A6 R.f6.length R.f6):
  Calls Tryz.prog 13 #[ptr l,.agg (recC R A5 c5 A6 c6)] w fun e w'=>(∃v,e=.returned v)∧AtW W w' l g wb cb ((laddM q.1 q.2.1 R).1,(laddM q.1 q.2.1 R).2.1,q.2.2) (k+1) n:=by
 obtain⟨F,hv,pv,A,c,h1⟩:=h.ex
 have hbk:∀W',Keeps (LX F l) w W'→RowKit.Below W.heap.size W W':=fun W' hk=>Rc.below_keeps h.bel hk (fun k hk=>hk.elim (h1.disk.base k) (fun e=>e ▸ h1.log.above))
 refine(ladd_calls h1.disk h.ok.fit h1.log h.ok.segs (by omega) R A5 A6 c5 c6 h0 (fun W' hk=>hl W' (hbk W' hk)) hn (fun W' hk=>hr W' (hbk W' hk))).mono ?_
 rintro e w' ⟨rfl,ht⟩
 obtain⟨F',h2,h3,h4,h5⟩:=h1.turned ht
 exact⟨⟨_,rfl⟩,⟨F',hv,pv,A,c,h2.mono (by omega)⟩,hbk w' h5,h.ok.add h6 rfl rfl rfl rfl⟩
end Pw
end
section
namespace Pw
open Go.Shelf Go.Maps Fr Ext Pt Go.Proofs.YtcieieacfoaklaaGreat.Nm Dk Mn Pu Ct Lg
open Rc (Re Lo withinB keyB zeroR recC Norm Norm.intro Norm.elim)
variable {W w w' w1:World} {B l g wb cb c N k n:Nat} {M M':DiskM} {F F' G:Nat→Prop} {S S':LogS} {p p':Wr} {hv pv hv' pv':Value} {A A':Option Addr} {q q':St} {b:List Int}
theorem conv_row {w:World} {A:Option Addr} {xs:List Int} (c:Nat) (h:Kd.C (Kd.int .u8) w A xs.length xs):(convert 35 9 (.slice A xs.length c)).run Tryz.prog w=.ok (.string (strOfNums xs)) w:=Kd.C_string Tryz.underlying35 Tryz.underlying5 Tryz.underlying9 h
theorem value_inline (h:AtW W w l g wb cb q k n) (pl:Pl) (key:ByteArray) (all:List Int) (hk:pl.key=key) (h3:pl.kind=3) (hg:getLM q.1 q.2.1 pl.seg pl.at_=((⟨3,key,0,0,0,[],all⟩:Re),0)):
  Calls Tryz.prog 16 #[ptr l,.agg (placeV pl)] w fun e w'=>e=.returned (.tuple #[.string (strOfNums all),.bool true])∧RowKit.Below w.heap.size w w':=by
 have hz:=heap_alloc_new w (.cells (placeV pl) 47)
 have hb1:=below_alloc (RowKit.Below.refl w.heap.size w) (.cells (placeV pl) 47)
 have HG:=ak (fun W' hW=>by have h1:=(h.below (w':=W') hW).get pl.seg pl.at_;rw[hg] at h1;unfold Sg.GotE at h1;simp only[recC,List.length_nil] at h1;exact h1)
 clear hg h
 obtain⟨ps,pk,py,pa,pz⟩:=pl
 dsimp only at hk h3 HG hz hb1
 subst hk h3
 have hke:(py.toList==py.toList)=true:=beq_self_eq_true _
 go_enter Tryz.func16,Tryz.ntmps16
 go_upto_region 1 with(fail)
 generalize hw1:w.alloc (.cells #[.int .i64 ps,.int .i64 3,.string py,.int .i64 pa,.int .i64 pz] 47)=w1 at hz hb1 ⊢
 clear hw1
 have HB1:=ak hb1
 have HZ:=ak hz
 have y0:=bq hz 0 (.int .i64 ps)
 have y1:=bq hz 1 (.int .i64 3)
 have y2:=bq hz 2 (.string py)
 have y3:=bq hz 3 (.int .i64 pa)
 clear hz hb1
 go_upto_region 2 with(go_at_call 26;(with_reducible refine(HG.out _ HB1.out).mono ?_);rintro e w2 ⟨A5,c5,A6,c6,rfl,-,h6,hb2⟩;have H6:=ak h6;have HB2:=ak hb2;clear h6 hb2)
 have hs3:=heap_alloc_new w2 (.cells #[.int .i64 3,.string py,.int .i64 0,.int .i64 0,.int .i64 0,.slice A5 0 c5,.slice A6 all.length c6] 38)
 have hb3:=below_alloc (RowKit.Below.refl w2.heap.size w2) (.cells #[.int .i64 3,.string py,.int .i64 0,.int .i64 0,.int .i64 0,.slice A5 0 c5,.slice A6 all.length c6] 38)
 generalize hw3:w2.alloc (.cells #[.int .i64 3,.string py,.int .i64 0,.int .i64 0,.int .i64 0,.slice A5 0 c5,.slice A6 all.length c6] 38)=w3 at hs3 hb3 ⊢
 clear hw3 y0 y1 y2 y3
 have hz3:=(hb3.block _ (Nat.lt_of_lt_of_le (blk_lt HZ.out) HB2.out.size)).trans ((HB2.out.block _ (blk_lt HZ.out)).trans HZ.out)
 have y1:=bq hz3 1 (.int .i64 3)
 have y2:=bq hz3 2 (.string py)
 have x0:=bq hs3 0 (.int .i64 3)
 have x1:=bq hs3 1 (.string py)
 have x6:=bq hs3 6 (.slice A6 all.length c6)
 have hcv:=conv_row c6 (Kd.C_below (w:=w2) (Kd.R_reads' H6.out).2.2 hb3)
 have HB3:=ak (HB1.out.trans ((HB2.out.mono HB1.out.size).trans (hb3.mono (Nat.le_trans HB1.out.size HB2.out.size))))
 clear hs3 hb3 hz3
 go_wp2
 go_ret2
 exact⟨rfl,HB3.out⟩
theorem str_list (l:List Int):(strOfNums l).data.toList=l.map fun n=>UInt8.ofNat n.toNat:=by simp [strOfNums]
theorem str_size (l:List Int):(strOfNums l).size=l.length:=by show(strOfNums l).data.size=_;rw[← Array.length_toList,str_list,List.length_map]
theorem str_app (a b:List Int):strOfNums a++strOfNums b=strOfNums (a++b):=by
 apply ByteArray.ext
 apply Array.toList_inj.1
 rw[ByteArray.data_append]
 simp [str_list]
theorem add_str (t:TypeId) (a b:ByteArray) (h:a.size+b.size≤1000000000):Go.binOp .add t (.string a) (.string b)=pure (.string (a++b)):=by
 simp only[Go.binOp,Op.stringOp]
 have hm:IntKind.i64.max=9223372036854775807:=rfl
 rw[if_neg]
 rw[hm]
 omega
theorem take_flat (ls:List (List Int)) (k:Nat):(ls.take k).flatten.length≤ls.flatten.length:=by
 conv=>rhs;rw[← List.take_append_drop k ls,List.flatten_append,List.length_append]
 omega
def va10T:Bool×List (List Nat×List Nat):=(true,[([],[]),([],[]),([1],[1]),([],[]),([2,3],[2,3]),([4],[4]),([5],[5]),([],[]),([7],[7]),([],[]),([8,9],[8,9]),([10],[10]),([11],[11]),([0,6,12],[0,6,12]),([13],[13]),([14],[14]),([14],[14]),([],[]),([17,15,13,0,1,2,3,4,5,6,7,8,9,10,11,12,13,14,15,17],[15,17]),([16,18,0,1,2,3,4,5,6,7,8,9,10,11,12,13,14,15,16,17,18],[16])])
def va10B:List Nat:=[0,0,2,0,14,30,62,0,128,0,896,1920,3968,8191,16383,32767,32767,0,196607,524287]
theorem va10tab:rtab .any (opsOf Tryz.f16 10)=va10T:=by kernel_rfl
theorem va10bits:waitsOk va10T.2 va10B=true:=by kernel_rfl
theorem value_root (h:AtW W w l g wb cb q k n) (pl:Pl) (key:ByteArray) (id:Int) (all:List Int) (ps:List Lo) (ls:List (List Int)) (hk:pl.key=key) (h3:pl.kind=2) (hg:getLM q.1 q.2.1 pl.seg pl.at_=((⟨2,key,id,0,(all.length:Int),ps,[]⟩:Re),0))
  (hls:ls.flatten=all) (hlen:ps.length=ls.length) (hmax:ls.length≤512) (hal:all.length≤1000000) (hps:∀(i:Nat) (x:List Int),ls[i]? =some x→∃lo:Lo,ps[i]? =some lo∧lo.f2=(x.length:Int)∧getLM q.1 q.2.1 lo.f0 lo.f1=((⟨1,⟨#[]⟩,id,(i:Int),0,[],x⟩:Re),0)):
  Calls Tryz.prog 16 #[ptr l,.agg (placeV pl)] w fun e w'=>e=.returned (.tuple #[.string (strOfNums all),.bool true])∧RowKit.Below w.heap.size w w':=by
 have hz:=heap_alloc_new w (.cells (placeV pl) 47)
 have hb1:=below_alloc (RowKit.Below.refl w.heap.size w) (.cells (placeV pl) 47)
 have HG:=ak (fun W' hW=>by have h1:=(h.below (w':=W') hW).get pl.seg pl.at_;rw[hg] at h1;unfold Sg.GotE at h1;simp only[recC,List.length_nil] at h1;exact h1)
 have HGP:=ak (fun W' hW (i:Nat) (x:List Int) (hx:ls[i]? =some x) (lo:Lo) (e:getLM q.1 q.2.1 lo.f0 lo.f1=((⟨1,⟨#[]⟩,id,(i:Int),0,[],x⟩:Re),0))=>by have h1:=(h.below (w':=W') hW).get lo.f0 lo.f1;rw[e] at h1;unfold Sg.GotE at h1;simp only[recC,List.length_nil] at h1;exact h1)
 have HPS:=ak hps
 have HLS:=ak hls
 have HLEN:=ak hlen
 have HMAX:=ak hmax
 have HAL:=ak hal
 clear hg h hps hls hlen hmax hal
 obtain⟨ps',pk,py,pa,pz⟩:=pl
 dsimp only at hk h3 HG hz hb1
 subst hk h3
 have hke:(py.toList==py.toList)=true:=beq_self_eq_true _
 go_enter Tryz.func16,Tryz.ntmps16
 go_upto_region 1 with(fail)
 generalize hw1:w.alloc (.cells #[.int .i64 ps',.int .i64 2,.string py,.int .i64 pa,.int .i64 pz] 47)=w1 at hz hb1 ⊢
 clear hw1
 have HB1:=ak hb1
 have HZ:=ak hz
 have y0:=bq hz 0 (.int .i64 ps')
 have y1:=bq hz 1 (.int .i64 2)
 have y2:=bq hz 2 (.string py)
 have y3:=bq hz 3 (.int .i64 pa)
 clear hz hb1
 go_upto_region 2 with(go_at_call 26;(with_reducible refine(HG.out _ HB1.out).mono ?_);rintro e w2 ⟨A5,c5,A6,c6,rfl,h5,-,hb2⟩;have H5:=ak h5;have HB2:=ak hb2;clear h5 hb2)
 have hs3:=heap_alloc_new w2 (.cells #[.int .i64 2,.string py,.int .i64 id,.int .i64 0,.int .i64 all.length,.slice A5 ps.length c5,.slice A6 0 c6] 38)
 have hb3:=below_alloc (RowKit.Below.refl w2.heap.size w2) (.cells #[.int .i64 2,.string py,.int .i64 id,.int .i64 0,.int .i64 all.length,.slice A5 ps.length c5,.slice A6 0 c6] 38)
 generalize hw3:w2.alloc (.cells #[.int .i64 2,.string py,.int .i64 id,.int .i64 0,.int .i64 all.length,.slice A5 ps.length c5,.slice A6 0 c6] 38)=w3 at hs3 hb3 ⊢
 clear hw3 y0 y1 y2 y3
 have hz3:=(hb3.block _ (Nat.lt_of_lt_of_le (blk_lt HZ.out) HB2.out.size)).trans ((HB2.out.block _ (blk_lt HZ.out)).trans HZ.out)
 have y1:=bq hz3 1 (.int .i64 2)
 have y2:=bq hz3 2 (.string py)
 obtain⟨sb,hsb⟩:∃sb,w2.heap.size=sb:=⟨_,rfl⟩
 have H5':=ak (Kd.C_below (w:=w2) (Kd.R_reads' H5.out).2.2 hb3)
 have HB3:=ak (HB1.out.trans ((HB2.out.mono HB1.out.size).trans (hb3.mono (Nat.le_trans HB1.out.size HB2.out.size))))
 rw[hsb] at hs3 ⊢
 have HS3:=ak hs3
 have x0:=bq hs3 0 (.int .i64 2)
 have x1:=bq hs3 1 (.string py)
 clear hs3 hb3 hz3 hsb H5 HB2 HZ HB1 HG
 go_wp2
 clear x0 x1 y1 y2
 go_loopg [8,9] ps.length (fun kq v8 v9 wr=>∃(k:Nat),v8=.string (strOfNums ((ls.take k).flatten))∧v9=.int .i64 k∧Aside0 (k+kq=ps.length)∧Aside0 (RowKit.Below w3.heap.size w3 wr))
 case atStart=>exact⟨0,rfl,rfl,⟨by omega⟩,⟨RowKit.Below.refl _ _⟩⟩
 case round=>
  obtain⟨k,rfl,rfl,HQ,HB⟩:=hrel
  have hsr:=(HB.out.block _ (blk_lt HS3.out)).trans HS3.out
  have x0:=bq hsr 0 (.int .i64 2)
  have x2:=bq hsr 2 (.int .i64 id)
  have x4:=bq hsr 4 (.int .i64 all.length)
  have x5:=bq hsr 5 (.slice A5 ps.length c5)
  have HSR:=ak hsr
  clear hsr
  cases gk with
  | zero=>
   obtain rfl:k=ps.length:=by have:=HQ.out;omega
   have d1:decide ((ps.length:Int) < (ps.length:Int))=false:=decide_eq_false (by omega)
   have d2:decide (ps.length < ps.length)=false:=decide_eq_false (by omega)
   have hfl:(ls.take ps.length).flatten=all:=by rw[HLEN.out,List.take_length,HLS.out]
   rw[hfl]
   clear hfl
   have hsz:=str_size all
   obtain⟨st,hst⟩:∃st,strOfNums all=st:=⟨_,rfl⟩
   rw[hst] at hsz ⊢
   have HST:=ak hst
   clear hst
   have hq:((st.size:Int)==(all.length:Int))=true:=by rw[hsz];exact beq_self_eq_true _
   have hq2:(st.size==all.length)=true:=by rw[hsz];exact beq_self_eq_true _
   clear hsz
   go_wp2
   go_quiet (fail)
   go_wp2
   go_ret2
   rw[HST.out]
   exact⟨rfl,HB3.out.trans ((pw_below_drewN HB.out nq).mono HB3.out.size)⟩
  | succ gk=>
   have hk0:k < ps.length:=by have:=HQ.out;omega
   have d1:decide ((k:Int) < (ps.length:Int))=true:=decide_eq_true (by omega)
   have d2:decide (k < ps.length)=true:=decide_eq_true hk0
   obtain⟨ad,e0,z0,z1,z2⟩:=at_lo (Kd.C_below H5'.out HB.out) k hk0
   subst e0
   have hkl:k < ls.length:=by rw[← HLEN.out];exact hk0
   obtain⟨lo,hlo,hn2,hget⟩:=HPS.out k ls[k] (List.getElem?_eq_getElem hkl)
   rw[List.getElem?_eq_getElem hk0] at hlo
   have hlo:=Option.some.inj hlo
   rw[hlo] at z0 z1 z2
   rw[hn2] at z2
   have hcall:=fun W' (hW:RowKit.Below wr.heap.size wr W')=>HGP.out W' (HB3.out.trans ((HB.out.trans (hW.mono HB.out.size)).mono HB3.out.size)) k ls[k] (List.getElem?_eq_getElem hkl) lo hget |>.mono (fun e w' he=>by obtain⟨A7,c7,A8,c8,r1,r2,r3,r4⟩:=he;exact(show ∃A7 c7 A8 c8,e=.returned (.tuple #[.agg #[.int .i64 1,.string ⟨#[]⟩,.int .i64 id,.int .i64 (k:Int),.int .i64 0,.slice A7 0 c7,.slice A8 ls[k].length c8],.int .i64 0])∧Kd.R (Kd.int .u8) 5 w' wr.heap.size (fun _=>True) (.slice A8 ls[k].length c8) ls[k]∧RowKit.Below wr.heap.size wr w'∧RowKit.Below W'.heap.size W' w' from⟨A7,c7,A8,c8,r1,Kd.R_lower r3 hW.size,hW.trans (r4.mono hW.size),r4⟩))
   have HTK:=ak (show(ls.take (k+1)).flatten=(ls.take k).flatten++ls[k] by rw[List.take_succ_eq_append_getElem hkl,List.flatten_append,List.flatten_singleton])
   generalize ls[k]=x at z2 hcall HTK
   have HC:=ak hcall
   have hadd:Go.binOp .add 9 (.string (strOfNums (ls.take k).flatten)) (.string (strOfNums x))=pure (.string (strOfNums (ls.take k).flatten++strOfNums x)):=add_str _ _ _ (by
    rw[str_size,str_size,← List.length_append,← HTK.out]
    have h1:=take_flat ls (k+1)
    rw[HLS.out] at h1
    have:=HAL.out
    omega)
   obtain⟨st,hst⟩:∃st,strOfNums (ls.take k).flatten=st:=⟨_,rfl⟩
   rw[hst] at hadd ⊢
   have HADD:=ak hadd
   clear hadd
   have HST:=ak hst
   clear hst
   have b0:(0:Int)≤(k:Int):=by omega
   have b1:(k:Int) < (ps.length:Int):=by omega
   clear hn2 hget hlo hcall
   go_upto_region 10 with(fail)
   go_cut [8,9,10,11] (fun v8 v9 v10 v11 wx=>∃tb A7 c7 A8 c8,v8=.string st∧v9=.int .i64 k∧v10=.pointer (some ⟨tb,0,none⟩)∧v11=.int .i64 0∧Aside0 (wx.heap[tb]? =some (.cells #[.int .i64 1,.string ⟨#[]⟩,.int .i64 id,.int .i64 k,.int .i64 0,.slice A7 0 c7,.slice A8 x.length c8] 38 (0,0)))∧Aside0 (Kd.R (Kd.int .u8) 5 wx wr.heap.size (fun _=>True) (.slice A8 x.length c8) x)∧Aside0 (RowKit.Below wr.heap.size wr wx))
   case first=>
    refine st_ 20 (S:=(fun w'=>RowKit.Below wr.heap.size wr w')) (ds:=[]) (by kernel_rfl) rfl (by kernel_rfl) (RowKit.Below.refl _ _).drew (fun hHeld=>?_);refine with_tabW va10tab va10bits (fun HT_ HW_=>?_)
    generalize wr.drew=w4 at hHeld ⊢
    refine fl_ [0,54,1,1,55,3,3,57,11,7,61,139,9,63,651] ?_
    iterate 5 refine pz_ HT_ ?_
    refine fe_ ?_
    refine tk_ 2 655 (N:=some 56) (v:=?_) (a':=?_) HT_ HW_ rfl rfl (.inl ⟨by rfl,?_⟩) hHeld ?_ ?_
    rotate_left
    ·rintro w' hs
     have xx:=pw_cell_below hs x5
     go_simp
     with_reducible rfl
    rotate_left
    ·simp only[Act.put,zq1,zq2,zq3,i64_w,i32_w]
     rfl
    refine fl_ [4,58,671,5,59,703] ?_
    iterate 2 refine pz_ HT_ ?_
    refine fe_ ?_
    refine tk_ 6 767 (N:=some 60) (v:=?_) (a':=?_) HT_ HW_ rfl rfl (.inl ⟨by rfl,?_⟩) hHeld ?_ ?_
    rotate_left
    ·rintro w' hs
     have xx:=pw_cell_below hs z0
     go_simp
     with_reducible rfl
    rotate_left
    ·simp only[Act.put,zq1,zq2,zq3,i64_w,i32_w]
     rfl
    refine tk_ 8 1023 (N:=some 62) (v:=?_) (a':=?_) HT_ HW_ rfl rfl (.inl ⟨by rfl,?_⟩) hHeld ?_ ?_
    rotate_left
    ·rintro w' hs
     have xx:=pw_cell_below hs x5
     go_simp
     with_reducible rfl
    rotate_left
    ·simp only[Act.put,zq1,zq2,zq3,i64_w,i32_w]
     rfl
    refine fl_ [10,64,2047,11,65,4095] ?_
    iterate 2 refine pz_ HT_ ?_
    refine fe_ ?_
    refine tk_ 12 8191 (N:=some 66) (v:=?_) (a':=?_) HT_ HW_ rfl rfl (.inl ⟨by rfl,?_⟩) hHeld ?_ ?_
    rotate_left
    ·rintro w' hs
     have xx:=pw_cell_below hs z1
     go_simp
     with_reducible rfl
    rotate_left
    ·simp only[Act.put,zq1,zq2,zq3,i64_w,i32_w]
     rfl
    refine tw_ 13 17 16383 139263 (some 67) (some 10) HT_ rfl rfl rfl rfl (by kernel_rfl) (by decide) (by decide) (fun K hK=>?_) (fun K hK=>?_)
    ·refine goes_ Tryz.func26 (by kernel_rfl) rfl #[ptr l,.int .i64 lo.f0,.int .i64 lo.f1] (by rfl) rfl rfl (by(try simp only[List.map_toArray,List.map_cons,List.map_nil]);first | done | rfl) ?_
     refine(HC.out _ hHeld).mono ?_
     rintro e w5 ⟨A7,c7,A8,c8,rfl,h8,hb8,hb⟩
     refine⟨_,rfl,?_⟩
     have hHeld:=hb8
     refine kn_ (a':=?_) hK hHeld ?_ fun hHeld=>?_
     rotate_left;(focus show Act.put _ (some 67) _=_;simp only[Act.put,zq1,zq2,zq3,i64_w,i32_w];rfl);clear hK K
     clear hb
     refine fl_ [14,53,32767,15,68,65535,16,69,131071] ?_
     iterate 3 refine pz_ HT_ ?_
     refine fe_ ?_
     refine on_ 17 262143 (some 10) HT_ rfl rfl (by kernel_rfl) (by decide) (fun K hK=>?_)
     refine Mn.alloc_step rfl (by go_simp;exact⟨rfl,rfl⟩) ?_
     have hrow:=heap_alloc_new w5 (.cells #[.int .i64 0,.string ⟨#[]⟩,.int .i64 0,.int .i64 0,.int .i64 0,.slice none 0 0,.slice none 0 0] 38)
     have h8:=Kd.R_below h8 (below_alloc (RowKit.Below.refl w5.heap.size w5) (.cells #[.int .i64 0,.string ⟨#[]⟩,.int .i64 0,.int .i64 0,.int .i64 0,.slice none 0 0,.slice none 0 0] 38))
     have hHeld:=below_alloc hHeld (.cells #[.int .i64 0,.string ⟨#[]⟩,.int .i64 0,.int .i64 0,.int .i64 0,.slice none 0 0,.slice none 0 0] 38)
     refine kn_ (a':=?_) hK hHeld ?_ fun hHeld=>?_
     rotate_left;(focus show Act.put _ (some 10) _=_;simp only[Act.put,zq1,zq2,zq3,i64_w,i32_w];rfl);clear hK K
     have hle:wr.heap.size≤w5.heap.size:=hb8.size
     generalize hw6:w5.alloc (.cells #[.int .i64 0,.string ⟨#[]⟩,.int .i64 0,.int .i64 0,.int .i64 0,.slice none 0 0,.slice none 0 0] 38)=w6 at hHeld hrow h8 ⊢
     clear hw6
     have hvt:=Kd.R_mono (ok':=fun q=>q≠w5.heap.size) (Kd.R_types h8 hrow (by decide)) (fun q hq=>hq.2)
     refine on_ 18 524287 none HT_ rfl rfl (by kernel_rfl) (by decide) (fun K hK=>?_)
     have s0:=bq hrow 0 (.int .i64 0)
     have s1:=bq hrow 1 (.string ⟨#[]⟩)
     have s2:=bq hrow 2 (.int .i64 0)
     have s3:=bq hrow 3 (.int .i64 0)
     have s4:=bq hrow 4 (.int .i64 0)
     have s5:=bq hrow 5 (.slice none 0 0)
     have s6:=bq hrow 6 (.slice none 0 0)
     have f0:=blk_frozen hrow 0
     have f1:=blk_frozen hrow 1
     have f2:=blk_frozen hrow 2
     have f3:=blk_frozen hrow 3
     have f4:=blk_frozen hrow 4
     have f5:=blk_frozen hrow 5
     have f6:=blk_frozen hrow 6
     refine Rc.store_step rfl (by go_simp;rfl) ?_
     refine hK.out _ _ ((((((((hHeld.setCell (p:=⟨w5.heap.size,0,none⟩) hle _).setCell (p:=⟨w5.heap.size,1,none⟩) hle _).setCell (p:=⟨w5.heap.size,2,none⟩) hle _).setCell (p:=⟨w5.heap.size,3,none⟩) hle _).setCell (p:=⟨w5.heap.size,4,none⟩) hle _).setCell (p:=⟨w5.heap.size,5,none⟩) hle _).setCell (p:=⟨w5.heap.size,6,none⟩) hle _)) (fun hHeld=>?_)
     clear hK K
     refine norm_ (a':=?_) ?_ ?_
     rotate_left
     ·show Act.put _ (none) _=_
      simp only[Act.put]
      rfl
     clear s0 f0 s1 f1 s2 f2 s3 f3 s4 f4 s5 f5 s6 f6
     refine fl_ [19,11,1048575] ?_
     (refine pq_ (v:=?_) (a':=?_) HT_ rfl rfl (.inl ⟨by rfl,?_⟩) ?_ ?_;rotate_left;(focus intro w';go_simp;with_reducible rfl);rotate_left;(focus simp only[Act.put,zq1,zq2,zq3,i64_w,i32_w];rfl))
     refine fe_ ?_
     refine dz_ HT_ ?_
     go_wp2
     go_meet
     case rel=>exact⟨w5.heap.size,A7,c7,A8,c8,rfl,rfl,rfl,rfl,⟨(blk_put (blk_put (blk_put (blk_put (blk_put (blk_put (blk_put hrow 0 _ rfl) 1 _ rfl) 2 _ rfl) 3 _ rfl) 4 _ rfl) 5 _ rfl) 6 _ rfl)⟩,⟨Kd.R_mono (Kd.R_far (p:=⟨w5.heap.size,6,none⟩) (Kd.R_far (p:=⟨w5.heap.size,5,none⟩) (Kd.R_far (p:=⟨w5.heap.size,4,none⟩) (Kd.R_far (p:=⟨w5.heap.size,3,none⟩) (Kd.R_far (p:=⟨w5.heap.size,2,none⟩) (Kd.R_far (p:=⟨w5.heap.size,1,none⟩) (Kd.R_far (p:=⟨w5.heap.size,0,none⟩) hvt (fun q hq=>hq) _) (fun q hq=>hq) _) (fun q hq=>hq) _) (fun q hq=>hq) _) (fun q hq=>hq) _) (fun q hq=>hq) _) (fun q hq=>hq) _) (fun _ _=>trivial)⟩,⟨hHeld⟩⟩
    ·refine Mn.alloc_step rfl (by go_simp;exact⟨rfl,rfl⟩) ?_
     have hrow:=heap_alloc_new w4 (.cells #[.int .i64 0,.string ⟨#[]⟩,.int .i64 0,.int .i64 0,.int .i64 0,.slice none 0 0,.slice none 0 0] 38)
     have hle:wr.heap.size≤w4.heap.size:=hHeld.size
     have hHeld:=below_alloc hHeld (.cells #[.int .i64 0,.string ⟨#[]⟩,.int .i64 0,.int .i64 0,.int .i64 0,.slice none 0 0,.slice none 0 0] 38)
     refine kn_ (a':=?_) hK hHeld ?_ fun hHeld=>?_
     rotate_left;(focus show Act.put _ (some 10) _=_;simp only[Act.put,zq1,zq2,zq3,i64_w,i32_w];rfl);clear hK K
     generalize hw5:w4.alloc (.cells #[.int .i64 0,.string ⟨#[]⟩,.int .i64 0,.int .i64 0,.int .i64 0,.slice none 0 0,.slice none 0 0] 38)=w5 at hHeld hrow ⊢
     clear hw5
     refine on_ 13 147455 (some 67) HT_ rfl rfl (by kernel_rfl) (by decide) (fun K hK=>?_)
     refine goes_ Tryz.func26 (by kernel_rfl) rfl #[ptr l,.int .i64 lo.f0,.int .i64 lo.f1] (by rfl) rfl rfl (by(try simp only[List.map_toArray,List.map_cons,List.map_nil]);first | done | rfl) ?_
     refine(HC.out _ hHeld).mono ?_
     rintro e w6 ⟨A7,c7,A8,c8,rfl,h8,hb8,hb⟩
     refine⟨_,rfl,?_⟩
     have hrow:=(hb.block _ (blk_lt hrow)).trans hrow
     have hHeld:=hb8
     refine kn_ (a':=?_) hK hHeld ?_ fun hHeld=>?_
     rotate_left;(focus show Act.put _ (some 67) _=_;simp only[Act.put,zq1,zq2,zq3,i64_w,i32_w];rfl);clear hK K
     clear hb
     refine fl_ [14,53,163839,15,68,196607,16,69,262143] ?_
     iterate 3 refine pz_ HT_ ?_
     refine fe_ ?_
     have hvt:=Kd.R_mono (ok':=fun q=>q≠w4.heap.size) (Kd.R_types h8 hrow (by decide)) (fun q hq=>hq.2)
     refine on_ 18 524287 none HT_ rfl rfl (by kernel_rfl) (by decide) (fun K hK=>?_)
     have s0:=bq hrow 0 (.int .i64 0)
     have s1:=bq hrow 1 (.string ⟨#[]⟩)
     have s2:=bq hrow 2 (.int .i64 0)
     have s3:=bq hrow 3 (.int .i64 0)
     have s4:=bq hrow 4 (.int .i64 0)
     have s5:=bq hrow 5 (.slice none 0 0)
     have s6:=bq hrow 6 (.slice none 0 0)
     have f0:=blk_frozen hrow 0
     have f1:=blk_frozen hrow 1
     have f2:=blk_frozen hrow 2
     have f3:=blk_frozen hrow 3
     have f4:=blk_frozen hrow 4
     have f5:=blk_frozen hrow 5
     have f6:=blk_frozen hrow 6
     refine Rc.store_step rfl (by go_simp;rfl) ?_
     refine hK.out _ _ ((((((((hHeld.setCell (p:=⟨w4.heap.size,0,none⟩) hle _).setCell (p:=⟨w4.heap.size,1,none⟩) hle _).setCell (p:=⟨w4.heap.size,2,none⟩) hle _).setCell (p:=⟨w4.heap.size,3,none⟩) hle _).setCell (p:=⟨w4.heap.size,4,none⟩) hle _).setCell (p:=⟨w4.heap.size,5,none⟩) hle _).setCell (p:=⟨w4.heap.size,6,none⟩) hle _)) (fun hHeld=>?_)
     clear hK K
     refine norm_ (a':=?_) ?_ ?_
     rotate_left
     ·show Act.put _ (none) _=_
      simp only[Act.put]
      rfl
     clear s0 f0 s1 f1 s2 f2 s3 f3 s4 f4 s5 f5 s6 f6
     refine fl_ [19,11,1048575] ?_
     (refine pq_ (v:=?_) (a':=?_) HT_ rfl rfl (.inl ⟨by rfl,?_⟩) ?_ ?_;rotate_left;(focus intro w';go_simp;with_reducible rfl);rotate_left;(focus simp only[Act.put,zq1,zq2,zq3,i64_w,i32_w];rfl))
     refine fe_ ?_
     refine dz_ HT_ ?_
     go_wp2
     go_meet
     case rel=>exact⟨w4.heap.size,A7,c7,A8,c8,rfl,rfl,rfl,rfl,⟨(blk_put (blk_put (blk_put (blk_put (blk_put (blk_put (blk_put hrow 0 _ rfl) 1 _ rfl) 2 _ rfl) 3 _ rfl) 4 _ rfl) 5 _ rfl) 6 _ rfl)⟩,⟨Kd.R_mono (Kd.R_far (p:=⟨w4.heap.size,6,none⟩) (Kd.R_far (p:=⟨w4.heap.size,5,none⟩) (Kd.R_far (p:=⟨w4.heap.size,4,none⟩) (Kd.R_far (p:=⟨w4.heap.size,3,none⟩) (Kd.R_far (p:=⟨w4.heap.size,2,none⟩) (Kd.R_far (p:=⟨w4.heap.size,1,none⟩) (Kd.R_far (p:=⟨w4.heap.size,0,none⟩) hvt (fun q hq=>hq) _) (fun q hq=>hq) _) (fun q hq=>hq) _) (fun q hq=>hq) _) (fun q hq=>hq) _) (fun q hq=>hq) _) (fun q hq=>hq) _) (fun _ _=>trivial)⟩,⟨hHeld⟩⟩
   case rest=>
    obtain⟨tb,A7,c7,A8,c8,rfl,rfl,rfl,rfl,HT,HX,HBX⟩:=hcut
    have hsw:=(HBX.out.block _ (blk_lt HSR.out)).trans HSR.out
    have s0:=bq HT.out 0 (.int .i64 1)
    have s2:=bq HT.out 2 (.int .i64 id)
    have s3:=bq HT.out 3 (.int .i64 k)
    have s6:=bq HT.out 6 (.slice A8 x.length c8)
    have r2:=bq hsw 2 (.int .i64 id)
    have r5:=bq hsw 5 (.slice (some ad) ps.length c5)
    have r9:=pw_cell_below HBX.out z2
    clear x0 x2 x4 x5 z0 z1 z2 hsw
    go_wp2
    go_quiet (fail)
    have HB9:=ak (HB.out.trans ((pw_below_drewN HBX.out nq).mono HB.out.size))
    have t6:(wc.drewN nq).cell? ⟨tb,6,none⟩=some (.slice A8 x.length c8):=s6
    have hcv:(convert 35 9 (.slice A8 x.length c8)).run Tryz.prog (wc.drewN nq)=.ok (.string (strOfNums x)) (wc.drewN nq):=conv_row c8 (C_blk (Kd.R_reads' HX.out).2.2 (fun a e=>rfl))
    clear s0 s2 s3 s6 r2 r5 r9
    generalize wc.drewN nq=w9 at HB9 t6 hcv ⊢
    have hadd:=HADD.out
    go_wp2
    go_roundg gk
    case measure=>omega
    case rel=>exact⟨k+1,by rw[HTK.out,← str_app,HST.out],by rw[wrap_k k (by have:=HMAX.out;omega)],⟨by have:=HQ.out;omega⟩,HB9⟩
end Pw
end
end Go.Proofs.YtcieieacfoaklaaGreat

