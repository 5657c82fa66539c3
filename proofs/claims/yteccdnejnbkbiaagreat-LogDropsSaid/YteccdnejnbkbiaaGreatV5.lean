/- Texts of this claim, joined. -/
import Derived.Test.YteccdnejnbkbiaaGreatV0
import Derived.Test.YteccdnejnbkbiaaGreatV4
import Derived.Test.YteccdnejnbkbiaaGreatV2
import Derived.Shelf.SlicesE.IndexFunc
import Derived.Test.YteccdnejnbkbiaaGreatV3
import Derived.SizedLaws
import Derived.ChangeSlices
set_option linter.unusedVariables false
set_option linter.unusedSimpArgs false
set_option maxRecDepth 100000
set_option maxHeartbeats 8000000
section
namespace Go.Proofs.YteccdnejnbkbiaaGreat.Lg
open Go.RowKit Go.Maps Fr Ext Go.Proofs.YteccdnejnbkbiaaGreat.Nm Dk Mn YteccdnejnbkbiaaGreatW.PrintWords YteccdnejnbkbiaaGreatW.PrintLast YteccdnejnbkbiaaGreatW.PrintMore
open Sg (segN segN_le segN_ascii It Fo foundsL foundOf allSM)
open Rc (Re Lo zeroR recC Norm Norm.intro Norm.elim)
variable {w w' w1:World} {B l g N:Nat} {M M':DiskM} {F F' G:Nat→Prop} {S S':LogS}
def hi1T:Bool×List (List Nat×List Nat):=(true,[([],[]),([0],[0]),([1],[1]),([2],[2]),([],[]),([3,4],[3,4]),([5],[5]),([6],[6]),([6],[6]),([6],[6]),([7,5,0,1,2,3,4,5,6,7],[7]),([8,10,0,1,2,3,4,5,6,7,8,10],[8]),([9,11,0,1,2,3,4,5,6,7,8,9,10,11],[9])])
def hi1B:List Nat:=[0,1,3,7,0,31,63,127,127,127,255,1535,4095]
theorem hi1tab:rtab .any (opsOf Tryz.f44 1)=hi1T:=by kernel_rfl
theorem hi1bits:waitsOk hi1T.2 hi1B=true:=by kernel_rfl
def hi2T:Bool×List (List Nat×List Nat):=(true,[([],[]),([0],[0]),([],[]),([2],[2]),([3],[3]),([4],[4]),([],[]),([5,6,1],[5,6]),([1,7,7],[1,7]),([],[]),([9,8,8,0,1,2,3,4,5,6,7,8,9],[8,9])])
def hi2B:List Nat:=[0,1,0,4,12,28,0,127,255,0,1023]
theorem hi2tab:rtab .any (opsOf Tryz.f44 2)=hi2T:=by kernel_rfl
theorem hi2bits:waitsOk hi2T.2 hi2B=true:=by kernel_rfl
theorem run_hint1 (args:Array Value) (W:World):(callFunc 78 args).run Tryz.prog W=.ok (.enter 78 args) W:=enters_ Tryz.func78 (by kernel_rfl) rfl args W
theorem run_hint2 (args:Array Value) (W:World):(callFunc 79 args).run Tryz.prog W=.ok (.enter 79 args) W:=enters_ Tryz.func79 (by kernel_rfl) rfl args W
theorem run_hint3 (args:Array Value) (W:World):(callFunc 80 args).run Tryz.prog W=.ok (.enter 80 args) W:=enters_ Tryz.func80 (by kernel_rfl) rfl args W
theorem hint_calls (hd:DiskAt w B g N M F) (hM:Fit M) (h:LogO w B l g F S) (n:Int) (hN:N+3≤1000000000000):Calls Tryz.prog 44 #[ptr l,.int .i64 n] w fun e w'=>e=.returned (.tuple #[])∧Turned w w' B g (N+3) F (hintM M n):=by
 have HD:=ak hd
 have HM:=ak hM
 have HO:=ak h
 have HN:=ak hN
 have HHB:=ak (hintB_fit hM n)
 have hdef:hintM M n=(turnsM (hintSteps n (hintB M n)) M).1:=rfl
 have hbdef:hintB M n=Hu.putAll (Hn.ofL (allSM M n).1) (sizeM M (segN n)):=rfl
 have HALL:=ak (fun W (hW:RowKit.Below w.heap.size w W)=>Sg.allS_calls (hd.below hW) hM n)
 have HSZ:=ak (fun W (hW:RowKit.Below w.heap.size w W)=>Sg.Size_calls (hd.below hW) n)
 have HAF:=ak (all_founds hM n)
 generalize allSM M n=am at HALL HAF hbdef
 generalize sizeM M (segN n)=sz at HSZ hbdef
 obtain⟨fo,bad,er⟩:=am
 dsimp only at hbdef
 have hOfL:=ofGo_len fo []
 have HOF:=ak (fun W (A:Option Addr) (c:Nat) (hr:Kd.C Pt.k179 W A fo.length fo) (hc:fo.length≤c)=>hint_Of.calls A c fo (Hn.ofL fo) W hr hc (by
  have h1:=HAF.out.1
  have h2:=HAF.out.2
  unfold hint_Of.f
  refine if_pos ⟨?_,List.all_eq_true.2 fun x hx=>decide_eq_true (Nat.le_trans (h2 x hx) (by decide))⟩
  dsimp only at h1
  omega))
 have hol:(Hn.ofL fo).length≤1000000000:=by
  have h1:=HAF.out.1
  have h2:(Hn.ofL fo).length≤fo.length:=hOfL
  dsimp only at h1
  omega
 generalize Hn.ofL fo=hs at hbdef HOF hol
 have HPU:=ak (fun W (A:Option Addr) (c:Nat) (hr:Kd.C Pt.k141 W A hs.length hs) (hc:hs.length≤c)=>Hu.put_calls A c hs sz W hr hc hol)
 rw[← hbdef] at HPU
 generalize hintB M n=bs at hdef HPU HHB
 have HDEF:=ak hdef
 obtain⟨⟨A,c,h1,h2,h3⟩,hs',ha⟩:=h
 obtain⟨hb1,hb2,hB⟩:=two_blocks w (.cells #[ptr l] 28) (.cells #[.int .i64 n] 3)
 have hl1:=(hB.block _ (blk_lt h1)).trans h1
 clear hd hM hN hdef hbdef hol hOfL h1 h2 h3 hs' ha
 go_enter Tryz.func44,Tryz.ntmps44
 go_upto_region 1 with(fail)
 generalize (w.alloc (.cells #[ptr l] 28)).alloc (.cells #[.int .i64 n] 3)=w1 at hb1 hb2 hB hl1 ⊢
 have HB:=ak hB
 have HL1:=ak hb1
 have HN1:=ak hb2
 have HG1:=ak hl1
 have x0:=bq hb1 0 (ptr l)
 have x1:=bq hb2 0 (.int .i64 n)
 have x2:=bq hl1 0 (ptr g)
 clear hb1 hb2 hB hl1
 refine st_ 13 (S:=(fun w'=>RowKit.Below w1.heap.size w1 w')) (ds:=[]) (by kernel_rfl) rfl (by kernel_rfl) (RowKit.Below.refl _ _).drew (fun hHeld=>?_);refine with_tabW hi1tab hi1bits (fun HT_ HW_=>?_)
 generalize w1.drew=w2 at hHeld ⊢
 refine tk_ 0 1 (N:=some 9) (v:=?_) (a':=?_) HT_ HW_ rfl rfl (.inl ⟨by rfl,?_⟩) hHeld ?_ ?_
 rotate_left
 ·rintro w' hs
  have xx:=pw_cell_below hs x0
  go_simp
  with_reducible rfl
 rotate_left
 ·simp only[Act.put,zq1,zq2,zq3,i64_w,i32_w]
  rfl
 refine fl_ [1,10,3,2,11,7] ?_
 iterate 2 (refine pq_ (v:=?_) (a':=?_) HT_ rfl rfl (.inl ⟨by rfl,?_⟩) ?_ ?_;rotate_left;(focus intro w';go_simp;with_reducible rfl);rotate_left;(focus simp only[Act.put,zq1,zq2,zq3,i64_w,i32_w];rfl))
 refine fe_ ?_
 refine tk_ 3 15 (N:=some 12) (v:=?_) (a':=?_) HT_ HW_ rfl rfl (.inl ⟨by rfl,?_⟩) hHeld ?_ ?_
 rotate_left
 ·rintro w' hs
  have xx:=pw_cell_below hs x2
  go_simp
  with_reducible rfl
 rotate_left
 ·simp only[Act.put,zq1,zq2,zq3,i64_w,i32_w]
  rfl
 refine tk_ 4 31 (N:=some 13) (v:=?_) (a':=?_) HT_ HW_ rfl rfl (.inl ⟨by rfl,?_⟩) hHeld ?_ ?_
 rotate_left
 ·rintro w' hs
  have xx:=pw_cell_below hs x1
  go_simp
  with_reducible rfl
 rotate_left
 ·simp only[Act.put,zq1,zq2,zq3,i64_w,i32_w]
  rfl
 refine on_ 5 63 (some 14) HT_ rfl rfl (by kernel_rfl) (by decide) (fun K hK=>?_)
 refine goes_ Tryz.func75 (by kernel_rfl) rfl #[.pointer (some ⟨g,0,none⟩),.int .i64 n] (by rfl) rfl rfl (by(try simp only[List.map_toArray,List.map_cons,List.map_nil]);first | done | rfl) ?_
 refine(HALL.out _ (HB.out.trans (hHeld.mono HB.out.size))).mono ?_
 rintro e w3 ⟨v3,rfl,hv3,hb⟩
 refine⟨_,rfl,?_⟩
 have hHeld:=hHeld.trans (hb.mono hHeld.size)
 refine kn_ (a':=?_) hK hHeld ?_ fun hHeld=>?_
 rotate_left;(focus show Act.put _ (some 14) _=_;simp only[Act.put,zq1,zq2,zq3,i64_w,i32_w];rfl);clear hK K
 obtain⟨A4,c4,hA4⟩:=Kd.S_slice hv3
 subst hA4
 refine fl_ [6,8,127,7,15,255,8,16,511,9,17,1023,10,4,2047,11,5,4095,12,6,8191] ?_
 iterate 7 (refine pq_ (v:=?_) (a':=?_) HT_ rfl rfl (.inl ⟨by rfl,?_⟩) ?_ ?_;rotate_left;(focus intro w';go_simp;with_reducible rfl);rotate_left;(focus simp only[Act.put,zq1,zq2,zq3,i64_w,i32_w];rfl))
 refine fe_ ?_
 have HB13:=ak hHeld
 obtain⟨hcap,hCF⟩:fo.length≤c4∧Kd.C Pt.k179 w3 A4 fo.length fo:=by
  obtain⟨A',c',e1,e2,e3⟩:=Kd.S_reads hv3
  injection e1 with e4 e5 e6
  subst e4 e6
  exact⟨e2,e3⟩
 have HCF:=ak hCF
 have HCAP:=ak hcap
 clear hb hHeld hCF hcap hv3
 refine done_ (done_of HT_.out (by kernel_rfl)) ?_
 have y0:=pw_cell_below HB13.out x0
 have y1:=pw_cell_below HB13.out x1
 have y2:=pw_cell_below HB13.out x2
 go_upto_region 2 with(fail)
 refine Code.wp_mono (Q:=Norm fun a' W=>∃(hb:Nat) (A5:Option Addr) (c5:Nat) (A6:Option Addr) (c6:Nat),a'={tmps:=#[ptr l,.int .i64 n,.pointer (some ⟨w.heap.size,0,none⟩),.pointer (some ⟨w.heap.size+1,0,none⟩),.slice A4 fo.length c4,.int .i64 bad,.int .i64 er,.pointer (some ⟨hb,0,none⟩),.tuple #[.slice A4 fo.length c4,.int .i64 bad,.int .i64 er],ptr l,.pointer (some ⟨l,0,none⟩),.pointer (some ⟨l,0,none⟩),ptr g,.int .i64 n,.tuple #[.slice A4 fo.length c4,.int .i64 bad,.int .i64 er],.slice A4 fo.length c4,.int .i64 bad,.int .i64 er,.slice A4 fo.length c4,.slice A5 hs.length c5,ptr l,.pointer (some ⟨l,0,none⟩),.pointer (some ⟨l,0,none⟩),ptr g,.int .i64 n,.int .i64 sz,.slice A6 bs.length c6,undef,undef,undef,undef,undef],defers:=[]}∧W.heap[hb]? =some (.cells #[.slice A6 bs.length c6] 33 (0,0))∧Kd.R (Kd.int .u8) 5 W w3.heap.size (fun _=>True) (.slice A6 bs.length c6) bs∧RowKit.Below w3.heap.size w3 W∧w3.heap.size≤hb) (Norm.elim ?mono) ?reg
 case reg=>
  refine st_ 11 (S:=(fun w'=>RowKit.Below w3.heap.size w3 w')) (ds:=[]) (by kernel_rfl) rfl (by kernel_rfl) (RowKit.Below.refl _ _).drew (fun hHeld=>?_);refine with_tabW hi2tab hi2bits (fun HT_ HW_=>?_)
  generalize w3.drew=v0 at hHeld ⊢
  refine fl_ [0,18,1] ?_
  (refine pq_ (v:=?_) (a':=?_) HT_ rfl rfl (.inl ⟨by rfl,?_⟩) ?_ ?_;rotate_left;(focus intro w';go_simp;with_reducible rfl);rotate_left;(focus simp only[Act.put,zq1,zq2,zq3,i64_w,i32_w];rfl))
  refine fe_ ?_
  refine tk_ 2 5 (N:=some 20) (v:=?_) (a':=?_) HT_ HW_ rfl rfl (.inl ⟨by rfl,?_⟩) hHeld ?_ ?_
  rotate_left
  ·rintro w' hs
   have xx:=pw_cell_below hs y0
   go_simp
   with_reducible rfl
  rotate_left
  ·simp only[Act.put,zq1,zq2,zq3,i64_w,i32_w]
   rfl
  refine fl_ [3,21,13,4,22,29] ?_
  iterate 2 (refine pq_ (v:=?_) (a':=?_) HT_ rfl rfl (.inl ⟨by rfl,?_⟩) ?_ ?_;rotate_left;(focus intro w';go_simp;with_reducible rfl);rotate_left;(focus simp only[Act.put,zq1,zq2,zq3,i64_w,i32_w];rfl))
  refine fe_ ?_
  refine tk_ 5 61 (N:=some 23) (v:=?_) (a':=?_) HT_ HW_ rfl rfl (.inl ⟨by rfl,?_⟩) hHeld ?_ ?_
  rotate_left
  ·rintro w' hs
   have xx:=pw_cell_below hs y2
   go_simp
   with_reducible rfl
  rotate_left
  ·simp only[Act.put,zq1,zq2,zq3,i64_w,i32_w]
   rfl
  refine tk_ 6 125 (N:=some 24) (v:=?_) (a':=?_) HT_ HW_ rfl rfl (.inl ⟨by rfl,?_⟩) hHeld ?_ ?_
  rotate_left
  ·rintro w' hs
   have xx:=pw_cell_below hs y1
   go_simp
   with_reducible rfl
  rotate_left
  ·simp only[Act.put,zq1,zq2,zq3,i64_w,i32_w]
   rfl
  refine tw_ 1 9 127 637 (some 19) (some 7) HT_ rfl rfl rfl rfl (by kernel_rfl) (by decide) (by decide) (fun K hK=>?_) (fun K hK=>?_)
  ·refine goes_ Tryz.func77 (by kernel_rfl) rfl #[.slice A4 fo.length c4] (by rfl) rfl rfl (by(try simp only[List.map_toArray,List.map_cons,List.map_nil]);first | done | rfl) ?_
   refine(HOF.out _ A4 c4 (Kd.C_below HCF.out hHeld) HCAP.out).mono ?_
   rintro e a1 ⟨v1,rfl,hv1,hb⟩
   refine⟨_,rfl,?_⟩
   have hHeld:=hHeld.trans (hb.mono hHeld.size)
   refine kn_ (a':=?_) hK hHeld ?_ fun hHeld=>?_
   rotate_left;(focus show Act.put _ (some 19) _=_;simp only[Act.put,zq1,zq2,zq3,i64_w,i32_w];rfl);clear hK K
   obtain⟨A5,c5,hA5⟩:=Kd.R_slice hv1
   subst hA5
   have hrd:=Kd.R_reads' hv1
   clear hb
   refine tw_ 7 9 255 639 (some 25) (some 7) HT_ rfl rfl rfl rfl (by kernel_rfl) (by decide) (by decide) (fun K hK=>?_) (fun K hK=>?_)
   ·refine goes_ Tryz.func26 (by kernel_rfl) rfl #[.pointer (some ⟨g,0,none⟩),.int .i64 n] (by rfl) rfl rfl (by(try simp only[List.map_toArray,List.map_cons,List.map_nil]);first | done | rfl) ?_
    refine(HSZ.out _ ((HB.out.trans (HB13.out.mono HB.out.size)).trans (hHeld.mono (HB.out.trans (HB13.out.mono HB.out.size)).size))).mono ?_
    rintro e a7 ⟨rfl,hb⟩
    refine⟨_,rfl,?_⟩
    have hHeld:=hHeld.trans (hb.mono hHeld.size)
    refine kn_ (a':=?_) hK hHeld ?_ fun hHeld=>?_
    rotate_left;(focus show Act.put _ (some 25) _=_;simp only[Act.put,zq1,zq2,zq3,i64_w,i32_w];rfl);clear hK K
    have hrd:=(⟨hrd.1,hrd.2.1,Kd.C_below hrd.2.2 hb⟩:_∧_∧Kd.C Pt.k141 _ A5 hs.length hs)
    clear hb
    have hle8:=hHeld.size
    refine tw_ 8 9 511 767 (some 26) (some 7) HT_ rfl rfl rfl rfl (by kernel_rfl) (by decide) (by decide) (fun K hK=>?_) (fun K hK=>?_)
    ·refine goes_ Tryz.func76 (by kernel_rfl) rfl #[.slice A5 hs.length c5,.int .i64 sz] (by rfl) rfl rfl (by(try simp only[List.map_toArray,List.map_cons,List.map_nil]);first | done | rfl) ?_
     refine(HPU.out _ A5 c5 hrd.2.2 hrd.2.1).mono ?_
     rintro e a8 ⟨v8,rfl,hv8,hb⟩
     refine⟨_,rfl,?_⟩
     have hHeld:=hHeld.trans (hb.mono hHeld.size)
     refine kn_ (a':=?_) hK hHeld ?_ fun hHeld=>?_
     rotate_left;(focus show Act.put _ (some 26) _=_;simp only[Act.put,zq1,zq2,zq3,i64_w,i32_w];rfl);clear hK K
     obtain⟨A6,c6,hA6⟩:=Kd.R_slice hv8
     subst hA6
     clear hb
     refine on_ 9 1023 (some 7) HT_ rfl rfl (by kernel_rfl) (by decide) (fun K hK=>?_)
     refine Mn.alloc_step rfl (by go_simp;exact⟨rfl,rfl⟩) ?_
     have hrow:=heap_alloc_new a8 (.cells #[.slice none 0 0] 33)
     have hb:=below_alloc (RowKit.Below.refl a8.heap.size a8) (.cells #[.slice none 0 0] 33)
     have hle:w3.heap.size≤a8.heap.size:=hHeld.size
     have hHeld:=below_alloc hHeld (.cells #[.slice none 0 0] 33)
     refine kn_ (a':=?_) hK hHeld ?_ fun hHeld=>?_
     rotate_left;(focus show Act.put _ (some 7) _=_;simp only[Act.put,zq1,zq2,zq3,i64_w,i32_w];rfl);clear hK K
     have hv8:=Kd.R_below hv8 hb
     generalize a8.alloc (.cells #[.slice none 0 0] 33)=z99 at hHeld hrow hb hv8 ⊢
     clear hb
     have hv8:=Kd.R_lower hv8 hle8
     have hvt:=Kd.R_mono (ok':=fun q=>q≠a8.heap.size) (Kd.R_types hv8 hrow (by decide)) (fun q hq=>hq.2)
     refine on_ 10 2047 none HT_ rfl rfl (by kernel_rfl) (by decide) (fun K hK=>?_)
     have q0:_root_.Go.World.cell? z99 ⟨a8.heap.size,0,none⟩=some (.slice none 0 0):=(blk_cell hrow 0).trans rfl
     have f0:=blk_frozen hrow 0
     refine Rc.store_step rfl (by go_simp;rfl) ?_
     refine hK.out _ _ (hHeld.setCell (p:=⟨a8.heap.size,0,none⟩) hle _) (fun hHeld=>?_)
     clear hK K
     refine norm_ (a':=?_) ?_ ?_
     rotate_left
     ·show Act.put _ (none) _=_
      simp only[Act.put]
      rfl
     refine done_ (done_of HT_.out (by kernel_rfl)) ?_
     exact Norm.intro ⟨a8.heap.size,A5,c5,A6,c6,rfl,blk_put hrow 0 _ rfl,Kd.R_mono (Kd.R_far (p:=⟨a8.heap.size,0,none⟩) hvt (fun q hq=>hq) _) (fun _ _=>trivial),hHeld,hle⟩
    ·refine Mn.alloc_step rfl (by go_simp;exact⟨rfl,rfl⟩) ?_
     have hrow:=heap_alloc_new a7 (.cells #[.slice none 0 0] 33)
     have hb:=below_alloc (RowKit.Below.refl a7.heap.size a7) (.cells #[.slice none 0 0] 33)
     have hle:w3.heap.size≤a7.heap.size:=hHeld.size
     have hHeld:=below_alloc hHeld (.cells #[.slice none 0 0] 33)
     refine kn_ (a':=?_) hK hHeld ?_ fun hHeld=>?_
     rotate_left;(focus show Act.put _ (some 7) _=_;simp only[Act.put,zq1,zq2,zq3,i64_w,i32_w];rfl);clear hK K
     have hrd:=(⟨hrd.1,hrd.2.1,Kd.C_below hrd.2.2 hb⟩:_∧_∧Kd.C Pt.k141 _ A5 hs.length hs)
     generalize a7.alloc (.cells #[.slice none 0 0] 33)=z8 at hHeld hrow hb hrd ⊢
     clear hb
     have hle8:=hHeld.size
     refine on_ 8 1023 (some 26) HT_ rfl rfl (by kernel_rfl) (by decide) (fun K hK=>?_)
     refine goes_ Tryz.func76 (by kernel_rfl) rfl #[.slice A5 hs.length c5,.int .i64 sz] (by rfl) rfl rfl (by(try simp only[List.map_toArray,List.map_cons,List.map_nil]);first | done | rfl) ?_
     refine(HPU.out _ A5 c5 hrd.2.2 hrd.2.1).mono ?_
     rintro e a8 ⟨v8,rfl,hv8,hb⟩
     refine⟨_,rfl,?_⟩
     have hrow:=(hb.block _ (blk_lt hrow)).trans hrow
     have hHeld:=hHeld.trans (hb.mono hHeld.size)
     refine kn_ (a':=?_) hK hHeld ?_ fun hHeld=>?_
     rotate_left;(focus show Act.put _ (some 26) _=_;simp only[Act.put,zq1,zq2,zq3,i64_w,i32_w];rfl);clear hK K
     obtain⟨A6,c6,hA6⟩:=Kd.R_slice hv8
     subst hA6
     clear hb
     have hv8:=Kd.R_lower hv8 hle8
     have hvt:=Kd.R_mono (ok':=fun q=>q≠a7.heap.size) (Kd.R_types hv8 hrow (by decide)) (fun q hq=>hq.2)
     refine on_ 10 2047 none HT_ rfl rfl (by kernel_rfl) (by decide) (fun K hK=>?_)
     have q0:_root_.Go.World.cell? a8 ⟨a7.heap.size,0,none⟩=some (.slice none 0 0):=(blk_cell hrow 0).trans rfl
     have f0:=blk_frozen hrow 0
     refine Rc.store_step rfl (by go_simp;rfl) ?_
     refine hK.out _ _ (hHeld.setCell (p:=⟨a7.heap.size,0,none⟩) hle _) (fun hHeld=>?_)
     clear hK K
     refine norm_ (a':=?_) ?_ ?_
     rotate_left
     ·show Act.put _ (none) _=_
      simp only[Act.put]
      rfl
     refine done_ (done_of HT_.out (by kernel_rfl)) ?_
     exact Norm.intro ⟨a7.heap.size,A5,c5,A6,c6,rfl,blk_put hrow 0 _ rfl,Kd.R_mono (Kd.R_far (p:=⟨a7.heap.size,0,none⟩) hvt (fun q hq=>hq) _) (fun _ _=>trivial),hHeld,hle⟩
   ·refine Mn.alloc_step rfl (by go_simp;exact⟨rfl,rfl⟩) ?_
    have hrow:=heap_alloc_new a1 (.cells #[.slice none 0 0] 33)
    have hb:=below_alloc (RowKit.Below.refl a1.heap.size a1) (.cells #[.slice none 0 0] 33)
    have hle:w3.heap.size≤a1.heap.size:=hHeld.size
    have hHeld:=below_alloc hHeld (.cells #[.slice none 0 0] 33)
    refine kn_ (a':=?_) hK hHeld ?_ fun hHeld=>?_
    rotate_left;(focus show Act.put _ (some 7) _=_;simp only[Act.put,zq1,zq2,zq3,i64_w,i32_w];rfl);clear hK K
    have hrd:=(⟨hrd.1,hrd.2.1,Kd.C_below hrd.2.2 hb⟩:_∧_∧Kd.C Pt.k141 _ A5 hs.length hs)
    generalize a1.alloc (.cells #[.slice none 0 0] 33)=z7 at hHeld hrow hb hrd ⊢
    clear hb
    refine on_ 7 767 (some 25) HT_ rfl rfl (by kernel_rfl) (by decide) (fun K hK=>?_)
    refine goes_ Tryz.func26 (by kernel_rfl) rfl #[.pointer (some ⟨g,0,none⟩),.int .i64 n] (by rfl) rfl rfl (by(try simp only[List.map_toArray,List.map_cons,List.map_nil]);first | done | rfl) ?_
    refine(HSZ.out _ ((HB.out.trans (HB13.out.mono HB.out.size)).trans (hHeld.mono (HB.out.trans (HB13.out.mono HB.out.size)).size))).mono ?_
    rintro e a7 ⟨rfl,hb⟩
    refine⟨_,rfl,?_⟩
    have hrow:=(hb.block _ (blk_lt hrow)).trans hrow
    have hHeld:=hHeld.trans (hb.mono hHeld.size)
    refine kn_ (a':=?_) hK hHeld ?_ fun hHeld=>?_
    rotate_left;(focus show Act.put _ (some 25) _=_;simp only[Act.put,zq1,zq2,zq3,i64_w,i32_w];rfl);clear hK K
    have hrd:=(⟨hrd.1,hrd.2.1,Kd.C_below hrd.2.2 hb⟩:_∧_∧Kd.C Pt.k141 _ A5 hs.length hs)
    clear hb
    have hle8:=hHeld.size
    refine on_ 8 1023 (some 26) HT_ rfl rfl (by kernel_rfl) (by decide) (fun K hK=>?_)
    refine goes_ Tryz.func76 (by kernel_rfl) rfl #[.slice A5 hs.length c5,.int .i64 sz] (by rfl) rfl rfl (by(try simp only[List.map_toArray,List.map_cons,List.map_nil]);first | done | rfl) ?_
    refine(HPU.out _ A5 c5 hrd.2.2 hrd.2.1).mono ?_
    rintro e a8 ⟨v8,rfl,hv8,hb⟩
    refine⟨_,rfl,?_⟩
    have hrow:=(hb.block _ (blk_lt hrow)).trans hrow
    have hHeld:=hHeld.trans (hb.mono hHeld.size)
    refine kn_ (a':=?_) hK hHeld ?_ fun hHeld=>?_
    rotate_left;(focus show Act.put _ (some 26) _=_;simp only[Act.put,zq1,zq2,zq3,i64_w,i32_w];rfl);clear hK K
    obtain⟨A6,c6,hA6⟩:=Kd.R_slice hv8
    subst hA6
    clear hb
    have hv8:=Kd.R_lower hv8 hle8
    have hvt:=Kd.R_mono (ok':=fun q=>q≠a1.heap.size) (Kd.R_types hv8 hrow (by decide)) (fun q hq=>hq.2)
    refine on_ 10 2047 none HT_ rfl rfl (by kernel_rfl) (by decide) (fun K hK=>?_)
    have q0:_root_.Go.World.cell? a8 ⟨a1.heap.size,0,none⟩=some (.slice none 0 0):=(blk_cell hrow 0).trans rfl
    have f0:=blk_frozen hrow 0
    refine Rc.store_step rfl (by go_simp;rfl) ?_
    refine hK.out _ _ (hHeld.setCell (p:=⟨a1.heap.size,0,none⟩) hle _) (fun hHeld=>?_)
    clear hK K
    refine norm_ (a':=?_) ?_ ?_
    rotate_left
    ·show Act.put _ (none) _=_
     simp only[Act.put]
     rfl
    refine done_ (done_of HT_.out (by kernel_rfl)) ?_
    exact Norm.intro ⟨a1.heap.size,A5,c5,A6,c6,rfl,blk_put hrow 0 _ rfl,Kd.R_mono (Kd.R_far (p:=⟨a1.heap.size,0,none⟩) hvt (fun q hq=>hq) _) (fun _ _=>trivial),hHeld,hle⟩
  ·refine Mn.alloc_step rfl (by go_simp;exact⟨rfl,rfl⟩) ?_
   have hrow:=heap_alloc_new v0 (.cells #[.slice none 0 0] 33)
   have hb:=below_alloc (RowKit.Below.refl v0.heap.size v0) (.cells #[.slice none 0 0] 33)
   have hle:w3.heap.size≤v0.heap.size:=hHeld.size
   have hHeld:=below_alloc hHeld (.cells #[.slice none 0 0] 33)
   refine kn_ (a':=?_) hK hHeld ?_ fun hHeld=>?_
   rotate_left;(focus show Act.put _ (some 7) _=_;simp only[Act.put,zq1,zq2,zq3,i64_w,i32_w];rfl);clear hK K
   generalize v0.alloc (.cells #[.slice none 0 0] 33)=z1 at hHeld hrow hb ⊢
   clear hb
   refine on_ 1 639 (some 19) HT_ rfl rfl (by kernel_rfl) (by decide) (fun K hK=>?_)
   refine goes_ Tryz.func77 (by kernel_rfl) rfl #[.slice A4 fo.length c4] (by rfl) rfl rfl (by(try simp only[List.map_toArray,List.map_cons,List.map_nil]);first | done | rfl) ?_
   refine(HOF.out _ A4 c4 (Kd.C_below HCF.out hHeld) HCAP.out).mono ?_
   rintro e a1 ⟨v1,rfl,hv1,hb⟩
   refine⟨_,rfl,?_⟩
   have hrow:=(hb.block _ (blk_lt hrow)).trans hrow
   have hHeld:=hHeld.trans (hb.mono hHeld.size)
   refine kn_ (a':=?_) hK hHeld ?_ fun hHeld=>?_
   rotate_left;(focus show Act.put _ (some 19) _=_;simp only[Act.put,zq1,zq2,zq3,i64_w,i32_w];rfl);clear hK K
   obtain⟨A5,c5,hA5⟩:=Kd.R_slice hv1
   subst hA5
   have hrd:=Kd.R_reads' hv1
   clear hb
   refine on_ 7 767 (some 25) HT_ rfl rfl (by kernel_rfl) (by decide) (fun K hK=>?_)
   refine goes_ Tryz.func26 (by kernel_rfl) rfl #[.pointer (some ⟨g,0,none⟩),.int .i64 n] (by rfl) rfl rfl (by(try simp only[List.map_toArray,List.map_cons,List.map_nil]);first | done | rfl) ?_
   refine(HSZ.out _ ((HB.out.trans (HB13.out.mono HB.out.size)).trans (hHeld.mono (HB.out.trans (HB13.out.mono HB.out.size)).size))).mono ?_
   rintro e a7 ⟨rfl,hb⟩
   refine⟨_,rfl,?_⟩
   have hrow:=(hb.block _ (blk_lt hrow)).trans hrow
   have hHeld:=hHeld.trans (hb.mono hHeld.size)
   refine kn_ (a':=?_) hK hHeld ?_ fun hHeld=>?_
   rotate_left;(focus show Act.put _ (some 25) _=_;simp only[Act.put,zq1,zq2,zq3,i64_w,i32_w];rfl);clear hK K
   have hrd:=(⟨hrd.1,hrd.2.1,Kd.C_below hrd.2.2 hb⟩:_∧_∧Kd.C Pt.k141 _ A5 hs.length hs)
   clear hb
   have hle8:=hHeld.size
   refine on_ 8 1023 (some 26) HT_ rfl rfl (by kernel_rfl) (by decide) (fun K hK=>?_)
   refine goes_ Tryz.func76 (by kernel_rfl) rfl #[.slice A5 hs.length c5,.int .i64 sz] (by rfl) rfl rfl (by(try simp only[List.map_toArray,List.map_cons,List.map_nil]);first | done | rfl) ?_
   refine(HPU.out _ A5 c5 hrd.2.2 hrd.2.1).mono ?_
   rintro e a8 ⟨v8,rfl,hv8,hb⟩
   refine⟨_,rfl,?_⟩
   have hrow:=(hb.block _ (blk_lt hrow)).trans hrow
   have hHeld:=hHeld.trans (hb.mono hHeld.size)
   refine kn_ (a':=?_) hK hHeld ?_ fun hHeld=>?_
   rotate_left;(focus show Act.put _ (some 26) _=_;simp only[Act.put,zq1,zq2,zq3,i64_w,i32_w];rfl);clear hK K
   obtain⟨A6,c6,hA6⟩:=Kd.R_slice hv8
   subst hA6
   clear hb
   have hv8:=Kd.R_lower hv8 hle8
   have hvt:=Kd.R_mono (ok':=fun q=>q≠v0.heap.size) (Kd.R_types hv8 hrow (by decide)) (fun q hq=>hq.2)
   refine on_ 10 2047 none HT_ rfl rfl (by kernel_rfl) (by decide) (fun K hK=>?_)
   have q0:_root_.Go.World.cell? a8 ⟨v0.heap.size,0,none⟩=some (.slice none 0 0):=(blk_cell hrow 0).trans rfl
   have f0:=blk_frozen hrow 0
   refine Rc.store_step rfl (by go_simp;rfl) ?_
   refine hK.out _ _ (hHeld.setCell (p:=⟨v0.heap.size,0,none⟩) hle _) (fun hHeld=>?_)
   clear hK K
   refine norm_ (a':=?_) ?_ ?_
   rotate_left
   ·show Act.put _ (none) _=_
    simp only[Act.put]
    rfl
   refine done_ (done_of HT_.out (by kernel_rfl)) ?_
   exact Norm.intro ⟨v0.heap.size,A5,c5,A6,c6,rfl,blk_put hrow 0 _ rfl,Kd.R_mono (Kd.R_far (p:=⟨v0.heap.size,0,none⟩) hvt (fun q hq=>hq) _) (fun _ _=>trivial),hHeld,hle⟩
 case mono=>
  rintro a' w4 ⟨hb,A5,c5,A6,c6,rfl,hrow,hR,hb4,hle4⟩
  have hb14:=HB13.out.trans (hb4.mono HB13.out.size)
  have hx1:=(hb14.block _ (blk_lt HL1.out)).trans HL1.out
  have hx2:=(hb14.block _ (blk_lt HN1.out)).trans HN1.out
  have hB0:=HB.out.trans (hb14.mono HB.out.size)
  have hw3:w.heap.size≤w3.heap.size:=(HB.out.trans (HB13.out.mono HB.out.size)).size
  have HT:Calls Tryz.prog 40 #[.slice (some ⟨w4.heap.size,0,none⟩) 3 3] (w4.alloc (.cells #[.func (.func 78) #[] #[.pointer (some ⟨w.heap.size,0,none⟩),.pointer (some ⟨w.heap.size+1,0,none⟩)],.func (.func 79) #[] #[.pointer (some ⟨w.heap.size,0,none⟩),.pointer (some ⟨w.heap.size+1,0,none⟩),.pointer (some ⟨hb,0,none⟩)],.func (.func 80) #[] #[.pointer (some ⟨w.heap.size,0,none⟩),.pointer (some ⟨w.heap.size+1,0,none⟩)]] 47)) fun e w'=>e=.returned (.int .i64 (turnsM (hintSteps n bs) M).2)∧Turned w w' B g (N+3) F (turnsM (hintSteps n bs) M).1:=by
   have hcs:=heap_alloc_new w4 (.cells #[.func (.func 78) #[] #[.pointer (some ⟨w.heap.size,0,none⟩),.pointer (some ⟨w.heap.size+1,0,none⟩)],.func (.func 79) #[] #[.pointer (some ⟨w.heap.size,0,none⟩),.pointer (some ⟨w.heap.size+1,0,none⟩),.pointer (some ⟨hb,0,none⟩)],.func (.func 80) #[] #[.pointer (some ⟨w.heap.size,0,none⟩),.pointer (some ⟨w.heap.size+1,0,none⟩)]] 47)
   have hB5:=below_alloc (RowKit.Below.refl w4.heap.size w4) (.cells #[.func (.func 78) #[] #[.pointer (some ⟨w.heap.size,0,none⟩),.pointer (some ⟨w.heap.size+1,0,none⟩)],.func (.func 79) #[] #[.pointer (some ⟨w.heap.size,0,none⟩),.pointer (some ⟨w.heap.size+1,0,none⟩),.pointer (some ⟨hb,0,none⟩)],.func (.func 80) #[] #[.pointer (some ⟨w.heap.size,0,none⟩),.pointer (some ⟨w.heap.size+1,0,none⟩)]] 47)
   have hx1:=(hB5.block _ (blk_lt hx1)).trans hx1
   have hx2:=(hB5.block _ (blk_lt hx2)).trans hx2
   have hrow:=(hB5.block _ (blk_lt hrow)).trans hrow
   have hR:=Kd.R_below hR hB5
   generalize w4.alloc (.cells #[.func (.func 78) #[] #[.pointer (some ⟨w.heap.size,0,none⟩),.pointer (some ⟨w.heap.size+1,0,none⟩)],.func (.func 79) #[] #[.pointer (some ⟨w.heap.size,0,none⟩),.pointer (some ⟨w.heap.size+1,0,none⟩),.pointer (some ⟨hb,0,none⟩)],.func (.func 80) #[] #[.pointer (some ⟨w.heap.size,0,none⟩),.pointer (some ⟨w.heap.size+1,0,none⟩)]] 47)=w5 at hcs hB5 hx1 hx2 hrow hR ⊢
   have hB:=hB0.trans (hB5.mono hB0.size)
   have hlt:=HD.out.lt
   have hn4:=hB0.size
   have hNN:=HN.out
   have nF:∀k,w.heap.size≤k→¬F k:=fun k hk hf=>by have:=hlt k hf;omega
   have key:=turns_disk log_turns (hintSteps n bs) (by simp [hintSteps]) w4.heap.size #[.func (.func 78) #[] #[.pointer (some ⟨w.heap.size,0,none⟩),.pointer (some ⟨w.heap.size+1,0,none⟩)],.func (.func 79) #[] #[.pointer (some ⟨w.heap.size,0,none⟩),.pointer (some ⟨w.heap.size+1,0,none⟩),.pointer (some ⟨hb,0,none⟩)],.func (.func 80) #[] #[.pointer (some ⟨w.heap.size,0,none⟩),.pointer (some ⟨w.heap.size+1,0,none⟩)]] hcs (nF _ hn4) (HD.out.below hB) HM.out (hintSteps_fit n bs HHB.out.1) ?_
   ·refine key.mono ?_
    rintro e w' ⟨rfl,ht⟩
    exact⟨rfl,Turned.after (Keeps.of_below hB) ht⟩
   ·intro j hj
    have hj3:j < 3:=hj
    have hc1:∀W,Keeps F w5 W→W.cell? ⟨w.heap.size,0,none⟩=some (ptr l):=fun W hk=>hk.cell ((blk_cell hx1 0).trans rfl) (nF _ (Nat.le_refl _))
    have hc2:∀W,Keeps F w5 W→W.cell? ⟨w.heap.size+1,0,none⟩=some (.int .i64 n):=fun W hk=>hk.cell ((blk_cell hx2 0).trans rfl) (nF _ (Nat.le_succ _))
    have hc3:∀W,Keeps F w5 W→W.cell? ⟨hb,0,none⟩=some (.slice A6 bs.length c6):=fun W hk=>hk.cell ((blk_cell hrow 0).trans rfl) (nF _ (Nat.le_trans hw3 hle4))
    have hlo:∀W F',Keeps F w5 W→(∀k,F' k→F k∨w5.heap.size≤k)→LogO W B l g F' S:=fun W F' hk hf=>(HO.out.below hB).keep hk hf
    have hrw:∀W F',Keeps F w5 W→(∀k,F' k→F k∨w5.heap.size≤k)→∀W',Keeps F' W W'→Kd.C (Kd.int .u8) W' A6 bs.length bs:=fun W F' hk hf W' hk'=>(Kd.R_reads' (row_keep (row_keep hR hk (fun j hj=>nF _ (by have:=Kd.R_base hR j hj;omega))) hk' (fun j hj hf'=>by
     have h1:=Kd.R_base hR j hj
     have h2:=Kd.R_lt hR j hj
     rcases hf j hf' with h | h
     ·have:=hlt j h;omega
     ·omega))).2.2
    match j,hj3 with
    | 0,_=>exact⟨_,_,_,rfl,run_hint1,fun W M' F' hd' hM' hk hs=>by rw[Array.empty_append];exact hcreate_calls w.heap.size (w.heap.size+1) n hd' (by omega) (hlo W F' hk hs) (hc1 W hk) (hc2 W hk)⟩
    | 1,_=>exact⟨_,_,_,rfl,run_hint2,fun W M' F' hd' hM' hk hs=>by
      rw[Array.empty_append]
      refine(happend_calls w.heap.size (w.heap.size+1) hb n bs A6 c6 hd' hM' (hlo W F' hk hs) (hc1 W hk) (hc2 W hk) (hc3 W hk) HHB.out.2 (hrw W F' hk hs)).mono ?_
      rintro e w' ⟨rfl,h⟩
      exact⟨rfl,h.mono (by omega)⟩⟩
    | 2,_=>exact⟨_,_,_,rfl,run_hint3,fun W M' F' hd' hM' hk hs=>by
      rw[Array.empty_append]
      refine(hsync_calls w.heap.size (w.heap.size+1) n hd' (hlo W F' hk hs) (hc1 W hk) (hc2 W hk)).mono ?_
      rintro e w' ⟨rfl,h⟩
      exact⟨rfl,h.mono (by omega)⟩⟩
  have HT:=ak HT
  clear hx1 hx2 hrow hR hb4 hb14 hB0
  go_wp2_with (go_at_call 40;(with_reducible refine HT.out.mono ?_);rintro e w6 ⟨rfl,h6⟩;have H6:=ak h6;clear h6)
  go_end0
  rw[HDEF.out]
  exact⟨rfl,H6.out⟩
end Go.Proofs.YteccdnejnbkbiaaGreat.Lg
end
section
namespace Go.Proofs.YteccdnejnbkbiaaGreat.Lg
open Go.RowKit Go.Maps Fr Ext Go.Proofs.YteccdnejnbkbiaaGreat.Nm Dk Mn YteccdnejnbkbiaaGreatW.PrintWords YteccdnejnbkbiaaGreatW.PrintLast YteccdnejnbkbiaaGreatW.PrintMore
open Sg (segN segN_le segN_ascii It Fo foundsL foundOf allSM)
open Rc (Re Lo zeroR recC Norm Norm.intro Norm.elim)
variable {w w' w1:World} {B l g N:Nat} {M M':DiskM} {F F' G:Nat→Prop} {S S':LogS}
abbrev Hi:=Pt.S141
def hgetM (b:List Int) (a:Int):List Hi×Bool:=(hint_Get.f b a).getD ([],false)
theorem scan_at (l:List Int):∀(k a b:Nat) (pre:List Pure.Itm),(∀y∈pre,y.1≤l.length)→∀y∈(Pure.scanGo k l a b pre).1,y.1≤l.length
 | 0,a,b,pre,h=>h
 | k+1,a,b,pre,h=>by
  unfold Pure.scanGo
  split
  ·rename_i hlt
   split
   ·exact h
   split
   ·refine scan_at l k _ b _ (fun y hy=>?_)
    rcases List.mem_append.1 hy with hy | hy
    ·exact h y hy
    ·rw[List.mem_singleton.1 hy]
     exact Nat.le_of_lt hlt
   ·exact scan_at l k _ (b+1) pre h
  ·exact h
theorem hget_some (b:List Int) (a:Int) (hB:IsBytes b) (hl:b.length≤67108864):hint_Get.f b a=some (hgetM b a):=by
 obtain⟨p,hp⟩:∃p,hint_Get.f b a=some p:=by
  unfold hint_Get.f scan_All.f
  rw[if_pos ⟨(bytesB_iff b).mpr hB,by omega⟩,Option.bind_some]
  have h1:=(Sg.scan_le (b.length+1) b 0 0 []).1
  have h2:=scan_at b (b.length+1) 0 0 [] (fun y hy=>by cases hy)
  generalize Pure.scanGo (b.length+1) b 0 0 []=r at h1 h2
  obtain⟨L,q1,q2,q3⟩:=r
  dsimp only at h1 h2 ⊢
  rw[if_pos (by rw[List.length_map];simp only[List.length_nil] at h1;omega)]
  unfold Hn.getR
  dsimp only
  split
  ·exact⟨_,rfl⟩
  rename_i hc
  split
  ·exact⟨_,rfl⟩
  ·have hne:(List.map Sc.toS L).length≠0:=fun e=>hc (.inr (.inr (.inl e)))
   have hlt:(List.map Sc.toS L).length - 1 < (List.map Sc.toS L).length:=by omega
   have hmem:∃y∈L,Hn.rdI (List.map Sc.toS L) ((List.map Sc.toS L).length - 1)=Sc.toS y:=by
    refine⟨L[(List.map Sc.toS L).length - 1]'(by rw[List.length_map] at hlt ⊢;exact hlt),List.getElem_mem _,?_⟩
    rw[← Hn.rdI_at _ _ hlt,List.getElem_map]
   obtain⟨y,hy,he⟩:=hmem
   rw[he]
   have h3:=h2 y hy
   rw[if_pos ⟨by show(0:Int)≤(y.1:Int);omega,by show(y.1:Int)≤_;omega⟩]
   exact⟨_,rfl⟩
 unfold hgetM
 rw[hp]
 rfl
def hn1T:Bool×List (List Nat×List Nat):=(true,[([],[]),([0],[0]),([1],[1]),([2],[2]),([],[]),([4],[4]),([3,5,5],[3,5]),([6],[6]),([7],[7]),([7],[7]),([8,6,0,1,2,3,4,5,6,7,8],[8]),([9,10,0,1,2,3,4,5,6,7,8,9,10],[9])])
def hn1B:List Nat:=[0,1,3,7,0,16,63,127,255,255,511,2047]
theorem hn1tab:rtab .any (opsOf Tryz.f18 1)=hn1T:=by kernel_rfl
theorem hn1bits:waitsOk hn1T.2 hn1B=true:=by kernel_rfl
def hn4T:Bool×List (List Nat×List Nat):=(true,[([],[]),([0],[0]),([1],[1]),([2],[2]),([],[]),([4],[4]),([],[]),([3,5,6,5],[3,5,6]),([7],[7]),([8],[8]),([8],[8]),([9,7,0,1,2,3,4,5,6,7,8,9],[9]),([10,11,0,1,2,3,4,5,6,7,8,9,10,11],[10])])
def hn4B:List Nat:=[0,1,3,7,0,16,0,127,255,511,511,1023,4095]
theorem hn4tab:rtab .any (opsOf Tryz.f18 4)=hn4T:=by kernel_rfl
theorem hn4bits:waitsOk hn4T.2 hn4B=true:=by kernel_rfl
def hintsM (M:DiskM) (S:LogS) (n:Int):List Hi×Bool:=
 if(Dk.look M.D (hintN n)).isSome=false then([],false)
 else if S.man.segs.contains n=false then([],false)
 else hgetM (readM M (hintN n) 0 (sizeM M (hintN n))).1 (sizeM M (segN n))
theorem hintsL_calls (hd:DiskAt w B g N M F) (hM:Fit M) (h:LogO w B l g F S) (n:Int):Calls Tryz.prog 18 #[ptr l,.int .i64 n] w fun e w'=>∃v,e=.returned (.tuple #[v,.bool (hintsM M S n).2])∧Kd.R Pt.k141 141 w' w.heap.size (fun _=>True) v (hintsM M S n).1∧RowKit.Below w.heap.size w w':=by
 have HSI:=ak (fun W (hW:RowKit.Below w.heap.size w W)=>(hd.below hW).size? (hintN n) (hintN_le n))
 have HSG:=ak (fun W (hW:RowKit.Below w.heap.size w W)=>Sg.Size_calls (hd.below hW) n)
 have HRD:=ak (fun W (hW:RowKit.Below w.heap.size w W)=>(hd.below hW).read? (hintN n) 0 (sizeM M (hintN n)) (hintN_le n) hM.len)
 have hfb:=readM_fit hM (hintN n) 0 (sizeM M (hintN n))
 have hdef:hintsM M S n=if(Dk.look M.D (hintN n)).isSome=false then([],false) else if S.man.segs.contains n=false then([],false) else hgetM (readM M (hintN n) 0 (sizeM M (hintN n))).1 (sizeM M (segN n)):=rfl
 obtain⟨⟨A,c,h1,h2,h3⟩,hs',ha⟩:=h
 have HCO:=ak (fun W (hW:RowKit.Below w.heap.size w W)=>Sh.contains_own n (Kd.own_of_R (Kd.R_below h2 hW)))
 have HL:=ak h1
 have x0:=bq h1 0 (ptr g)
 generalize hintsM M S n=HM at hdef ⊢
 obtain⟨is,his⟩:∃b,(Dk.look M.D (hintN n)).isSome=b:=⟨_,rfl⟩
 obtain⟨co,hco⟩:∃b,S.man.segs.contains n=b:=⟨_,rfl⟩
 rw[his] at HSI hdef
 rw[hco] at HCO hdef
 generalize sizeM M (hintN n)=sz at HSI HRD hfb hdef
 generalize sizeM M (segN n)=sg at HSG hdef
 generalize readM M (hintN n) 0 sz=rm at HRD hfb hdef
 obtain⟨bs,er⟩:=rm
 dsimp only at hfb hdef
 have HHG:=ak (fun W (A:Option Addr) (c:Nat) (hr:Kd.C (Kd.int .u8) W A bs.length bs) (hc:bs.length≤c)=>hint_Get.calls A c bs sg (hgetM bs sg).1 (hgetM bs sg).2 W hr hc (hget_some bs sg hfb.1 hfb.2))
 have HDEF:=ak hdef
 clear hd hM h1 h2 h3 hs' ha hfb hdef his hco
 go_enter Tryz.func18,Tryz.ntmps18
 go_upto_region 1 with(fail)
 refine st_ 12 (S:=(fun w'=>RowKit.Below w.heap.size w w')) (ds:=[]) (by kernel_rfl) rfl (by kernel_rfl) (RowKit.Below.refl _ _).drew (fun hHeld=>?_);refine with_tabW hn1tab hn1bits (fun HT_ HW_=>?_)
 generalize w.drew=w1 at hHeld ⊢
 refine fl_ [0,11,1,1,12,3,2,13,7,4,15,23] ?_
 iterate 4 (refine pq_ (v:=?_) (a':=?_) HT_ rfl rfl (.inl ⟨by rfl,?_⟩) ?_ ?_;rotate_left;(focus intro w';go_simp;with_reducible rfl);rotate_left;(focus simp only[Act.put,zq1,zq2,zq3,i64_w,i32_w];rfl))
 refine fe_ ?_
 refine tk_ 3 31 (N:=some 14) (v:=?_) (a':=?_) HT_ HW_ rfl rfl (.inl ⟨by rfl,?_⟩) hHeld ?_ ?_
 rotate_left
 ·rintro w' hs
  have xx:=pw_cell_below hs x0
  go_simp
  with_reducible rfl
 rotate_left
 ·simp only[Act.put,zq1,zq2,zq3,i64_w,i32_w]
  rfl
 refine on_ 5 63 (some 16) HT_ rfl rfl (by kernel_rfl) (by decide) (fun K hK=>?_)
 refine goes_ Tryz.func37 (by kernel_rfl) rfl #[.int .i64 n] (by rfl) rfl rfl (by(try simp only[List.map_toArray,List.map_cons,List.map_nil]);first | done | rfl) ?_
 refine(hints_calls n _).mono ?_
 rintro e w2 ⟨rfl,hb⟩
 refine⟨_,rfl,?_⟩
 have hHeld:=hHeld.trans (hb.mono hHeld.size)
 refine kn_ (a':=?_) hK hHeld ?_ fun hHeld=>?_
 rotate_left;(focus show Act.put _ (some 16) _=_;simp only[Act.put,zq1,zq2,zq3,i64_w,i32_w];rfl);clear hK K
 clear hb
 refine on_ 6 127 (some 17) HT_ rfl rfl (by kernel_rfl) (by decide) (fun K hK=>?_)
 refine goes_ Tryz.func15 (by kernel_rfl) rfl #[.pointer (some ⟨g,0,none⟩),.string (hintN n)] (by rfl) rfl rfl (by(try simp only[List.map_toArray,List.map_cons,List.map_nil]);first | done | rfl) ?_
 refine(HSI.out w2 hHeld).mono ?_
 rintro e w3 ⟨rfl,hw⟩
 subst hw
 refine⟨_,rfl,?_⟩
 have hHeld:=hHeld
 refine kn_ (a':=?_) hK hHeld ?_ fun hHeld=>?_
 rotate_left;(focus show Act.put _ (some 17) _=_;simp only[Act.put,zq1,zq2,zq3,i64_w,i32_w];rfl);clear hK K
 refine fl_ [7,10,255,8,18,511,9,19,1023,10,6,2047,11,7,4095] ?_
 iterate 5 (refine pq_ (v:=?_) (a':=?_) HT_ rfl rfl (.inl ⟨by rfl,?_⟩) ?_ ?_;rotate_left;(focus intro w';go_simp;with_reducible rfl);rotate_left;(focus simp only[Act.put,zq1,zq2,zq3,i64_w,i32_w];rfl))
 refine fe_ ?_
 have HB2:=ak hHeld
 clear hHeld
 refine done_ (done_of HT_.out (by kernel_rfl)) ?_
 have y0:=pw_cell_below HB2.out x0
 have y2:w3.cell? ⟨l,2,none⟩=some (.slice A S.man.segs.length c):=pw_cell_below HB2.out ((blk_cell HL.out 2).trans rfl)
 have HCO2:=ak (HCO.out w3 HB2.out)
 cases is with
 | false=>
  go_wp2
  go_ret2
  rw[HDEF.out,if_pos (by trivial)]
  exact⟨_,rfl,Kd.R_nil _ _ _ _ _,HB2.out⟩
 | true=>
  cases co with
  | false=>
   go_wp2_with (go_at_call 30;(with_reducible refine HCO2.out.mono ?_);rintro e w4 ⟨rfl,hw⟩;obtain rfl:=hw.symm)
   go_ret2
   rw[HDEF.out,if_neg (by decide),if_pos (by trivial)]
   exact⟨_,rfl,Kd.R_nil _ _ _ _ _,HB2.out⟩
  | true=>
   go_upto_region 4 with(go_at_call 30;(with_reducible refine HCO2.out.mono ?_);rintro e w4 ⟨rfl,hw⟩;obtain rfl:=hw.symm)
   have hdef:=HDEF.out
   rw[if_neg (by decide),if_neg (by decide)] at hdef
   have HDEF2:=ak hdef
   clear hdef HDEF
   refine st_ 13 (S:=(fun w'=>RowKit.Below w.heap.size w w')) (ds:=[]) (by kernel_rfl) rfl (by kernel_rfl) HB2.out.drew (fun hHeld=>?_);refine with_tabW hn4tab hn4bits (fun HT_ HW_=>?_)
   generalize w3.drew=w4 at hHeld ⊢
   refine fl_ [0,33,1,1,34,3,2,35,7,4,37,23,6,39,87] ?_
   iterate 5 (refine pq_ (v:=?_) (a':=?_) HT_ rfl rfl (.inl ⟨by rfl,?_⟩) ?_ ?_;rotate_left;(focus intro w';go_simp;with_reducible rfl);rotate_left;(focus simp only[Act.put,zq1,zq2,zq3,i64_w,i32_w];rfl))
   refine fe_ ?_
   refine tk_ 3 95 (N:=some 36) (v:=?_) (a':=?_) HT_ HW_ rfl rfl (.inl ⟨by rfl,?_⟩) hHeld ?_ ?_
   rotate_left
   ·rintro w' hs
    have xx:=pw_cell_below hs x0
    go_simp
    with_reducible rfl
   rotate_left
   ·simp only[Act.put,zq1,zq2,zq3,i64_w,i32_w]
    rfl
   refine on_ 5 127 (some 38) HT_ rfl rfl (by kernel_rfl) (by decide) (fun K hK=>?_)
   refine goes_ Tryz.func37 (by kernel_rfl) rfl #[.int .i64 n] (by rfl) rfl rfl (by(try simp only[List.map_toArray,List.map_cons,List.map_nil]);first | done | rfl) ?_
   refine(hints_calls n _).mono ?_
   rintro e w5 ⟨rfl,hb⟩
   refine⟨_,rfl,?_⟩
   have hHeld:=hHeld.trans (hb.mono hHeld.size)
   refine kn_ (a':=?_) hK hHeld ?_ fun hHeld=>?_
   rotate_left;(focus show Act.put _ (some 38) _=_;simp only[Act.put,zq1,zq2,zq3,i64_w,i32_w];rfl);clear hK K
   clear hb
   refine on_ 7 255 (some 40) HT_ rfl rfl (by kernel_rfl) (by decide) (fun K hK=>?_)
   refine goes_ Tryz.func45 (by kernel_rfl) rfl #[.pointer (some ⟨g,0,none⟩),.string (hintN n),.int .i64 0,.int .i64 sz] (by rfl) rfl rfl (by(try simp only[List.map_toArray,List.map_cons,List.map_nil]);first | done | rfl) ?_
   refine(HRD.out w5 hHeld).mono ?_
   rintro e w6 ⟨v6,rfl,hv6,hb⟩
   refine⟨_,rfl,?_⟩
   have hHeld:=hHeld.trans (hb.mono hHeld.size)
   refine kn_ (a':=?_) hK hHeld ?_ fun hHeld=>?_
   rotate_left;(focus show Act.put _ (some 40) _=_;simp only[Act.put,zq1,zq2,zq3,i64_w,i32_w];rfl);clear hK K
   obtain⟨A6,c6,hA6⟩:=Kd.R_slice hv6
   subst hA6
   refine fl_ [8,32,511,9,41,1023,10,42,2047,11,8,4095,12,9,8191] ?_
   iterate 5 (refine pq_ (v:=?_) (a':=?_) HT_ rfl rfl (.inl ⟨by rfl,?_⟩) ?_ ?_;rotate_left;(focus intro w';go_simp;with_reducible rfl);rotate_left;(focus simp only[Act.put,zq1,zq2,zq3,i64_w,i32_w];rfl))
   refine fe_ ?_
   have HB5:=ak hHeld
   have HV6:=ak (Kd.R_reads' hv6).2
   clear hHeld hb hv6
   refine done_ (done_of HT_.out (by kernel_rfl)) ?_
   have z0:=pw_cell_below HB5.out x0
   go_wp2_with (first
    | (go_at_call 46;(with_reducible refine(HHG.out _ A6 c6 (Kd.C_below HV6.out.2 HB67.out) HV6.out.1).mono ?_);rintro e w8 ⟨v8,rfl,hv8,hb8⟩;have HV8:=ak hv8;have HB8:=ak hb8;clear hv8 hb8)
    | (go_at_call 26;(with_reducible refine(HSG.out _ HB5.out).mono ?_);rintro e w7 ⟨rfl,hb7⟩;have HB67:=ak hb7;have HB7:=ak (HB5.out.trans (hb7.mono HB5.out.size));clear hb7))
   go_ret2
   rw[HDEF2.out]
   exact⟨_,rfl,Kd.R_lower HV8.out HB7.out.size,HB7.out.trans (HB8.out.mono HB7.out.size)⟩
end Go.Proofs.YteccdnejnbkbiaaGreat.Lg
end
section
namespace Go.Proofs.YteccdnejnbkbiaaGreat.Lg
open Go.RowKit Go.Maps Fr Ext Go.Proofs.YteccdnejnbkbiaaGreat.Nm Dk Mn YteccdnejnbkbiaaGreatW.PrintWords YteccdnejnbkbiaaGreatW.PrintLast YteccdnejnbkbiaaGreatW.PrintMore
open Sg (segN segN_le segN_ascii makeM makeM_fit)
open Rc (Norm Norm.intro Norm.elim)
variable {w w' w1:World} {B l g N:Nat} {M M':DiskM} {F F' G:Nat→Prop} {S S':LogS}
theorem turns_disk8 {f:Nat} (hf:TurnsSpec f) (fs:List (DiskM→DiskM×Int)) (hn:fs.length≤1000) (b:Nat) (cs:Array Value) (hb:w.heap[b]? =some (.cells cs 47 (0,0))) (hbF:¬F b) (hd:DiskAt w B g N M F) (hM:Fit M)
  (hfit:∀f∈fs,∀M,Fit M→Fit (f M).1)
  (hstep:∀j (hj:j < fs.length),∃fid pre caps,cs[j]? =some (.func (.func fid) pre caps)∧(∀args W,(callFunc fid args).run Tryz.prog W=.ok (.enter fid args) W)∧
   ∀W M' F',DiskAt W B g (N+8*j) M' F'→Fit M'→Keeps F w W→(∀k,F' k→F k∨w.heap.size≤k)→
    Calls Tryz.prog fid (pre++caps) W fun e W'=>e=.returned (.int .i64 (fs[j] M').2)∧Turned W W' B g (N+8*j+8) F' (fs[j] M').1):
  Calls Tryz.prog f #[.slice (some ⟨b,0,none⟩) fs.length fs.length] w fun e W'=>e=.returned (.int .i64 (turnsM fs M).2)∧Turned w W' B g (N+8*fs.length) F (turnsM fs M).1:=by
 refine(hf fs.length b (by omega) cs w hb (fun j W=>(turnsM (fs.take j) M).2=0∧Fit (turnsM (fs.take j) M).1∧Turned w W B g (N+8*j) F (turnsM (fs.take j) M).1)
  (fun x W=>x=(turnsM fs M).2∧Turned w W B g (N+8*fs.length) F (turnsM fs M).1) ⟨rfl,hM,Turned.refl hd⟩ ?_ ?_).mono ?_
 ·rintro j W ⟨_,_,h⟩
  exact h.keeps.block b (blk_lt hb) hbF
 ·intro j hj
  obtain⟨fid,pre,caps,hc,hr,hcall⟩:=hstep j hj
  refine⟨fid,pre,caps,hc,hr,?_⟩
  rintro W ⟨hz,hFM,F',h1,h2,h3,h4⟩
  refine(hcall W _ F' h1 hFM h4 h3).mono ?_
  rintro e W' ⟨rfl,ht⟩
  have htk:=turnsM_take fs M j hj
  rw[if_pos hz] at htk
  have htw:Turned w W' B g (N+8*j+8) F (fs[j] (turnsM (fs.take j) M).1).1:=(Turned.glue h2 h3 h4 ht)
  refine⟨_,rfl,fun hx=>?_,fun hx=>?_⟩
  ·rw[htk]
   exact⟨hx,hfit _ (List.getElem_mem hj) _ hFM,htw.mono (by omega)⟩
  ·have hs:=turnsM_stop fs M (j+1) (by rw[htk];exact hx)
   rw[hs,htk]
   exact⟨rfl,htw.mono (by omega)⟩
 ·rintro e W' ⟨x,rfl,h1,h2⟩
  by_cases hx:x=0
  ·obtain⟨a1,_,a3⟩:=h1 hx
   rw[List.take_length] at a1 a3
   exact⟨by rw[hx,a1],a3⟩
  ·obtain⟨a1,a2⟩:=h2 hx
   exact⟨by rw[a1],a2⟩
def rm1T:Bool×List (List Nat×List Nat):=(true,[([],[]),([0],[0]),([1],[1]),([2],[2]),([],[]),([3,4],[3,4]),([5,5,0,1,2,3,4,5],[5])])
def rm1B:List Nat:=[0,1,3,7,0,31,63]
theorem rm1tab:rtab .any (opsOf Tryz.f41 1)=rm1T:=by kernel_rfl
theorem rm1bits:waitsOk rm1T.2 rm1B=true:=by kernel_rfl
def rs1T:Bool×List (List Nat×List Nat):=(true,[([],[]),([0],[0]),([1],[1]),([2],[2]),([],[]),([3,4],[3,4]),([5,5,0,1,2,3,4,5],[5])])
def rs1B:List Nat:=[0,1,3,7,0,31,63]
theorem rs1tab:rtab .any (opsOf Tryz.f43 1)=rs1T:=by kernel_rfl
theorem rs1bits:waitsOk rs1T.2 rs1B=true:=by kernel_rfl
theorem rmake_calls (lb nb:Nat) (n:Int) (hd:DiskAt w B g N M F) (hM:Fit M) (hN:N+2≤1000000000000) (h:LogO w B l g F S) (x0:w.cell? ⟨lb,0,none⟩=some (ptr l)) (x1:w.cell? ⟨nb,0,none⟩=some (.int .i64 n)):
  Calls Tryz.prog 41 #[.pointer (some ⟨lb,0,none⟩),.pointer (some ⟨nb,0,none⟩)] w fun e w'=>e=.returned (.int .i64 (makeM M n).2)∧Turned w w' B g (N+2) F (makeM M n).1:=by
 obtain⟨⟨A,c,h1,h2,h3⟩,hs,ha⟩:=h
 have x2:=bq h1 0 (ptr g)
 have HC:=ak (fun W (hW:RowKit.Below w.heap.size w W)=>Sg.make_calls (hd.below hW) hM n hN)
 clear h1 h2 h3 hs ha hd hN hM
 go_enter Tryz.func41,Tryz.ntmps41
 go_upto_region 1 with(fail)
 refine st_ 7 (S:=(fun w'=>RowKit.Below w.heap.size w w')) (ds:=[5]) (by kernel_rfl) rfl (by kernel_rfl) (RowKit.Below.refl _ _).drew (fun hHeld=>?_);refine with_tabW rm1tab rm1bits (fun HT_ HW_=>?_)
 generalize w.drew=w1 at hHeld ⊢
 refine tk_ 0 1 (N:=some 3) (v:=?_) (a':=?_) HT_ HW_ rfl rfl (.inl ⟨by rfl,?_⟩) hHeld ?_ ?_
 rotate_left
 ·rintro w' hs
  have xx:=pw_cell_below hs x0
  go_simp
  with_reducible rfl
 rotate_left
 ·simp only[Act.put,zq1,zq2,zq3,i64_w,i32_w]
  rfl
 refine fl_ [1,4,3,2,5,7] ?_
 iterate 2 (refine pq_ (v:=?_) (a':=?_) HT_ rfl rfl (.inl ⟨by rfl,?_⟩) ?_ ?_;rotate_left;(focus intro w';go_simp;with_reducible rfl);rotate_left;(focus simp only[Act.put,zq1,zq2,zq3,i64_w,i32_w];rfl))
 refine fe_ ?_
 refine tk_ 3 15 (N:=some 6) (v:=?_) (a':=?_) HT_ HW_ rfl rfl (.inl ⟨by rfl,?_⟩) hHeld ?_ ?_
 rotate_left
 ·rintro w' hs
  have xx:=pw_cell_below hs x2
  go_simp
  with_reducible rfl
 rotate_left
 ·simp only[Act.put,zq1,zq2,zq3,i64_w,i32_w]
  rfl
 refine tk_ 4 31 (N:=some 7) (v:=?_) (a':=?_) HT_ HW_ rfl rfl (.inl ⟨by rfl,?_⟩) hHeld ?_ ?_
 rotate_left
 ·rintro w' hs
  have xx:=pw_cell_below hs x1
  go_simp
  with_reducible rfl
 rotate_left
 ·simp only[Act.put,zq1,zq2,zq3,i64_w,i32_w]
  rfl
 refine la_ 5 63 (some 8) HT_ rfl rfl (by kernel_rfl) (by decide) (fun K hK=>?_)
 refine goes_ Tryz.func42 (by kernel_rfl) rfl #[.pointer (some ⟨g,0,none⟩),.int .i64 n] (by rfl) rfl rfl (by(try simp only[List.map_toArray,List.map_cons,List.map_nil]);first | done | rfl) ?_
 refine(HC.out _ hHeld).mono ?_
 rintro e w3 ⟨rfl,h3⟩
 refine⟨_,rfl,?_⟩
 refine hK.out _ _ ?_
 clear hK K
 refine norm_ (a':=?_) ?_ ?_
 rotate_left
 ·show Act.put _ (some 8) _=_
  simp only[Act.put,zq1,zq2,zq3,i64_w,i32_w]
  rfl
 refine fl_ [6,2,127] ?_
 (refine pq_ (v:=?_) (a':=?_) HT_ rfl rfl (.inl ⟨by rfl,?_⟩) ?_ ?_;rotate_left;(focus intro w';go_simp;with_reducible rfl);rotate_left;(focus simp only[Act.put,zq1,zq2,zq3,i64_w,i32_w];rfl))
 refine fe_ ?_
 have H3:=ak (Turned.after (Keeps.of_below hHeld) h3)
 clear hHeld h3
 refine done_ (done_of HT_.out (by kernel_rfl)) ?_
 go_wp2
 go_ret
 exact⟨rfl,H3.out⟩
theorem rsave_calls (lb mb:Nat) (m:ManM) (Am:Option Addr) (cm:Nat) (hd:DiskAt w B g N M F) (hM:Fit M) (hN:N+6≤1000000000000) (h:LogO w B l g F S) (x0:w.cell? ⟨lb,0,none⟩=some (ptr l)) (hm:w.heap[mb]? =some (.cells (manC m Am cm) 66 (0,0)))
  (hl:m.segs.length≤1000000000) (hc:m.segs.length≤cm) (hr:∀W,Keeps F w W→Kd.C (Kd.int .i64) W Am m.segs.length m.segs):
  Calls Tryz.prog 43 #[.pointer (some ⟨lb,0,none⟩),.pointer (some ⟨mb,0,none⟩)] w fun e w'=>e=.returned (.int .i64 (saveM M m).2)∧Turned w w' B g (N+6) F (saveM M m).1:=by
 obtain⟨⟨A,c,h1,h2,h3⟩,hs,ha⟩:=h
 have x2:=bq h1 0 (ptr g)
 have y0:=bq hm 0 (.slice Am m.segs.length cm)
 have y1:=bq hm 1 (.int .i64 m.next)
 have HC:=ak (fun W (hW:RowKit.Below w.heap.size w W)=>save_calls m Am cm (hd.below hW) hM hN hl hc (fun W' hW'=>hr W' ((Keeps.of_below hW).trans hW')))
 clear h1 h2 h3 hs ha hd hN hM hl hc hr hm
 go_enter Tryz.func43,Tryz.ntmps43
 go_upto_region 1 with(fail)
 refine st_ 7 (S:=(fun w'=>RowKit.Below w.heap.size w w')) (ds:=[5]) (by kernel_rfl) rfl (by kernel_rfl) (RowKit.Below.refl _ _).drew (fun hHeld=>?_);refine with_tabW rs1tab rs1bits (fun HT_ HW_=>?_)
 generalize w.drew=w1 at hHeld ⊢
 refine tk_ 0 1 (N:=some 3) (v:=?_) (a':=?_) HT_ HW_ rfl rfl (.inl ⟨by rfl,?_⟩) hHeld ?_ ?_
 rotate_left
 ·rintro w' hs
  have xx:=pw_cell_below hs x0
  go_simp
  with_reducible rfl
 rotate_left
 ·simp only[Act.put,zq1,zq2,zq3,i64_w,i32_w]
  rfl
 refine fl_ [1,4,3,2,5,7] ?_
 iterate 2 (refine pq_ (v:=?_) (a':=?_) HT_ rfl rfl (.inl ⟨by rfl,?_⟩) ?_ ?_;rotate_left;(focus intro w';go_simp;with_reducible rfl);rotate_left;(focus simp only[Act.put,zq1,zq2,zq3,i64_w,i32_w];rfl))
 refine fe_ ?_
 refine tk_ 3 15 (N:=some 6) (v:=?_) (a':=?_) HT_ HW_ rfl rfl (.inl ⟨by rfl,?_⟩) hHeld ?_ ?_
 rotate_left
 ·rintro w' hs
  have xx:=pw_cell_below hs x2
  go_simp
  with_reducible rfl
 rotate_left
 ·simp only[Act.put,zq1,zq2,zq3,i64_w,i32_w]
  rfl
 refine tk_ 4 31 (N:=some 7) (v:=?_) (a':=?_) HT_ HW_ rfl rfl (.inl ⟨by rfl,?_⟩) hHeld ?_ ?_
 rotate_left
 ·rintro w' hs
  have xx:=pw_cell_below hs y0
  have xy:=pw_cell_below hs y1
  go_simp
  with_reducible rfl
 rotate_left
 ·simp only[Act.put,zq1,zq2,zq3,i64_w,i32_w]
  rfl
 refine la_ 5 63 (some 8) HT_ rfl rfl (by kernel_rfl) (by decide) (fun K hK=>?_)
 refine goes_ Tryz.func34 (by kernel_rfl) rfl #[.pointer (some ⟨g,0,none⟩),.agg #[.slice Am m.segs.length cm,.int .i64 m.next]] (by rfl) rfl rfl (by(try simp only[List.map_toArray,List.map_cons,List.map_nil]);first | done | rfl) ?_
 refine(HC.out _ hHeld).mono ?_
 rintro e w3 ⟨rfl,h3⟩
 refine⟨_,rfl,?_⟩
 refine hK.out _ _ ?_
 clear hK K
 refine norm_ (a':=?_) ?_ ?_
 rotate_left
 ·show Act.put _ (some 8) _=_
  simp only[Act.put,zq1,zq2,zq3,i64_w,i32_w]
  rfl
 refine fl_ [6,2,127] ?_
 (refine pq_ (v:=?_) (a':=?_) HT_ rfl rfl (.inl ⟨by rfl,?_⟩) ?_ ?_;rotate_left;(focus intro w';go_simp;with_reducible rfl);rotate_left;(focus simp only[Act.put,zq1,zq2,zq3,i64_w,i32_w];rfl))
 refine fe_ ?_
 have H3:=ak (Turned.after (Keeps.of_below hHeld) h3)
 clear hHeld h3
 refine done_ (done_of HT_.out (by kernel_rfl)) ?_
 go_wp2
 go_ret
 exact⟨rfl,H3.out⟩
theorem run_roll1 (args:Array Value) (W:World):(callFunc 41 args).run Tryz.prog W=.ok (.enter 41 args) W:=enters_ Tryz.func41 (by kernel_rfl) rfl args W
theorem run_roll2 (args:Array Value) (W:World):(callFunc 43 args).run Tryz.prog W=.ok (.enter 43 args) W:=enters_ Tryz.func43 (by kernel_rfl) rfl args W
def rollSteps (n:Int) (m:ManM):List (DiskM→DiskM×Int):=[fun M=>makeM M n,fun M=>saveM M m]
theorem rollSteps_fit (n:Int) (m:ManM):∀f∈rollSteps n m,∀M,Fit M→Fit (f M).1:=by
 intro f hf M hM
 simp only[rollSteps,List.mem_cons,List.not_mem_nil,or_false] at hf
 rcases hf with rfl | rfl
 ·exact makeM_fit hM n
 ·exact saveM_fit hM m
theorem logSync_fit (hM:Fit M) (S:LogS):Fit (logSync M S).1:=by
 unfold logSync
 split
 ·exact hM
 ·exact hM.sync _
def rollMan (S:LogS) (n:Int):ManM:=⟨S.man.segs++[n],wrap64 (n+1)⟩
def rollEnd (M:DiskM) (S:LogS) (n:Int) (p:DiskM×Int):DiskM×LogS×Int:=
 if p.2=0 then((if 0≤S.last then hintM p.1 S.last else p.1),{S with man:=rollMan S n,last:=n},0)
 else(p.1,{S with man:=⟨S.man.segs,wrap64 (n+1)⟩},p.2)
def rollN (M:DiskM) (S:LogS) (n:Int):DiskM×LogS×Int:=
 if n≥99999999 then(M,S,5) else if S.man.segs.length≥1000 then(M,S,5)
 else rollEnd M S n (turnsM (rollSteps n (rollMan S n)) M)
def rollM (M:DiskM) (S:LogS):DiskM×LogS×Int:=
 if(logSync M S).2=0 then rollN (logSync M S).1 S (nextM (logSync M S).1 S) else((logSync M S).1,S,(logSync M S).2)
theorem rollM_fit (hM:Fit M) (S:LogS):Fit (rollM M S).1:=by
 have h1:=logSync_fit hM S
 unfold rollM
 split
 ·unfold rollN
  split
  ·exact h1
  split
  ·exact h1
  have h2:=turnsM_fit (rollSteps (nextM (logSync M S).1 S) (rollMan S (nextM (logSync M S).1 S))) (rollSteps_fit _ _) _ h1
  unfold rollEnd
  split
  ·show Fit (if 0≤S.last then _ else _)
   split
   ·exact hintM_fit h2 _
   ·exact h2
  ·exact h2
 ·exact h1
theorem three_ {P:Program} {md:Region.Mode} {ops:Array Oper} {Q:Exit→Act→World→Prop} {Sx:World→Prop} {ds:List Nat} {i j k:Nat} {Ni Nj Nk:Option Tmp} {oi oj ok:Oper} {fuel:Nat} {l:Array Bool} {a:Act} {w:World} (li lj lk:Array Bool) (hi:ops[i]? =some oi) (hj:ops[j]? =some oj) (hk:ops[k]? =some ok) (hNi:oi.dst=Ni) (hNj:oj.dst=Nj) (hNk:ok.dst=Nk)
  (hc:(Region.ready md ops l==[i,j,k] && l.setIfInBounds i true==li && l.setIfInBounds j true==lj && l.setIfInBounds k true==lk)=true) (hdi:i ∉ ds) (hdj:j ∉ ds) (hdk:k ∉ ds)
  (h1:∀K:Act→World→Prop,Shut (∀a' w',Sx w'→(Sx w'→wpAnyLast P md ops Q Sx ds fuel li a' w')→K a' w')→if Region.wanted oi (yielded ops a.tmps)=true then Oper.wp P oi a w K Q else K (a.put Ni undef) w)
  (h2:∀K:Act→World→Prop,Shut (∀a' w',Sx w'→(Sx w'→wpAnyLast P md ops Q Sx ds fuel lj a' w')→K a' w')→if Region.wanted oj (yielded ops a.tmps)=true then Oper.wp P oj a w K Q else K (a.put Nj undef) w)
  (h3:∀K:Act→World→Prop,Shut (∀a' w',Sx w'→(Sx w'→wpAnyLast P md ops Q Sx ds fuel lk a' w')→K a' w')→if Region.wanted ok (yielded ops a.tmps)=true then Oper.wp P ok a w K Q else K (a.put Nk undef) w):
  wpAnyLast P md ops Q Sx ds (fuel+1) l a w:=by
 subst hNi
 subst hNj
 subst hNk
 simp only[Bool.and_eq_true,beq_iff_eq] at hc
 obtain⟨⟨⟨g1,g2⟩,g3⟩,g4⟩:=hc
 subst g2
 subst g3
 subst g4
 exact wpAnyLast_ready g1 (by simp) (AllReadyL.cons hi hdi (fun K hK=>h1 K hK) (AllReadyL.cons hj hdj (fun K hK=>h2 K hK) (AllReadyL.cons hk hdk (fun K hK=>h3 K hK) AllReadyL.nil)))
end Go.Proofs.YteccdnejnbkbiaaGreat.Lg
end
section
namespace Go.Proofs.YteccdnejnbkbiaaGreat.Qd
open Go.RowKit Go.Shelf Go.Maps Go.Sort Go.WideShapes Fr Ext Go.Proofs.YteccdnejnbkbiaaGreat.Nm Dk Mn YteccdnejnbkbiaaGreatW.PrintWords YteccdnejnbkbiaaGreatW.PrintLast YteccdnejnbkbiaaGreatW.PrintMore
open Sg (segN segN_le segN_ascii makeM putF firstB firstB_bytes getSM bodyG)
open Lg
variable {M:DiskM} {c:View} {a n:Nat} {m:Int} {s t:ByteArray} {i:Nat} {b bs:List Int} {k:Int}
theorem upd_upd (c:View) (s:ByteArray) (u v:Option (List Int)):upd (upd c s u) s v=upd c s v:=by
 funext t
 unfold upd
 split
 ·rfl
 ·rfl
theorem first_len (k:Int):(putL (firstB k)).length=13:=by
 have h:=Fr.put_len (firstB k)
 rw[sizeI_of _ (by show(1:Int)≤5;decide) (by show(5:Int)≤8192;decide)] at h
 have e:((firstB k).length:Int)=5:=rfl
 omega
theorem Sees.make (h:Sees M c a n m) (h0:0≤k) (h1:k≤99999999) (hc:c (segN k)=none) (hn:n < 4096) (ha:((a+13:Nat):Int)≤m):(makeM M k).2=0∧Sees (makeM M k).1 (upd c (segN k) (some (putL (firstB k)))) (a+13) (n+1) m:=by
 obtain⟨e1,s1⟩:=h.create (segN_ascii k) (seg_right h0 h1) hc hn
 have hb:=put_bytes _ (firstB_bytes k)
 obtain⟨e2,s2⟩:=s1.append (s:=segN k) hb (upd_self _ _ _) (by rw[first_len];exact ha)
 rw[first_len,upd_upd,List.nil_append] at s2
 unfold makeM
 rw[if_neg (by rw[seg_size h0 h1];decide),if_pos e1]
 unfold putF
 rw[if_pos e2]
 exact⟨e2,s2⟩
theorem Sees.gone (h:Sees M c a n m) (s:ByteArray):(gone1 M s).2=0∧Sees (gone1 M s).1 (upd c s none) a n m:=by
 unfold gone1
 cases hc:c s with
 | none=>
  rw[h.isSome,hc,if_neg (by decide)]
  refine⟨rfl,h.view fun t=>?_⟩
  unfold upd
  split
  ·rename_i e;rw[e,hc]
  ·rfl
 | some b=>
  rw[h.isSome,hc,if_pos (by rfl)]
  exact h.remove hc
theorem turns_cons {f:DiskM→DiskM×Int} {l:List (DiskM→DiskM×Int)} (h:(f M).2=0):turnsM (f::l) M=turnsM l (f M).1:=by
 show(if(f M).2=0 then turnsM l (f M).1 else f M)=_
 rw[if_pos h]
theorem Sees.save (h:Sees M c a n m) {man:ManM} (hr:rightM man=true) (hn:n < 4096) (ha:((a+(Mn.putM man).length:Nat):Int)≤m):(saveM M man).2=0∧Sees (saveM M man).1 (upd (upd c tempN none) manN (some (Mn.putM man))) (a+(Mn.putM man).length) (n+1) m:=by
 obtain⟨e1,s1⟩:=h.gone tempN
 obtain⟨e2,s2⟩:=s1.create temp_ascii temp_right (upd_self _ _ _) hn
 obtain⟨e3,s3⟩:=s2.append (s:=tempN) (Mn.putM_bytes man) (upd_self _ _ _) ha
 obtain⟨e4,s4⟩:=s3.sync (s:=tempN) (upd_self _ _ _)
 obtain⟨e5,s5⟩:=s4.rename (s:=tempN) (t:=manN) man_ascii man_right (upd_self _ _ _) man_temp
 obtain⟨e6,s6⟩:=s5.syncDir
 unfold saveM
 rw[if_pos hr]
 rw[turns_cons e1,turns_cons e2,turns_cons e3,turns_cons e4,turns_cons e5,turns_cons e6]
 refine⟨rfl,s6.view fun t=>?_⟩
 unfold upd
 by_cases h1:t=manN
 ·rw[if_pos h1,if_pos h1,List.nil_append]
 ·rw[if_neg h1,if_neg h1]
  by_cases h2:t=tempN
  ·rw[if_pos h2,if_pos h2]
  ·simp only[if_neg h2]
theorem cut_mid (p x q:List Int) (n:Nat) (hn:n≤x.length):cutL (p++x++q) (p.length:Int) (n:Int)=x.take n:=by
 unfold cutL
 rw[show((p.length:Int)+(n:Int)).toNat=p.length+n from by omega,Int.toNat_natCast,List.append_assoc,List.take_append,List.drop_append]
 rw[show p.length+n - p.length=n from by omega,List.take_of_length_le (by omega),List.drop_of_length_le (Nat.le_refl _),Nat.sub_self,List.drop_zero,List.nil_append,List.take_append,show n - x.length=0 from by omega,List.take_zero,List.append_nil]
theorem Sees.read_mid (h:Sees M c a n m) (p x q:List Int) (hc:c s=some (p++x++q)) (j:Nat) (hj:j≤x.length):readM M s (p.length:Int) (j:Int)=(x.take j,0):=by
 rw[h.read hc,if_pos,cut_mid p x q j hj]
 unfold partB
 simp only[List.length_append,Bool.and_eq_true,decide_eq_true_eq]
 omega
theorem frame_rd (x:List Int) (h:1≤x.length):rd ((frameOf x).take 4) 0*256+rd ((frameOf x).take 4) 1=(x.length:Int):=by
 have e:=frame_shape x []
 rw[List.append_nil] at e
 have h2:=nOf_hdr (x.length:Int) []
 rw[List.append_nil] at h2
 rw[e,take_hdr]
 exact h2
theorem Sees.get (h:Sees M c a n m) (p x q:List Int) (hc:c (segN k)=some (p++putL x++q)) (h1:1≤x.length) (h2:x.length≤8192) {R:Rc.Re} (hg:Rc.getM x=(R,true)):getSM M k (p.length:Int)=(R,0):=by
 rw[put_yes x h1 h2] at hc
 have hl:=frame_len x
 have e1:=h.read_mid p (frameOf x) q hc 4 (by omega)
 have e2:=h.read_mid p (frameOf x) q hc (x.length+8) (by omega)
 rw[show((4:Nat):Int)=4 from rfl] at e1
 rw[List.take_of_length_le (by omega)] at e2
 have e3:=first_short x h1 h2 4 (by omega)
 have e4:=first_frame x [] h1 h2
 rw[List.append_nil] at e4
 unfold getSM
 rw[e1]
 dsimp only
 rw[if_pos rfl,e3,if_neg (by decide),frame_rd x h1,sizeI_of _ (by omega) (by omega),show((x.length:Int)+8)=((x.length+8:Nat):Int) from by omega,e2]
 unfold bodyG
 dsimp only
 rw[if_pos rfl,e4]
 dsimp only
 rw[if_pos rfl,hg]
 dsimp only
 rw[if_pos rfl]
theorem Sees.get_out (h:Sees M c a n m) (hc:c (segN k)=some b) (y:Int) (hy:y < 0∨(b.length:Int) < y+4):(getSM M k y).2=1:=by
 have e1:readM M (segN k) y 4=([],1):=by
  rw[h.read hc,if_neg]
  unfold partB
  simp only[Bool.and_eq_true,decide_eq_true_eq]
  omega
 unfold getSM
 rw[e1]
 dsimp only
 rw[if_neg (by decide)]
end Go.Proofs.YteccdnejnbkbiaaGreat.Qd
end
section
namespace Go.Proofs.YteccdnejnbkbiaaGreat.Lg
open Go.RowKit Go.Maps Fr Ext Go.Proofs.YteccdnejnbkbiaaGreat.Nm Dk Mn YteccdnejnbkbiaaGreatW.PrintWords YteccdnejnbkbiaaGreatW.PrintLast YteccdnejnbkbiaaGreatW.PrintMore
open Sg (segN segN_le segN_ascii putL_le)
open Rc (Norm Norm.intro Norm.elim Re Lo recC)
variable {w w' w1:World} {B l g N:Nat} {M M':DiskM} {F F' G:Nat→Prop} {S S':LogS}
def addEnd (M:DiskM) (S:LogS) (R:Re):DiskM×LogS×Int×Int×Int×Int:=
 if(Sg.addM M S.last R).2.2.2=0 then((Sg.addM M S.last R).1,S,S.last,(Sg.addM M S.last R).2.1,(Sg.addM M S.last R).2.2.1,0)
 else((Sg.addM M S.last R).1,S,0,0,0,(Sg.addM M S.last R).2.2.2)
def wantsRoll (M:DiskM) (S:LogS) (n:Int):Bool:=
 decide (S.last < 0) || (decide (sizeM M (segN S.last) > 13) && decide (wrap64 (sizeM M (segN S.last)+n) > S.limit))
def addRoll (R:Re) (p:DiskM×LogS×Int):DiskM×LogS×Int×Int×Int×Int:=
 if p.2.2=0 then addEnd p.1 p.2.1 R else(p.1,p.2.1,0,0,0,p.2.2)
def laddM (M:DiskM) (S:LogS) (R:Re):DiskM×LogS×Int×Int×Int×Int:=
 if sizeI (Rc.putM R).length=0 then(M,S,0,0,0,1)
 else if wantsRoll M S (sizeI (Rc.putM R).length)=true then addRoll R (rollM M S) else addEnd M S R
theorem addEnd_fit (hM:Fit M) (S:LogS) (R:Re) (hb:IsBytes (Rc.putM R)):Fit (addEnd M S R).1:=by
 have h:Fit (Sg.addM M S.last R).1:=by
  unfold Sg.addM
  split
  ·exact hM
  split
  ·exact hM.append _ _ (put_bytes _ hb)
  ·exact hM.append _ _ (put_bytes _ hb)
 unfold addEnd
 split <;> exact h
theorem laddM_fit (hM:Fit M) (S:LogS) (R:Re) (hb:IsBytes (Rc.putM R)):Fit (laddM M S R).1:=by
 unfold laddM
 split
 ·exact hM
 split
 ·unfold addRoll
  split
  ·exact addEnd_fit (rollM_fit hM S) _ _ hb
  ·exact rollM_fit hM S
 ·exact addEnd_fit hM _ _ hb
end Go.Proofs.YteccdnejnbkbiaaGreat.Lg
end
section
namespace Go.Proofs.YteccdnejnbkbiaaGreat.Qd
open Go.RowKit Go.Shelf Go.Maps Go.Sort Go.WideShapes Fr Ext Go.Proofs.YteccdnejnbkbiaaGreat.Nm Dk Mn YteccdnejnbkbiaaGreatW.PrintWords YteccdnejnbkbiaaGreatW.PrintLast YteccdnejnbkbiaaGreatW.PrintMore
open Sg (segN segN_le segN_ascii makeM putF firstB firstB_bytes getSM bodyG allSM)
open Lg
variable {M:DiskM} {S:LogS} {c:View} {a n:Nat} {m:Int} {s t:ByteArray} {b bs:List Int} {k:Int}
def Names (c:View) (next:Int):Prop:=∀s,c s≠none→s=manN∨∃k,0≤k∧k < next∧(s=segN k∨s=hintN k)
theorem compact_mem {zs:List Int} {x:Int} (h:x∈Lib.compact zs):x∈zs:=by
 unfold Lib.compact Lib.compactUpTo at h
 obtain⟨i,hi,rfl⟩:=List.mem_map.1 h
 have h1:=List.mem_range.1 (List.mem_filter.1 hi).1
 rw[getElem!_pos zs.toArray i (by simpa using h1)]
 simp
theorem segs_mem {L:List ByteArray} {x:Int} (h:x∈segsL L):∃s∈L,(parseM s).2.2=true∧(parseM s).1=1∧(parseM s).2.1=x:=by
 unfold segsL at h
 have h1:=(Sh.isort_perm _ _).mem_iff.1 (compact_mem h)
 unfold segL at h1
 obtain⟨s,hs,e⟩:=List.mem_map.1 h1
 obtain⟨h2,h3⟩:=List.mem_filter.1 hs
 unfold isSeg at h3
 rw[Bool.and_eq_true] at h3
 exact⟨s,h2,h3.1,eq_of_beq h3.2,e⟩
theorem Sees.next (h:Sees M c a n m) (hn:Names c S.man.next) (h9:S.man.next≤100000000):nextM M S=S.man.next:=by
 unfold nextM
 cases hl:(segsL (namesM M)).getLast? with
 | none=>rfl
 | some z=>
  obtain⟨s,hs,p1,p2,p3⟩:=segs_mem (List.mem_of_getLast? hl)
  have h1:=h.quiet.fit.mem.1 (names_mem hs)
  rw[show(⟨s.data.toList.toArray⟩:ByteArray)=s from rfl,h.isSome] at h1
  have h2:c s≠none:=fun e=>by rw[e] at h1;cases h1
  have h3:0≤z∧z < S.man.next:=by
   rcases hn s h2 with rfl | ⟨k,k0,k1,rfl | rfl⟩
   ·rw[parse_man] at p2;exact absurd p2 (by decide)
   ·rw[parse_seg k0 (by omega)] at p3
    have e:k=z:=p3
    omega
   ·rw[parse_hint k0 (by omega)] at p2;exact absurd (show(2:Int)=1 from p2) (by decide)
  have h4:wrap64 (z+1)=z+1:=by unfold wrap64;omega
  show max S.man.next (wrap64 (z+1))=S.man.next
  rw[h4]
  omega
def allV (b:List Int) (k:Int):List Sg.Fo:=if Sg.headOk (Sg.itemsM b) k=true then Sg.foundsL (Sg.itemsM b).tail else []
def hintV (b:List Int) (k:Int):List Int:=Hu.putAll (Hn.ofL (allV b k)) (b.length:Int)
theorem Sees.whole (h:Sees M c a n m) (hc:c s=some b):readM M s 0 (Dk.sizeM M s)=(b,0):=by
 have e:Dk.sizeM M s=(b.length:Int):=by rw[h.sizeM,hc];rfl
 have h1:=h.read_mid (s:=s) [] b [] (by rw[hc];simp) b.length (Nat.le_refl _)
 rw[List.take_of_length_le (Nat.le_refl _)] at h1
 rw[e]
 exact h1
theorem Sees.all (h:Sees M c a n m) (hc:c (segN k)=some b):(allSM M k).1=allV b k:=by
 unfold allSM allV
 rw[h.whole hc]
 dsimp only
 rw[if_pos rfl]
 split
 ·rfl
 ·rfl
theorem Sees.hintB (h:Sees M c a n m) (hc:c (segN k)=some b):Lg.hintB M k=hintV b k:=by
 unfold Lg.hintB hintV
 rw[h.all hc,show Dk.sizeM M (segN k)=(b.length:Int) by rw[h.sizeM,hc];rfl]
theorem hintV_len (b:List Int) (k:Int) (hB:IsBytes b):(hintV b k).length≤9*b.length+21:=by
 have h1:=putAll_len (Hn.ofL (allV b k)) (b.length:Int)
 have h2:=ofGo_len (allV b k) []
 have h3:9*(allV b k).length≤b.length:=by
  unfold allV
  split
  ·have h4:=scan_nine b hB (b.length+1) 0 0 [] (by simp) (Nat.zero_le _)
   have h5:=Sg.founds_le (Sg.itemsM b).tail
   rw[List.length_tail] at h5
   have h6:(Sg.itemsM b).length=(Pure.scanGo (b.length+1) b 0 0 []).1.length:=List.length_map _
   omega
  ·simp
 have h7:(Hn.ofL (allV b k)).length≤(allV b k).length:=h2
 unfold hintV
 omega
theorem Sees.hint (h:Sees M c a n m) (k0:0≤k) (k1:k≤99999999) (hc:c (segN k)=some b) (hh:c (hintN k)=none) (hn:n < 4096) (ha:((a+(hintV b k).length:Nat):Int)≤m):Sees (Lg.hintM M k) (upd c (hintN k) (some (hintV b k))) (a+(hintV b k).length) (n+1) m:=by
 have hB:=(hintB_fit h.quiet.fit k).1
 rw[h.hintB hc] at hB
 obtain⟨e1,s1⟩:=h.create (hintN_ascii k) (hint_right k0 k1) hh hn
 obtain⟨e2,s2⟩:=s1.append (s:=hintN k) hB (upd_self _ _ _) ha
 obtain⟨e3,s3⟩:=s2.sync (s:=hintN k) (upd_self _ _ _)
 unfold Lg.hintM
 rw[h.hintB hc]
 unfold hintSteps
 rw[turns_cons e1,turns_cons e2,turns_cons e3,]
 rw[upd_upd,List.nil_append] at s3
 exact s3
theorem risesB_append:∀(l:List Int) (x n:Int),risesB x (l++[n])=true→n+1≤99999999→risesB x (l++[n]++[n+1])=true
 | [],x,n,h,h1=>by
  simp only[List.nil_append,List.cons_append] at h ⊢
  unfold risesB at h ⊢
  split at h
  ·cases h
  rename_i h2
  split at h
  ·cases h
  rename_i h3
  rw[if_neg h2,if_neg h3]
  unfold risesB
  rw[if_neg (by omega),if_neg (by omega)]
  rfl
 | y::l,x,n,h,h1=>by
  simp only[List.cons_append] at h ⊢
  unfold risesB at h ⊢
  split at h
  ·cases h
  rename_i h2
  split at h
  ·cases h
  rename_i h3
  rw[if_neg h2,if_neg h3]
  have:=risesB_append l y n h h1
  simpa only[List.append_assoc] using this
theorem rises_lt:∀(l:List Int) (x n:Int),risesB x (l++[n])=true→∀k∈l,x < k∧k < n
 | [],_,_,_,k,hk=>by cases hk
 | y::l,x,n,h,k,hk=>by
  simp only[List.cons_append] at h
  unfold risesB at h
  split at h
  ·cases h
  rename_i h2
  split at h
  ·cases h
  have hy:y < n:=by
   cases l with
   | nil=>
    simp only[List.nil_append] at h
    unfold risesB at h
    split at h
    ·cases h
    omega
   | cons z l=>
    have h4:=rises_lt (z::l) y n h z (by simp)
    omega
  rcases List.mem_cons.1 hk with rfl | hk
  ·omega
  ·have h5:=rises_lt l y n h k hk
   omega
theorem putM_len (man:ManM):(Mn.putM man).length≤4*man.segs.length+15:=by
 unfold Mn.putM
 split
 ·have h:=Fr.put_len (bodyM man)
  have e:(bodyM man).length=4*man.segs.length+7:=by
   unfold bodyM
   simp only[List.length_cons,List.length_append,numsM_length,be4,List.length_nil]
   omega
  by_cases h8:(bodyM man).length≤8192
  ·rw[sizeI_of _ (by omega) (by omega)] at h
   omega
  ·rw[sizeI_no _ (by omega)] at h
   omega
 ·simp
structure LV (M:DiskM) (S:LogS) (c:View) (a n:Nat) (m:Int):Prop where
 sees:Sees M c a n m
 names:Names c S.man.next
 rises:risesB (-1) (S.man.segs++[S.man.next])=true
 last:(S.man.segs=[]∧S.last=-1)∨∃p,S.man.segs=p++[S.last]
 segs:∀k∈S.man.segs,∃b,c (segN k)=some b
 open_:0≤S.last→c (hintN S.last)=none
def rollC (c:View) (S:LogS):View:=
 if 0≤S.last then upd (upd (upd c (segN S.man.next) (some (putL (firstB S.man.next)))) manN (some (Mn.putM (rollMan S S.man.next)))) (hintN S.last) (some (hintV ((c (segN S.last)).getD []) S.last))
 else upd (upd c (segN S.man.next) (some (putL (firstB S.man.next)))) manN (some (Mn.putM (rollMan S S.man.next)))
def rollS (S:LogS):LogS:={S with man:=rollMan S S.man.next,last:=S.man.next}
theorem LV.next_le (h:LV M S c a n m):0≤S.man.next∧S.man.next≤99999999:=by
 have:∀(l:List Int) (x n:Int),risesB x (l++[n])=true→x < n∧n≤99999999:=by
  intro l
  induction l with
  | nil=>
   intro x n h
   simp only[List.nil_append] at h
   unfold risesB at h
   split at h
   ·cases h
   split at h
   ·cases h
   omega
  | cons y l ih=>
   intro x n h
   simp only[List.cons_append] at h
   unfold risesB at h
   split at h
   ·cases h
   split at h
   ·cases h
   have:=ih y n h
   omega
 have:=this _ _ _ h.rises
 omega
theorem LV.last_mem (h:LV M S c a n m) (h0:0≤S.last):S.last∈S.man.segs:=by
 rcases h.last with⟨_,e⟩ | ⟨p,e⟩
 ·omega
 ·rw[e];simp
theorem LV.last_lt (h:LV M S c a n m):-1≤S.last∧S.last < S.man.next:=by
 have h1:=h.next_le
 rcases h.last with⟨_,e⟩ | ⟨p,e⟩
 ·omega
 ·have:=rises_lt _ _ _ h.rises S.last (by rw[e];simp)
  omega
theorem LV.fresh (h:LV M S c a n m):c (segN S.man.next)=none:=by
 cases hc:c (segN S.man.next) with
 | none=>rfl
 | some b=>
  have h1:=h.next_le
  rcases h.names (segN S.man.next) (by rw[hc];exact fun e=>by cases e) with e | ⟨k,k0,k1,e | e⟩
  ·exact absurd e (seg_man h1.1 h1.2)
  ·rw[segN_inj h1.1 h1.2 k0 (by omega)] at e;omega
  ·exact absurd e (seg_hint h1.1 h1.2 k0 (by omega))
theorem LV.temp (h:LV M S c a n m):c tempN=none:=by
 cases hc:c tempN with
 | none=>rfl
 | some b=>
  have h1:=h.next_le
  rcases h.names tempN (by rw[hc];exact fun e=>by cases e) with e | ⟨k,k0,k1,e | e⟩
  ·exact absurd e.symm man_temp
  ·exact absurd e.symm (seg_temp k0 (by omega))
  ·exact absurd e.symm (hint_temp k0 (by omega))
theorem LV.hint_next (h:LV M S c a n m):c (hintN S.man.next)=none:=by
 cases hc:c (hintN S.man.next) with
 | none=>rfl
 | some b=>
  have h1:=h.next_le
  rcases h.names (hintN S.man.next) (by rw[hc];exact fun e=>by cases e) with e | ⟨k,k0,k1,e | e⟩
  ·exact absurd e (hint_man h1.1 h1.2)
  ·exact absurd e.symm (seg_hint k0 (by omega) h1.1 h1.2)
  ·rw[hintN_inj h1.1 h1.2 k0 (by omega)] at e;omega
theorem LV.roll (h:LV M S c a n m) {z:Nat} (hz:∀b,c (segN S.last)=some b→b.length≤z) (hs:S.man.segs.length < 1000) (h9:S.man.next < 99999999) (hn:n+3≤4096) (ha:((a+13+(4*S.man.segs.length+19)+(9*z+21):Nat):Int)≤m):
  ∃M',rollM M S=(M',rollS S,0)∧LV M' (rollS S) (rollC c S) (a+13+(4*S.man.segs.length+19)+(9*z+21)) (n+3) m:=by
 have hnx:=h.next_le
 have hll:=h.last_lt
 have hsy:∃M1,logSync M S=(M1,0)∧Sees M1 c a n m:=by
  unfold logSync
  by_cases h0:S.last < 0
  ·rw[if_pos h0];exact⟨M,rfl,h.sees⟩
  ·rw[if_neg h0]
   obtain⟨b,hb⟩:=h.segs _ (h.last_mem (by omega))
   obtain⟨e1,s1⟩:=h.sees.sync hb
   exact⟨(syncM M (segN S.last)).1,Prod.ext rfl e1,s1⟩
 obtain⟨M1,eM1,s1⟩:=hsy
 have enx:=s1.next h.names (by omega)
 have hr2:rightM (rollMan S S.man.next)=true:=by
  unfold rightM rollMan
  have e1:wrap64 (S.man.next+1)=S.man.next+1:=by unfold wrap64;omega
  rw[e1,risesB_append _ _ _ h.rises (by omega)]
  simp
  omega
 have e1:wrap64 (S.man.next+1)=S.man.next+1:=by unfold wrap64;omega
 have hml:=putM_len (rollMan S S.man.next)
 have hml2:(rollMan S S.man.next).segs.length=S.man.segs.length+1:=by simp [rollMan]
 obtain⟨g2,s2⟩:=s1.make hnx.1 hnx.2 h.fresh (by omega) (by omega)
 obtain⟨g3,s3⟩:=s2.save hr2 (by omega) (by omega)
 have hv:upd (upd c (segN S.man.next) (some (putL (firstB S.man.next)))) tempN none=upd c (segN S.man.next) (some (putL (firstB S.man.next))):=by
  funext t
  unfold upd
  by_cases h1:t=tempN
  ·rw[if_pos h1,if_neg (fun e=>seg_temp hnx.1 hnx.2 (e.symm.trans h1)),h1,h.temp]
  ·rw[if_neg h1]
 rw[hv] at s3
 have hgen:∀(c':View),(∀s,c' s≠none→c s≠none∨s=manN∨s=segN S.man.next∨(0≤S.last∧s=hintN S.last))→Names c' (rollS S).man.next:=by
  intro c' hc' s hs'
  show s=manN∨∃k,0≤k∧k < wrap64 (S.man.next+1)∧_
  rw[e1]
  rcases hc' s hs' with h1 | h1 | h1 | ⟨h1,h2⟩
  ·rcases h.names s h1 with h2 | ⟨k,k0,k1,h2⟩
   ·exact .inl h2
   ·exact .inr ⟨k,k0,by omega,h2⟩
  ·exact .inl h1
  ·exact .inr ⟨S.man.next,hnx.1,by omega,.inl h1⟩
  ·exact .inr ⟨S.last,h1,by omega,.inr h2⟩
 have hrises:risesB (-1) ((rollS S).man.segs++[(rollS S).man.next])=true:=by
  show risesB (-1) ((S.man.segs++[S.man.next])++[wrap64 (S.man.next+1)])=true
  rw[e1]
  exact risesB_append _ _ _ h.rises (by omega)
 have hturn:turnsM (rollSteps S.man.next (rollMan S S.man.next)) M1=((saveM (makeM M1 S.man.next).1 (rollMan S S.man.next)).1,0):=by
  unfold rollSteps
  rw[turns_cons g2,turns_cons g3]
  rfl
 have hroll:rollM M S=rollEnd M1 S S.man.next ((saveM (makeM M1 S.man.next).1 (rollMan S S.man.next)).1,0):=by
  unfold rollM
  rw[eM1]
  dsimp only
  rw[if_pos rfl,enx]
  unfold rollN
  rw[if_neg (by omega),if_neg (by omega),hturn]
 rw[hroll]
 unfold rollEnd
 dsimp only
 rw[if_pos rfl]
 have hlk:∀t,t≠segN S.man.next→t≠manN→upd (upd c (segN S.man.next) (some (putL (firstB S.man.next)))) manN (some (Mn.putM (rollMan S S.man.next))) t=c t:=fun t h1 h2=>by rw[upd_ne _ _ h2,upd_ne _ _ h1]
 have hsn:upd (upd c (segN S.man.next) (some (putL (firstB S.man.next)))) manN (some (Mn.putM (rollMan S S.man.next))) (segN S.man.next)=some (putL (firstB S.man.next)):=by
  rw[upd_ne _ _ (seg_man hnx.1 hnx.2),upd_self]
 have hsegs:∀k∈(rollS S).man.segs,∃b,upd (upd c (segN S.man.next) (some (putL (firstB S.man.next)))) manN (some (Mn.putM (rollMan S S.man.next))) (segN k)=some b:=by
  intro k hk
  rcases List.mem_append.1 (show k∈S.man.segs++[S.man.next] from hk) with hk | hk
  ·obtain⟨b,hb⟩:=h.segs k hk
   have hkl:=rises_lt _ _ _ h.rises k hk
   refine⟨b,?_⟩
   rw[hlk _ (fun e=>by rw[segN_inj (by omega) (by omega) hnx.1 hnx.2] at e;omega) (seg_man (by omega) (by omega))]
   exact hb
  ·rw[List.mem_singleton.1 hk]
   exact⟨_,hsn⟩
 by_cases h0:0≤S.last
 ·rw[if_pos h0]
  obtain⟨b,hb⟩:=h.segs _ (h.last_mem h0)
  have hb3:upd (upd c (segN S.man.next) (some (putL (firstB S.man.next)))) manN (some (Mn.putM (rollMan S S.man.next))) (segN S.last)=some b:=by
   rw[hlk _ (fun e=>by rw[segN_inj h0 (by omega) hnx.1 hnx.2] at e;omega) (seg_man h0 (by omega))]
   exact hb
  have hh3:upd (upd c (segN S.man.next) (some (putL (firstB S.man.next)))) manN (some (Mn.putM (rollMan S S.man.next))) (hintN S.last)=none:=by
   rw[hlk _ (fun e=>seg_hint hnx.1 hnx.2 h0 (by omega) e.symm) (hint_man h0 (by omega))]
   exact h.open_ h0
  have hbz:=hz b hb
  have hvl:=hintV_len b S.last (h.sees.bytes hb)
  have s4:=s3.hint h0 (by omega) hb3 hh3 (by omega) (by omega)
  have ec:rollC c S=upd (upd (upd c (segN S.man.next) (some (putL (firstB S.man.next)))) manN (some (Mn.putM (rollMan S S.man.next)))) (hintN S.last) (some (hintV b S.last)):=by
   unfold rollC
   rw[if_pos h0,hb]
   rfl
  refine⟨_,rfl,?_⟩
  rw[ec]
  refine⟨s4.weak (by omega) (by omega),hgen _ (fun s hs'=>?_),hrises,.inr ⟨S.man.segs,rfl⟩,fun k hk=>?_,fun _=>?_⟩
  ·by_cases h1:s=hintN S.last
   ·exact .inr (.inr (.inr ⟨h0,h1⟩))
   ·rw[upd_ne _ _ h1] at hs'
    by_cases h2:s=manN
    ·exact .inr (.inl h2)
    ·rw[upd_ne _ _ h2] at hs'
     by_cases h3:s=segN S.man.next
     ·exact .inr (.inr (.inl h3))
     ·rw[upd_ne _ _ h3] at hs'
      exact .inl hs'
  ·obtain⟨b',hb'⟩:=hsegs k hk
   refine⟨b',?_⟩
   have hkl:-1 < k∧k≤S.man.next:=by
    rcases List.mem_append.1 (show k∈S.man.segs++[S.man.next] from hk) with hk | hk
    ·have:=rises_lt _ _ _ h.rises k hk;omega
    ·rw[List.mem_singleton.1 hk];omega
   rw[upd_ne _ _ (seg_hint (by omega) (by omega) h0 (by omega))]
   exact hb'
  ·show upd _ _ _ (hintN S.man.next)=none
   rw[upd_ne _ _ (fun e=>by rw[hintN_inj hnx.1 hnx.2 h0 (by omega)] at e;omega),hlk _ (fun e=>seg_hint hnx.1 hnx.2 hnx.1 hnx.2 e.symm) (hint_man hnx.1 hnx.2)]
   exact h.hint_next
 ·rw[if_neg h0]
  have ec:rollC c S=upd (upd c (segN S.man.next) (some (putL (firstB S.man.next)))) manN (some (Mn.putM (rollMan S S.man.next))):=by
   unfold rollC
   rw[if_neg h0]
  refine⟨_,rfl,?_⟩
  rw[ec]
  refine⟨s3.weak (by omega) (by omega),hgen _ (fun s hs'=>?_),hrises,.inr ⟨S.man.segs,rfl⟩,hsegs,fun _=>?_⟩
  ·by_cases h2:s=manN
   ·exact .inr (.inl h2)
   ·rw[upd_ne _ _ h2] at hs'
    by_cases h3:s=segN S.man.next
    ·exact .inr (.inr (.inl h3))
    ·rw[upd_ne _ _ h3] at hs'
     exact .inl hs'
  ·show upd _ _ _ (hintN S.man.next)=none
   rw[hlk _ (fun e=>seg_hint hnx.1 hnx.2 hnx.1 hnx.2 e.symm) (hint_man hnx.1 hnx.2)]
   exact h.hint_next
theorem LV.end_ (h:LV M S c a n m) {R:Rc.Re} (h0:0≤S.last) (hc:c (segN S.last)=some b) (hr:Rc.rightM R=true) (h6:IsBytes R.f6) (ha:((a+(putL (Rc.putM R)).length:Nat):Int)≤m):
  ∃M',addEnd M S R=(M',S,S.last,(b.length:Int),((putL (Rc.putM R)).length:Int),0)∧LV M' S (upd c (segN S.last) (some (b++putL (Rc.putM R)))) (a+(putL (Rc.putM R)).length) n m:=by
 have hB:=put_bytes _ (La.putM_isBytes R h6)
 have hll:=h.last_lt
 have hnx:=h.next_le
 have hpl:=Rc.put_len R
 have hp0:(Rc.putM R).length≠0:=fun e=>by rw[Rc.put_nil.1 e] at hr;cases hr
 have hfl:=Fr.put_len (Rc.putM R)
 rw[sizeI_of _ (by omega) (by omega)] at hfl
 obtain⟨e1,s1⟩:=h.sees.append hB hc ha
 have hz:Dk.sizeM M (segN S.last)=(b.length:Int):=by rw[h.sees.sizeM,hc];rfl
 have e2:Sg.addM M S.last R=((appendM M (segN S.last) (putL (Rc.putM R))).1,(b.length:Int),((putL (Rc.putM R)).length:Int),0):=by
  unfold Sg.addM
  rw[if_neg (by omega),if_pos e1,hz]
 refine⟨_,?_,s1,?_,h.rises,h.last,?_,?_⟩
 ·unfold addEnd
  rw[e2]
  dsimp only
  rw[if_pos rfl]
 ·intro s hs
  by_cases h1:s=segN S.last
  ·exact .inr ⟨S.last,h0,by omega,.inl h1⟩
  ·rw[upd_ne _ _ h1] at hs
   exact h.names s hs
 ·intro k hk
  by_cases h1:segN k=segN S.last
  ·rw[h1,upd_self];exact⟨_,rfl⟩
  ·rw[upd_ne _ _ h1];exact h.segs k hk
 ·intro _
  rw[upd_ne _ _ (fun e=>seg_hint h0 (by omega) h0 (by omega) e.symm)]
  exact h.open_ h0
theorem LV.new {x:Int} (limit:Int):LV (newM x) ⟨limit,⟨[],1⟩,-1⟩ (fun _=>none) 0 0 (newM x).d.most:=
 ⟨Sees.new x,fun s hs=>absurd rfl hs,rfl,.inl ⟨rfl,rfl⟩,fun k hk=>(by cases hk),fun h=>(by have h':(0:Int)≤-1:=h;omega)⟩
end Go.Proofs.YteccdnejnbkbiaaGreat.Qd
end
section
namespace Go.Proofs.YteccdnejnbkbiaaGreat.Gt
open Go.RowKit Go.Shelf Go.Maps Go.Sort Go.WideShapes Fr Ext Go.Proofs.YteccdnejnbkbiaaGreat.Nm Dk Mn Qd YteccdnejnbkbiaaGreatW.PrintWords YteccdnejnbkbiaaGreatW.PrintLast YteccdnejnbkbiaaGreatW.PrintMore
open Sg (segN firstB)
open Lg
open Rc (Re)
def M0:DiskM:=newM 4194304
def S0:LogS:=⟨1048576,⟨[],1⟩,-1⟩
abbrev St:=DiskM×LogS×List Int
def addG (p:St) (R:Re):St:=((laddM p.1 p.2.1 R).1,(laddM p.1 p.2.1 R).2.1,if(laddM p.1 p.2.1 R).2.2.2.2.2=0 then p.2.2++[(laddM p.1 p.2.1 R).2.2.2.1] else p.2.2)
def gsM (l:List Re):St:=l.foldl addG (M0,S0,[])
theorem gsM_snoc (l:List Re) (R:Re):gsM (l++[R])=addG (gsM l) R:=by unfold gsM;rw[List.foldl_append];rfl
def GI (p:St) (k:Nat):Prop:=
 p=(M0,S0,[])∨(p.2.2.head? =some 13∧p.2.1.man.segs=[1]∧p.2.1.last=1∧p.2.1.limit=1048576∧∃c a n b,LV p.1 p.2.1 c a n 4194304∧a≤100+5308*k∧n≤3∧c (segN 1)=some b∧13≤b.length∧b.length≤13+5308*k∧
  ∀x∈p.2.2,∃u y v R,x=(u.length:Int)∧b=u++putL y++v∧1≤y.length∧y.length≤8192∧Rc.getM y=(R,true))
theorem put_size {R:Re} (hr:Rc.rightM R=true):1≤(Rc.putM R).length∧(Rc.putM R).length≤5300∧(putL (Rc.putM R)).length=(Rc.putM R).length+8∧sizeI (Rc.putM R).length=(Rc.putM R).length+8:=by
 have hpl:=Rc.put_len R
 have hp0:(Rc.putM R).length≠0:=fun e=>by rw[Rc.put_nil.1 e] at hr;cases hr
 have hfl:=Fr.put_len (Rc.putM R)
 have hs:=sizeI_of ((Rc.putM R).length:Int) (by omega) (by omega)
 omega
theorem ladd_wrong (M:DiskM) (S:LogS) {R:Re} (hr:Rc.rightM R=false):laddM M S R=(M,S,0,0,0,1):=by
 unfold laddM
 rw[Rc.put_nil.2 hr,if_pos (by rfl)]
theorem GI.step {p:St} {k:Nat} (h:GI p k) (R:Re) (h6:IsBytes R.f6) (hk:k≤40):GI (addG p R) (k+1):=by
 obtain⟨M,S,pl⟩:=p
 cases hr:Rc.rightM R with
 | false=>
  have e:addG (M,S,pl) R=(M,S,pl):=by
   unfold addG
   dsimp only
   rw[ladd_wrong M S hr]
   dsimp only
   rw[if_neg (by decide)]
  rw[e]
  rcases h with h | ⟨h1,h2,h3,h4,c,a,n,b,h5,h6,h7,h8,h9,h10,h11⟩
  ·exact .inl h
  ·exact .inr ⟨h1,h2,h3,h4,c,a,n,b,h5,by omega,h7,h8,h9,by omega,h11⟩
 | true=>
  obtain⟨z1,z2,z3,z4⟩:=put_size hr
  have hgp:=Rc.get_put hr
  have hsz:¬sizeI ((Rc.putM R).length:Int)=0:=by rw[z4];omega
  rcases h with h | ⟨h1,h2,h3,h4,c,a,n,b,h5,h6',h7,h8,h9,h10,h11⟩
  ·obtain⟨rfl,rfl,rfl⟩:M=M0∧S=S0∧pl=[]:=by
    have e:=Prod.mk.inj h
    exact⟨e.1,(Prod.mk.inj e.2).1,(Prod.mk.inj e.2).2⟩
   have hnew:LV M0 S0 (fun _=>none) 0 0 4194304:=LV.new (x:=4194304) 1048576
   obtain⟨M',e1,l1⟩:=hnew.roll (z:=0) (fun b hb=>by cases hb) (by decide) (by decide) (by decide) (by decide)
   have hc1:rollC (fun _=>none) S0 (segN 1)=some (putL (firstB 1)):=by
    unfold rollC
    rw[if_neg (by decide)]
    show upd (upd _ (segN 1) _) manN _ (segN 1)=_
    rw[upd_ne _ _ (seg_man (by decide) (by decide)),upd_self]
    rfl
   obtain⟨M2,e2,l2⟩:=l1.end_ (R:=R) (by decide) hc1 hr h6 (by rw[z3];show((53+((Rc.putM R).length+8):Nat):Int)≤4194304;omega)
   have hl:=first_len 1
   rw[hl] at e2
   have e:laddM M0 S0 R=(M2,rollS S0,1,13,((putL (Rc.putM R)).length:Int),0):=by
    unfold laddM
    rw[if_neg hsz,if_pos (by rfl),e1]
    unfold addRoll
    dsimp only
    rw[if_pos rfl,e2]
    rfl
   unfold addG
   dsimp only
   rw[e]
   dsimp only
   rw[if_pos rfl]
   refine .inr ⟨by simp,rfl,rfl,rfl,_,_,_,_,l2,?_,Nat.le_refl _,upd_self _ _ _,?_,?_,?_⟩
   ·rw[z3];show 53+_≤_;omega
   ·rw[List.length_append,hl];omega
   ·rw[List.length_append,hl,z3];omega
   ·intro x hx
    obtain rfl:x=13:=by simpa using hx
    exact⟨putL (firstB 1),Rc.putM R,[],R,by rw[hl];rfl,by rw[List.append_nil],z1,by omega,hgp⟩
  ·dsimp only at h1 h2 h3 h4 h5 h11
   rw[h3.symm] at h8
   obtain⟨M2,e2,l2⟩:=h5.end_ (R:=R) (by omega) h8 hr h6 (by rw[z3];omega)
   have hzz:sizeM M (segN S.last)=(b.length:Int):=by rw[h5.sees.sizeM,h8];rfl
   have hw:wantsRoll M S (sizeI ((Rc.putM R).length:Int))=false:=by
    unfold wantsRoll
    rw[hzz,z4,h4,decide_eq_false (by omega:¬S.last < 0),Bool.false_or,show wrap64 ((b.length:Int)+(((Rc.putM R).length:Int)+8))=(b.length:Int)+(((Rc.putM R).length:Int)+8) by unfold wrap64;omega,decide_eq_false (by omega:¬((b.length:Int)+(((Rc.putM R).length:Int)+8) > 1048576)),Bool.and_false]
   have e:laddM M S R=(M2,S,S.last,(b.length:Int),((putL (Rc.putM R)).length:Int),0):=by
    unfold laddM
    rw[if_neg hsz,hw,if_neg (by decide),e2]
   unfold addG
   dsimp only
   rw[e]
   dsimp only
   rw[if_pos rfl]
   refine .inr ⟨by rw[List.head?_append,h1];rfl,h2,h3,h4,_,_,_,_,l2,?_,h7,by rw[h3,upd_self],?_,?_,?_⟩
   ·rw[z3];omega
   ·rw[List.length_append];omega
   ·rw[List.length_append,z3];omega
   ·intro x hx
    rcases List.mem_append.1 hx with hx | hx
    ·obtain⟨u,y,v,R',g1,g2,g3⟩:=h11 x hx
     exact⟨u,y,v++putL (Rc.putM R),R',g1,by rw[g2];simp only[List.append_assoc],g3⟩
    ·obtain rfl:x=(b.length:Int):=by simpa using hx
     exact⟨b,Rc.putM R,[],R,rfl,by rw[List.append_nil],z1,by omega,hgp⟩
theorem GI.of (l:List Re):∀k,k≤l.length→k≤41→(∀R∈l,IsBytes R.f6)→GI (gsM (l.take k)) k
 | 0,_,_,_=>.inl rfl
 | k+1,h,h2,hb=>by
  rw[List.take_succ_eq_append_getElem (by omega),gsM_snoc]
  exact(GI.of l k (by omega) (by omega) hb).step _ (hb _ (List.getElem_mem _)) (by omega)
theorem GI.gone {p:St} {k:Nat} (h:GI p k) {n:Int} (at_:Int) (hn:p.2.2=[]∨n≠1):(getLM p.1 p.2.1 n at_).2=3:=by
 unfold getLM
 rw[if_neg]
 rcases h with rfl | ⟨h1,h2,_⟩
 ·simp [S0]
 ·rcases hn with hn | hn
  ·rw[hn] at h1;cases h1
  ·rw[h2]
   simp [hn]
theorem GI.got {p:St} {k:Nat} (h:GI p k) (hk:k≤40) {at_:Int} (hp:p.2.2≠[]):(at_∈p.2.2→(getLM p.1 p.2.1 1 at_).2=0)∧(¬(0≤at_∧at_ < 4194304)→(getLM p.1 p.2.1 1 at_).2=1):=by
 rcases h with rfl | ⟨h1,h2,h3,h4,c,a,n,b,h5,h6',h7,h8,h9,h10,h11⟩
 ·exact absurd rfl hp
 ·unfold getLM
  rw[if_pos (by rw[h2];rfl)]
  refine⟨fun hx=>?_,fun hx=>h5.sees.get_out h8 at_ (by omega)⟩
  obtain⟨u,y,v,R,g1,g2,g3,g4,g5⟩:=h11 at_ hx
  rw[g1,h5.sees.get u y v (by rw[h8,g2]) g3 g4 g5]
theorem fold_fit:∀(l:List Re) (p:St),Fit p.1→(∀R∈l,IsBytes R.f6)→Fit (l.foldl addG p).1
 | [],_,h,_=>h
 | R::l,p,h,hb=>fold_fit l (addG p R) (laddM_fit h _ _ (La.putM_isBytes _ (hb R (by simp)))) (fun x hx=>hb x (by simp [hx]))
theorem gsM_fit (l:List Re) (h:∀R∈l,IsBytes R.f6):Fit (gsM l).1:=fold_fit l _ (Fit.new _) h
theorem fold_len:∀(l:List Re) (p:St),(l.foldl addG p).2.2.length≤p.2.2.length+l.length
 | [],_=>Nat.le_refl _
 | R::l,p=>by
  have h:=fold_len l (addG p R)
  have h2:(addG p R).2.2.length≤p.2.2.length+1:=by
   unfold addG
   dsimp only
   split
   ·rw[List.length_append];exact Nat.le_refl _
   ·omega
  rw[List.foldl_cons,List.length_cons]
  omega
theorem gs_len (l:List Re):(gsM l).2.2.length≤l.length:=by
 have:=fold_len l (M0,S0,[])
 rw[show((M0,S0,[]):St).2.2.length=0 from rfl,Nat.zero_add] at this
 exact this
theorem GI.segs {p:St} {k:Nat} (h:GI p k):p.2.1.man.segs.length≤1000000:=by
 rcases h with rfl | ⟨h1,h2,_⟩
 ·decide
 ·rw[h2];decide
theorem GI.head {p:St} {k:Nat} (h:GI p k):p.2.2=[]∨p.2.2.head? =some 13:=by
 rcases h with rfl | ⟨h1,_⟩
 ·exact .inl rfl
 ·exact .inr h1
theorem GI.one {p:St} {k:Nat} (h:GI p k) (hp:p.2.2≠[]):p.2.1.man.segs=[1]:=by
 rcases h with rfl | ⟨_,h2,_⟩
 ·exact absurd rfl hp
 ·exact h2
theorem bytes_ok' (l:List Int) (h:∀x∈l,(Lit.int .u8 x).wf=true):IsBytes l:=Pure.bytes_of_wf l h
end Go.Proofs.YteccdnejnbkbiaaGreat.Gt
end
section
namespace Go.Proofs.YteccdnejnbkbiaaGreat.Lg
open Go.RowKit Go.Maps Fr Ext Go.Proofs.YteccdnejnbkbiaaGreat.Nm Dk Mn YteccdnejnbkbiaaGreatW.PrintWords YteccdnejnbkbiaaGreatW.PrintLast YteccdnejnbkbiaaGreatW.PrintMore
open Sg (segN segN_le segN_ascii makeM makeM_fit)
open Rc (Norm Norm.intro Norm.elim)
variable {w w' w1:World} {B l g N:Nat} {M M':DiskM} {F F' G:Nat→Prop} {S S':LogS}
def rl8T:Bool×List (List Nat×List Nat):=(true,[([],[]),([0],[0]),([],[]),([2],[2]),([1,3,1],[1,3]),([],[]),([5],[5]),([4,6],[4,6]),([],[]),([8,7,4,0,1,2,3,4,5,6,7,8],[7,8])])
def rl8B:List Nat:=[0,1,0,4,15,0,32,127,0,511]
theorem rl8tab:rtab .any (opsOf Tryz.f17 8)=rl8T:=by kernel_rfl
theorem rl8bits:waitsOk rl8T.2 rl8B=true:=by kernel_rfl
theorem LogO.setNext (h:LogO w B l g F S) (x:Int):LogO (w.setCell ⟨l,3,none⟩ (.int .i64 x)) B l g F {S with man:=⟨S.man.segs,x⟩}:=by
 obtain⟨⟨A,c,h1,h2,h3⟩,hs,ha⟩:=h
 refine⟨⟨A,c,blk_put h1 3 (.int .i64 x) rfl,Kd.R_mono (Kd.R_far (p:=⟨l,3,none⟩) (Kd.R_types h2 h1 (by decide)) (fun k hk=>hk.2) _) (fun _ _=>trivial),h3⟩,hs,ha⟩
theorem LogO.setLast (h:LogO w B l g F S) (x:Int):LogO (w.setCell ⟨l,4,none⟩ (.int .i64 x)) B l g F {S with last:=x}:=by
 obtain⟨⟨A,c,h1,h2,h3⟩,hs,ha⟩:=h
 refine⟨⟨A,c,blk_put h1 4 (.int .i64 x) rfl,Kd.R_mono (Kd.R_far (p:=⟨l,4,none⟩) (Kd.R_types h2 h1 (by decide)) (fun k hk=>hk.2) _) (fun _ _=>trivial),h3⟩,hs,ha⟩
theorem LogO.setMan (h:LogO w B l g F S) (m:ManM) (Am:Option Addr) (cm:Nat) (hr:Kd.R (Kd.int .i64) 3 w B (fun _=>True) (.slice Am m.segs.length cm) m.segs) (hn:∀k,(Value.slice Am m.segs.length cm).ownBlock=some k→¬F k):
  LogO ((w.setCell ⟨l,2,none⟩ (.slice Am m.segs.length cm)).setCell ⟨l,3,none⟩ (.int .i64 m.next)) B l g F {S with man:=m}:=by
 obtain⟨⟨A,c,h1,h2,h3⟩,hs,ha⟩:=h
 refine⟨⟨Am,cm,blk_put (blk_put h1 2 (.slice Am m.segs.length cm) rfl) 3 (.int .i64 m.next) rfl,Kd.R_mono (Kd.R_far (p:=⟨l,3,none⟩) (Kd.R_far (p:=⟨l,2,none⟩) (Kd.R_types hr h1 (by decide)) (fun k hk=>hk.2) _) (fun k hk=>hk.2) _) (fun _ _=>trivial),hn⟩,hs,ha⟩
theorem keeps_l (w:World) (l i:Nat) (v:Value):Keeps (fun k=>k=l) w (w.setCell ⟨l,i,none⟩ v):=(Keeps.refl _ _).set rfl
theorem DiskAt.setL (h:DiskAt w B g N M F) (hl:¬F l) (i:Nat) (v:Value):DiskAt (w.setCell ⟨l,i,none⟩ v) B g N M F:=h.keep (keeps_l w l i v) (fun k hk e=>hl (by rw[← e];exact hk))
theorem one_int {w:World} {sb:Nat} {n:Int} (h:w.heap[sb]? =some (.cells #[.int .i64 n] 3 (0,0))):Kd.C (Kd.int .i64) w (some ⟨sb,0,none⟩) 1 [n]:=
 Kd.C_of_reads (d:=(0:Int)) (h1:=fun _=>rfl) (reads_of_block (k:=.i64) (xs:=[n]) h (by simp))
theorem three_of {T:Bool×List (List Nat×List Nat)} {md:Region.Mode} {ops:Array Oper} {i j k:Nat} {l li lj lk:Array Bool} (hT:rtab md ops=T) (h:(readyT T.2 l.toList==[i,j,k] && l.toList.set i true==li.toList && l.toList.set j true==lj.toList && l.toList.set k true==lk.toList)=true):(Region.ready md ops l==[i,j,k] && l.setIfInBounds i true==li && l.setIfInBounds j true==lj && l.setIfInBounds k true==lk)=true:=by
 simp only[Bool.and_eq_true] at h ⊢
 obtain⟨⟨⟨h1,h2⟩,h3⟩,h4⟩:=h
 subst hT
 exact⟨⟨⟨by rw[ready_eq];exact h1,set_of h2⟩,set_of h3⟩,set_of h4⟩
theorem roll_calls (hd:DiskAt w B g N M F) (hM:Fit M) (h:LogO w B l g F S) (hl:S.man.segs.length≤1000000) (hN:N+32≤1000000000000):Calls Tryz.prog 17 #[ptr l] w fun e w'=>e=.returned (.int .i64 (rollM M S).2.2)∧LTurned w w' B l g (N+32) F (rollM M S).1 (rollM M S).2.1:=by
 have HD:=ak hd
 have HM:=ak hM
 have HO:=ak h
 have HN:=ak hN
 have HL:=ak hl
 have hdef:rollM M S=if(logSync M S).2=0 then rollN (logSync M S).1 S (nextM (logSync M S).1 S) else((logSync M S).1,S,(logSync M S).2):=rfl
 have hb1:=heap_alloc_new w (.cells #[ptr l] 28)
 have hB:=below_alloc (RowKit.Below.refl w.heap.size w) (.cells #[ptr l] 28)
 have hsy:=sync_calls (hd.below hB) (h.below hB)
 have hf1:=logSync_fit hM S
 clear hd hM h hl hN
 go_enter Tryz.func17,Tryz.ntmps17
 go_upto_region 1 with(fail)
 generalize w.alloc (.cells #[ptr l] 28)=w1 at hb1 hB hsy ⊢
 generalize logSync M S=p at hdef hsy hf1
 obtain⟨M1,e1⟩:=p
 have HB:=ak hB
 have HB1:=ak hb1
 have HSY:=ak hsy
 have HF1:=ak hf1
 have HDEF:=ak hdef
 have x0:=bq hb1 0 (ptr l)
 clear hb1 hB hsy hf1 hdef
 go_upto_region 2 with(go_at_call 38;(with_reducible refine HSY.out.mono ?_);rintro e w2 ⟨rfl,h2⟩;have H2:=ak h2;clear h2)
 by_cases he:e1=0
 case neg=>
  have d1:(e1 !=0)=true:=bne_iff_ne.mpr he
  have HE:=ak he
  clear he
  go_wp2
  go_ret
  rw[HDEF.out,if_neg HE.out]
  exact⟨rfl,(LTurned.after HB.out (LTurned.of_turned (HO.out.below HB.out) H2.out)).mono (by omega)⟩
 subst he
 obtain⟨F1,hd1,hs1,hs2,hk1,ho1⟩:=(HO.out.below HB.out).turned H2.out
 have hlt:=HD.out.lt
 have hn1:¬F w.heap.size:=fun hf=>by have:=hlt _ hf;omega
 have hx2:=hk1.obj HB1.out hn1
 have HX2:=ak hx2
 have HD1:=ak hd1
 have HO1:=ak ho1
 have HG1:=ak (And.intro hs1 (And.intro hs2 hk1))
 have HNX:=ak (next_calls hd1 HF1.out ho1)
 have hdef:=HDEF.out
 rw[if_pos rfl] at hdef
 generalize nextM M1 S=n at hdef HNX
 have HDEF2:=ak hdef
 have y0:=bq hx2 0 (ptr l)
 clear hd1 hs1 hs2 hk1 ho1 hlt hn1 hdef HDEF hx2 x0
 go_upto_region 5 with(go_at_call 39;(with_reducible refine HNX.out.mono ?_);rintro e w3 ⟨rfl,hb3⟩;have HB3:=ak hb3;clear hb3)
 have hn4:=heap_alloc_new w3 (.cells #[.int .i64 n] 3)
 have hb4:=below_alloc (RowKit.Below.refl w3.heap.size w3) (.cells #[.int .i64 n] 3)
 have HB24:=ak (HB3.out.trans (hb4.mono HB3.out.size))
 generalize w3.alloc (.cells #[.int .i64 n] 3)=w4 at hn4 hb4 HB24 ⊢
 obtain⟨nb,hnb⟩:∃nb,w3.heap.size=nb:=⟨_,rfl⟩
 rw[hnb] at hn4 ⊢
 have HNB:=ak (show w2.heap.size≤nb by rw[← hnb];exact HB3.out.size)
 have HN4:=ak hn4
 have HX4:=ak ((HB24.out.block _ (blk_lt HX2.out)).trans HX2.out)
 have HO4:=ak (HO1.out.below HB24.out)
 have HD4:=ak (HD1.out.below HB24.out)
 obtain⟨⟨A,c,h1,h2,h3⟩,h4,h5⟩:=HO4.out
 have z0:=bq HX4.out 0 (ptr l)
 have z1:=bq hn4 0 (.int .i64 n)
 have z2:=bq h1 2 (.slice A S.man.segs.length c)
 have z3:=bq h1 3 (.int .i64 S.man.next)
 have f3:=blk_frozen h1 3
 clear hn4 hb4 hnb h1 h2 h3 h4 h5 y0
 have HRET:=ak (fun W M' S' (h:LTurned w2 W B l g (N+32) F1 M' S')=>LTurned.after HB.out (LTurned.glue HG1.out.1 HG1.out.2.1 (HG1.out.2.2.mono (fun k hk=>.inl hk)) h))
 by_cases hn9:n≥99999999
 ·have d1:decide (n≥99999999)=true:=decide_eq_true hn9
  have d2:decide (99999999≤n)=true:=decide_eq_true hn9
  have H9:=ak hn9
  clear hn9
  go_wp2
  go_ret
  rw[HDEF2.out,show rollN M1 S n=(M1,S,5) by unfold rollN;rw[if_pos H9.out]]
  exact⟨rfl,HRET.out _ _ _ ((LTurned.of_turned HO1.out (Turned.of_below HD1.out HB24.out)).mono (by omega))⟩
 have d1:decide (n≥99999999)=false:=decide_eq_false hn9
 have d2:decide (99999999≤n)=false:=decide_eq_false hn9
 by_cases hl9:S.man.segs.length≥1000
 ·have d3:decide ((S.man.segs.length:Int)≥1000)=true:=decide_eq_true (by omega)
  have d4:decide (1000≤(S.man.segs.length:Int))=true:=decide_eq_true (by omega)
  have d5:decide (1000≤S.man.segs.length)=true:=decide_eq_true hl9
  have H9:=ak hn9
  have HL9:=ak hl9
  clear hn9 hl9
  go_wp2
  go_ret
  rw[HDEF2.out,show rollN M1 S n=(M1,S,5) by unfold rollN;rw[if_neg (by have:=H9.out;omega),if_pos HL9.out]]
  exact⟨rfl,HRET.out _ _ _ ((LTurned.of_turned HO1.out (Turned.of_below HD1.out HB24.out)).mono (by omega))⟩
 have d3:decide ((S.man.segs.length:Int)≥1000)=false:=decide_eq_false (by omega)
 have d4:decide (1000≤(S.man.segs.length:Int))=false:=decide_eq_false (by omega)
 have d5:decide (1000≤S.man.segs.length)=false:=decide_eq_false hl9
 have hdef:=HDEF2.out
 rw[show rollN M1 S n=rollEnd M1 S n (turnsM (rollSteps n (rollMan S n)) M1) by unfold rollN;rw[if_neg (by omega),if_neg hl9]] at hdef
 have HDEF3:=ak hdef
 have HL9:=ak hl9
 clear hdef HDEF2 hn9 hl9
 go_upto_region 8 with(fail)
 have HO5:=ak (HO4.out.setNext (wrap64 (n+1)))
 have HD5:=ak (DiskAt.setL HD4.out HO4.out.self 3 (.int .i64 (wrap64 (n+1))))
 have HK5:=ak (keeps_l w4 l 3 (.int .i64 (wrap64 (n+1))))
 have hln:w.heap.size≠l:=fun e=>by have:=HO.out.lt;omega
 have hlnb:nb≠l:=fun e=>by have h1:=HO1.out.lt;have h2:=HNB.out;omega
 have HX5:=ak ((HK5.out.block _ (blk_lt HX4.out) hln).trans HX4.out)
 have HN5:=ak ((HK5.out.block _ (blk_lt HN4.out) hlnb).trans HN4.out)
 generalize w4.setCell ⟨l,3,none⟩ (.int .i64 (wrap64 (n+1)))=w5 at HO5 HD5 HK5 HX5 HN5 ⊢
 clear z0 z1 z2 z3 f3 hln hlnb
 have z0:=bq HX5.out 0 (ptr l)
 have z1:=bq HN5.out 0 (.int .i64 n)
 obtain⟨L6,hL6⟩:∃L6,(S.man.segs++[n]).length=L6:=⟨_,rfl⟩
 have HL6:=ak hL6
 clear hL6
 have HLA:=ak (show(S.man.segs.length+1)*8≤140737488355328 by have:=HL.out;omega)
 refine Code.wp_mono (Q:=Norm fun a' W=>∃(mb sb:Nat) (A1:Option Addr) (c1:Nat) (A6:Option Addr) (c6:Nat),a'={tmps:=#[ptr l,.pointer (some ⟨w.heap.size,0,none⟩),.int .i64 0,.int .i64 0,.pointer (some ⟨nb,0,none⟩),.pointer (some ⟨mb,0,none⟩),undef,ptr l,.int .i64 0,.int .i64 0,.bool false,undef,ptr l,.int .i64 n,.int .i64 n,.bool false,.bool false,ptr l,.pointer (some ⟨l,0,none⟩),.pointer (some ⟨l,2,none⟩),.pointer (some ⟨l,2,none⟩),.slice A S.man.segs.length c,.int .i64 S.man.segs.length,.bool false,.bool false,ptr l,.int .i64 n,.int .i64 (wrap64 (n+1)),.pointer (some ⟨l,0,none⟩),.pointer (some ⟨l,2,none⟩),.pointer (some ⟨l,3,none⟩),ptr l,.slice A1 S.man.segs.length c1,.int .i64 n,.slice (some ⟨sb,0,none⟩) 1 1,.slice A6 L6 c6,.int .i64 n,.int .i64 (wrap64 (n+1)),.agg #[.slice A6 L6 c6,.int .i64 (wrap64 (n+1))],undef,undef,undef,undef,undef,undef,undef,undef,undef,undef,undef,undef,undef,undef,undef,undef,undef,undef,undef,undef,undef,undef,undef,undef,undef,undef],defers:=[]}∧W.heap[mb]? =some (.cells #[.slice A6 L6 c6,.int .i64 (wrap64 (n+1))] 66 (0,0))∧Kd.R (Kd.int .i64) 3 W w5.heap.size (fun _=>True) (.slice A6 L6 c6) (S.man.segs++[n])∧RowKit.Below w5.heap.size w5 W∧w5.heap.size≤mb) (Norm.elim ?mono) ?reg
 case reg=>
  refine st_ 10 (S:=(fun w'=>RowKit.Below w5.heap.size w5 w')) (ds:=[]) (by kernel_rfl) rfl (by kernel_rfl) (RowKit.Below.refl _ _).drew (fun hHeld=>?_);refine with_tabW rl8tab rl8bits (fun HT_ HW_=>?_)
  generalize w5.drew=b0 at hHeld ⊢
  refine tk_ 0 1 (N:=some 31) (v:=?_) (a':=?_) HT_ HW_ rfl rfl (.inl ⟨by rfl,?_⟩) hHeld ?_ ?_
  rotate_left
  ·rintro w' hs
   have xx:=pw_cell_below hs z0
   go_simp
   with_reducible rfl
  rotate_left
  ·simp only[Act.put,zq1,zq2,zq3,i64_w,i32_w]
   rfl
  refine tk_ 2 5 (N:=some 33) (v:=?_) (a':=?_) HT_ HW_ rfl rfl (.inl ⟨by rfl,?_⟩) hHeld ?_ ?_
  rotate_left
  ·rintro w' hs
   have xx:=pw_cell_below hs z1
   go_simp
   with_reducible rfl
  rotate_left
  ·simp only[Act.put,zq1,zq2,zq3,i64_w,i32_w]
   rfl
  refine tk_ 5 37 (N:=some 36) (v:=?_) (a':=?_) HT_ HW_ rfl rfl (.inl ⟨by rfl,?_⟩) hHeld ?_ ?_
  rotate_left
  ·rintro w' hs
   have xx:=pw_cell_below hs z1
   go_simp
   with_reducible rfl
  rotate_left
  ·simp only[Act.put,zq1,zq2,zq3,i64_w,i32_w]
   rfl
  refine fl_ [6,37,101] ?_
  (refine pq_ (v:=?_) (a':=?_) HT_ rfl rfl (.inl ⟨by rfl,?_⟩) ?_ ?_;rotate_left;(focus intro w';go_simp;with_reducible rfl);rotate_left;(focus simp only[Act.put,zq1,zq2,zq3,i64_w,i32_w];rfl))
  refine fe_ ?_
  refine join_ (σ:=Nat×Nat×(Option Addr×Nat)×(Option Addr×Nat)) 1 (bl 10 511) (fun s=>[(32,.slice s.2.2.1.1 S.man.segs.length s.2.2.1.2),(34,.slice (some ⟨s.2.1,0,none⟩) 1 1),(35,.slice s.2.2.2.1 L6 s.2.2.2.2),(38,.agg #[.slice s.2.2.2.1 L6 s.2.2.2.2,.int .i64 (wrap64 (n+1))]),(5,.pointer (some ⟨s.1,0,none⟩))]) (fun s W=>W.heap[s.1]? =some (.cells #[.slice none 0 0,.int .i64 0] 66 (0,0))∧Kd.R (Kd.int .i64) 3 W w5.heap.size (fun _=>True) (.slice s.2.2.2.1 L6 s.2.2.2.2) (S.man.segs++[n])∧RowKit.Below w5.heap.size w5 W∧w5.heap.size≤s.1) ?_ ?_
  ·rintro ⟨mb,sb,⟨A1,c1⟩,⟨A6,c6⟩⟩ W ⟨hrow,hv4,hHeld,hle8⟩
   dsimp only at hrow hv4 hle8
   refine norm_ (a':=?_) ?_ ?_
   rotate_left
   ·simp only[putAll,Act.put,zq1,zq2,zq3]
    rfl
   have hvt:=Kd.R_mono (ok':=fun q=>q≠mb) (Kd.R_types hv4 hrow (by decide)) (fun q hq=>hq.2)
   refine on_ 9 1023 none HT_ rfl rfl (by kernel_rfl) (by decide) (fun K hK=>?_)
   have q0:_root_.Go.World.cell? W ⟨mb,0,none⟩=some (.slice none 0 0):=(blk_cell hrow 0).trans rfl
   have q1:_root_.Go.World.cell? W ⟨mb,1,none⟩=some (.int .i64 0):=(blk_cell hrow 1).trans rfl
   have f0:=blk_frozen hrow 0
   have f1:=blk_frozen hrow 1
   refine Rc.store_step rfl (by go_simp;rfl) ?_
   refine hK.out _ _ ((hHeld.setCell (p:=⟨mb,0,none⟩) hle8 _).setCell (p:=⟨mb,1,none⟩) hle8 _) (fun hHeld=>?_)
   clear hK K
   refine norm_ (a':=?_) ?_ ?_
   rotate_left
   ·show Act.put _ (none) _=_
    simp only[Act.put]
    rfl
   refine done_ (done_of HT_.out (by kernel_rfl)) ?_
   exact Norm.intro ⟨mb,sb,A1,c1,A6,c6,rfl,blk_put (blk_put hrow 0 _ rfl) 1 _ rfl,Kd.R_mono (Kd.R_far (p:=⟨mb,1,none⟩) (Kd.R_far (p:=⟨mb,0,none⟩) hvt (fun q hq=>hq) _) (fun q hq=>hq) _) (fun _ _=>trivial),hHeld,hle8⟩
  intro hCont
  refine three_ (i:=1) (j:=3) (k:=8) (Ni:=some 32) (Nj:=some 34) (Nk:=some 5) (bl 10 103) (bl 10 109) (bl 10 357) rfl rfl rfl rfl rfl rfl (three_of HT_.out (by kernel_rfl)) (by decide) (by decide) (by decide) (fun K hK=>?_) (fun K hK=>?_) (fun K hK=>?_)
  ·refine goes_ Tryz.func10 (by kernel_rfl) rfl #[.pointer (some ⟨l,0,none⟩)] (by rfl) rfl rfl (by(try simp only[List.map_toArray,List.map_cons,List.map_nil]);first | done | rfl) ?_
   refine(segs_calls (HO5.out.below hHeld) HL.out).mono ?_
   rintro e b1 ⟨v1,rfl,hv1,hb⟩
   refine⟨_,rfl,?_⟩
   have hv1:=Kd.R_lower hv1 hHeld.size
   have hHeld:=hHeld.trans (hb.mono hHeld.size)
   refine kn_ (a':=?_) hK hHeld ?_ fun hHeld=>?_
   rotate_left;(focus show Act.put _ (some 32) _=_;simp only[Act.put,zq1,zq2,zq3,i64_w,i32_w];rfl);clear hK K
   obtain⟨A1,c1,hA1⟩:=Kd.R_slice hv1
   subst hA1
   clear hb
   refine tw_ 3 8 111 359 (some 34) (some 5) HT_ rfl rfl rfl rfl (by kernel_rfl) (by decide) (by decide) (fun K hK=>?_) (fun K hK=>?_)
   ·refine Mn.alloc_step rfl (by go_simp;exact⟨rfl,rfl⟩) ?_
    have hb:=below_alloc (RowKit.Below.refl b1.heap.size b1) (.cells #[.int .i64 n] 3)
    have hv1:=Kd.R_below hv1 hb
    have hlit:=heap_alloc_new b1 (.cells #[.int .i64 n] 3)
    have hle3:w5.heap.size≤b1.heap.size:=hHeld.size
    have hHeld:=below_alloc hHeld (.cells #[.int .i64 n] 3)
    refine kn_ (a':=?_) hK hHeld ?_ fun hHeld=>?_
    rotate_left;(focus show Act.put _ (some 34) _=_;simp only[Act.put,zq1,zq2,zq3,i64_w,i32_w];rfl);clear hK K
    generalize b1.alloc (.cells #[.int .i64 n] 3)=b2 at hHeld hb hlit hv1 ⊢
    clear hb
    refine tw_ 4 8 127 367 (some 35) (some 5) HT_ rfl rfl rfl rfl (by kernel_rfl) (by decide) (by decide) (fun K hK=>?_) (fun K hK=>?_)
    ·refine Kd.R_append_rows_step (Kd.int .i64) (w0:=b2) (W:=b2) w5.heap.size rfl (.tmp 32) (.tmp 34) 24 3 (.int .i64 0) 8 rfl Tryz.underlying24 Nm.infoI rfl (by decide) (by decide) (.slice A1 S.man.segs.length c1) S.man.segs [n] (some ⟨b1.heap.size,0,none⟩) 1 1 (fun _=>True) (fun _=>False) rfl rfl hv1 (one_int hlit) (fun x cs hk=>hk) (fun _ h=>h.elim) (fun _ _=>trivial) (RowKit.Below.refl _ _) hHeld.size HLA.out ?_
     intro v4 b3 hv4 hb4 hg4 hat4
     have hHg:=hHeld.grown hg4 hHeld.size (Kd.R_base hv1)
     have hHeld:=hHg
     refine kn_ (a':=?_) hK hHeld ?_ fun hHeld=>?_
     rotate_left;(focus show Act.put _ (some 35) _=_;simp only[Act.put,zq1,zq2,zq3,i64_w,i32_w];rfl);clear hK K
     obtain⟨A6,c6,hA6⟩:=Kd.R_slice hv4
     rw[HL6.out] at hA6
     subst hA6
     refine fl_ [7,38,255] ?_
     (refine pq_ (v:=?_) (a':=?_) HT_ rfl rfl (.inl ⟨by rfl,?_⟩) ?_ ?_;rotate_left;(focus intro w';go_simp;with_reducible rfl);rotate_left;(focus simp only[Act.put,zq1,zq2,zq3,i64_w,i32_w];rfl))
     refine fe_ ?_
     refine on_ 8 511 (some 5) HT_ rfl rfl (by kernel_rfl) (by decide) (fun K hK=>?_)
     refine Mn.alloc_step rfl (by go_simp;exact⟨rfl,rfl⟩) ?_
     have hb:=below_alloc (RowKit.Below.refl b3.heap.size b3) (.cells #[.slice none 0 0,.int .i64 0] 66)
     have hv4:=Kd.R_below hv4 hb
     have hrow:=heap_alloc_new b3 (.cells #[.slice none 0 0,.int .i64 0] 66)
     have hle8:w5.heap.size≤b3.heap.size:=hHeld.size
     have hHeld:=below_alloc hHeld (.cells #[.slice none 0 0,.int .i64 0] 66)
     refine kn_ (a':=?_) hK hHeld ?_ fun hHeld=>?_
     rotate_left;(focus show Act.put _ (some 5) _=_;simp only[Act.put,zq1,zq2,zq3,i64_w,i32_w];rfl);clear hK K
     generalize b3.alloc (.cells #[.slice none 0 0,.int .i64 0] 66)=b4 at hHeld hb hrow hv4 ⊢
     clear hb
     exact norm_ (by simp only[putAll,Act.put,zq1,zq2,zq3]) (hCont (b3.heap.size,b1.heap.size,(A1,c1),(A6,c6)) _ ⟨hrow,hv4,hHeld,hle8⟩)
    ·refine Mn.alloc_step rfl (by go_simp;exact⟨rfl,rfl⟩) ?_
     have hb:=below_alloc (RowKit.Below.refl b2.heap.size b2) (.cells #[.slice none 0 0,.int .i64 0] 66)
     have hv1:=Kd.R_below hv1 hb
     have hlit:=(hb.block _ (blk_lt hlit)).trans hlit
     have hrow:=heap_alloc_new b2 (.cells #[.slice none 0 0,.int .i64 0] 66)
     have hle8:w5.heap.size≤b2.heap.size:=hHeld.size
     have hHeld:=below_alloc hHeld (.cells #[.slice none 0 0,.int .i64 0] 66)
     refine kn_ (a':=?_) hK hHeld ?_ fun hHeld=>?_
     rotate_left;(focus show Act.put _ (some 5) _=_;simp only[Act.put,zq1,zq2,zq3,i64_w,i32_w];rfl);clear hK K
     generalize b2.alloc (.cells #[.slice none 0 0,.int .i64 0] 66)=b5 at hHeld hb hrow hv1 hlit ⊢
     clear hb
     refine on_ 4 383 (some 35) HT_ rfl rfl (by kernel_rfl) (by decide) (fun K hK=>?_)
     refine Kd.R_append_rows_step (Kd.int .i64) (w0:=b5) (W:=b5) w5.heap.size rfl (.tmp 32) (.tmp 34) 24 3 (.int .i64 0) 8 rfl Tryz.underlying24 Nm.infoI rfl (by decide) (by decide) (.slice A1 S.man.segs.length c1) S.man.segs [n] (some ⟨b1.heap.size,0,none⟩) 1 1 (fun _=>True) (fun _=>False) rfl rfl hv1 (one_int hlit) (fun x cs hk=>hk) (fun _ h=>h.elim) (fun _ _=>trivial) (RowKit.Below.refl _ _) hHeld.size HLA.out ?_
     intro v4 b6 hv4 hb4 hg4 hat4
     have hHg:=hHeld.grown hg4 hHeld.size (Kd.R_base hv1)
     have hrow:=blk_grown hrow hg4 (Kd.R_ne hv1 hrow (by decide))
     have hHeld:=hHg
     refine kn_ (a':=?_) hK hHeld ?_ fun hHeld=>?_
     rotate_left;(focus show Act.put _ (some 35) _=_;simp only[Act.put,zq1,zq2,zq3,i64_w,i32_w];rfl);clear hK K
     obtain⟨A6,c6,hA6⟩:=Kd.R_slice hv4
     rw[HL6.out] at hA6
     subst hA6
     refine fl_ [7,38,511] ?_
     (refine pq_ (v:=?_) (a':=?_) HT_ rfl rfl (.inl ⟨by rfl,?_⟩) ?_ ?_;rotate_left;(focus intro w';go_simp;with_reducible rfl);rotate_left;(focus simp only[Act.put,zq1,zq2,zq3,i64_w,i32_w];rfl))
     refine fe_ ?_
     exact norm_ (by simp only[putAll,Act.put,zq1,zq2,zq3]) (hCont (b2.heap.size,b1.heap.size,(A1,c1),(A6,c6)) _ ⟨hrow,hv4,hHeld,hle8⟩)
   ·refine Mn.alloc_step rfl (by go_simp;exact⟨rfl,rfl⟩) ?_
    have hb:=below_alloc (RowKit.Below.refl b1.heap.size b1) (.cells #[.slice none 0 0,.int .i64 0] 66)
    have hv1:=Kd.R_below hv1 hb
    have hrow:=heap_alloc_new b1 (.cells #[.slice none 0 0,.int .i64 0] 66)
    have hle8:w5.heap.size≤b1.heap.size:=hHeld.size
    have hHeld:=below_alloc hHeld (.cells #[.slice none 0 0,.int .i64 0] 66)
    refine kn_ (a':=?_) hK hHeld ?_ fun hHeld=>?_
    rotate_left;(focus show Act.put _ (some 5) _=_;simp only[Act.put,zq1,zq2,zq3,i64_w,i32_w];rfl);clear hK K
    generalize b1.alloc (.cells #[.slice none 0 0,.int .i64 0] 66)=b7 at hHeld hb hrow hv1 ⊢
    clear hb
    refine on_ 3 367 (some 34) HT_ rfl rfl (by kernel_rfl) (by decide) (fun K hK=>?_)
    refine Mn.alloc_step rfl (by go_simp;exact⟨rfl,rfl⟩) ?_
    have hb:=below_alloc (RowKit.Below.refl b7.heap.size b7) (.cells #[.int .i64 n] 3)
    have hv1:=Kd.R_below hv1 hb
    have hrow:=(hb.block _ (blk_lt hrow)).trans hrow
    have hlit:=heap_alloc_new b7 (.cells #[.int .i64 n] 3)
    have hle3:w5.heap.size≤b7.heap.size:=hHeld.size
    have hHeld:=below_alloc hHeld (.cells #[.int .i64 n] 3)
    refine kn_ (a':=?_) hK hHeld ?_ fun hHeld=>?_
    rotate_left;(focus show Act.put _ (some 34) _=_;simp only[Act.put,zq1,zq2,zq3,i64_w,i32_w];rfl);clear hK K
    generalize b7.alloc (.cells #[.int .i64 n] 3)=b8 at hHeld hb hlit hv1 hrow ⊢
    clear hb
    refine on_ 4 383 (some 35) HT_ rfl rfl (by kernel_rfl) (by decide) (fun K hK=>?_)
    refine Kd.R_append_rows_step (Kd.int .i64) (w0:=b8) (W:=b8) w5.heap.size rfl (.tmp 32) (.tmp 34) 24 3 (.int .i64 0) 8 rfl Tryz.underlying24 Nm.infoI rfl (by decide) (by decide) (.slice A1 S.man.segs.length c1) S.man.segs [n] (some ⟨b7.heap.size,0,none⟩) 1 1 (fun _=>True) (fun _=>False) rfl rfl hv1 (one_int hlit) (fun x cs hk=>hk) (fun _ h=>h.elim) (fun _ _=>trivial) (RowKit.Below.refl _ _) hHeld.size HLA.out ?_
    intro v4 b9 hv4 hb4 hg4 hat4
    have hHg:=hHeld.grown hg4 hHeld.size (Kd.R_base hv1)
    have hrow:=blk_grown hrow hg4 (Kd.R_ne hv1 hrow (by decide))
    have hHeld:=hHg
    refine kn_ (a':=?_) hK hHeld ?_ fun hHeld=>?_
    rotate_left;(focus show Act.put _ (some 35) _=_;simp only[Act.put,zq1,zq2,zq3,i64_w,i32_w];rfl);clear hK K
    obtain⟨A6,c6,hA6⟩:=Kd.R_slice hv4
    rw[HL6.out] at hA6
    subst hA6
    refine fl_ [7,38,511] ?_
    (refine pq_ (v:=?_) (a':=?_) HT_ rfl rfl (.inl ⟨by rfl,?_⟩) ?_ ?_;rotate_left;(focus intro w';go_simp;with_reducible rfl);rotate_left;(focus simp only[Act.put,zq1,zq2,zq3,i64_w,i32_w];rfl))
    refine fe_ ?_
    exact norm_ (by simp only[putAll,Act.put,zq1,zq2,zq3]) (hCont (b1.heap.size,b7.heap.size,(A1,c1),(A6,c6)) _ ⟨hrow,hv4,hHeld,hle8⟩)
  ·refine Mn.alloc_step rfl (by go_simp;exact⟨rfl,rfl⟩) ?_
   have hb:=below_alloc (RowKit.Below.refl b0.heap.size b0) (.cells #[.int .i64 n] 3)
   have hlit:=heap_alloc_new b0 (.cells #[.int .i64 n] 3)
   have hle3:w5.heap.size≤b0.heap.size:=hHeld.size
   have hHeld:=below_alloc hHeld (.cells #[.int .i64 n] 3)
   refine kn_ (a':=?_) hK hHeld ?_ fun hHeld=>?_
   rotate_left;(focus show Act.put _ (some 34) _=_;simp only[Act.put,zq1,zq2,zq3,i64_w,i32_w];rfl);clear hK K
   generalize b0.alloc (.cells #[.int .i64 n] 3)=b10 at hHeld hb hlit ⊢
   clear hb
   refine tw_ 1 8 111 365 (some 32) (some 5) HT_ rfl rfl rfl rfl (by kernel_rfl) (by decide) (by decide) (fun K hK=>?_) (fun K hK=>?_)
   ·refine goes_ Tryz.func10 (by kernel_rfl) rfl #[.pointer (some ⟨l,0,none⟩)] (by rfl) rfl rfl (by(try simp only[List.map_toArray,List.map_cons,List.map_nil]);first | done | rfl) ?_
    refine(segs_calls (HO5.out.below hHeld) HL.out).mono ?_
    rintro e b11 ⟨v1,rfl,hv1,hb⟩
    refine⟨_,rfl,?_⟩
    have hv1:=Kd.R_lower hv1 hHeld.size
    have hlit:=(hb.block _ (blk_lt hlit)).trans hlit
    have hHeld:=hHeld.trans (hb.mono hHeld.size)
    refine kn_ (a':=?_) hK hHeld ?_ fun hHeld=>?_
    rotate_left;(focus show Act.put _ (some 32) _=_;simp only[Act.put,zq1,zq2,zq3,i64_w,i32_w];rfl);clear hK K
    obtain⟨A1,c1,hA1⟩:=Kd.R_slice hv1
    subst hA1
    clear hb
    refine tw_ 4 8 127 367 (some 35) (some 5) HT_ rfl rfl rfl rfl (by kernel_rfl) (by decide) (by decide) (fun K hK=>?_) (fun K hK=>?_)
    ·refine Kd.R_append_rows_step (Kd.int .i64) (w0:=b11) (W:=b11) w5.heap.size rfl (.tmp 32) (.tmp 34) 24 3 (.int .i64 0) 8 rfl Tryz.underlying24 Nm.infoI rfl (by decide) (by decide) (.slice A1 S.man.segs.length c1) S.man.segs [n] (some ⟨b0.heap.size,0,none⟩) 1 1 (fun _=>True) (fun _=>False) rfl rfl hv1 (one_int hlit) (fun x cs hk=>hk) (fun _ h=>h.elim) (fun _ _=>trivial) (RowKit.Below.refl _ _) hHeld.size HLA.out ?_
     intro v4 b12 hv4 hb4 hg4 hat4
     have hHg:=hHeld.grown hg4 hHeld.size (Kd.R_base hv1)
     have hHeld:=hHg
     refine kn_ (a':=?_) hK hHeld ?_ fun hHeld=>?_
     rotate_left;(focus show Act.put _ (some 35) _=_;simp only[Act.put,zq1,zq2,zq3,i64_w,i32_w];rfl);clear hK K
     obtain⟨A6,c6,hA6⟩:=Kd.R_slice hv4
     rw[HL6.out] at hA6
     subst hA6
     refine fl_ [7,38,255] ?_
     (refine pq_ (v:=?_) (a':=?_) HT_ rfl rfl (.inl ⟨by rfl,?_⟩) ?_ ?_;rotate_left;(focus intro w';go_simp;with_reducible rfl);rotate_left;(focus simp only[Act.put,zq1,zq2,zq3,i64_w,i32_w];rfl))
     refine fe_ ?_
     refine on_ 8 511 (some 5) HT_ rfl rfl (by kernel_rfl) (by decide) (fun K hK=>?_)
     refine Mn.alloc_step rfl (by go_simp;exact⟨rfl,rfl⟩) ?_
     have hb:=below_alloc (RowKit.Below.refl b12.heap.size b12) (.cells #[.slice none 0 0,.int .i64 0] 66)
     have hv4:=Kd.R_below hv4 hb
     have hrow:=heap_alloc_new b12 (.cells #[.slice none 0 0,.int .i64 0] 66)
     have hle8:w5.heap.size≤b12.heap.size:=hHeld.size
     have hHeld:=below_alloc hHeld (.cells #[.slice none 0 0,.int .i64 0] 66)
     refine kn_ (a':=?_) hK hHeld ?_ fun hHeld=>?_
     rotate_left;(focus show Act.put _ (some 5) _=_;simp only[Act.put,zq1,zq2,zq3,i64_w,i32_w];rfl);clear hK K
     generalize b12.alloc (.cells #[.slice none 0 0,.int .i64 0] 66)=b13 at hHeld hb hrow hv4 ⊢
     clear hb
     exact norm_ (by simp only[putAll,Act.put,zq1,zq2,zq3]) (hCont (b12.heap.size,b0.heap.size,(A1,c1),(A6,c6)) _ ⟨hrow,hv4,hHeld,hle8⟩)
    ·refine Mn.alloc_step rfl (by go_simp;exact⟨rfl,rfl⟩) ?_
     have hb:=below_alloc (RowKit.Below.refl b11.heap.size b11) (.cells #[.slice none 0 0,.int .i64 0] 66)
     have hv1:=Kd.R_below hv1 hb
     have hlit:=(hb.block _ (blk_lt hlit)).trans hlit
     have hrow:=heap_alloc_new b11 (.cells #[.slice none 0 0,.int .i64 0] 66)
     have hle8:w5.heap.size≤b11.heap.size:=hHeld.size
     have hHeld:=below_alloc hHeld (.cells #[.slice none 0 0,.int .i64 0] 66)
     refine kn_ (a':=?_) hK hHeld ?_ fun hHeld=>?_
     rotate_left;(focus show Act.put _ (some 5) _=_;simp only[Act.put,zq1,zq2,zq3,i64_w,i32_w];rfl);clear hK K
     generalize b11.alloc (.cells #[.slice none 0 0,.int .i64 0] 66)=b14 at hHeld hb hrow hv1 hlit ⊢
     clear hb
     refine on_ 4 383 (some 35) HT_ rfl rfl (by kernel_rfl) (by decide) (fun K hK=>?_)
     refine Kd.R_append_rows_step (Kd.int .i64) (w0:=b14) (W:=b14) w5.heap.size rfl (.tmp 32) (.tmp 34) 24 3 (.int .i64 0) 8 rfl Tryz.underlying24 Nm.infoI rfl (by decide) (by decide) (.slice A1 S.man.segs.length c1) S.man.segs [n] (some ⟨b0.heap.size,0,none⟩) 1 1 (fun _=>True) (fun _=>False) rfl rfl hv1 (one_int hlit) (fun x cs hk=>hk) (fun _ h=>h.elim) (fun _ _=>trivial) (RowKit.Below.refl _ _) hHeld.size HLA.out ?_
     intro v4 b15 hv4 hb4 hg4 hat4
     have hHg:=hHeld.grown hg4 hHeld.size (Kd.R_base hv1)
     have hrow:=blk_grown hrow hg4 (Kd.R_ne hv1 hrow (by decide))
     have hHeld:=hHg
     refine kn_ (a':=?_) hK hHeld ?_ fun hHeld=>?_
     rotate_left;(focus show Act.put _ (some 35) _=_;simp only[Act.put,zq1,zq2,zq3,i64_w,i32_w];rfl);clear hK K
     obtain⟨A6,c6,hA6⟩:=Kd.R_slice hv4
     rw[HL6.out] at hA6
     subst hA6
     refine fl_ [7,38,511] ?_
     (refine pq_ (v:=?_) (a':=?_) HT_ rfl rfl (.inl ⟨by rfl,?_⟩) ?_ ?_;rotate_left;(focus intro w';go_simp;with_reducible rfl);rotate_left;(focus simp only[Act.put,zq1,zq2,zq3,i64_w,i32_w];rfl))
     refine fe_ ?_
     exact norm_ (by simp only[putAll,Act.put,zq1,zq2,zq3]) (hCont (b11.heap.size,b0.heap.size,(A1,c1),(A6,c6)) _ ⟨hrow,hv4,hHeld,hle8⟩)
   ·refine Mn.alloc_step rfl (by go_simp;exact⟨rfl,rfl⟩) ?_
    have hb:=below_alloc (RowKit.Below.refl b10.heap.size b10) (.cells #[.slice none 0 0,.int .i64 0] 66)
    have hlit:=(hb.block _ (blk_lt hlit)).trans hlit
    have hrow:=heap_alloc_new b10 (.cells #[.slice none 0 0,.int .i64 0] 66)
    have hle8:w5.heap.size≤b10.heap.size:=hHeld.size
    have hHeld:=below_alloc hHeld (.cells #[.slice none 0 0,.int .i64 0] 66)
    refine kn_ (a':=?_) hK hHeld ?_ fun hHeld=>?_
    rotate_left;(focus show Act.put _ (some 5) _=_;simp only[Act.put,zq1,zq2,zq3,i64_w,i32_w];rfl);clear hK K
    generalize b10.alloc (.cells #[.slice none 0 0,.int .i64 0] 66)=b16 at hHeld hb hrow hlit ⊢
    clear hb
    refine on_ 1 367 (some 32) HT_ rfl rfl (by kernel_rfl) (by decide) (fun K hK=>?_)
    refine goes_ Tryz.func10 (by kernel_rfl) rfl #[.pointer (some ⟨l,0,none⟩)] (by rfl) rfl rfl (by(try simp only[List.map_toArray,List.map_cons,List.map_nil]);first | done | rfl) ?_
    refine(segs_calls (HO5.out.below hHeld) HL.out).mono ?_
    rintro e b17 ⟨v1,rfl,hv1,hb⟩
    refine⟨_,rfl,?_⟩
    have hv1:=Kd.R_lower hv1 hHeld.size
    have hlit:=(hb.block _ (blk_lt hlit)).trans hlit
    have hrow:=(hb.block _ (blk_lt hrow)).trans hrow
    have hHeld:=hHeld.trans (hb.mono hHeld.size)
    refine kn_ (a':=?_) hK hHeld ?_ fun hHeld=>?_
    rotate_left;(focus show Act.put _ (some 32) _=_;simp only[Act.put,zq1,zq2,zq3,i64_w,i32_w];rfl);clear hK K
    obtain⟨A1,c1,hA1⟩:=Kd.R_slice hv1
    subst hA1
    clear hb
    refine on_ 4 383 (some 35) HT_ rfl rfl (by kernel_rfl) (by decide) (fun K hK=>?_)
    refine Kd.R_append_rows_step (Kd.int .i64) (w0:=b17) (W:=b17) w5.heap.size rfl (.tmp 32) (.tmp 34) 24 3 (.int .i64 0) 8 rfl Tryz.underlying24 Nm.infoI rfl (by decide) (by decide) (.slice A1 S.man.segs.length c1) S.man.segs [n] (some ⟨b0.heap.size,0,none⟩) 1 1 (fun _=>True) (fun _=>False) rfl rfl hv1 (one_int hlit) (fun x cs hk=>hk) (fun _ h=>h.elim) (fun _ _=>trivial) (RowKit.Below.refl _ _) hHeld.size HLA.out ?_
    intro v4 b18 hv4 hb4 hg4 hat4
    have hHg:=hHeld.grown hg4 hHeld.size (Kd.R_base hv1)
    have hrow:=blk_grown hrow hg4 (Kd.R_ne hv1 hrow (by decide))
    have hHeld:=hHg
    refine kn_ (a':=?_) hK hHeld ?_ fun hHeld=>?_
    rotate_left;(focus show Act.put _ (some 35) _=_;simp only[Act.put,zq1,zq2,zq3,i64_w,i32_w];rfl);clear hK K
    obtain⟨A6,c6,hA6⟩:=Kd.R_slice hv4
    rw[HL6.out] at hA6
    subst hA6
    refine fl_ [7,38,511] ?_
    (refine pq_ (v:=?_) (a':=?_) HT_ rfl rfl (.inl ⟨by rfl,?_⟩) ?_ ?_;rotate_left;(focus intro w';go_simp;with_reducible rfl);rotate_left;(focus simp only[Act.put,zq1,zq2,zq3,i64_w,i32_w];rfl))
    refine fe_ ?_
    exact norm_ (by simp only[putAll,Act.put,zq1,zq2,zq3]) (hCont (b10.heap.size,b0.heap.size,(A1,c1),(A6,c6)) _ ⟨hrow,hv4,hHeld,hle8⟩)
  ·refine Mn.alloc_step rfl (by go_simp;exact⟨rfl,rfl⟩) ?_
   have hb:=below_alloc (RowKit.Below.refl b0.heap.size b0) (.cells #[.slice none 0 0,.int .i64 0] 66)
   have hrow:=heap_alloc_new b0 (.cells #[.slice none 0 0,.int .i64 0] 66)
   have hle8:w5.heap.size≤b0.heap.size:=hHeld.size
   have hHeld:=below_alloc hHeld (.cells #[.slice none 0 0,.int .i64 0] 66)
   refine kn_ (a':=?_) hK hHeld ?_ fun hHeld=>?_
   rotate_left;(focus show Act.put _ (some 5) _=_;simp only[Act.put,zq1,zq2,zq3,i64_w,i32_w];rfl);clear hK K
   generalize b0.alloc (.cells #[.slice none 0 0,.int .i64 0] 66)=b19 at hHeld hb hrow ⊢
   clear hb
   refine tw_ 1 3 359 365 (some 32) (some 34) HT_ rfl rfl rfl rfl (by kernel_rfl) (by decide) (by decide) (fun K hK=>?_) (fun K hK=>?_)
   ·refine goes_ Tryz.func10 (by kernel_rfl) rfl #[.pointer (some ⟨l,0,none⟩)] (by rfl) rfl rfl (by(try simp only[List.map_toArray,List.map_cons,List.map_nil]);first | done | rfl) ?_
    refine(segs_calls (HO5.out.below hHeld) HL.out).mono ?_
    rintro e b20 ⟨v1,rfl,hv1,hb⟩
    refine⟨_,rfl,?_⟩
    have hv1:=Kd.R_lower hv1 hHeld.size
    have hrow:=(hb.block _ (blk_lt hrow)).trans hrow
    have hHeld:=hHeld.trans (hb.mono hHeld.size)
    refine kn_ (a':=?_) hK hHeld ?_ fun hHeld=>?_
    rotate_left;(focus show Act.put _ (some 32) _=_;simp only[Act.put,zq1,zq2,zq3,i64_w,i32_w];rfl);clear hK K
    obtain⟨A1,c1,hA1⟩:=Kd.R_slice hv1
    subst hA1
    clear hb
    refine on_ 3 367 (some 34) HT_ rfl rfl (by kernel_rfl) (by decide) (fun K hK=>?_)
    refine Mn.alloc_step rfl (by go_simp;exact⟨rfl,rfl⟩) ?_
    have hb:=below_alloc (RowKit.Below.refl b20.heap.size b20) (.cells #[.int .i64 n] 3)
    have hv1:=Kd.R_below hv1 hb
    have hrow:=(hb.block _ (blk_lt hrow)).trans hrow
    have hlit:=heap_alloc_new b20 (.cells #[.int .i64 n] 3)
    have hle3:w5.heap.size≤b20.heap.size:=hHeld.size
    have hHeld:=below_alloc hHeld (.cells #[.int .i64 n] 3)
    refine kn_ (a':=?_) hK hHeld ?_ fun hHeld=>?_
    rotate_left;(focus show Act.put _ (some 34) _=_;simp only[Act.put,zq1,zq2,zq3,i64_w,i32_w];rfl);clear hK K
    generalize b20.alloc (.cells #[.int .i64 n] 3)=b21 at hHeld hb hlit hv1 hrow ⊢
    clear hb
    refine on_ 4 383 (some 35) HT_ rfl rfl (by kernel_rfl) (by decide) (fun K hK=>?_)
    refine Kd.R_append_rows_step (Kd.int .i64) (w0:=b21) (W:=b21) w5.heap.size rfl (.tmp 32) (.tmp 34) 24 3 (.int .i64 0) 8 rfl Tryz.underlying24 Nm.infoI rfl (by decide) (by decide) (.slice A1 S.man.segs.length c1) S.man.segs [n] (some ⟨b20.heap.size,0,none⟩) 1 1 (fun _=>True) (fun _=>False) rfl rfl hv1 (one_int hlit) (fun x cs hk=>hk) (fun _ h=>h.elim) (fun _ _=>trivial) (RowKit.Below.refl _ _) hHeld.size HLA.out ?_
    intro v4 b22 hv4 hb4 hg4 hat4
    have hHg:=hHeld.grown hg4 hHeld.size (Kd.R_base hv1)
    have hrow:=blk_grown hrow hg4 (Kd.R_ne hv1 hrow (by decide))
    have hHeld:=hHg
    refine kn_ (a':=?_) hK hHeld ?_ fun hHeld=>?_
    rotate_left;(focus show Act.put _ (some 35) _=_;simp only[Act.put,zq1,zq2,zq3,i64_w,i32_w];rfl);clear hK K
    obtain⟨A6,c6,hA6⟩:=Kd.R_slice hv4
    rw[HL6.out] at hA6
    subst hA6
    refine fl_ [7,38,511] ?_
    (refine pq_ (v:=?_) (a':=?_) HT_ rfl rfl (.inl ⟨by rfl,?_⟩) ?_ ?_;rotate_left;(focus intro w';go_simp;with_reducible rfl);rotate_left;(focus simp only[Act.put,zq1,zq2,zq3,i64_w,i32_w];rfl))
    refine fe_ ?_
    exact norm_ (by simp only[putAll,Act.put,zq1,zq2,zq3]) (hCont (b0.heap.size,b20.heap.size,(A1,c1),(A6,c6)) _ ⟨hrow,hv4,hHeld,hle8⟩)
   ·refine Mn.alloc_step rfl (by go_simp;exact⟨rfl,rfl⟩) ?_
    have hb:=below_alloc (RowKit.Below.refl b19.heap.size b19) (.cells #[.int .i64 n] 3)
    have hrow:=(hb.block _ (blk_lt hrow)).trans hrow
    have hlit:=heap_alloc_new b19 (.cells #[.int .i64 n] 3)
    have hle3:w5.heap.size≤b19.heap.size:=hHeld.size
    have hHeld:=below_alloc hHeld (.cells #[.int .i64 n] 3)
    refine kn_ (a':=?_) hK hHeld ?_ fun hHeld=>?_
    rotate_left;(focus show Act.put _ (some 34) _=_;simp only[Act.put,zq1,zq2,zq3,i64_w,i32_w];rfl);clear hK K
    generalize b19.alloc (.cells #[.int .i64 n] 3)=b23 at hHeld hb hlit hrow ⊢
    clear hb
    refine on_ 1 367 (some 32) HT_ rfl rfl (by kernel_rfl) (by decide) (fun K hK=>?_)
    refine goes_ Tryz.func10 (by kernel_rfl) rfl #[.pointer (some ⟨l,0,none⟩)] (by rfl) rfl rfl (by(try simp only[List.map_toArray,List.map_cons,List.map_nil]);first | done | rfl) ?_
    refine(segs_calls (HO5.out.below hHeld) HL.out).mono ?_
    rintro e b24 ⟨v1,rfl,hv1,hb⟩
    refine⟨_,rfl,?_⟩
    have hv1:=Kd.R_lower hv1 hHeld.size
    have hlit:=(hb.block _ (blk_lt hlit)).trans hlit
    have hrow:=(hb.block _ (blk_lt hrow)).trans hrow
    have hHeld:=hHeld.trans (hb.mono hHeld.size)
    refine kn_ (a':=?_) hK hHeld ?_ fun hHeld=>?_
    rotate_left;(focus show Act.put _ (some 32) _=_;simp only[Act.put,zq1,zq2,zq3,i64_w,i32_w];rfl);clear hK K
    obtain⟨A1,c1,hA1⟩:=Kd.R_slice hv1
    subst hA1
    clear hb
    refine on_ 4 383 (some 35) HT_ rfl rfl (by kernel_rfl) (by decide) (fun K hK=>?_)
    refine Kd.R_append_rows_step (Kd.int .i64) (w0:=b24) (W:=b24) w5.heap.size rfl (.tmp 32) (.tmp 34) 24 3 (.int .i64 0) 8 rfl Tryz.underlying24 Nm.infoI rfl (by decide) (by decide) (.slice A1 S.man.segs.length c1) S.man.segs [n] (some ⟨b19.heap.size,0,none⟩) 1 1 (fun _=>True) (fun _=>False) rfl rfl hv1 (one_int hlit) (fun x cs hk=>hk) (fun _ h=>h.elim) (fun _ _=>trivial) (RowKit.Below.refl _ _) hHeld.size HLA.out ?_
    intro v4 b25 hv4 hb4 hg4 hat4
    have hHg:=hHeld.grown hg4 hHeld.size (Kd.R_base hv1)
    have hrow:=blk_grown hrow hg4 (Kd.R_ne hv1 hrow (by decide))
    have hHeld:=hHg
    refine kn_ (a':=?_) hK hHeld ?_ fun hHeld=>?_
    rotate_left;(focus show Act.put _ (some 35) _=_;simp only[Act.put,zq1,zq2,zq3,i64_w,i32_w];rfl);clear hK K
    obtain⟨A6,c6,hA6⟩:=Kd.R_slice hv4
    rw[HL6.out] at hA6
    subst hA6
    refine fl_ [7,38,511] ?_
    (refine pq_ (v:=?_) (a':=?_) HT_ rfl rfl (.inl ⟨by rfl,?_⟩) ?_ ?_;rotate_left;(focus intro w';go_simp;with_reducible rfl);rotate_left;(focus simp only[Act.put,zq1,zq2,zq3,i64_w,i32_w];rfl))
    refine fe_ ?_
    exact norm_ (by simp only[putAll,Act.put,zq1,zq2,zq3]) (hCont (b0.heap.size,b19.heap.size,(A1,c1),(A6,c6)) _ ⟨hrow,hv4,hHeld,hle8⟩)
 case mono=>
  rintro a' w6 ⟨mb,sb,A1,c1,A6,c6,rfl,hrow,hR,hb6,hle6⟩
  have hx6:=(hb6.block _ (blk_lt HX5.out)).trans HX5.out
  have hn6:=(hb6.block _ (blk_lt HN5.out)).trans HN5.out
  have HD6:=ak (HD5.out.below hb6)
  have HO6:=ak (HO5.out.below hb6)
  have HX6:=ak hx6
  have HN6:=ak hn6
  have HROW6:=ak hrow
  have HR6:=ak hR
  have HB56:=ak hb6
  have hF1:∀k,F1 k→k < w2.heap.size:=HD1.out.lt
  have h24:=HB24.out.size
  have h45:=HK5.out.size
  have h12:=HG1.out.2.2.size
  have h01:w.heap.size≤w1.heap.size:=HB.out.size
  have hlo:=HO.out.lt
  have hF0:¬F1 w.heap.size:=fun hf=>by
   rcases HG1.out.2.1 _ hf with h | h
   ·have:=HD.out.lt _ h;omega
   ·have:=blk_lt HB1.out;omega
  have hFn:¬F1 nb:=fun hf=>by have h1:=hF1 _ hf;have h2:=HNB.out;omega
  have hFm:¬F1 mb:=fun hf=>by have h1:=hF1 _ hf;omega
  have HFF:=ak (And.intro hF0 (And.intro hFn hFm))
  have hcm:(rollMan S n).segs.length≤c6∧Kd.C (Kd.int .i64) w6 A6 (rollMan S n).segs.length (rollMan S n).segs:=by
   have h:=hR
   rw[← HL6.out] at h
   exact(Kd.R_reads' h).2
  have HT:Calls Tryz.prog 40 #[.slice (some ⟨w6.heap.size,0,none⟩) 2 2] (w6.alloc (.cells #[.func (.func 41) #[] #[.pointer (some ⟨w.heap.size,0,none⟩),.pointer (some ⟨nb,0,none⟩)],.func (.func 43) #[] #[.pointer (some ⟨w.heap.size,0,none⟩),.pointer (some ⟨mb,0,none⟩)]] 47)) fun e w'=>e=.returned (.int .i64 (turnsM (rollSteps n (rollMan S n)) M1).2)∧Turned w6 w' B g (N+16) F1 (turnsM (rollSteps n (rollMan S n)) M1).1:=by
   have hcs:=heap_alloc_new w6 (.cells #[.func (.func 41) #[] #[.pointer (some ⟨w.heap.size,0,none⟩),.pointer (some ⟨nb,0,none⟩)],.func (.func 43) #[] #[.pointer (some ⟨w.heap.size,0,none⟩),.pointer (some ⟨mb,0,none⟩)]] 47)
   have hB7:=below_alloc (RowKit.Below.refl w6.heap.size w6) (.cells #[.func (.func 41) #[] #[.pointer (some ⟨w.heap.size,0,none⟩),.pointer (some ⟨nb,0,none⟩)],.func (.func 43) #[] #[.pointer (some ⟨w.heap.size,0,none⟩),.pointer (some ⟨mb,0,none⟩)]] 47)
   have hx7:=(hB7.block _ (blk_lt hx6)).trans hx6
   have hn7:=(hB7.block _ (blk_lt hn6)).trans hn6
   have hrow:=(hB7.block _ (blk_lt hrow)).trans hrow
   have hR:=Kd.R_below hR hB7
   generalize w6.alloc (.cells #[.func (.func 41) #[] #[.pointer (some ⟨w.heap.size,0,none⟩),.pointer (some ⟨nb,0,none⟩)],.func (.func 43) #[] #[.pointer (some ⟨w.heap.size,0,none⟩),.pointer (some ⟨mb,0,none⟩)]] 47)=w7 at hcs hB7 hx7 hn7 hrow hR ⊢
   have hNN:=HN.out
   have hb67:=hb6.size
   have nF:¬F1 w6.heap.size:=fun hf=>by have:=hF1 _ hf;omega
   have key:=turns_disk8 log_turns (rollSteps n (rollMan S n)) (by simp [rollSteps]) w6.heap.size #[.func (.func 41) #[] #[.pointer (some ⟨w.heap.size,0,none⟩),.pointer (some ⟨nb,0,none⟩)],.func (.func 43) #[] #[.pointer (some ⟨w.heap.size,0,none⟩),.pointer (some ⟨mb,0,none⟩)]] hcs nF (HD6.out.below hB7) HF1.out (rollSteps_fit n (rollMan S n)) ?_
   ·refine key.mono ?_
    rintro e w' ⟨rfl,ht⟩
    exact⟨rfl,Turned.after (Keeps.of_below hB7) ht⟩
   ·intro j hj
    have hj2:j < 2:=hj
    have hc1:∀W,Keeps F1 w7 W→W.cell? ⟨w.heap.size,0,none⟩=some (ptr l):=fun W hk=>hk.cell ((blk_cell hx7 0).trans rfl) hF0
    have hc2:∀W,Keeps F1 w7 W→W.cell? ⟨nb,0,none⟩=some (.int .i64 n):=fun W hk=>hk.cell ((blk_cell hn7 0).trans rfl) hFn
    have hlog:∀W F',Keeps F1 w7 W→(∀k,F' k→F1 k∨w7.heap.size≤k)→LogO W B l g F' {S with man:=⟨S.man.segs,wrap64 (n+1)⟩}:=fun W F' hk hf=>(HO6.out.below hB7).keep hk hf
    have hrw:∀W F',Keeps F1 w7 W→(∀k,F' k→F1 k∨w7.heap.size≤k)→∀W',Keeps F' W W'→Kd.C (Kd.int .i64) W' A6 (rollMan S n).segs.length (rollMan S n).segs:=fun W F' hk hf W' hk'=>by
     have h1:=row_keep (row_keep hR hk (fun j hj hf'=>by have h2:=Kd.R_base hR j hj;have h3:=hF1 j hf';omega)) hk' (fun j hj hf'=>by
      have h1:=Kd.R_base hR j hj
      have h2:=Kd.R_lt hR j hj
      rcases hf j hf' with h | h
      ·have:=hF1 j h;omega
      ·omega)
     rw[← HL6.out] at h1
     exact(Kd.R_reads' h1).2.2
    match j,hj2 with
    | 0,_=>exact⟨_,_,_,rfl,run_roll1,fun W M' F' hd' hM' hk hs=>by
      rw[Array.empty_append]
      refine(rmake_calls w.heap.size nb n hd' hM' (by omega) (hlog W F' hk hs) (hc1 W hk) (hc2 W hk)).mono ?_
      rintro e w' ⟨rfl,h⟩
      exact⟨rfl,h.mono (by omega)⟩⟩
    | 1,_=>exact⟨_,_,_,rfl,run_roll2,fun W M' F' hd' hM' hk hs=>by
      rw[Array.empty_append]
      refine(rsave_calls w.heap.size mb (rollMan S n) A6 c6 hd' hM' (by omega) (hlog W F' hk hs) (hc1 W hk) (by
       have h:=hk.obj hrow hFm
       rw[← HL6.out] at h
       exact h) (by have:=HL.out;simp only[rollMan,List.length_append,List.length_singleton];omega) hcm.1 (hrw W F' hk hs)).mono ?_
      rintro e w' ⟨rfl,h⟩
      exact⟨rfl,h.mono (by omega)⟩⟩
  have hdef:=HDEF3.out
  have HF2:=ak (turnsM_fit (rollSteps n (rollMan S n)) (rollSteps_fit n (rollMan S n)) M1 HF1.out)
  generalize turnsM (rollSteps n (rollMan S n)) M1=p2 at hdef HT HF2
  obtain⟨M2,e2⟩:=p2
  have HT:=ak HT
  have HDEF4:=ak hdef
  clear hdef HDEF3 hx6 hn6 hrow hR hb6 hcm hF0 hFn hFm z0 z1
  go_upto_region 10 with(go_at_call 40;(with_reducible refine HT.out.mono ?_);rintro e w7 ⟨rfl,h7⟩;have H7:=ak h7;clear h7)
  obtain⟨F2,hd2,hs1,hs2,hk2,ho2⟩:=HO6.out.turned H7.out
  have hk27:Keeps (fun k=>F1 k∨k=l) w2 w7:=(((Keeps.of_below HB24.out).trans (HK5.out.mono (fun k hk=>.inr hk))).trans (Keeps.of_below HB56.out)).trans (hk2.mono (fun k hk=>.inl hk))
  have hs27:∀k,F2 k→F1 k∨w2.heap.size≤k:=fun k hk=>(hs2 k hk).imp id (fun h=>by have:=HB56.out.size;omega)
  have HK27:=ak hk27
  have HS27:=ak (And.intro hs1 hs27)
  have HD7:=ak hd2
  have HO7:=ak ho2
  by_cases he2:e2=0
  case neg=>
   have d6:(e2 !=0)=true:=bne_iff_ne.mpr he2
   have HE:=ak he2
   clear he2 hd2 hs1 hs2 hk2 ho2 hk27 hs27
   go_wp2
   go_ret
   rw[HDEF4.out,show rollEnd M1 S n (M2,e2)=(M2,{S with man:=⟨S.man.segs,wrap64 (n+1)⟩},e2) by unfold rollEnd;rw[if_neg HE.out]]
   exact⟨rfl,HRET.out _ _ _ (LTurned.mono ⟨F2,HD7.out,HS27.out.1,HS27.out.2,HO7.out,HK27.out⟩ (by omega))⟩
  subst he2
  have hdef:rollM M S=((if 0≤S.last then hintM M2 S.last else M2),{S with man:=rollMan S n,last:=n},0):=by rw[HDEF4.out];unfold rollEnd;rw[if_pos (by trivial)]
  have HDEF5:=ak hdef
  have hx7:=hk2.obj HX6.out HFF.out.1
  have hn7:=hk2.obj HN6.out HFF.out.2.1
  have hm7:=hk2.obj HROW6.out HFF.out.2.2
  have hf2x:¬F2 w.heap.size:=fun hf=>by
   rcases hs2 _ hf with h | h
   ·exact HFF.out.1 h
   ·have:=blk_lt HX6.out;omega
  have hf2n:¬F2 nb:=fun hf=>by
   rcases hs2 _ hf with h | h
   ·exact HFF.out.2.1 h
   ·have:=blk_lt HN6.out;omega
  have HF2N:=ak (And.intro hf2x hf2n)
  clear hf2x hf2n
  have hb5l:B≤w5.heap.size:=by have:=HO.out.above;omega
  have hr7:=row_keep HR6.out hk2 (fun j hj hf=>by have h1:=Kd.R_base HR6.out j hj;have h2:=hF1 j hf;omega)
  have hrn:∀k,(Value.slice A6 L6 c6).ownBlock=some k→¬F2 k:=fun k hk hf=>by
   have h1:=Kd.R_base HR6.out k hk
   have h2:=Kd.R_lt HR6.out k hk
   rcases hs2 k hf with h | h
   ·have:=hF1 k h;omega
   ·omega
  have hO8:LogO ((w7.setCell ⟨l,2,none⟩ (.slice A6 L6 c6)).setCell ⟨l,3,none⟩ (.int .i64 (wrap64 (n+1)))) B l g F2 {S with man:=rollMan S n}:=by
   have hr8:=Kd.R_lower hr7 hb5l
   rw[← HL6.out] at hr8 hrn ⊢
   exact ho2.setMan (rollMan S n) A6 c6 hr8 hrn
  have hD8:=DiskAt.setL (DiskAt.setL hd2 ho2.self 2 (.slice A6 L6 c6)) ho2.self 3 (.int .i64 (wrap64 (n+1)))
  have hk8:Keeps (fun k=>k=l) w7 ((w7.setCell ⟨l,2,none⟩ (.slice A6 L6 c6)).setCell ⟨l,3,none⟩ (.int .i64 (wrap64 (n+1)))):=(keeps_l w7 l 2 _).trans (keeps_l _ l 3 _)
  obtain⟨⟨A2,c2,b1,-,-⟩,-,-⟩:=ho2
  have z0:=bq hx7 0 (ptr l)
  have z1:=bq hm7 0 (.slice A6 L6 c6)
  have z2:=bq hm7 1 (.int .i64 (wrap64 (n+1)))
  have y2:=bq b1 2 (.slice A2 S.man.segs.length c2)
  have y3:=bq b1 3 (.int .i64 (wrap64 (n+1)))
  have f2:=blk_frozen b1 2
  have f3:=blk_frozen b1 3
  have hne:w.heap.size≠l:=fun e=>by omega
  have hnn:nb≠l:=fun e=>by have h1:=HO1.out.lt;have h2:=HNB.out;omega
  have HX7:=ak hx7
  have HN7:=ak hn7
  clear hd2 hs1 hs2 hk2 hk27 hs27 hm7 hr7 hrn hb5l b1 hdef HDEF4 hx7 hn7
  go_upto_region 13 with(fail)
  generalize (w7.setCell ⟨l,2,none⟩ (.slice A6 L6 c6)).setCell ⟨l,3,none⟩ (.int .i64 (wrap64 (n+1)))=w8 at hO8 hD8 hk8 ⊢
  have hx8:=(hk8.block _ (blk_lt HX7.out) hne).trans HX7.out
  have hn8:=(hk8.block _ (blk_lt HN7.out) hnn).trans HN7.out
  have HX8:=ak hx8
  have HN8:=ak hn8
  have HK28:=ak (HK27.out.trans (hk8.mono (fun k hk=>.inr hk)))
  have HD8:=ak hD8
  have HO8:=ak hO8
  have HNE:=ak (And.intro hne hnn)
  have HF3:=ak HF2.out
  obtain⟨⟨A8,c8,b1,-,-⟩,-,-⟩:=hO8
  have u0:=bq hx8 0 (ptr l)
  have u1:=bq hn8 0 (.int .i64 n)
  have u4:=bq b1 4 (.int .i64 S.last)
  have f4:=blk_frozen b1 4
  clear z0 z1 z2 y2 y3 f2 f3 hne hnn hx8 hn8 hk8 hD8 b1 HF2
  by_cases hla:S.last≥0
  case neg=>
   have d6:decide (S.last≥0)=false:=decide_eq_false hla
   have d7:decide (0≤S.last)=false:=decide_eq_false hla
   have HLA2:=ak hla
   clear hla
   go_wp2
   go_ret
   rw[HDEF5.out,if_neg (by have:=HLA2.out;omega)]
   exact⟨rfl,HRET.out _ _ _ (LTurned.mono ⟨F2,DiskAt.setL HD8.out HO8.out.self 4 _,HS27.out.1,HS27.out.2,HO8.out.setLast n,HK28.out.trans ((keeps_l w8 l 4 _).mono (fun k hk=>.inr hk))⟩ (by omega))⟩
  case pos=>
   have d6:decide (S.last≥0)=true:=decide_eq_true hla
   have d7:decide (0≤S.last)=true:=decide_eq_true hla
   have HLA2:=ak hla
   have HHI:=ak (fun W (hW:RowKit.Below w8.heap.size w8 W)=>hint_calls (HD8.out.below hW) HF3.out (HO8.out.below hW) S.last (by have:=HN.out;omega))
   clear hla
   go_upto_region 14 with(fail)
   go_region_with (go_at_call 44;(with_reducible refine(HHI.out _ ((RowKit.Below.refl w8.heap.size w8).drew)).mono ?_);rintro e w9 ⟨rfl,h9⟩;have H9:=ak (Turned.after (Keeps.of_below ((RowKit.Below.refl w8.heap.size w8).drew)) h9);clear h9)
   all_goals
    try go_upto_region 15 with(fail)
    obtain⟨F3,hd3,hs31,hs32,hk3,ho3⟩:=HO8.out.turned H9.out
    have hF82:∀k,F2 k→F1 k∨w2.heap.size≤k:=HS27.out.2
    have hl28:w2.heap.size≤w8.heap.size:=HK28.out.size
    have hnF:∀k,k < w8.heap.size→¬F2 k→w9.heap[k]? =w8.heap[k]? :=fun k h1 h2=>hk3.block k h1 h2
    have hx9:=hk3.obj HX8.out HF2N.out.1
    have hn9:=hk3.obj HN8.out HF2N.out.2
    have hk29:Keeps (fun k=>F1 k∨k=l) w2 w9:=⟨hk3.os.trans HK28.out.os,hk3.tape.trans HK28.out.tape,hk3.output.trans HK28.out.output,Nat.le_trans hl28 hk3.size,fun k hk hf=>(hnF k (Nat.lt_of_lt_of_le hk hl28) (fun h=>by
     rcases hF82 k h with h | h
     ·exact hf (.inl h)
     ·omega)).trans (HK28.out.block k hk hf)⟩
    have hs39:∀k,F3 k→F1 k∨w2.heap.size≤k:=fun k hk=>by
     rcases hs32 k hk with h | h
     ·exact hF82 k h
     ·exact .inr (Nat.le_trans hl28 h)
    have HK29:=ak hk29
    have HS39:=ak (And.intro (fun k hk=>hs31 k (HS27.out.1 k hk)) hs39)
    have HD9:=ak hd3
    have HO9:=ak ho3
    obtain⟨⟨A9,c9,b9,-,-⟩,-,-⟩:=ho3
    have v0:=bq hx9 0 (ptr l)
    have v1:=bq hn9 0 (.int .i64 n)
    have v4:=bq b9 4 (.int .i64 S.last)
    have f9:=blk_frozen b9 4
    clear hd3 hs31 hs32 hk3 hF82 hl28 hnF hx9 hn9 hk29 hs39 b9
    go_wp2
    go_ret
    rw[HDEF5.out,if_pos HLA2.out]
    exact⟨rfl,HRET.out _ _ _ (LTurned.mono ⟨F3,DiskAt.setL HD9.out HO9.out.self 4 _,HS39.out.1,HS39.out.2,HO9.out.setLast n,HK29.out.trans ((keeps_l w9 l 4 _).mono (fun k hk=>.inr hk))⟩ (by omega))⟩
end Go.Proofs.YteccdnejnbkbiaaGreat.Lg
end
section
namespace Go.Proofs.YteccdnejnbkbiaaGreat.Lg
open Go.RowKit Go.Maps Fr Ext Go.Proofs.YteccdnejnbkbiaaGreat.Nm Dk Mn YteccdnejnbkbiaaGreatW.PrintWords YteccdnejnbkbiaaGreatW.PrintLast YteccdnejnbkbiaaGreatW.PrintMore
open Sg (segN segN_le segN_ascii)
variable {w w' w1:World} {B l g N:Nat} {M M':DiskM} {F F' G:Nat→Prop} {S S':LogS}
theorem gone_calls (sb:Nat) (A:Option Addr) (c:Nat) (segs:List Int) (n:Int) (x0:w.cell? ⟨sb,0,none⟩=some (.slice A segs.length c)) (ho:ReadsInt w .i64 A segs.length segs):
  Calls Tryz.prog 29 #[.int .i64 n,.pointer (some ⟨sb,0,none⟩)] w fun e w'=>e=.returned (.bool (segs.contains n))∧w'=w:=by
 have hc:=Sh.contains_reads n c ho
 generalize segs.contains n=b at hc ⊢
 have HC:=ak hc
 clear ho hc
 go_enter Tryz.func29,Tryz.ntmps29
 go_wp2_with (go_at_call 30;(with_reducible refine HC.out.mono ?_);rintro e w1 ⟨rfl,rfl⟩)
 go_ret
 exact⟨rfl,rfl⟩
theorem wrong_calls (lb:Nat) (n:Int) (h:LogO w B l g F S) (x0:w.cell? ⟨lb,0,none⟩=some (ptr l)):
  Calls Tryz.prog 31 #[.int .i64 n,.pointer (some ⟨lb,0,none⟩)] w fun e w'=>e=.returned (.bool (n==S.last || !(S.man.segs.contains n)))∧w'=w:=by
 obtain⟨⟨A,c,h1,h2,h3⟩,hs,ha⟩:=h
 have x2:=bq h1 2 (.slice A S.man.segs.length c)
 have x4:=bq h1 4 (.int .i64 S.last)
 have hc:=Sh.contains_own n (Kd.own_of_R h2)
 generalize S.man.segs.contains n=b at hc ⊢
 have HC:=ak hc
 clear h1 h2 h3 hs ha hc
 by_cases hn:n=S.last
 ·have d1:(n==S.last)=true:=beq_iff_eq.mpr hn
  rw[d1]
  clear hn
  go_enter Tryz.func31,Tryz.ntmps31
  go_wp2_with (go_at_call 30;(with_reducible refine HC.out.mono ?_);rintro e w1 ⟨rfl,rfl⟩)
  go_ret
  exact⟨rfl,rfl⟩
 ·have d1:(n==S.last)=false:=beq_eq_false_iff_ne.mpr hn
  rw[d1]
  clear hn
  go_enter Tryz.func31,Tryz.ntmps31
  go_wp2_with (go_at_call 30;(with_reducible refine HC.out.mono ?_);rintro e w1 ⟨rfl,rfl⟩)
  go_ret
  cases b <;> exact⟨rfl,rfl⟩
end Go.Proofs.YteccdnejnbkbiaaGreat.Lg
end
section
namespace Go.Proofs.YteccdnejnbkbiaaGreat.Sh
open Go.RowKit Go.Sort Go.Shelf Pt YteccdnejnbkbiaaGreatW.PrintWords YteccdnejnbkbiaaGreatW.PrintLast YteccdnejnbkbiaaGreatW.PrintMore

variable {w:World} {base:Nat} {v:Value} {xs:List Int}
theorem containsFE:Go.Proofs.SlLaysH.n8 Tryz.prog containsF_ren:={
 mixed:=containsF.mixed
 f6:=⟨Tryz.f58.name,by decide,Tryz.func58.trans (congrArg some (by kernel_rfl))⟩
 f8:=⟨Tryz.f32.name,by decide,Tryz.func32.trans (congrArg some (by kernel_rfl))⟩
 t0:=Tryz.underlying0
 a0:=Tryz.isAgg0
 z0:=Tryz.sizeOf0
 v0:=Tryz.zeroValue0
 t3:=Tryz.underlying3
 a3:=Tryz.isAgg3
 z3:=Tryz.sizeOf3
 v3:=Tryz.zeroValue3
 t4:=Tryz.underlying4
 a4:=Tryz.isAgg4
 z4:=Tryz.sizeOf4
 v4:=Tryz.zeroValue4
 t22:=Tryz.underlying24
 a22:=Tryz.isAgg24
 z22:=Tryz.sizeOf24
 v22:=Tryz.zeroValue24
 a23:=Tryz.isAgg3
 z23:=Tryz.sizeOf3
 t25:=Tryz.underlying77
 a25:=Tryz.isAgg77
 z25:=Tryz.sizeOf77
 v25:=Tryz.zeroValue77}
theorem containsF_reads (p:Int→Bool) (g:Nat) (lb:Array Value) (eg:∀args w,(callFunc g args).run Tryz.prog w=.ok (.enter g args) w) (hp:PredAt Tryz.prog g lb (Value.int .i64) p w) {A:Option Addr} (c:Nat) (h:ReadsInt w .i64 A xs.length xs):
  Calls Tryz.prog 32 #[.slice A xs.length c,.func (.func g) #[] lb] w fun e w'=>e=.returned (.bool (xs.any p))∧∃q,w'=w.drewN q:=by
 cases hx:xs with
 | nil=>
  refine(show Calls Tryz.prog 32 #[.slice A 0 c,.func (.func g) #[] lb] w _ from AnyE.slices_ContainsFunc_empty containsFE A c _ w).mono ?_
  rintro e w' ⟨rfl,rfl⟩
  exact⟨rfl,0,rfl⟩
 | cons y ys=>
  obtain⟨b,off,rfl,hc⟩:=cells_reads h (by rw[hx];exact Nat.succ_pos _)
  have h2:=AnyE.slices_ContainsFunc containsFE (Value.int .i64) p g lb eg b off xs.length c xs w hp (Nat.le_refl _) h.2.1 (fun j hj=>by
   rw[hc j hj]
   simp [hj])
  rw[List.take_length,hx] at h2
  exact h2
theorem deleteF_none (fv:Value) (w:World):Calls Tryz.prog 33 #[.slice none 0 0,fv] w fun e w'=>e=.returned (.slice none 0 0)∧w'=w:=by
 have HI:=ak (show Calls Tryz.prog 58 #[.slice none 0 0,fv] w _ from AnyE.slices_IndexFunc_empty (ρ:=containsF_ren) {containsFE with} none 0 fv w)
 go_enter Tryz.func33,Tryz.ntmps33
 go_wp2_with (go_at_call 58;(with_reducible refine HI.out.mono ?_);rintro e w1 ⟨rfl,rfl⟩)
 go_ret
 exact⟨rfl,rfl⟩
theorem deleteF_own (p:Int→Bool) (g:Nat) (lb:Array Value) (eg:∀args w,(callFunc g args).run Tryz.prog w=.ok (.enter g args) w) (hp:PredAt Tryz.prog g lb (Value.int .i64) p w)
  (hpo:∀k,v.ownBlock=some k→PredOver Tryz.prog g lb (Value.int .i64) p k 0 xs.length w) (ho:w.ownsRow base 3 1 v xs.length (nums .i64 xs)):
  Calls Tryz.prog 33 #[v,.func (.func g) #[] lb] w fun e w'=>∃v',e=.returned v'∧w'.ownsRow base 3 1 v' (xs.filter fun x=>!p x).length (nums .i64 (xs.filter fun x=>!p x))∧v'.ownBlock=v.ownBlock∧w.grownBy w' v.ownBlock:=by
 rcases ho.2 with⟨rfl,hz⟩ | ⟨k,cap,cur,rfl,hbase,hg,r1,r2,r3,r4⟩
 ·obtain rfl:xs=[]:=List.eq_nil_of_length_eq_zero hz
  refine(deleteF_none _ w).mono ?_
  rintro e w' ⟨rfl,rfl⟩
  exact⟨_,rfl,ho,rfl,World.grownBy.refl _ _⟩
 ·have hH:=holds_of_blockI (ss:=xs) hg (by simpa [nums] using r4)
  have hb:maxLen=9223372036854775807:=rfl
  refine(show Calls Tryz.prog 33 #[.slice (some ⟨k,0,none⟩) xs.length cap,.func (.func g) #[] lb] w _ from AnyE.slices_DeleteFunc deleteF (Value.int .i64) (fun _=>rfl) p g lb eg 0 (fun w=>Tryz.zeroValue3 w) k 0 cap xs.toArray w hp (hpo k rfl) hH (by simp;omega) (by simpa using r1)).mono ?_
  rintro e w' ⟨rfl,n,rfl⟩
  simp only[List.toList_toArray,List.size_toArray]
  have hcl:(xs.filter fun x=>!p x).length≤xs.length:=List.length_filter_le _ _
  have h1:=ownsRow_sortedI (n:=n) (os:=#[]) (ts:=(xs.filter fun x=>!p x)++List.replicate (xs.length - (xs.filter fun x=>!p x).length) 0) (ss:=xs) (by simp;omega) hbase hg r1 r2 r3
  have h2:=grownBy_sortedI (w:=w) (g:=k) (n:=n) (os:=#[]) ((xs.filter fun x=>!p x)++List.replicate (xs.length - (xs.filter fun x=>!p x).length) 0).toArray
  rw[grow_empty] at h1 h2
  refine⟨_,rfl,?_,rfl,h2⟩
  have h3:=own_take h1 hcl
  rw[Nat.mul_one,List.map_append,List.take_append_of_le_length (by simp),List.take_of_length_le (by simp)] at h3
  exact h3
end Go.Proofs.YteccdnejnbkbiaaGreat.Sh
end
section
namespace Go.Proofs.YteccdnejnbkbiaaGreat.Lg
open Go.RowKit Go.Maps Go.Shelf Fr Ext Go.Proofs.YteccdnejnbkbiaaGreat.Nm Dk Mn YteccdnejnbkbiaaGreatW.PrintWords YteccdnejnbkbiaaGreatW.PrintLast YteccdnejnbkbiaaGreatW.PrintMore
open Sg (segN segN_le segN_ascii)
open Rc (Norm Norm.intro Norm.elim)
variable {w w' w1:World} {B l g N:Nat} {M M':DiskM} {F F' G:Nat→Prop} {S S':LogS}
def dr6T:Bool×List (List Nat×List Nat):=(true,[([],[]),([0],[0]),([],[]),([1,2,1],[1,2]),([],[]),([4],[4]),([5],[5]),([6],[6]),([7],[7]),([3,8],[3,8]),([],[]),([10,9,3,0,1,2,3,4,5,6,7,8,9,10],[9,10])])
def dr6B:List Nat:=[0,1,0,7,0,16,48,112,240,511,0,2047]
theorem dr6tab:rtab .any (opsOf Tryz.f13 6)=dr6T:=by kernel_rfl
theorem dr6bits:waitsOk dr6T.2 dr6B=true:=by kernel_rfl
def dr15T:Bool×List (List Nat×List Nat):=(true,[([],[]),([],[]),([1],[1]),([],[]),([3,2],[3]),([2,4],[2,4]),([0,5,4],[0,5])])
def dr15B:List Nat:=[0,0,2,0,14,30,63]
theorem dr15tab:rtab .any (opsOf Tryz.f13 15)=dr15T:=by kernel_rfl
theorem dr15bits:waitsOk dr15T.2 dr15B=true:=by kernel_rfl
theorem two_str {w:World} {sb:Nat} {s t:ByteArray} (h:w.heap[sb]? =some (.cells #[.string s,.string t] 9 (0,0))):Kd.C Kd.string w (some ⟨sb,0,none⟩) 2 [s,t]:=
 Kd.C_of_reads (d:=ByteArray.empty) (h1:=fun _=>rfl) ⟨rfl,by decide,fun _=>⟨_,rfl,fun j hj=>by
  match j,hj with
  | 0,_=>exact(blk_cell h 0).trans rfl
  | 1,_=>exact(blk_cell h 1).trans rfl⟩⟩
def wrongB (S:LogS) (n:Int):Bool:=n==S.last || !(S.man.segs.contains n)
def dropMan (S:LogS) (segs:List Int):ManM:=⟨S.man.segs.filter fun n=>!segs.contains n,S.man.next⟩
def dropsM (segs:List Int):List Int→DiskM→DiskM
 | [],M=>M
 | n::r,M=>dropsM segs r (if segs.contains n=true then removesM [segN n,hintN n] M else M)
def dropM (M:DiskM) (S:LogS) (segs:List Int):DiskM×LogS×Int:=
 if segs.any (wrongB S)=true then(M,S,1)
 else if(saveM M (dropMan S segs)).2=0 then(dropsM segs S.man.segs (saveM M (dropMan S segs)).1,{S with man:=dropMan S segs},0)
 else((saveM M (dropMan S segs)).1,S,(saveM M (dropMan S segs)).2)
theorem dropsM_fit (segs:List Int) (L:List Int):∀M,Fit M→Fit (dropsM segs L M):=by
 induction L with
 | nil=>exact fun M h=>h
 | cons n r ih=>
  intro M h
  unfold dropsM
  refine ih _ ?_
  split
  ·exact removes_fit _ _ h
  ·exact h
theorem drops_take (segs:List Int) (L:List Int):∀(M:DiskM) (k:Nat) (hk:k < L.length),dropsM segs (L.take (k+1)) M=if segs.contains L[k]=true then removesM [segN L[k],hintN L[k]] (dropsM segs (L.take k) M) else dropsM segs (L.take k) M:=by
 induction L with
 | nil=>intro M k hk;exact absurd hk (Nat.not_lt_zero _)
 | cons s r ih=>
  intro M k hk
  cases k with
  | zero=>rfl
  | succ k=>exact ih _ k (Nat.lt_of_succ_lt_succ hk)
theorem dropM_fit (hM:Fit M) (S:LogS) (segs:List Int):Fit (dropM M S segs).1:=by
 unfold dropM
 split
 ·exact hM
 split
 ·exact dropsM_fit _ _ _ (saveM_fit hM _)
 ·exact saveM_fit hM _
theorem run_drop1 (args:Array Value) (W:World):(callFunc 29 args).run Tryz.prog W=.ok (.enter 29 args) W:=enters_ Tryz.func29 (by kernel_rfl) rfl args W
theorem run_drop2 (args:Array Value) (W:World):(callFunc 31 args).run Tryz.prog W=.ok (.enter 31 args) W:=enters_ Tryz.func31 (by kernel_rfl) rfl args W
theorem wrong_pred (lb:Nat) (h:LogO w B l g F S) (x0:w.cell? ⟨lb,0,none⟩=some (ptr l)):PredAt Tryz.prog 31 #[.pointer (some ⟨lb,0,none⟩)] (Value.int .i64) (wrongB S) w:=
 fun W x hW=>(wrong_calls lb x (h.below hW) (pw_cell_below hW x0)).mono (by
  rintro e w' ⟨rfl,rfl⟩
  exact⟨rfl,0,rfl⟩)
theorem gone_fn {W:World} (sb:Nat) (A:Option Addr) (c:Nat) (segs:List Int) (x:Int) (x0:W.cell? ⟨sb,0,none⟩=some (.slice A segs.length c)) (ho:ReadsInt W .i64 A segs.length segs):FnGives Tryz.prog 29 #[.pointer (some ⟨sb,0,none⟩)] #[.int .i64 x] (.bool (segs.contains x)) W:=
 (gone_calls sb A c segs x x0 ho).mono (by
  rintro e w' ⟨rfl,rfl⟩
  exact⟨rfl,0,rfl⟩)
theorem drop_calls (hd:DiskAt w B g N M F) (hM:Fit M) (h:LogO w B l g F S) (hl:S.man.segs.length≤1000000) (hN:N+6+2*S.man.segs.length≤1000000000000) (A:Option Addr) (c:Nat) (segs:List Int)
  (hs:∀W,Keeps (fun k=>F k∨k=l) w W→ReadsInt W .i64 A segs.length segs):
  Calls Tryz.prog 13 #[ptr l,.slice A segs.length c] w fun e w'=>e=.returned (.int .i64 (dropM M S segs).2.2)∧LTurned w w' B l g (N+6+2*S.man.segs.length) F (dropM M S segs).1 (dropM M S segs).2.1:=by
 have HD:=ak hd
 have HM:=ak hM
 have HO:=ak h
 have HN:=ak hN
 have HL:=ak hl
 have HS:=ak hs
 have hdef:dropM M S segs=if segs.any (wrongB S)=true then(M,S,1)
  else if(saveM M (dropMan S segs)).2=0 then(dropsM segs S.man.segs (saveM M (dropMan S segs)).1,{S with man:=dropMan S segs},0)
  else((saveM M (dropMan S segs)).1,S,(saveM M (dropMan S segs)).2):=rfl
 have HDEF:=ak hdef
 have hb1:=heap_alloc_new w (.cells #[ptr l] 28)
 have hB1:=below_alloc (RowKit.Below.refl w.heap.size w) (.cells #[ptr l] 28)
 have hz1:(w.alloc (.cells #[ptr l] 28)).heap.size=w.heap.size+1:=Array.size_push _
 clear hd hM h hl hN hs hdef
 go_enter Tryz.func13,Tryz.ntmps13
 go_upto_region 3 with(fail)
 generalize w.alloc (.cells #[ptr l] 28)=w1 at hb1 hB1 hz1 ⊢
 have hb2:=heap_alloc_new w1 (.cells #[.slice A segs.length c] 24)
 have hB2:=below_alloc (RowKit.Below.refl w1.heap.size w1) (.cells #[.slice A segs.length c] 24)
 have hz2:(w1.alloc (.cells #[.slice A segs.length c] 24)).heap.size=w1.heap.size+1:=Array.size_push _
 generalize w1.alloc (.cells #[.slice A segs.length c] 24)=w2 at hb2 hB2 hz2 ⊢
 rw[hz1] at hb2 hz2
 have hb1:=(hB2.block _ (blk_lt hb1)).trans hb1
 have hB:=hB1.trans (hB2.mono hB1.size)
 obtain⟨lb,hlb⟩:∃lb,w.heap.size=lb:=⟨_,rfl⟩
 rw[hlb] at hb1 hb2 hz2 ⊢
 have HLB:=ak hlb
 have HSZ:=ak hz2
 have HB:=ak hB
 have HB1:=ak hb1
 have HB2:=ak hb2
 have x0:=bq hb1 0 (ptr l)
 have x1:=bq hb2 0 (.slice A segs.length c)
 have HO2:=ak (HO.out.below HB.out)
 have HD2:=ak (HD.out.below HB.out)
 have HCF:=ak (Sh.containsF_reads (wrongB S) 31 #[.pointer (some ⟨lb,0,none⟩)] run_drop2 (wrong_pred lb HO2.out x0) c (HS.out w2 (Keeps.of_below HB.out)))
 clear hb1 hb2 hB1 hB2 hz1 hz2 hB hlb
 have hdef:=HDEF.out
 generalize segs.any (wrongB S)=b at hdef HCF
 have HDEF1:=ak hdef
 clear hdef HDEF
 cases b
 case true=>
  go_upto_region 3 with(fail)
  go_wp2_with (go_at_call 32;(with_reducible refine HCF.out.mono ?_);rintro e w3 ⟨rfl,q,hw⟩;have HB23:=ak (show RowKit.Below w2.heap.size w2 w3 from hw ▸ pw_below_drewN (RowKit.Below.refl _ _) q);clear hw)
  go_ret
  rw[HDEF1.out,if_pos (by trivial)]
  exact⟨rfl,(LTurned.of_turned HO.out (Turned.of_below HD.out (HB.out.trans (HB23.out.mono HB.out.size)))).mono (by omega)⟩
 have hdef:=HDEF1.out
 rw[if_neg (by decide)] at hdef
 have HDEF2:=ak hdef
 clear hdef HDEF1
 go_upto_region 5 with(go_at_call 32;(with_reducible refine HCF.out.mono ?_);rintro e w3 ⟨rfl,q,hw⟩;have HB23:=ak (show RowKit.Below w2.heap.size w2 w3 from hw ▸ pw_below_drewN (RowKit.Below.refl _ _) q);clear hw)
 have y0:=pw_cell_below HB23.out x0
 have HO3:=ak (HO2.out.below HB23.out)
 have HSG3:=ak (segs_calls HO3.out HL.out)
 go_upto_region 6 with(go_at_call 10;(with_reducible refine HSG3.out.mono ?_);rintro e w4 ⟨v4,rfl,hr4,hb4⟩;obtain⟨A4,c4,hv4⟩:=Kd.R_slice hr4;subst hv4;have HR4:=ak hr4;have HB34:=ak hb4;clear hr4 hb4)
 have HB4:=ak (HB23.out.trans (HB34.out.mono HB23.out.size))
 have HO4:=ak (HO2.out.below HB4.out)
 have HBW4:=ak (HB.out.trans (HB4.out.mono HB.out.size))
 have HGF:=ak (fun W' (hW':RowKit.Below w4.heap.size w4 W') (x:Int)=>gone_fn (lb+1) A c segs x (pw_cell_below hW' (pw_cell_below HB4.out x1)) (HS.out W' (Keeps.of_below (HBW4.out.trans (hW'.mono HBW4.out.size)))))
 have HDF:Aside0 (∀W (_:RowKit.Below w4.heap.size w4 W) v (_:Kd.R (Kd.int .i64) 3 W w4.heap.size (fun _=>True) v S.man.segs),Calls Tryz.prog 33 #[v,.func (.func 29) #[] #[.pointer (some ⟨lb+1,0,none⟩)]] W fun e w'=>∃v',e=.returned v'∧w'.ownsRow w4.heap.size 3 1 v' (dropMan S segs).segs.length (nums .i64 (dropMan S segs).segs)∧v'.ownBlock=v.ownBlock∧W.grownBy w' v.ownBlock):=⟨fun W hW v hr=>Sh.deleteF_own (fun n=>segs.contains n) 29 #[.pointer (some ⟨lb+1,0,none⟩)] run_drop1 (fun W' x hW'=>HGF.out W' (hW.trans (hW'.mono hW.size)) x) (fun k hk n os dk x _=>HGF.out _ (hW.grown (row:=some k) (Go.grownBy_sortedI (g:=k) (n:=n) (os:=os) dk) hW.size (fun k' hk'=>by cases hk';exact Kd.R_base hr k hk)) x) (Kd.own_of_R hr)⟩
 have HSG4:=ak (fun W (hW:RowKit.Below w4.heap.size w4 W)=>segs_calls (HO4.out.below hW) HL.out)
 have z0:=pw_cell_below HB4.out x0
 obtain⟨L6,hL6⟩:∃L6,(dropMan S segs).segs.length=L6:=⟨_,rfl⟩
 have HL6:=ak hL6
 clear hL6
 obtain⟨⟨A3,c3,b3,-,-⟩,-,-⟩:=HO4.out
 have z3:=bq b3 3 (.int .i64 S.man.next)
 clear b3 x0 x1 y0
 refine Code.wp_mono (Q:=Norm fun a' W=>∃(mb:Nat) (A1:Option Addr) (c1:Nat) (A6:Option Addr) (c6:Nat),a'={tmps:=#[ptr l,.slice A segs.length c,.pointer (some ⟨lb,0,none⟩),.pointer (some ⟨lb+1,0,none⟩),.int .i64 0,.func (.func 29) #[] #[.pointer (some ⟨lb+1,0,none⟩)],.func (.func 31) #[] #[.pointer (some ⟨lb,0,none⟩)],.slice A4 S.man.segs.length c4,.pointer (some ⟨mb,0,none⟩),undef,undef,undef,.func (.func 29) #[] #[.pointer (some ⟨lb+1,0,none⟩)],.func (.func 31) #[] #[.pointer (some ⟨lb,0,none⟩)],.slice A segs.length c,.func (.func 31) #[] #[.pointer (some ⟨lb,0,none⟩)],.bool false,ptr l,.slice A4 S.man.segs.length c4,ptr l,.slice A1 S.man.segs.length c1,.func (.func 29) #[] #[.pointer (some ⟨lb+1,0,none⟩)],.slice A6 L6 c6,ptr l,.pointer (some ⟨l,0,none⟩),.pointer (some ⟨l,2,none⟩),.pointer (some ⟨l,3,none⟩),.int .i64 S.man.next,.agg #[.slice A6 L6 c6,.int .i64 S.man.next],undef,undef,undef,undef,undef,undef,undef,undef,undef,undef,undef,undef,undef,undef,undef,undef,undef,undef,undef,undef,undef,undef,undef,undef,undef,undef,undef,undef,undef,undef],defers:=[]}∧W.heap[mb]? =some (.cells #[.slice A6 L6 c6,.int .i64 S.man.next] 66 (0,0))∧Kd.R (Kd.int .i64) 3 W w4.heap.size (fun _=>True) (.slice A6 L6 c6) (dropMan S segs).segs∧RowKit.Below w4.heap.size w4 W∧w4.heap.size≤mb) (Norm.elim ?mono) ?reg
 case reg=>
  refine st_ 12 (S:=(fun w'=>RowKit.Below w4.heap.size w4 w')) (ds:=[]) (by kernel_rfl) rfl (by kernel_rfl) (RowKit.Below.refl _ _).drew (fun hHeld=>?_);refine with_tabW dr6tab dr6bits (fun HT_ HW_=>?_)
  generalize w4.drew=b0 at hHeld ⊢
  refine fl_ [2,21,4] ?_
  (refine pq_ (v:=?_) (a':=?_) HT_ rfl rfl (.inl ⟨by rfl,?_⟩) ?_ ?_;rotate_left;(focus intro w';go_simp;with_reducible rfl);rotate_left;(focus simp only[Act.put,zq1,zq2,zq3,i64_w,i32_w];rfl))
  refine fe_ ?_
  refine tk_ 0 5 (N:=some 19) (v:=?_) (a':=?_) HT_ HW_ rfl rfl (.inl ⟨by rfl,?_⟩) hHeld ?_ ?_
  rotate_left
  ·rintro w' hs
   have xx:=pw_cell_below hs z0
   go_simp
   with_reducible rfl
  rotate_left
  ·simp only[Act.put,zq1,zq2,zq3,i64_w,i32_w]
   rfl
  refine tk_ 4 21 (N:=some 23) (v:=?_) (a':=?_) HT_ HW_ rfl rfl (.inl ⟨by rfl,?_⟩) hHeld ?_ ?_
  rotate_left
  ·rintro w' hs
   have xx:=pw_cell_below hs z0
   go_simp
   with_reducible rfl
  rotate_left
  ·simp only[Act.put,zq1,zq2,zq3,i64_w,i32_w]
   rfl
  refine fl_ [5,24,53,6,25,117,7,26,245] ?_
  iterate 3 (refine pq_ (v:=?_) (a':=?_) HT_ rfl rfl (.inl ⟨by rfl,?_⟩) ?_ ?_;rotate_left;(focus intro w';go_simp;with_reducible rfl);rotate_left;(focus simp only[Act.put,zq1,zq2,zq3,i64_w,i32_w];rfl))
  refine fe_ ?_
  refine tk_ 8 501 (N:=some 27) (v:=?_) (a':=?_) HT_ HW_ rfl rfl (.inl ⟨by rfl,?_⟩) hHeld ?_ ?_
  rotate_left
  ·rintro w' hs
   have xx:=pw_cell_below hs z3
   go_simp
   with_reducible rfl
  rotate_left
  ·simp only[Act.put,zq1,zq2,zq3,i64_w,i32_w]
   rfl
  refine tw_ 1 10 503 1525 (some 20) (some 8) HT_ rfl rfl rfl rfl (by kernel_rfl) (by decide) (by decide) (fun K hK=>?_) (fun K hK=>?_)
  ·refine goes_ Tryz.func10 (by kernel_rfl) rfl #[.pointer (some ⟨l,0,none⟩)] (by rfl) rfl rfl (by(try simp only[List.map_toArray,List.map_cons,List.map_nil]);first | done | rfl) ?_
   refine(HSG4.out _ hHeld).mono ?_
   rintro e b1 ⟨v1,rfl,hv1,hb⟩
   refine⟨_,rfl,?_⟩
   have hv1:=Kd.R_lower hv1 hHeld.size
   have hHeld:=hHeld.trans (hb.mono hHeld.size)
   refine kn_ (a':=?_) hK hHeld ?_ fun hHeld=>?_
   rotate_left;(focus show Act.put _ (some 20) _=_;simp only[Act.put,zq1,zq2,zq3,i64_w,i32_w];rfl);clear hK K
   obtain⟨A1,c1,hA1⟩:=Kd.R_slice hv1
   subst hA1
   clear hb
   refine tw_ 3 10 511 1527 (some 22) (some 8) HT_ rfl rfl rfl rfl (by kernel_rfl) (by decide) (by decide) (fun K hK=>?_) (fun K hK=>?_)
   ·refine goes_ Tryz.func33 (by kernel_rfl) rfl #[.slice A1 S.man.segs.length c1,.func (.func 29) #[] #[.pointer (some ⟨lb+1,0,none⟩)]] (by rfl) rfl rfl (by(try simp only[List.map_toArray,List.map_cons,List.map_nil]);first | done | rfl) ?_
    refine(HDF.out _ hHeld _ hv1).mono ?_
    rintro e b2 ⟨v4,rfl,ho4,hob,hg4⟩
    refine⟨_,rfl,?_⟩
    have hv4:=R_ints ho4
    have hHg:=hHeld.grown hg4 hHeld.size (Kd.R_base hv1)
    have hHeld:=hHg
    refine kn_ (a':=?_) hK hHeld ?_ fun hHeld=>?_
    rotate_left;(focus show Act.put _ (some 22) _=_;simp only[Act.put,zq1,zq2,zq3,i64_w,i32_w];rfl);clear hK K
    obtain⟨A6,c6,hA6⟩:=Kd.R_slice hv4
    rw[HL6.out] at hA6
    subst hA6
    refine fl_ [9,28,1023] ?_
    (refine pq_ (v:=?_) (a':=?_) HT_ rfl rfl (.inl ⟨by rfl,?_⟩) ?_ ?_;rotate_left;(focus intro w';go_simp;with_reducible rfl);rotate_left;(focus simp only[Act.put,zq1,zq2,zq3,i64_w,i32_w];rfl))
    refine fe_ ?_
    refine on_ 10 2047 (some 8) HT_ rfl rfl (by kernel_rfl) (by decide) (fun K hK=>?_)
    refine Mn.alloc_step rfl (by go_simp;exact⟨rfl,rfl⟩) ?_
    have hb:=below_alloc (RowKit.Below.refl b2.heap.size b2) (.cells #[.slice none 0 0,.int .i64 0] 66)
    have hv4:=Kd.R_below hv4 hb
    have hrow:=heap_alloc_new b2 (.cells #[.slice none 0 0,.int .i64 0] 66)
    have hle8:w4.heap.size≤b2.heap.size:=hHeld.size
    have hHeld:=below_alloc hHeld (.cells #[.slice none 0 0,.int .i64 0] 66)
    refine kn_ (a':=?_) hK hHeld ?_ fun hHeld=>?_
    rotate_left;(focus show Act.put _ (some 8) _=_;simp only[Act.put,zq1,zq2,zq3,i64_w,i32_w];rfl);clear hK K
    generalize b2.alloc (.cells #[.slice none 0 0,.int .i64 0] 66)=b3 at hHeld hb hrow hv4 ⊢
    clear hb
    have hvt:=Kd.R_mono (ok':=fun q=>q≠b2.heap.size) (Kd.R_types hv4 hrow (by decide)) (fun q hq=>hq.2)
    refine on_ 11 4095 none HT_ rfl rfl (by kernel_rfl) (by decide) (fun K hK=>?_)
    have q0:_root_.Go.World.cell? b3 ⟨b2.heap.size,0,none⟩=some (.slice none 0 0):=(blk_cell hrow 0).trans rfl
    have q1:_root_.Go.World.cell? b3 ⟨b2.heap.size,1,none⟩=some (.int .i64 0):=(blk_cell hrow 1).trans rfl
    have f0:=blk_frozen hrow 0
    have f1:=blk_frozen hrow 1
    refine Rc.store_step rfl (by go_simp;rfl) ?_
    refine hK.out _ _ ((hHeld.setCell (p:=⟨b2.heap.size,0,none⟩) hle8 _).setCell (p:=⟨b2.heap.size,1,none⟩) hle8 _) (fun hHeld=>?_)
    clear hK K
    refine norm_ (a':=?_) ?_ ?_
    rotate_left
    ·show Act.put _ (none) _=_
     simp only[Act.put]
     rfl
    refine done_ (done_of HT_.out (by kernel_rfl)) ?_
    exact Norm.intro ⟨b2.heap.size,A1,c1,A6,c6,rfl,blk_put (blk_put hrow 0 _ rfl) 1 _ rfl,Kd.R_mono (Kd.R_far (p:=⟨b2.heap.size,1,none⟩) (Kd.R_far (p:=⟨b2.heap.size,0,none⟩) hvt (fun q hq=>hq) _) (fun q hq=>hq) _) (fun _ _=>trivial),hHeld,hle8⟩
   ·refine Mn.alloc_step rfl (by go_simp;exact⟨rfl,rfl⟩) ?_
    have hb:=below_alloc (RowKit.Below.refl b1.heap.size b1) (.cells #[.slice none 0 0,.int .i64 0] 66)
    have hv1:=Kd.R_below hv1 hb
    have hrow:=heap_alloc_new b1 (.cells #[.slice none 0 0,.int .i64 0] 66)
    have hle8:w4.heap.size≤b1.heap.size:=hHeld.size
    have hHeld:=below_alloc hHeld (.cells #[.slice none 0 0,.int .i64 0] 66)
    refine kn_ (a':=?_) hK hHeld ?_ fun hHeld=>?_
    rotate_left;(focus show Act.put _ (some 8) _=_;simp only[Act.put,zq1,zq2,zq3,i64_w,i32_w];rfl);clear hK K
    generalize b1.alloc (.cells #[.slice none 0 0,.int .i64 0] 66)=b4 at hHeld hb hrow hv1 ⊢
    clear hb
    refine on_ 3 1535 (some 22) HT_ rfl rfl (by kernel_rfl) (by decide) (fun K hK=>?_)
    refine goes_ Tryz.func33 (by kernel_rfl) rfl #[.slice A1 S.man.segs.length c1,.func (.func 29) #[] #[.pointer (some ⟨lb+1,0,none⟩)]] (by rfl) rfl rfl (by(try simp only[List.map_toArray,List.map_cons,List.map_nil]);first | done | rfl) ?_
    refine(HDF.out _ hHeld _ hv1).mono ?_
    rintro e b5 ⟨v4,rfl,ho4,hob,hg4⟩
    refine⟨_,rfl,?_⟩
    have hv4:=R_ints ho4
    have hHg:=hHeld.grown hg4 hHeld.size (Kd.R_base hv1)
    have hrow:=blk_grown hrow hg4 (Kd.R_ne hv1 hrow (by decide))
    have hHeld:=hHg
    refine kn_ (a':=?_) hK hHeld ?_ fun hHeld=>?_
    rotate_left;(focus show Act.put _ (some 22) _=_;simp only[Act.put,zq1,zq2,zq3,i64_w,i32_w];rfl);clear hK K
    obtain⟨A6,c6,hA6⟩:=Kd.R_slice hv4
    rw[HL6.out] at hA6
    subst hA6
    refine fl_ [9,28,2047] ?_
    (refine pq_ (v:=?_) (a':=?_) HT_ rfl rfl (.inl ⟨by rfl,?_⟩) ?_ ?_;rotate_left;(focus intro w';go_simp;with_reducible rfl);rotate_left;(focus simp only[Act.put,zq1,zq2,zq3,i64_w,i32_w];rfl))
    refine fe_ ?_
    have hvt:=Kd.R_mono (ok':=fun q=>q≠b1.heap.size) (Kd.R_types hv4 hrow (by decide)) (fun q hq=>hq.2)
    refine on_ 11 4095 none HT_ rfl rfl (by kernel_rfl) (by decide) (fun K hK=>?_)
    have q0:_root_.Go.World.cell? b5 ⟨b1.heap.size,0,none⟩=some (.slice none 0 0):=(blk_cell hrow 0).trans rfl
    have q1:_root_.Go.World.cell? b5 ⟨b1.heap.size,1,none⟩=some (.int .i64 0):=(blk_cell hrow 1).trans rfl
    have f0:=blk_frozen hrow 0
    have f1:=blk_frozen hrow 1
    refine Rc.store_step rfl (by go_simp;rfl) ?_
    refine hK.out _ _ ((hHeld.setCell (p:=⟨b1.heap.size,0,none⟩) hle8 _).setCell (p:=⟨b1.heap.size,1,none⟩) hle8 _) (fun hHeld=>?_)
    clear hK K
    refine norm_ (a':=?_) ?_ ?_
    rotate_left
    ·show Act.put _ (none) _=_
     simp only[Act.put]
     rfl
    refine done_ (done_of HT_.out (by kernel_rfl)) ?_
    exact Norm.intro ⟨b1.heap.size,A1,c1,A6,c6,rfl,blk_put (blk_put hrow 0 _ rfl) 1 _ rfl,Kd.R_mono (Kd.R_far (p:=⟨b1.heap.size,1,none⟩) (Kd.R_far (p:=⟨b1.heap.size,0,none⟩) hvt (fun q hq=>hq) _) (fun q hq=>hq) _) (fun _ _=>trivial),hHeld,hle8⟩
  ·refine Mn.alloc_step rfl (by go_simp;exact⟨rfl,rfl⟩) ?_
   have hb:=below_alloc (RowKit.Below.refl b0.heap.size b0) (.cells #[.slice none 0 0,.int .i64 0] 66)
   have hrow:=heap_alloc_new b0 (.cells #[.slice none 0 0,.int .i64 0] 66)
   have hle8:w4.heap.size≤b0.heap.size:=hHeld.size
   have hHeld:=below_alloc hHeld (.cells #[.slice none 0 0,.int .i64 0] 66)
   refine kn_ (a':=?_) hK hHeld ?_ fun hHeld=>?_
   rotate_left;(focus show Act.put _ (some 8) _=_;simp only[Act.put,zq1,zq2,zq3,i64_w,i32_w];rfl);clear hK K
   generalize b0.alloc (.cells #[.slice none 0 0,.int .i64 0] 66)=b6 at hHeld hb hrow ⊢
   clear hb
   refine on_ 1 1527 (some 20) HT_ rfl rfl (by kernel_rfl) (by decide) (fun K hK=>?_)
   refine goes_ Tryz.func10 (by kernel_rfl) rfl #[.pointer (some ⟨l,0,none⟩)] (by rfl) rfl rfl (by(try simp only[List.map_toArray,List.map_cons,List.map_nil]);first | done | rfl) ?_
   refine(HSG4.out _ hHeld).mono ?_
   rintro e b7 ⟨v1,rfl,hv1,hb⟩
   refine⟨_,rfl,?_⟩
   have hv1:=Kd.R_lower hv1 hHeld.size
   have hrow:=(hb.block _ (blk_lt hrow)).trans hrow
   have hHeld:=hHeld.trans (hb.mono hHeld.size)
   refine kn_ (a':=?_) hK hHeld ?_ fun hHeld=>?_
   rotate_left;(focus show Act.put _ (some 20) _=_;simp only[Act.put,zq1,zq2,zq3,i64_w,i32_w];rfl);clear hK K
   obtain⟨A1,c1,hA1⟩:=Kd.R_slice hv1
   subst hA1
   clear hb
   refine on_ 3 1535 (some 22) HT_ rfl rfl (by kernel_rfl) (by decide) (fun K hK=>?_)
   refine goes_ Tryz.func33 (by kernel_rfl) rfl #[.slice A1 S.man.segs.length c1,.func (.func 29) #[] #[.pointer (some ⟨lb+1,0,none⟩)]] (by rfl) rfl rfl (by(try simp only[List.map_toArray,List.map_cons,List.map_nil]);first | done | rfl) ?_
   refine(HDF.out _ hHeld _ hv1).mono ?_
   rintro e b8 ⟨v4,rfl,ho4,hob,hg4⟩
   refine⟨_,rfl,?_⟩
   have hv4:=R_ints ho4
   have hHg:=hHeld.grown hg4 hHeld.size (Kd.R_base hv1)
   have hrow:=blk_grown hrow hg4 (Kd.R_ne hv1 hrow (by decide))
   have hHeld:=hHg
   refine kn_ (a':=?_) hK hHeld ?_ fun hHeld=>?_
   rotate_left;(focus show Act.put _ (some 22) _=_;simp only[Act.put,zq1,zq2,zq3,i64_w,i32_w];rfl);clear hK K
   obtain⟨A6,c6,hA6⟩:=Kd.R_slice hv4
   rw[HL6.out] at hA6
   subst hA6
   refine fl_ [9,28,2047] ?_
   (refine pq_ (v:=?_) (a':=?_) HT_ rfl rfl (.inl ⟨by rfl,?_⟩) ?_ ?_;rotate_left;(focus intro w';go_simp;with_reducible rfl);rotate_left;(focus simp only[Act.put,zq1,zq2,zq3,i64_w,i32_w];rfl))
   refine fe_ ?_
   have hvt:=Kd.R_mono (ok':=fun q=>q≠b0.heap.size) (Kd.R_types hv4 hrow (by decide)) (fun q hq=>hq.2)
   refine on_ 11 4095 none HT_ rfl rfl (by kernel_rfl) (by decide) (fun K hK=>?_)
   have q0:_root_.Go.World.cell? b8 ⟨b0.heap.size,0,none⟩=some (.slice none 0 0):=(blk_cell hrow 0).trans rfl
   have q1:_root_.Go.World.cell? b8 ⟨b0.heap.size,1,none⟩=some (.int .i64 0):=(blk_cell hrow 1).trans rfl
   have f0:=blk_frozen hrow 0
   have f1:=blk_frozen hrow 1
   refine Rc.store_step rfl (by go_simp;rfl) ?_
   refine hK.out _ _ ((hHeld.setCell (p:=⟨b0.heap.size,0,none⟩) hle8 _).setCell (p:=⟨b0.heap.size,1,none⟩) hle8 _) (fun hHeld=>?_)
   clear hK K
   refine norm_ (a':=?_) ?_ ?_
   rotate_left
   ·show Act.put _ (none) _=_
    simp only[Act.put]
    rfl
   refine done_ (done_of HT_.out (by kernel_rfl)) ?_
   exact Norm.intro ⟨b0.heap.size,A1,c1,A6,c6,rfl,blk_put (blk_put hrow 0 _ rfl) 1 _ rfl,Kd.R_mono (Kd.R_far (p:=⟨b0.heap.size,1,none⟩) (Kd.R_far (p:=⟨b0.heap.size,0,none⟩) hvt (fun q hq=>hq) _) (fun q hq=>hq) _) (fun _ _=>trivial),hHeld,hle8⟩
 case mono=>
  rintro a' w6 ⟨mb,A1,c1,A6,c6,rfl,hrow,hR,hb6,hle6⟩
  have HX6:=ak ((hb6.block _ (blk_lt ((HB4.out.block _ (blk_lt HB1.out)).trans HB1.out))).trans ((HB4.out.block _ (blk_lt HB1.out)).trans HB1.out))
  have HY6:=ak ((hb6.block _ (blk_lt ((HB4.out.block _ (blk_lt HB2.out)).trans HB2.out))).trans ((HB4.out.block _ (blk_lt HB2.out)).trans HB2.out))
  have HBW6:=ak (HBW4.out.trans (hb6.mono HBW4.out.size))
  have HO6:=ak (HO4.out.below hb6)
  have HD6:=ak (HD.out.below HBW6.out)
  have HROW6:=ak hrow
  have HR6:=ak hR
  have HB46:=ak hb6
  have HLE6:=ak hle6
  have hF:∀k,F k→k < w.heap.size:=HD.out.lt
  have h4:w.heap.size≤w4.heap.size:=HBW4.out.size
  have HFL:=ak (And.intro hF h4)
  have hcm:(dropMan S segs).segs.length≤c6∧Kd.C (Kd.int .i64) w6 A6 (dropMan S segs).segs.length (dropMan S segs).segs:=by
   have h:=hR
   rw[← HL6.out] at h
   exact(Kd.R_reads' h).2
  have hlen:(dropMan S segs).segs.length≤1000000000:=by
   have h1:(dropMan S segs).segs.length≤S.man.segs.length:=List.length_filter_le _ _
   have h2:=HL.out
   omega
  have hn6:N+6≤1000000000000:=by have:=HN.out;omega
  have hrw:∀W,RowKit.Below w6.heap.size w6 W→∀W',Keeps F W W'→Kd.C (Kd.int .i64) W' A6 (dropMan S segs).segs.length (dropMan S segs).segs:=fun W hW W' hk'=>by
   have h1:=row_keep (Kd.R_below hR hW) hk' (fun j hj hf'=>by
    have h1:=Kd.R_base hR j hj
    have h2:=hF j hf'
    omega)
   rw[← HL6.out] at h1
   exact(Kd.R_reads' h1).2.2
  have hsv:∀W,RowKit.Below w6.heap.size w6 W→Calls Tryz.prog 34 #[ptr g,.agg #[.slice A6 L6 c6,.int .i64 S.man.next]] W fun e w'=>e=.returned (.int .i64 (saveM M (dropMan S segs)).2)∧Turned W w' B g (N+6) F (saveM M (dropMan S segs)).1:=fun W hW=>by
   have h:=save_calls (dropMan S segs) A6 c6 (HD6.out.below hW) HM.out hn6 hlen hcm.1 (hrw W hW)
   rw[← HL6.out]
   exact h
  have hdef:=HDEF2.out
  have hf2:=saveM_fit HM.out (dropMan S segs)
  generalize saveM M (dropMan S segs)=p2 at hdef hsv hf2
  obtain⟨M2,e2⟩:=p2
  have HSV:=ak hsv
  have HDEF3:=ak hdef
  have HF2:=ak hf2
  obtain⟨⟨A5,c5,b3,-,-⟩,-,-⟩:=HO6.out
  have x0:=bq HX6.out 0 (ptr l)
  have x1:=bq b3 0 (ptr g)
  have x2:=bq hrow 0 (.slice A6 L6 c6)
  have x3:=bq hrow 1 (.int .i64 S.man.next)
  clear hrow hR hb6 hle6 hF h4 hcm hlen hn6 hrw hsv hdef hf2 HDEF2 b3 z0 z3
  go_upto_region 7 with(fail)
  go_region_with (go_at_call 34;(with_reducible refine(HSV.out _ ((RowKit.Below.refl w6.heap.size w6).drew)).mono ?_);rintro e w7 ⟨rfl,h7⟩;have H7:=ak (Turned.after (Keeps.of_below ((RowKit.Below.refl w6.heap.size w6).drew)) h7);clear h7)
  all_goals
   try go_upto_region 8 with(fail)
   by_cases he2:e2=0
   case neg=>
    have d6:(e2 !=0)=true:=bne_iff_ne.mpr he2
    have HE:=ak he2
    clear he2
    go_wp2
    go_ret
    rw[HDEF3.out,if_neg HE.out]
    exact⟨rfl,(LTurned.of_turned HO.out (Turned.after (Keeps.of_below HBW6.out) H7.out)).mono (by omega)⟩
   subst he2
   obtain⟨F2,hd2,hs1,hs2,hk2,ho2⟩:=HO6.out.turned H7.out
   have hdef:=HDEF3.out
   rw[if_pos (by trivial)] at hdef
   have HDEF4:=ak hdef
   have hlb:=HLB.out
   have hle6:=HLE6.out
   have hFl:=HFL.out.1
   have h4:=HFL.out.2
   have hz2:=HSZ.out
   have h26:w2.heap.size≤w6.heap.size:=Nat.le_trans HB4.out.size HB46.out.size
   have hlbF:¬F lb:=fun hf=>by have h1:=hFl _ hf;omega
   have hsbF:¬F (lb+1):=fun hf=>by have h1:=hFl _ hf;omega
   have hmbF:¬F mb:=fun hf=>by have h1:=hFl _ hf;omega
   have hlb2:¬F2 lb:=fun hf=>(hs2 _ hf).elim hlbF (fun h=>by omega)
   have hsb2:¬F2 (lb+1):=fun hf=>(hs2 _ hf).elim hsbF (fun h=>by omega)
   have hll:l < lb:=by have:=HO.out.lt;omega
   have hBl:B≤w4.heap.size:=by have h1:=HO.out.above;omega
   have hx7:=hk2.obj HX6.out hlbF
   have hy7:=hk2.obj HY6.out hsbF
   have hm7:=hk2.obj HROW6.out hmbF
   have hr7:=row_keep HR6.out hk2 (fun j hj hf=>by have h1:=Kd.R_base HR6.out j hj;have h2:=hFl j hf;omega)
   have hr6:=Kd.R_below HR4.out HB46.out
   have h23:w2.heap.size≤w3.heap.size:=HB23.out.size
   have hr4:=row_keep hr6 hk2 (fun j hj hf=>by have h1:=Kd.R_base hr6 j hj;have h2:=hFl j hf;omega)
   have hrn:∀k,(Value.slice A6 L6 c6).ownBlock=some k→¬F2 k:=fun k hk hf=>by
    have h1:=Kd.R_base HR6.out k hk
    have h2:=Kd.R_lt HR6.out k hk
    rcases hs2 k hf with h | h
    ·have:=hFl k h;omega
    ·omega
   have hr4n:∀k,(Value.slice A4 S.man.segs.length c4).ownBlock=some k→¬F2 k∧k≠l:=fun k hk=>by
    have h1:=Kd.R_base hr6 k hk
    have h2:=Kd.R_lt hr6 k hk
    refine⟨fun hf=>?_,by omega⟩
    rcases hs2 k hf with h | h
    ·have:=hFl k h;omega
    ·omega
   have hO8:LogO ((w7.setCell ⟨l,2,none⟩ (.slice A6 L6 c6)).setCell ⟨l,3,none⟩ (.int .i64 S.man.next)) B l g F2 {S with man:=dropMan S segs}:=by
    have hr8:=Kd.R_lower hr7 hBl
    rw[← HL6.out] at hr8 hrn ⊢
    exact ho2.setMan (dropMan S segs) A6 c6 hr8 hrn
   have hD8:=DiskAt.setL (DiskAt.setL hd2 ho2.self 2 (.slice A6 L6 c6)) ho2.self 3 (.int .i64 S.man.next)
   have hk8:Keeps (fun k=>k=l) w7 ((w7.setCell ⟨l,2,none⟩ (.slice A6 L6 c6)).setCell ⟨l,3,none⟩ (.int .i64 S.man.next)):=(keeps_l w7 l 2 _).trans (keeps_l _ l 3 _)
   obtain⟨⟨A2,c2,b1,-,-⟩,-,-⟩:=ho2
   have z0:=bq hx7 0 (ptr l)
   have z1:=bq hm7 0 (.slice A6 L6 c6)
   have z2:=bq hm7 1 (.int .i64 S.man.next)
   have y2:=bq b1 2 (.slice A2 S.man.segs.length c2)
   have y3:=bq b1 3 (.int .i64 S.man.next)
   have f2:=blk_frozen b1 2
   have f3:=blk_frozen b1 3
   have HX7:=ak hx7
   have HY7:=ak hy7
   have HR47:=ak hr4
   have HNOT:=ak (And.intro hlb2 (And.intro hsb2 hr4n))
   have HG2:=ak (And.intro hs1 (And.intro hs2 hk2))
   have HLL:=ak hll
   clear hd2 hs1 hs2 hk2 hdef HDEF3 hlb hle6 hFl h4 hz2 h26 hlbF hsbF hmbF hlb2 hsb2 hll hBl hx7 hy7 hm7 hr7 hr6 h23 hr4 hrn hr4n b1 x0 x1 x2 x3
   go_upto_region 11 with(fail)
   generalize (w7.setCell ⟨l,2,none⟩ (.slice A6 L6 c6)).setCell ⟨l,3,none⟩ (.int .i64 S.man.next)=w8 at hO8 hD8 hk8 ⊢
   have HD8:=ak hD8
   have HO8:=ak hO8
   have hX8:w8.heap[lb]? =some (.cells #[ptr l] 28 (0,0)):=(hk8.block _ (blk_lt HX7.out) (by have:=HLL.out;omega)).trans HX7.out
   have hY8:w8.heap[lb+1]? =some (.cells #[.slice A segs.length c] 24 (0,0)):=(hk8.block _ (blk_lt HY7.out) (by have:=HLL.out;omega)).trans HY7.out
   have hr8:=row_keep HR47.out hk8 (fun j hj hf=>(HNOT.out.2.2 j hj).2 hf)
   have HX8:=ak hX8
   have HY8:=ak hY8
   have HR8:=ak (fun W (hW:Keeps F2 w8 W)=>(Kd.R_reads' (row_keep hr8 hW (fun j hj hf=>(HNOT.out.2.2 j hj).1 hf))).2.2)
   have HLT:=ak (fun W N' M' (h:Turned w8 W B g N' F2 M')=>LTurned.after HBW6.out (LTurned.glue HG2.out.1 HG2.out.2.1 ((HG2.out.2.2.mono (fun k hk=>.inl hk)).trans (hk8.mono (fun k hk=>.inr hk))) (LTurned.of_turned HO8.out h)))
   clear hD8 hO8 hk8 hX8 hY8 hr8 z0 z1 z2 y2 y3 f2 f3 HR47
   go_wp2
   go_loopg [44] S.man.segs.length (fun kq v44 wr=>∃k:Nat,v44=.int .i64 k∧Aside0 (k+kq=S.man.segs.length)∧Aside0 (Turned w8 wr B g (N+6+2*k) F2 (dropsM segs (S.man.segs.take k) M2)))
   case atStart=>exact⟨0,rfl,⟨by omega⟩,⟨Turned.refl HD8.out⟩⟩
   case round=>
    obtain⟨k,rfl,HK,HT⟩:=hrel
    cases gk with
    | zero=>
     obtain rfl:k=S.man.segs.length:=by have:=HK.out;omega
     have d1:decide ((S.man.segs.length:Int) < (S.man.segs.length:Int))=false:=decide_eq_false (by omega)
     have d2:decide (S.man.segs.length < S.man.segs.length)=false:=decide_eq_false (by omega)
     go_wp2
     go_ret
     have ht:=HT.out
     rw[List.take_length] at ht
     rw[HDEF4.out]
     exact⟨rfl,HLT.out _ _ _ ht⟩
    | succ gk=>
     have hk0:k < S.man.segs.length:=by have:=HK.out;omega
     have d1:decide ((k:Int) < (S.man.segs.length:Int))=true:=decide_eq_true (by omega)
     have d2:decide (k < S.man.segs.length)=true:=decide_eq_true hk0
     obtain⟨F1,hd1,hs1,hs2,hk1⟩:=HT.out
     obtain⟨ad,e1,hcell⟩:=Kd.at_int (HR8.out wr hk1) (k:Int) (by omega) (by omega)
     cases e1
     have hrd:rd S.man.segs (k:Int)=S.man.segs[k]:=rd_nat S.man.segs k hk0
     rw[Int.toNat_natCast,hrd] at hcell
     have hstep:=drops_take segs S.man.segs M2 k hk0
     have hfit1:=dropsM_fit segs (S.man.segs.take k) M2 HF2.out
     obtain⟨_,_,_,_,_,hkk⟩:=HLT.out _ _ _ HT.out
     have hyr:wr.cell? ⟨lb+1,0,none⟩=some (.slice A segs.length c):=hk1.cell ((blk_cell HY8.out 0).trans rfl) HNOT.out.2.1
     have x0:wr.cell? ⟨lb,0,none⟩=some (ptr l):=hk1.cell ((blk_cell HX8.out 0).trans rfl) HNOT.out.1
     have hgone:=gone_calls (lb+1) A c segs S.man.segs[k] hyr (HS.out wr hkk)
     generalize S.man.segs[k]=n at hcell hstep hgone
     generalize segs.contains n=b at hgone hstep
     have HGO:=ak hgone
     have HSTEP:=ak hstep
     have HFIT:=ak hfit1
     have HWP:=ak (show wrap64 ((k:Int)+1)=((k+1:Nat):Int) by have h1:=HL.out;unfold wrap64;omega)
     clear hrd hstep hfit1 hyr hgone hkk hd1 hs1 hs2 hk1
     cases b with
     | false=>
      go_wp2_with (go_at_call 29;(with_reducible refine HGO.out.mono ?_);rintro e w9 ⟨rfl,rfl⟩)
      go_roundg gk
      case measure=>omega
      case rel=>exact⟨k+1,by rw[HWP.out],⟨by have:=HK.out;omega⟩,⟨by rw[HSTEP.out,if_neg (by decide)];exact HT.out.mono (by omega)⟩⟩
     | true=>
      obtain⟨F1,hd1,hs1,hs2,hk1,ho1⟩:=HO8.out.turned HT.out
      have HDR:=ak hd1
      have HOR:=ak ho1
      have hrmv:∀W,RowKit.Below wr.heap.size wr W→∀sb,W.heap[sb]? =some (.cells #[.string (segN n),.string (hintN n)] 9 (0,0))→wr.heap.size≤sb→Calls Tryz.prog 35 #[ptr l,.slice (some ⟨sb,0,none⟩) 2 2] W fun e w'=>e=.returned (.tuple #[])∧Turned W w' B g (N+6+2*k+2) F1 (removesM [segN n,hintN n] (dropsM segs (S.man.segs.take k) M2)):=fun W hW sb hlit hsb=>
       remove_calls [segN n,hintN n] (some ⟨sb,0,none⟩) (HDR.out.below hW) HFIT.out (HOR.out.below hW) (by simp) (by have h1:=HN.out;have h2:=HK.out;simp only[List.length_cons,List.length_nil];omega) (fun s hs=>by
        simp only[List.mem_cons,List.not_mem_nil,or_false] at hs
        rcases hs with rfl | rfl
        ·exact segN_le n
        ·exact hintN_le n) (two_str hlit) (fun W' hW'=>two_str (hW'.obj hlit (fun hf=>by have h1:=HDR.out.lt _ hf;omega))) 2
      have HRMV:=ak hrmv
      have HGL:=ak (And.intro hs1 (And.intro hs2 hk1))
      clear hd1 hs1 hs2 hk1 ho1 hrmv
      go_upto_region 15 with(go_at_call 29;(with_reducible refine HGO.out.mono ?_);rintro e w9 ⟨rfl,hw⟩;obtain rfl:=hw.symm)
      refine st_ 7 (S:=(fun w'=>RowKit.Below wr.heap.size wr w')) (ds:=[6]) (by kernel_rfl) rfl (by kernel_rfl) (RowKit.Below.refl _ _).drew (fun hHeld=>?_);refine with_tabW dr15tab dr15bits (fun HT_ HW_=>?_)
      generalize wr.drew=b0 at hHeld ⊢
      refine fl_ [1,52,2,3,54,10] ?_
      iterate 2 (refine pq_ (v:=?_) (a':=?_) HT_ rfl rfl (.inl ⟨by rfl,?_⟩) ?_ ?_;rotate_left;(focus intro w';go_simp;with_reducible rfl);rotate_left;(focus simp only[Act.put,zq1,zq2,zq3,i64_w,i32_w];rfl))
      refine fe_ ?_
      refine tk_ 0 11 (N:=some 51) (v:=?_) (a':=?_) HT_ HW_ rfl rfl (.inl ⟨by rfl,?_⟩) hHeld ?_ ?_
      rotate_left
      ·rintro w' hs
       have xx:=pw_cell_below hs x0
       go_simp
       with_reducible rfl
      rotate_left
      ·simp only[Act.put,zq1,zq2,zq3,i64_w,i32_w]
       rfl
      refine on_ 2 15 (some 53) HT_ rfl rfl (by kernel_rfl) (by decide) (fun K hK=>?_)
      refine goes_ Tryz.func36 (by kernel_rfl) rfl #[.int .i64 n] (by rfl) rfl rfl (by(try simp only[List.map_toArray,List.map_cons,List.map_nil]);first | done | rfl) ?_
      refine(file_calls n b0).mono ?_
      rintro e b1 ⟨rfl,hb⟩
      refine⟨_,rfl,?_⟩
      have hHeld:=hHeld.trans (hb.mono hHeld.size)
      refine kn_ (a':=?_) hK hHeld ?_ fun hHeld=>?_
      rotate_left;(focus show Act.put _ (some 53) _=_;simp only[Act.put,zq1,zq2,zq3,i64_w,i32_w];rfl);clear hK K
      clear hb
      refine on_ 4 31 (some 55) HT_ rfl rfl (by kernel_rfl) (by decide) (fun K hK=>?_)
      refine goes_ Tryz.func37 (by kernel_rfl) rfl #[.int .i64 n] (by rfl) rfl rfl (by(try simp only[List.map_toArray,List.map_cons,List.map_nil]);first | done | rfl) ?_
      refine(hints_calls n b1).mono ?_
      rintro e b2 ⟨rfl,hb⟩
      refine⟨_,rfl,?_⟩
      have hHeld:=hHeld.trans (hb.mono hHeld.size)
      refine kn_ (a':=?_) hK hHeld ?_ fun hHeld=>?_
      rotate_left;(focus show Act.put _ (some 55) _=_;simp only[Act.put,zq1,zq2,zq3,i64_w,i32_w];rfl);clear hK K
      clear hb
      refine on_ 5 63 (some 56) HT_ rfl rfl (by kernel_rfl) (by decide) (fun K hK=>?_)
      refine Mn.alloc_step rfl (by go_simp;exact⟨rfl,rfl⟩) ?_
      have hlit:=heap_alloc_new b2 (.cells #[.string (segN n),.string (hintN n)] 9)
      have hle0:wr.heap.size≤b2.heap.size:=hHeld.size
      have hHeld:=below_alloc hHeld (.cells #[.string (segN n),.string (hintN n)] 9)
      refine kn_ (a':=?_) hK hHeld ?_ fun hHeld=>?_
      rotate_left;(focus show Act.put _ (some 56) _=_;simp only[Act.put,zq1,zq2,zq3,i64_w,i32_w];rfl);clear hK K
      generalize b2.alloc (.cells #[.string (segN n),.string (hintN n)] 9)=b3 at hHeld hlit ⊢
      refine la_ 6 127 (some 57) HT_ rfl rfl (by kernel_rfl) (by decide) (fun K hK=>?_)
      refine goes_ Tryz.func35 (by kernel_rfl) rfl #[.pointer (some ⟨l,0,none⟩),.slice (some ⟨b2.heap.size,0,none⟩) 2 2] (by rfl) rfl rfl (by(try simp only[List.map_toArray,List.map_cons,List.map_nil]);first | done | rfl) ?_
      refine(HRMV.out b3 hHeld b2.heap.size hlit hle0).mono ?_
      rintro e w9 ⟨rfl,h9⟩
      refine⟨_,rfl,?_⟩
      refine hK.out _ _ ?_
      clear hK K
      refine norm_ (a':=?_) ?_ ?_
      rotate_left
      ·show Act.put _ (some 57) _=_
       simp only[Act.put,zq1,zq2,zq3,i64_w,i32_w]
       rfl
      have H9:=ak (Turned.after (Keeps.of_below hHeld) h9)
      clear hHeld h9 hlit
      refine done_ (done_of HT_.out (by kernel_rfl)) ?_
      go_wp2
      go_roundg gk
      case measure=>omega
      case rel=>exact⟨k+1,by rw[HWP.out],⟨by have:=HK.out;omega⟩,⟨by rw[HSTEP.out,if_pos (by trivial)];exact(Turned.glue HGL.out.1 HGL.out.2.1 HGL.out.2.2 H9.out).mono (by omega)⟩⟩
end Go.Proofs.YteccdnejnbkbiaaGreat.Lg
end
section
namespace Go.Proofs.YteccdnejnbkbiaaGreat.La
open Go.RowKit Go.Maps Fr Ext Go.Proofs.YteccdnejnbkbiaaGreat.Nm Dk Mn YteccdnejnbkbiaaGreatW.PrintWords YteccdnejnbkbiaaGreatW.PrintLast YteccdnejnbkbiaaGreatW.PrintMore
open Rc (Re Lo recC)
theorem tomb_calls (key:ByteArray) (w:World):Calls Tryz.prog 21 #[.string key] w fun e w'=>e=.returned (.agg #[.int .i64 4,.string key,.int .i64 0,.int .i64 0,.int .i64 0,.slice none 0 0,.slice none 0 0])∧RowKit.Below w.heap.size w w':=by
 have hz:=heap_alloc_new w (.cells #[.int .i64 0,.string ⟨#[]⟩,.int .i64 0,.int .i64 0,.int .i64 0,.slice none 0 0,.slice none 0 0] 35)
 have hb1:=below_alloc (RowKit.Below.refl w.heap.size w) (.cells #[.int .i64 0,.string ⟨#[]⟩,.int .i64 0,.int .i64 0,.int .i64 0,.slice none 0 0,.slice none 0 0] 35)
 go_enter Tryz.func21,Tryz.ntmps21
 go_upto_region 1 with(fail)
 generalize w.alloc (.cells #[.int .i64 0,.string ⟨#[]⟩,.int .i64 0,.int .i64 0,.int .i64 0,.slice none 0 0,.slice none 0 0] 35)=w1 at hz hb1 ⊢
 have k0:=bq hz 0 (.int .i64 0)
 have g0:=blk_frozen hz 0
 have k1:=bq hz 1 (.string ⟨#[]⟩)
 have g1:=blk_frozen hz 1
 have k2:=bq hz 2 (.int .i64 0)
 have g2:=blk_frozen hz 2
 have k3:=bq hz 3 (.int .i64 0)
 have g3:=blk_frozen hz 3
 have k4:=bq hz 4 (.int .i64 0)
 have g4:=blk_frozen hz 4
 have k5:=bq hz 5 (.slice none 0 0)
 have g5:=blk_frozen hz 5
 have k6:=bq hz 6 (.slice none 0 0)
 have g6:=blk_frozen hz 6
 go_wp2
 refine bodyPost_ret (results_cell_row rfl _ _ w.heap.size 35 #[.int .i64 4,.string key,.int .i64 0,.int .i64 0,.int .i64 0,.slice none 0 0,.slice none 0 0] (0,0) _ rfl (blk_put (blk_put (blk_put (blk_put (blk_put (blk_put (blk_put hz 0 _ rfl) 1 _ rfl) 2 _ rfl) 3 _ rfl) 4 _ rfl) 5 _ rfl) 6 _ rfl) Tryz.underlying35 rfl (by kernel_rfl)) rfl ?_
 exact⟨rfl,(((((((hb1.setCell (p:=⟨w.heap.size,0,none⟩) (Nat.le_refl _) _).setCell (p:=⟨w.heap.size,1,none⟩) (Nat.le_refl _) _).setCell (p:=⟨w.heap.size,2,none⟩) (Nat.le_refl _) _).setCell (p:=⟨w.heap.size,3,none⟩) (Nat.le_refl _) _).setCell (p:=⟨w.heap.size,4,none⟩) (Nat.le_refl _) _).setCell (p:=⟨w.heap.size,5,none⟩) (Nat.le_refl _) _).setCell (p:=⟨w.heap.size,6,none⟩) (Nat.le_refl _) _)⟩
end Go.Proofs.YteccdnejnbkbiaaGreat.La
end
section
namespace Go.Proofs.YteccdnejnbkbiaaGreat.La
open Go.RowKit Go.Maps Fr Ext Go.Proofs.YteccdnejnbkbiaaGreat.Nm Dk Mn YteccdnejnbkbiaaGreatW.PrintWords YteccdnejnbkbiaaGreatW.PrintLast YteccdnejnbkbiaaGreatW.PrintMore
theorem has_calls (A:Option Addr) (c:Nat) (L:List Int) (x:Int) (w:World) (hL:L.length≤1000000000) (hr:Kd.C (Kd.int .i64) w A L.length L) (hc:L.length≤c):
  Calls Tryz.prog 12 #[.slice A L.length c,.int .i64 x] w fun e w'=>e=.returned (.bool (L.contains x))∧RowKit.Below w.heap.size w w':=by
 have HR:=ak hr
 have HL:=ak hL
 clear hr hL
 go_enter Tryz.func12,Tryz.ntmps12
 go_wp2
 go_loopg [5] L.length (fun kq v5 wr=>∃(k:Nat),v5=.int .i64 k∧Aside0 (k+kq=L.length)∧Aside0 ((L.drop k).contains x=L.contains x)∧Aside0 (RowKit.Below w.heap.size w wr))
 case atStart=>exact⟨0,rfl,⟨by omega⟩,⟨rfl⟩,⟨RowKit.Below.refl _ _⟩⟩
 case round=>
  obtain⟨k,rfl,HK,HC,HB⟩:=hrel
  cases gk with
  | zero=>
   obtain rfl:k=L.length:=by have:=HK.out;omega
   have d1:decide ((L.length:Int) < (L.length:Int))=false:=decide_eq_false (by omega)
   have d2:decide (L.length < L.length)=false:=decide_eq_false (by omega)
   go_wp2
   go_ret
   rw[← HC.out,List.drop_length]
   exact⟨rfl,HB.out⟩
  | succ gk=>
   have hk0:k < L.length:=by have:=HK.out;omega
   have d1:decide ((k:Int) < (L.length:Int))=true:=decide_eq_true (by omega)
   have d2:decide (k < L.length)=true:=decide_eq_true hk0
   obtain⟨ad,e1,z0⟩:=Kd.at_int (Kd.C_below HR.out HB.out) (k:Int) (by omega) (by omega)
   cases e1
   rw[rd_nat L k hk0,Int.toNat_natCast] at z0
   have hd:(L.drop k).contains x=(x==L[k] || (L.drop (k+1)).contains x):=by rw[List.drop_eq_getElem_cons hk0,List.contains_cons]
   generalize L[k]=y at z0 hd
   rw[hd] at HC
   by_cases h1:y=x
   ·subst h1
    have HT:=ak (show L.contains y=true by rw[← HC.out,beq_self_eq_true,Bool.true_or])
    clear hd
    go_wp2
    go_ret
    rw[HT.out]
    exact⟨rfl,HB.out⟩
   ·have e1:(y==x)=false:=beq_eq_false_iff_ne.mpr h1
    have HT:=ak (show(L.drop (k+1)).contains x=L.contains x by rw[← HC.out,beq_eq_false_iff_ne.mpr (Ne.symm h1),Bool.false_or])
    clear hd h1
    go_wp2
    go_roundg gk
    case measure=>omega
    case rel=>exact⟨k+1,by rw[wrap_succ k (by have:=HL.out;omega)],⟨by have:=HK.out;omega⟩,HT,⟨HB.out⟩⟩
end Go.Proofs.YteccdnejnbkbiaaGreat.La
end
section
namespace Go.Proofs.YteccdnejnbkbiaaGreat.La
open Go.RowKit Go.Maps Fr Ext Go.Proofs.YteccdnejnbkbiaaGreat.Nm Dk Mn YteccdnejnbkbiaaGreatW.PrintWords YteccdnejnbkbiaaGreatW.PrintLast YteccdnejnbkbiaaGreatW.PrintMore
theorem sameInts_calls (A A':Option Addr) (c c':Nat) (L X:List Int) (w:World) (hL:L.length≤1000000000) (hr:Kd.C (Kd.int .i64) w A L.length L) (hc:L.length≤c) (hr':Kd.C (Kd.int .i64) w A' X.length X) (hc':X.length≤c'):
  Calls Tryz.prog 14 #[.slice A L.length c,.slice A' X.length c'] w fun e w'=>e=.returned (.bool (decide (L=X)))∧RowKit.Below w.heap.size w w':=by
 have HR:=ak hr
 have HR':=ak hr'
 have HL:=ak hL
 clear hr hr' hL
 go_enter Tryz.func14,Tryz.ntmps14
 by_cases hx:L.length=X.length
 case neg=>
  have e1:((L.length:Int) !=(X.length:Int))=true:=bne_iff_ne.mpr (by omega)
  have e2:(L.length !=X.length)=true:=bne_iff_ne.mpr hx
  have HT:=ak (show decide (L=X)=false from decide_eq_false (fun e=>hx (by rw[e])))
  clear hx
  go_wp2
  go_ret
  rw[HT.out]
  exact⟨rfl,RowKit.Below.refl _ _⟩
 have HX:=ak hx
 have e1:((L.length:Int) !=(X.length:Int))=false:=by rw[hx];simp
 have e2:(L.length !=X.length)=false:=by rw[hx];simp
 clear hx
 go_wp2
 go_loopg [5] L.length (fun kq v5 wr=>∃(k:Nat),v5=.int .i64 k∧Aside0 (k+kq=L.length)∧Aside0 (decide (L.drop k=X.drop k)=decide (L=X))∧Aside0 (RowKit.Below w.heap.size w wr))
 case atStart=>exact⟨0,rfl,⟨by omega⟩,⟨rfl⟩,⟨RowKit.Below.refl _ _⟩⟩
 case round=>
  obtain⟨k,rfl,HK,HC,HB⟩:=hrel
  cases gk with
  | zero=>
   obtain rfl:k=L.length:=by have:=HK.out;omega
   have d1:decide ((L.length:Int) < (L.length:Int))=false:=decide_eq_false (by omega)
   have d2:decide (L.length < L.length)=false:=decide_eq_false (by omega)
   go_wp2
   go_ret
   rw[← HC.out,List.drop_length,List.drop_eq_nil_of_le (by rw[HX.out];exact Nat.le_refl _)]
   exact⟨rfl,HB.out⟩
  | succ gk=>
   have hk0:k < L.length:=by have:=HK.out;omega
   have hk1:k < X.length:=by have:=HX.out;omega
   have d1:decide ((k:Int) < (L.length:Int))=true:=decide_eq_true (by omega)
   have d2:decide (k < L.length)=true:=decide_eq_true hk0
   obtain⟨ad,e1,z0⟩:=Kd.at_int (Kd.C_below HR.out HB.out) (k:Int) (by omega) (by omega)
   cases e1
   obtain⟨ad',e1,z1⟩:=Kd.at_int (Kd.C_below HR'.out HB.out) (k:Int) (by omega) (by omega)
   cases e1
   rw[rd_nat L k hk0,Int.toNat_natCast] at z0
   rw[rd_nat X k hk1,Int.toNat_natCast] at z1
   have hd:L.drop k=X.drop k↔L[k]=X[k]∧L.drop (k+1)=X.drop (k+1):=by rw[List.drop_eq_getElem_cons hk0,List.drop_eq_getElem_cons hk1,List.cons.injEq]
   generalize L[k]=y at z0 hd
   generalize X[k]=z at z1 hd
   by_cases h1:y=z
   ·subst h1
    have e3:(y !=y)=false:=by simp
    have HT:=ak (show decide (L.drop (k+1)=X.drop (k+1))=decide (L=X) by rw[← HC.out];exact decide_eq_decide.mpr ⟨fun h=>hd.2 ⟨rfl,h⟩,fun h=>(hd.1 h).2⟩)
    clear hd
    go_wp2
    repeat (go_quiet (fail);try go_wp2)
    go_roundg gk
    case measure=>omega
    case rel=>exact⟨k+1,by rw[wrap_succ k (by have:=HL.out;omega)],⟨by have:=HK.out;omega⟩,HT,⟨pw_below_drewN HB.out _⟩⟩
   ·have e3:(y !=z)=true:=bne_iff_ne.mpr h1
    have HT:=ak (show decide (L=X)=false by rw[← HC.out];exact decide_eq_false (fun h=>h1 (hd.1 h).1))
    clear hd h1
    go_wp2
    repeat (go_quiet (fail);try go_wp2)
    go_ret
    rw[HT.out]
    exact⟨rfl,pw_below_drewN HB.out _⟩
end Go.Proofs.YteccdnejnbkbiaaGreat.La
end
section
namespace Go.Proofs.YteccdnejnbkbiaaGreat.La
open Go.RowKit Go.Maps Fr Ext Go.Proofs.YteccdnejnbkbiaaGreat.Nm Dk Mn Lg YteccdnejnbkbiaaGreatW.PrintWords YteccdnejnbkbiaaGreatW.PrintLast
open Rc (Re Lo zeroR recC)
def tombR (s:ByteArray):Re:=⟨4,s,0,0,0,[],[]⟩
abbrev kAB:ByteArray:=⟨#[97,98]⟩
abbrev k8:ByteArray:=⟨#[97,98,99,100,101,102,103,104]⟩
def hd0:DiskM:=newM 10000
def lo0:LogS:=⟨64,⟨[],1⟩,-1⟩
def adI (p:DiskM×LogS) (R:Re):DiskM×LogS:=((laddM p.1 p.2 R).1,(laddM p.1 p.2 R).2.1)
def stI:Nat→DiskM×LogS
 | 0=>adI (hd0,lo0) (tombR kAB)
 | i+1=>adI (stI i) (tombR k8)
def dr1:DiskM×LogS×Int:=dropM (stI 6).1 (stI 6).2 [1]
def dr2:DiskM×LogS×Int:=dropM dr1.1 dr1.2.1 [3]
theorem hd_add:(laddM hd0 lo0 (tombR kAB)).2.2.1=1∧(laddM hd0 lo0 (tombR kAB)).2.2.2.1=13∧(laddM hd0 lo0 (tombR kAB)).2.2.2.2.1=11∧(laddM hd0 lo0 (tombR kAB)).2.2.2.2.2=0:=by decide+kernel
theorem hd_last:(stI 6).2.last=3:=by decide+kernel
theorem hd_segs6:(stI 6).2.man.segs.length≤1000000:=by decide+kernel
theorem hd_get:(getLM (stI 6).1 (stI 6).2 1 13).2=0∧(getLM (stI 6).1 (stI 6).2 1 13).1.f0=4∧(getLM (stI 6).1 (stI 6).2 1 13).1.f1.data.toList=[97,98]∧(getLM (stI 6).1 (stI 6).2 1 13).1.f2=0∧(getLM (stI 6).1 (stI 6).2 1 13).1.f3=0∧(getLM (stI 6).1 (stI 6).2 1 13).1.f4=0∧(getLM (stI 6).1 (stI 6).2 1 13).1.f5.length=0∧(getLM (stI 6).1 (stI 6).2 1 13).1.f6.length=0:=by decide+kernel
theorem hd_hints:(hintsM (stI 6).1 (stI 6).2 1).2=true∧(hintsM (stI 6).1 (stI 6).2 1).1.length=2:=by decide+kernel
theorem hd_dr1:dr1.2.2=0∧dr1.2.1.man.segs.length≤1000000:=by decide+kernel
theorem hd_dr2:dr2.2.2=1:=by decide+kernel
theorem hd_get2:(getLM dr2.1 dr2.2.1 1 13).2=3:=by decide+kernel
theorem hd_open2:(openM dr2.1 63).2=1∧(openM dr2.1 63).1.isSome=false:=by decide+kernel
theorem hd_segs:dr2.2.1.man.segs=[2,3]:=by decide+kernel
theorem hd_segsI:∀i,i≤6→(stI i).2.man.segs.length≤1000000:=by decide+kernel
end Go.Proofs.YteccdnejnbkbiaaGreat.La
end
section
namespace Go.Proofs.YteccdnejnbkbiaaGreat.La
open Go.RowKit Go.Maps Fr Ext Go.Proofs.YteccdnejnbkbiaaGreat.Nm Dk Mn YteccdnejnbkbiaaGreatW.PrintWords YteccdnejnbkbiaaGreatW.PrintLast YteccdnejnbkbiaaGreatW.PrintMore
open Rc (Re Lo recC)
theorem C_nil' {α:Type} (k:Kd α) (A:Option Addr) (w:World):Kd.C k w A 0 []:=⟨rfl,Nat.zero_le _,fun h=>absurd h (by omega)⟩
theorem same_ab (n:Int) (s:ByteArray) (A5 A6:Option Addr) (c5 c6:Nat) (w:World):Calls Tryz.prog 22 #[.agg #[.int .i64 n,.string s,.int .i64 0,.int .i64 0,.int .i64 0,.slice A5 0 c5,.slice A6 0 c6],.agg #[.int .i64 n,.string s,.int .i64 0,.int .i64 0,.int .i64 0,.slice none 0 0,.slice none 0 0]] w fun e w'=>e=.returned (.bool true)∧RowKit.Below w.heap.size w w':=by
 have hz1:=heap_alloc_new w (.cells #[.int .i64 n,.string s,.int .i64 0,.int .i64 0,.int .i64 0,.slice A5 0 c5,.slice A6 0 c6] 35)
 have hb1:=below_alloc (RowKit.Below.refl w.heap.size w) (.cells #[.int .i64 n,.string s,.int .i64 0,.int .i64 0,.int .i64 0,.slice A5 0 c5,.slice A6 0 c6] 35)
 have hs1:(w.alloc (.cells #[.int .i64 n,.string s,.int .i64 0,.int .i64 0,.int .i64 0,.slice A5 0 c5,.slice A6 0 c6] 35)).heap.size=w.heap.size+1:=Array.size_push _
 go_enter Tryz.func22,Tryz.ntmps22
 go_upto_region 1 with(fail)
 generalize w.alloc (.cells #[.int .i64 n,.string s,.int .i64 0,.int .i64 0,.int .i64 0,.slice A5 0 c5,.slice A6 0 c6] 35)=w1 at hz1 hb1 hs1 ⊢
 have hz2:=heap_alloc_new w1 (.cells #[.int .i64 n,.string s,.int .i64 0,.int .i64 0,.int .i64 0,.slice none 0 0,.slice none 0 0] 35)
 have hb2:=below_alloc (RowKit.Below.refl w1.heap.size w1) (.cells #[.int .i64 n,.string s,.int .i64 0,.int .i64 0,.int .i64 0,.slice none 0 0,.slice none 0 0] 35)
 have hz1:=(hb2.block _ (blk_lt hz1)).trans hz1
 have HB:=ak (hb1.trans (hb2.mono hb1.size))
 generalize w1.alloc (.cells #[.int .i64 n,.string s,.int .i64 0,.int .i64 0,.int .i64 0,.slice none 0 0,.slice none 0 0] 35)=w2 at hz1 hz2 HB ⊢
 rw[hs1] at hz2
 obtain⟨rb,hrb⟩:∃rb,w.heap.size=rb:=⟨_,rfl⟩
 rw[hrb] at hz1 hz2 ⊢
 clear hrb
 have x0:=bq hz1 0 (.int .i64 n)
 have x1:=bq hz1 1 (.string s)
 have x2:=bq hz1 2 (.int .i64 0)
 have x3:=bq hz1 3 (.int .i64 0)
 have x4:=bq hz1 4 (.int .i64 0)
 have x5:=bq hz1 5 (.slice A5 0 c5)
 have x6:=bq hz1 6 (.slice A6 0 c6)
 have y0:=bq hz2 0 (.int .i64 n)
 have y1:=bq hz2 1 (.string s)
 have y2:=bq hz2 2 (.int .i64 0)
 have y3:=bq hz2 3 (.int .i64 0)
 have y4:=bq hz2 4 (.int .i64 0)
 have y5:=bq hz2 5 (.slice none 0 0)
 have y6:=bq hz2 6 (.slice none 0 0)
 have c1:(convert 33 9 (.slice A6 0 c6)).run Tryz.prog w2=.ok (.string (strOfNums [])) w2:=Kd.C_string Tryz.underlying33 Tryz.underlying5 Tryz.underlying9 (C_nil' _ A6 w2)
 have c2:(convert 33 9 (.slice none 0 0)).run Tryz.prog w2=.ok (.string (strOfNums [])) w2:=Kd.C_string Tryz.underlying33 Tryz.underlying5 Tryz.underlying9 (C_nil' _ none w2)
 clear hz1 hz2 hb1 hb2 hs1
 go_wp2
 go_loopg [5] 0 (fun kq v5 wr=>v5=.int .i64 0∧wr=w2)
 case atStart=>exact⟨rfl,rfl⟩
 case round=>
  obtain⟨rfl,rfl⟩:=hrel
  go_wp2
  go_ret
  exact⟨rfl,HB.out⟩
end Go.Proofs.YteccdnejnbkbiaaGreat.La
end
section
namespace Go.Proofs.YteccdnejnbkbiaaGreat.Lg
open Go.RowKit Go.Maps Fr Ext Go.Proofs.YteccdnejnbkbiaaGreat.Nm Dk Mn YteccdnejnbkbiaaGreatW.PrintWords YteccdnejnbkbiaaGreatW.PrintLast YteccdnejnbkbiaaGreatW.PrintMore
open Sg (segN segN_le segN_ascii putL_le)
open Rc (Norm Norm.intro Norm.elim Re Lo recC)
variable {w w' w1:World} {B l g N:Nat} {M M':DiskM} {F F' G:Nat→Prop} {S S':LogS}
theorem results_tmp4 {fn:Func} {t u v x:Tmp} (h:fn.results=#[.tmp t,.tmp u,.tmp v,.tmp x]) (tmps:Array Value) (P:Program) (w:World):
  (results fn tmps).run P w=.ok (.tuple #[tmps.getD t undef,tmps.getD u undef,tmps.getD v undef,tmps.getD x undef]) w:=by
 simp [results,h]
theorem ladd_calls (hd:DiskAt w B g N M F) (hM:Fit M) (h:LogO w B l g F S) (hsl:S.man.segs.length≤1000000) (hN:N+32≤1000000000000) (R:Re) (A5 A6:Option Addr) (c5 c6:Nat) (h0:(Lit.int .i64 R.f0).wf=true)
  (hl:∀W,Keeps (fun k=>F k∨k=l) w W→Kd.C Pt.k95 W A5 R.f5.length R.f5) (hn:R.f5.length≤1000000000) (h6:∀W,Keeps (fun k=>F k∨k=l) w W→Kd.C (Kd.int .u8) W A6 R.f6.length R.f6):
  Calls Tryz.prog 9 #[ptr l,.agg (recC R A5 c5 A6 c6)] w fun e w'=>e=.returned (.tuple #[.int .i64 (laddM M S R).2.2.1,.int .i64 (laddM M S R).2.2.2.1,.int .i64 (laddM M S R).2.2.2.2.1,.int .i64 (laddM M S R).2.2.2.2.2])∧LTurned w w' B l g (N+32) F (laddM M S R).1 (laddM M S R).2.1:=by
 have HD:=ak hd
 have HM:=ak hM
 have HO:=ak h
 have HN:=ak hN
 have HSL:=ak hsl
 have HL:=ak hl
 have H6:=ak h6
 have HW0:=ak h0
 have HNN:=ak hn
 have hbx:=heap_alloc_new w (.cells (recC R A5 c5 A6 c6) 35)
 have hB:=below_alloc (RowKit.Below.refl w.heap.size w) (.cells (recC R A5 c5 A6 c6) 35)
 have hdef:laddM M S R=if sizeI (Rc.putM R).length=0 then(M,S,0,0,0,1) else if wantsRoll M S (sizeI (Rc.putM R).length)=true then addRoll R (rollM M S) else addEnd M S R:=rfl
 have hrp:=fun W (hW:RowKit.Below w.heap.size w W)=>Rc.Put_calls R A5 A6 c5 c6 W h0 (hl W (Keeps.of_below hW)) hn (h6 W (Keeps.of_below hW))
 generalize Rc.putM R=pm at hdef hrp
 simp only[recC] at hrp
 have HRP:=ak hrp
 have HDEF:=ak hdef
 clear hd hM h hsl hN hl hn h6 h0 hdef hrp
 go_enter Tryz.func9,Tryz.ntmps9
 go_upto_region 1 with(fail)
 generalize w.alloc (.cells (recC R A5 c5 A6 c6) 35)=w2 at hbx hB ⊢
 have HBX:=ak hbx
 have HB2:=ak hB
 obtain⟨rb,hrb⟩:∃rb,w.heap.size=rb:=⟨_,rfl⟩
 rw[hrb] at hbx HBX ⊢
 have HRB:=ak hrb
 clear hrb hB
 have x0:=bq hbx 0 (.int .i64 R.f0)
 have x1:=bq hbx 1 (.string R.f1)
 have x2:=bq hbx 2 (.int .i64 R.f2)
 have x3:=bq hbx 3 (.int .i64 R.f3)
 have x4:=bq hbx 4 (.int .i64 R.f4)
 have x5:=bq hbx 5 (.slice A5 R.f5.length c5)
 have x6:=bq hbx 6 (.slice A6 R.f6.length c6)
 clear hbx
 go_upto_region 2 with(first
  | (go_at_call 25;(with_reducible refine(HRP.out _ HB2.out).mono ?_);rintro e w3 ⟨v,rfl,hr3,hb3⟩;obtain⟨A4,c4,hv⟩:=Kd.R_slice hr3;subst hv;have HB3:=ak (HB2.out.trans (hb3.mono HB2.out.size));have HB23:=ak hb3;clear hr3 hb3)
  | (go_at_call 24;(with_reducible refine(Fr.size_calls _ _).mono ?_);rintro e w4 ⟨rfl,rfl⟩))
 have hdef:=HDEF.out
 generalize sizeI (pm.length:Int)=z at hdef ⊢
 by_cases hz:z=0
 ·subst hz
  have HDEF1:=ak hdef
  clear hdef HDEF
  go_wp2
  (try simp only[Exit.inBlock,Exit.then])
  refine bodyPost_ret (results_tmp4 rfl _ _ _) rfl ?_
  rw[HDEF1.out,if_pos (by trivial)]
  exact⟨rfl,(LTurned.of_turned HO.out (Turned.of_below HD.out HB3.out)).mono (by omega)⟩
 have dz:(z==0)=false:=beq_eq_false_iff_ne.mpr hz
 rw[if_neg hz] at hdef
 have HO3:=ak (HO.out.below HB3.out)
 have HD3:=ak (HD.out.below HB3.out)
 have HSZ:=ak (fun W (hW:RowKit.Below w3.heap.size w3 W)=>Sg.Size_calls (HD3.out.below hW) S.last)
 obtain⟨⟨A,c,b1,-,-⟩,-,-⟩:=HO3.out
 have y0:=bq b1 0 (ptr g)
 have y4:=bq b1 4 (.int .i64 S.last)
 have hwr:wantsRoll M S z=(decide (S.last < 0) || (decide (sizeM M (segN S.last) > 13) && decide (wrap64 (sizeM M (segN S.last)+z) > S.limit))):=rfl
 generalize sizeM M (segN S.last)=z1 at hwr HSZ
 have HWR:=ak hwr
 have HDEF1:=ak hdef
 clear hz hdef HDEF b1 hwr x0 x1 x2 x3 x4 x5 x6
 go_upto_region 4 with(fail)
 go_region_with (go_at_call 26;(with_reducible refine(HSZ.out _ ((RowKit.Below.refl w3.heap.size w3).drew)).mono ?_);rintro e w4 ⟨rfl,hb4⟩;have HB34:=ak ((RowKit.Below.refl w3.heap.size w3).drew.trans hb4);clear hb4)
 all_goals
  try go_upto_region 5 with(fail)
  have HB4:=ak (HB3.out.trans (HB34.out.mono HB3.out.size))
  have hx4:w4.heap[rb]? =some (.cells (recC R A5 c5 A6 c6) 35 (0,0)):=((HB23.out.trans (HB34.out.mono HB23.out.size)).block _ (blk_lt HBX.out)).trans HBX.out
  have HX4:=ak hx4
  simp only[recC] at hx4
  have x0:=bq hx4 0 (.int .i64 R.f0)
  have x1:=bq hx4 1 (.string R.f1)
  have x2:=bq hx4 2 (.int .i64 R.f2)
  have x3:=bq hx4 3 (.int .i64 R.f3)
  have x4:=bq hx4 4 (.int .i64 R.f4)
  have x5:=bq hx4 5 (.slice A5 R.f5.length c5)
  have x6:=bq hx4 6 (.slice A6 R.f6.length c6)
  have HO4:=ak (HO.out.below HB4.out)
  obtain⟨⟨A1,c1,b1,-,-⟩,-,-⟩:=HO4.out
  have z0:=bq b1 0 (ptr g)
  have z1':=bq b1 1 (.int .i64 S.limit)
  have z4:=bq b1 4 (.int .i64 S.last)
  clear hx4 b1 y0 y4
  by_cases h1:S.last < 0
  case pos=>
   have d1:decide (S.last < 0)=true:=decide_eq_true h1
   have HR:=ak (show wantsRoll M S z=true by rw[HWR.out,d1];rfl)
   clear h1
   have hdef:=HDEF1.out
   rw[if_pos HR.out] at hdef
   have hro:=roll_calls (HD.out.below HB4.out) HM.out HO4.out HSL.out HN.out
   have hrf:=rollM_fit HM.out S
   generalize rollM M S=p at hdef hro hrf
   obtain⟨M5,S5,e5⟩:=p
   have HRO:=ak hro
   have HFM:=ak hrf
   have HDEF4:=ak hdef
   clear hdef HDEF1 hro hrf
   go_upto_region 7 with(go_at_call 17;(with_reducible refine HRO.out.mono ?_);rintro e w5 ⟨rfl,h5⟩;have H5:=ak h5;clear h5)
   by_cases he:e5=0
   case neg=>
    have d9:(e5 !=0)=true:=bne_iff_ne.mpr he
    have HE:=ak he
    clear he
    go_wp2
    (try simp only[Exit.inBlock,Exit.then])
    refine bodyPost_ret (results_tmp4 rfl _ _ _) rfl ?_
    rw[HDEF4.out,show addRoll R (M5,S5,e5)=(M5,S5,0,0,0,e5) by unfold addRoll;rw[if_neg HE.out]]
    exact⟨rfl,LTurned.after HB4.out H5.out⟩
   subst he
   have HDEF5:=ak (HDEF4.out.trans (show addRoll R (M5,S5,0)=addEnd M5 S5 R by unfold addRoll;rw[if_pos (by trivial)]))
   have HT:=ak (LTurned.after HB4.out H5.out)
   obtain⟨F1,hd1,hs1,hs2,ho1,hk1⟩:=H5.out
   have hrbl:rb≠l:=fun e=>by have h1:=HO.out.lt;have h2:=HRB.out;omega
   have hrbf:¬F rb:=fun hf=>by have h1:=HD.out.lt _ hf;have h2:=HRB.out;omega
   have hx5:w5.heap[rb]? =some (.cells (recC R A5 c5 A6 c6) 35 (0,0)):=hk1.obj HX4.out (fun h=>h.elim hrbf hrbl)
   simp only[recC] at hx5
   clear x0 x1 x2 x3 x4 x5 x6 hd1 hs1 hs2 ho1 hk1 hrbl hrbf z0 z1' z4
   have x0:=bq hx5 0 (.int .i64 R.f0)
   have x1:=bq hx5 1 (.string R.f1)
   have x2:=bq hx5 2 (.int .i64 R.f2)
   have x3:=bq hx5 3 (.int .i64 R.f3)
   have x4:=bq hx5 4 (.int .i64 R.f4)
   have x5:=bq hx5 5 (.slice A5 R.f5.length c5)
   have x6:=bq hx5 6 (.slice A6 R.f6.length c6)
   clear hx5
   obtain⟨F2,hd2,hs1,hs2,ho2,hk2⟩:=HT.out
   have had:=fun W (hW:RowKit.Below w5.heap.size w5 W)=>Sg.add_calls (hd2.below hW) HFM.out S5.last R A5 A6 c5 c6 HW0.out (HL.out W (hk2.trans (Keeps.of_below hW))) HNN.out (H6.out W (hk2.trans (Keeps.of_below hW)))
   simp only[recC] at had
   have hdef:=HDEF5.out
   unfold addEnd at hdef
   generalize Sg.addM M5 S5.last R=p at hdef had
   obtain⟨M6,at6,n6,e6⟩:=p
   have HAD:=ak had
   have HDEF6:=ak hdef
   have HD2:=ak hd2
   have HO2:=ak ho2
   have HG:=ak (And.intro hs1 (And.intro hs2 hk2))
   obtain⟨⟨A,c,b1,-,-⟩,-,-⟩:=ho2
   have u0:=bq b1 0 (ptr g)
   have u4:=bq b1 4 (.int .i64 S5.last)
   clear hd2 hs1 hs2 hk2 had hdef b1 HDEF5
   go_upto_region 9 with(fail)
   go_region_with (go_at_call 27;(with_reducible refine(HAD.out _ ((RowKit.Below.refl w5.heap.size w5).drew)).mono ?_);rintro e w6 ⟨rfl,h9⟩;have H9:=ak (Turned.after (Keeps.of_below ((RowKit.Below.refl w5.heap.size w5).drew)) h9);clear h9)
   all_goals
    try go_upto_region 10 with(fail)
    have HFIN:=ak (LTurned.glue HG.out.1 HG.out.2.1 HG.out.2.2 (LTurned.of_turned HO2.out H9.out))
    obtain⟨F3,hd3,hs31,hs32,hk3,ho3⟩:=HO2.out.turned H9.out
    obtain⟨⟨A9,c9,b9,-,-⟩,-,-⟩:=ho3
    have v4:=bq b9 4 (.int .i64 S5.last)
    clear hd3 hs31 hs32 hk3 b9
    by_cases he:e6=0
    ·subst he
     go_wp2
     (try simp only[Exit.inBlock,Exit.then])
     refine bodyPost_ret (results_tmp4 rfl _ _ _) rfl ?_
     rw[HDEF6.out,if_pos (by trivial)]
     exact⟨rfl,HFIN.out⟩
    ·have d9:(e6 !=0)=true:=bne_iff_ne.mpr he
     have HE:=ak he
     clear he
     go_wp2
     (try simp only[Exit.inBlock,Exit.then])
     refine bodyPost_ret (results_tmp4 rfl _ _ _) rfl ?_
     rw[HDEF6.out,if_neg HE.out]
     exact⟨rfl,HFIN.out⟩
  have d1:decide (S.last < 0)=false:=decide_eq_false h1
  by_cases h2:z1 > 13
  case neg=>
   have d2:decide (z1 > 13)=false:=decide_eq_false h2
   have d2':decide (13 < z1)=false:=d2
   have HR:=ak (show ¬(wantsRoll M S z=true) by rw[HWR.out,d1,d2];simp)
   clear h1 h2
   have HDEF5:=ak (show laddM M S R=addEnd M S R by have h:=HDEF1.out;rw[if_neg HR.out] at h;exact h)
   have HFM:=HM
   have HT:=ak ((LTurned.of_turned HO.out (Turned.of_below HD.out HB4.out)).mono (show N≤N+32 by omega))
   clear HDEF1
   obtain⟨F2,hd2,hs1,hs2,ho2,hk2⟩:=HT.out
   have had:=fun W (hW:RowKit.Below w4.heap.size w4 W)=>Sg.add_calls (hd2.below hW) HFM.out S.last R A5 A6 c5 c6 HW0.out (HL.out W (hk2.trans (Keeps.of_below hW))) HNN.out (H6.out W (hk2.trans (Keeps.of_below hW)))
   simp only[recC] at had
   have hdef:=HDEF5.out
   unfold addEnd at hdef
   generalize Sg.addM M S.last R=p at hdef had
   obtain⟨M6,at6,n6,e6⟩:=p
   have HAD:=ak had
   have HDEF6:=ak hdef
   have HD2:=ak hd2
   have HO2:=ak ho2
   have HG:=ak (And.intro hs1 (And.intro hs2 hk2))
   obtain⟨⟨A,c,b1,-,-⟩,-,-⟩:=ho2
   have u0:=bq b1 0 (ptr g)
   have u4:=bq b1 4 (.int .i64 S.last)
   clear hd2 hs1 hs2 hk2 had hdef b1 HDEF5
   go_upto_region 9 with(fail)
   go_region_with (go_at_call 27;(with_reducible refine(HAD.out _ ((RowKit.Below.refl w4.heap.size w4).drew)).mono ?_);rintro e w6 ⟨rfl,h9⟩;have H9:=ak (Turned.after (Keeps.of_below ((RowKit.Below.refl w4.heap.size w4).drew)) h9);clear h9)
   all_goals
    try go_upto_region 10 with(fail)
    have HFIN:=ak (LTurned.glue HG.out.1 HG.out.2.1 HG.out.2.2 (LTurned.of_turned HO2.out H9.out))
    obtain⟨F3,hd3,hs31,hs32,hk3,ho3⟩:=HO2.out.turned H9.out
    obtain⟨⟨A9,c9,b9,-,-⟩,-,-⟩:=ho3
    have v4:=bq b9 4 (.int .i64 S.last)
    clear hd3 hs31 hs32 hk3 b9
    by_cases he:e6=0
    ·subst he
     go_wp2
     (try simp only[Exit.inBlock,Exit.then])
     refine bodyPost_ret (results_tmp4 rfl _ _ _) rfl ?_
     rw[HDEF6.out,if_pos (by trivial)]
     exact⟨rfl,HFIN.out⟩
    ·have d9:(e6 !=0)=true:=bne_iff_ne.mpr he
     have HE:=ak he
     clear he
     go_wp2
     (try simp only[Exit.inBlock,Exit.then])
     refine bodyPost_ret (results_tmp4 rfl _ _ _) rfl ?_
     rw[HDEF6.out,if_neg HE.out]
     exact⟨rfl,HFIN.out⟩
  have d2:decide (z1 > 13)=true:=decide_eq_true h2
  have d2':decide (13 < z1)=true:=d2
  by_cases h3:wrap64 (z1+z) > S.limit
  case pos=>
   have d3:decide (wrap64 (z1+z) > S.limit)=true:=decide_eq_true h3
   have d3':decide (S.limit < wrap64 (z1+z))=true:=d3
   have HR:=ak (show wantsRoll M S z=true by rw[HWR.out,d1,d2,d3];rfl)
   clear h1 h2 h3
   have hdef:=HDEF1.out
   rw[if_pos HR.out] at hdef
   have hro:=roll_calls (HD.out.below HB4.out) HM.out HO4.out HSL.out HN.out
   have hrf:=rollM_fit HM.out S
   generalize rollM M S=p at hdef hro hrf
   obtain⟨M5,S5,e5⟩:=p
   have HRO:=ak hro
   have HFM:=ak hrf
   have HDEF4:=ak hdef
   clear hdef HDEF1 hro hrf
   go_upto_region 7 with(go_at_call 17;(with_reducible refine HRO.out.mono ?_);rintro e w5 ⟨rfl,h5⟩;have H5:=ak h5;clear h5)
   by_cases he:e5=0
   case neg=>
    have d9:(e5 !=0)=true:=bne_iff_ne.mpr he
    have HE:=ak he
    clear he
    go_wp2
    (try simp only[Exit.inBlock,Exit.then])
    refine bodyPost_ret (results_tmp4 rfl _ _ _) rfl ?_
    rw[HDEF4.out,show addRoll R (M5,S5,e5)=(M5,S5,0,0,0,e5) by unfold addRoll;rw[if_neg HE.out]]
    exact⟨rfl,LTurned.after HB4.out H5.out⟩
   subst he
   have HDEF5:=ak (HDEF4.out.trans (show addRoll R (M5,S5,0)=addEnd M5 S5 R by unfold addRoll;rw[if_pos (by trivial)]))
   have HT:=ak (LTurned.after HB4.out H5.out)
   obtain⟨F1,hd1,hs1,hs2,ho1,hk1⟩:=H5.out
   have hrbl:rb≠l:=fun e=>by have h1:=HO.out.lt;have h2:=HRB.out;omega
   have hrbf:¬F rb:=fun hf=>by have h1:=HD.out.lt _ hf;have h2:=HRB.out;omega
   have hx5:w5.heap[rb]? =some (.cells (recC R A5 c5 A6 c6) 35 (0,0)):=hk1.obj HX4.out (fun h=>h.elim hrbf hrbl)
   simp only[recC] at hx5
   clear x0 x1 x2 x3 x4 x5 x6 hd1 hs1 hs2 ho1 hk1 hrbl hrbf z0 z1' z4
   have x0:=bq hx5 0 (.int .i64 R.f0)
   have x1:=bq hx5 1 (.string R.f1)
   have x2:=bq hx5 2 (.int .i64 R.f2)
   have x3:=bq hx5 3 (.int .i64 R.f3)
   have x4:=bq hx5 4 (.int .i64 R.f4)
   have x5:=bq hx5 5 (.slice A5 R.f5.length c5)
   have x6:=bq hx5 6 (.slice A6 R.f6.length c6)
   clear hx5
   obtain⟨F2,hd2,hs1,hs2,ho2,hk2⟩:=HT.out
   have had:=fun W (hW:RowKit.Below w5.heap.size w5 W)=>Sg.add_calls (hd2.below hW) HFM.out S5.last R A5 A6 c5 c6 HW0.out (HL.out W (hk2.trans (Keeps.of_below hW))) HNN.out (H6.out W (hk2.trans (Keeps.of_below hW)))
   simp only[recC] at had
   have hdef:=HDEF5.out
   unfold addEnd at hdef
   generalize Sg.addM M5 S5.last R=p at hdef had
   obtain⟨M6,at6,n6,e6⟩:=p
   have HAD:=ak had
   have HDEF6:=ak hdef
   have HD2:=ak hd2
   have HO2:=ak ho2
   have HG:=ak (And.intro hs1 (And.intro hs2 hk2))
   obtain⟨⟨A,c,b1,-,-⟩,-,-⟩:=ho2
   have u0:=bq b1 0 (ptr g)
   have u4:=bq b1 4 (.int .i64 S5.last)
   clear hd2 hs1 hs2 hk2 had hdef b1 HDEF5
   go_upto_region 9 with(fail)
   go_region_with (go_at_call 27;(with_reducible refine(HAD.out _ ((RowKit.Below.refl w5.heap.size w5).drew)).mono ?_);rintro e w6 ⟨rfl,h9⟩;have H9:=ak (Turned.after (Keeps.of_below ((RowKit.Below.refl w5.heap.size w5).drew)) h9);clear h9)
   all_goals
    try go_upto_region 10 with(fail)
    have HFIN:=ak (LTurned.glue HG.out.1 HG.out.2.1 HG.out.2.2 (LTurned.of_turned HO2.out H9.out))
    obtain⟨F3,hd3,hs31,hs32,hk3,ho3⟩:=HO2.out.turned H9.out
    obtain⟨⟨A9,c9,b9,-,-⟩,-,-⟩:=ho3
    have v4:=bq b9 4 (.int .i64 S5.last)
    clear hd3 hs31 hs32 hk3 b9
    by_cases he:e6=0
    ·subst he
     go_wp2
     (try simp only[Exit.inBlock,Exit.then])
     refine bodyPost_ret (results_tmp4 rfl _ _ _) rfl ?_
     rw[HDEF6.out,if_pos (by trivial)]
     exact⟨rfl,HFIN.out⟩
    ·have d9:(e6 !=0)=true:=bne_iff_ne.mpr he
     have HE:=ak he
     clear he
     go_wp2
     (try simp only[Exit.inBlock,Exit.then])
     refine bodyPost_ret (results_tmp4 rfl _ _ _) rfl ?_
     rw[HDEF6.out,if_neg HE.out]
     exact⟨rfl,HFIN.out⟩
  have d3:decide (wrap64 (z1+z) > S.limit)=false:=decide_eq_false h3
  have d3':decide (S.limit < wrap64 (z1+z))=false:=d3
  have HR:=ak (show ¬(wantsRoll M S z=true) by rw[HWR.out,d1,d2,d3];decide)
  clear h1 h2 h3
  have HDEF5:=ak (show laddM M S R=addEnd M S R by have h:=HDEF1.out;rw[if_neg HR.out] at h;exact h)
  have HFM:=HM
  have HT:=ak ((LTurned.of_turned HO.out (Turned.of_below HD.out HB4.out)).mono (show N≤N+32 by omega))
  clear HDEF1
  obtain⟨F2,hd2,hs1,hs2,ho2,hk2⟩:=HT.out
  have had:=fun W (hW:RowKit.Below w4.heap.size w4 W)=>Sg.add_calls (hd2.below hW) HFM.out S.last R A5 A6 c5 c6 HW0.out (HL.out W (hk2.trans (Keeps.of_below hW))) HNN.out (H6.out W (hk2.trans (Keeps.of_below hW)))
  simp only[recC] at had
  have hdef:=HDEF5.out
  unfold addEnd at hdef
  generalize Sg.addM M S.last R=p at hdef had
  obtain⟨M6,at6,n6,e6⟩:=p
  have HAD:=ak had
  have HDEF6:=ak hdef
  have HD2:=ak hd2
  have HO2:=ak ho2
  have HG:=ak (And.intro hs1 (And.intro hs2 hk2))
  obtain⟨⟨A,c,b1,-,-⟩,-,-⟩:=ho2
  have u0:=bq b1 0 (ptr g)
  have u4:=bq b1 4 (.int .i64 S.last)
  clear hd2 hs1 hs2 hk2 had hdef b1 HDEF5
  go_upto_region 9 with(fail)
  go_region_with (go_at_call 27;(with_reducible refine(HAD.out _ ((RowKit.Below.refl w4.heap.size w4).drew)).mono ?_);rintro e w6 ⟨rfl,h9⟩;have H9:=ak (Turned.after (Keeps.of_below ((RowKit.Below.refl w4.heap.size w4).drew)) h9);clear h9)
  all_goals
   try go_upto_region 10 with(fail)
   have HFIN:=ak (LTurned.glue HG.out.1 HG.out.2.1 HG.out.2.2 (LTurned.of_turned HO2.out H9.out))
   obtain⟨F3,hd3,hs31,hs32,hk3,ho3⟩:=HO2.out.turned H9.out
   obtain⟨⟨A9,c9,b9,-,-⟩,-,-⟩:=ho3
   have v4:=bq b9 4 (.int .i64 S.last)
   clear hd3 hs31 hs32 hk3 b9
   by_cases he:e6=0
   ·subst he
    go_wp2
    (try simp only[Exit.inBlock,Exit.then])
    refine bodyPost_ret (results_tmp4 rfl _ _ _) rfl ?_
    rw[HDEF6.out,if_pos (by trivial)]
    exact⟨rfl,HFIN.out⟩
   ·have d9:(e6 !=0)=true:=bne_iff_ne.mpr he
    have HE:=ak he
    clear he
    go_wp2
    (try simp only[Exit.inBlock,Exit.then])
    refine bodyPost_ret (results_tmp4 rfl _ _ _) rfl ?_
    rw[HDEF6.out,if_neg HE.out]
    exact⟨rfl,HFIN.out⟩
end Go.Proofs.YteccdnejnbkbiaaGreat.Lg
end
section
namespace Go.Proofs.YteccdnejnbkbiaaGreat.La
open Go.RowKit Go.Maps Go.WideShapes Fr Ext Go.Proofs.YteccdnejnbkbiaaGreat.Nm Dk Mn Lg YteccdnejnbkbiaaGreatW.PrintWords YteccdnejnbkbiaaGreatW.PrintLast YteccdnejnbkbiaaGreatW.PrintMore
open Rc (Re Lo zeroR recC Norm Norm.intro Norm.elim)
variable {w w' w1:World} {B l g N:Nat} {M M':DiskM} {F F' G:Nat→Prop} {S S':LogS}
def hd20T:Bool×List (List Nat×List Nat):=(true,[([],[]),([0],[0]),([1],[1]),([2],[2]),([3,2],[2,3]),([2,4],[2,4]),([5,2],[5]),([6],[6]),([7,6],[6,7]),([6,8],[6,8]),([9,6],[9]),([10],[10]),([11,10],[10,11]),([10,12],[10,12]),([13,10],[13]),([14],[14]),([15,14],[14,15]),([14,16],[14,16]),([17,14],[17]),([18],[18]),([19,18],[18,19]),([18,20],[18,20]),([21,18],[21]),([22],[22]),([22,23],[22,23]),([24,22],[24]),([25],[25]),([25,25],[25]),([26,27,27,25],[25,26,27]),([25,28],[25,28]),([29,28],[29]),([30],[30]),([31,30],[30,31]),([30,32],[30,32]),([33,30],[33]),([34],[34]),([35,34],[34,35]),([36,34],[34,36]),([34,37],[34,37]),([38,34],[38]),([39],[39]),([39,40],[39,40]),([41,39],[41]),([42],[42]),([43,42],[42,43]),([42,44],[42,44]),([45,42],[45]),([46],[46]),([47,46],[46,47]),([46,48],[46,48]),([49,46],[49]),([50],[50]),([51,50],[50,51]),([50,52],[50,52]),([53,50],[53]),([54],[54]),([55,54],[54,55]),([54,56],[54,56]),([57,54],[57]),([58],[58]),([59,58,58],[58,59]),([58],[58]),([60,61,60,58],[58,60,61]),([58,62],[58,62]),([63,62,0,1,2,3,4,5,6,7,8,9,10,11,12,13,14,15,16,17,18,19,20,21,22,23,24,25,26,27,28,29,30,31,32,33,34,35,36,37,38,39,40,41,42,43,44,45,46,47,48,49,50,51,52,53,54,55,56,57,58,59,60,61,62,63],[63])])
def hd20B:List Nat:=[0,1,3,7,15,31,63,127,255,511,1023,2047,4095,8191,16383,32767,65535,131071,262143,524287,1048575,2097151,4194303,8388607,16777215,33554431,67108863,67108863,268435455,536870911,1073741823,2147483647,4294967295,8589934591,17179869183,34359738367,68719476735,137438953471,274877906943,549755813887,1099511627775,2199023255551,4398046511103,8796093022207,17592186044415,35184372088831,70368744177663,140737488355327,281474976710655,562949953421311,1125899906842623,2251799813685247,4503599627370495,9007199254740991,18014398509481983,36028797018963967,72057594037927935,144115188075855871,288230376151711743,576460752303423487,1152921504606846975,576460752303423487,4611686018427387903,9223372036854775807,18446744073709551615]
theorem hd20tab:rtab .any (opsOf Tryz.f6 20)=hd20T:=by kernel_rfl
theorem hd20bits:waitsOk hd20T.2 hd20B=true:=by kernel_rfl
theorem below_turned {w0 w w':World} {N':Nat} {M':DiskM} {S':LogS} (hb:RowKit.Below w0.heap.size w0 w) (hd:DiskAt w w0.heap.size g N M F) (ho:LogO w w0.heap.size l g F S) (ht:LTurned w w' w0.heap.size l g N' F M' S'):RowKit.Below w0.heap.size w0 w':=by
 obtain⟨F',h1,h2,h3,h4,h5⟩:=ht
 refine Rc.below_keeps hb h5 (fun k hk=>?_)
 rcases hk with hk | rfl
 ·exact hd.base k hk
 ·exact ho.above
theorem tomb_bytes (s:ByteArray):IsBytes (Rc.putM (tombR s)):=putM_isBytes _ (fun x hx=>by cases hx)
theorem adI_fit {p:DiskM×LogS} (h:Fit p.1) (s:ByteArray):Fit (adI p (tombR s)).1:=laddM_fit h _ _ (tomb_bytes s)
theorem stI_fit:∀i,Fit (stI i).1
 | 0=>adI_fit (p:=(hd0,lo0)) (Fit.new _) _
 | i+1=>adI_fit (stI_fit i) _
theorem dr1_fit:Fit dr1.1:=dropM_fit (stI_fit 6) _ _
theorem dr2_fit:Fit dr2.1:=dropM_fit dr1_fit _ _
theorem hd_re:getLM (stI 6).1 (stI 6).2 1 13=(tombR kAB,0):=by
 obtain⟨h0,h1,h2,h3,h4,h5,h6,h7⟩:=hd_get
 generalize getLM (stI 6).1 (stI 6).2 1 13=q at *
 obtain⟨⟨f0,f1,f2,f3,f4,f5,f6⟩,e⟩:=q
 dsimp only at *
 have e1:f1=kAB:=bytes_inj h2
 rw[h0,h1,e1,h3,h4,h5,List.eq_nil_of_length_eq_zero h6,List.eq_nil_of_length_eq_zero h7]
 rfl
theorem C_nil {α:Type} (k:Kd α) (w:World):Kd.C k w none 0 []:=⟨rfl,Nat.zero_le _,fun h=>absurd h (by omega)⟩
theorem addT (s:ByteArray) (hd:DiskAt w B g N M F) (hM:Fit M) (h:LogO w B l g F S) (hsl:S.man.segs.length≤1000000) (hN:N+32≤1000000000000):
  Calls Tryz.prog 9 #[ptr l,.agg #[.int .i64 4,.string s,.int .i64 0,.int .i64 0,.int .i64 0,.slice none 0 0,.slice none 0 0]] w fun e w'=>e=.returned (.tuple #[.int .i64 (laddM M S (tombR s)).2.2.1,.int .i64 (laddM M S (tombR s)).2.2.2.1,.int .i64 (laddM M S (tombR s)).2.2.2.2.1,.int .i64 (laddM M S (tombR s)).2.2.2.2.2])∧LTurned w w' B l g (N+32) F (laddM M S (tombR s)).1 (laddM M S (tombR s)).2.1:=
 ladd_calls hd hM h hsl hN (tombR s) none none 0 0 rfl (fun W _=>C_nil _ W) (Nat.zero_le _) (fun W _=>C_nil _ W)
theorem addT0 (hd:DiskAt w B g N hd0 F) (h:LogO w B l g F lo0) (hN:N+32≤1000000000000):
  Calls Tryz.prog 9 #[ptr l,.agg #[.int .i64 4,.string kAB,.int .i64 0,.int .i64 0,.int .i64 0,.slice none 0 0,.slice none 0 0]] w fun e w'=>e=.returned (.tuple #[.int .i64 1,.int .i64 13,.int .i64 11,.int .i64 0])∧LTurned w w' B l g (N+32) F (stI 0).1 (stI 0).2:=
 (addT kAB hd (Fit.new _) h (by decide) hN).mono (by
  rintro e w' ⟨rfl,ht⟩
  obtain⟨e1,e2,e3,e4⟩:=hd_add
  exact⟨by rw[e1,e2,e3,e4],ht⟩)
theorem addTi (i:Nat) (hi:i≤6) (hd:DiskAt w B g N (stI i).1 F) (h:LogO w B l g F (stI i).2) (hN:N+32≤1000000000000):
  Calls Tryz.prog 9 #[ptr l,.agg #[.int .i64 4,.string k8,.int .i64 0,.int .i64 0,.int .i64 0,.slice none 0 0,.slice none 0 0]] w fun e w'=>∃v,e=.returned v∧LTurned w w' B l g (N+32) F (stI (i+1)).1 (stI (i+1)).2:=
 (addT k8 hd (stI_fit i) h (hd_segsI i hi) hN).mono (by
  rintro e w' ⟨rfl,ht⟩
  exact⟨_,rfl,ht⟩)
structure HAt (W w:World) (g l N:Nat) (M:DiskM) (S:LogS):Prop where
 ex:∃F,DiskAt w W.heap.size g N M F∧LogO w W.heap.size l g F S
 bel:RowKit.Below W.heap.size W w
theorem HAt.turned {W:World} {N':Nat} (hd:DiskAt w W.heap.size g N M F) (hl:LogO w W.heap.size l g F S) (hb:RowKit.Below W.heap.size W w) (ht:LTurned w w' W.heap.size l g N' F M' S'):HAt W w' g l N' M' S':=by
 have ht':=ht
 obtain⟨F',h1,h2,h3,h4,h5⟩:=ht
 exact⟨⟨F',h1,h4⟩,below_turned hb hd hl ht'⟩
theorem HAt.below {W:World} (h:HAt W w g l N M S) (hb:RowKit.Below w.heap.size w w'):HAt W w' g l N M S:=by
 obtain⟨F,hd,hl⟩:=h.ex
 exact⟨⟨F,hd.below hb,hl.below hb⟩,h.bel.trans (hb.mono h.bel.size)⟩
theorem HAt.last0 {W:World} (h:HAt W w g l 0 hd0 lo0):Calls Tryz.prog 11 #[ptr l] w fun e w'=>e=.returned (.tuple #[.int .i64 0,.bool false])∧RowKit.Below w.heap.size w w':=by
 obtain⟨F,hd,hl⟩:=h.ex
 exact last_calls hl
theorem HAt.add0 {W:World} (h:HAt W w g l 0 hd0 lo0):Calls Tryz.prog 9 #[ptr l,.agg #[.int .i64 4,.string kAB,.int .i64 0,.int .i64 0,.int .i64 0,.slice none 0 0,.slice none 0 0]] w fun e w'=>e=.returned (.tuple #[.int .i64 1,.int .i64 13,.int .i64 11,.int .i64 0])∧HAt W w' g l 32 (stI 0).1 (stI 0).2:=by
 obtain⟨F,hd,hl⟩:=h.ex
 exact(addT0 hd hl (by decide)).mono (fun e w' he=>⟨he.1,HAt.turned hd hl h.bel he.2⟩)
theorem HAt.addi {W:World} (i:Nat) (hi:i≤6) (h:HAt W w g l N (stI i).1 (stI i).2) (hN:N+32≤1000000000000):Calls Tryz.prog 9 #[ptr l,.agg #[.int .i64 4,.string k8,.int .i64 0,.int .i64 0,.int .i64 0,.slice none 0 0,.slice none 0 0]] w fun e w'=>∃v,e=.returned v∧HAt W w' g l (N+32) (stI (i+1)).1 (stI (i+1)).2:=by
 obtain⟨F,hd,hl⟩:=h.ex
 exact(addTi i hi hd hl hN).mono (fun e w' he=>by obtain⟨v,h1,h2⟩:=he;exact⟨v,h1,HAt.turned hd hl h.bel h2⟩)
theorem own_one {w:World} {base sb:Nat} {n:Int} (h:w.heap[sb]? =some (.cells #[.int .i64 n] 3 (0,0))) (hb:base≤sb):w.ownsRow base 3 1 (.slice (some ⟨sb,0,none⟩) 1 1) 1 (nums .i64 [n]):=
 ⟨rfl,.inr ⟨sb,1,_,rfl,hb,h,Nat.le_refl _,by decide,rfl,rfl⟩⟩
theorem own_two {w:World} {base sb:Nat} {n m:Int} (h:w.heap[sb]? =some (.cells #[.int .i64 n,.int .i64 m] 3 (0,0))) (hb:base≤sb):w.ownsRow base 3 1 (.slice (some ⟨sb,0,none⟩) 2 2) 2 (nums .i64 [n,m]):=
 ⟨rfl,.inr ⟨sb,2,_,rfl,hb,h,Nat.le_refl _,by decide,rfl,rfl⟩⟩
theorem HAt.segs2 {W:World} (h:HAt W w g l N dr2.1 dr2.2.1):Calls Tryz.prog 10 #[ptr l] w fun e w'=>∃(A:Option Addr) (c:Nat),e=.returned (.slice A 2 c)∧Kd.C (Kd.int .i64) w' A 2 [2,3]∧2≤c∧RowKit.Below w.heap.size w w':=by
 obtain⟨F,hd,hl⟩:=h.ex
 have h1:=segs_calls hl (by rw[hd_segs];decide)
 rw[hd_segs] at h1
 refine h1.mono ?_
 rintro e w' ⟨v,rfl,hr,hb⟩
 obtain⟨A,c,rfl⟩:=Kd.R_slice hr
 exact⟨A,c,rfl,(Kd.R_reads' hr).2.2,(Kd.R_reads' hr).2.1,hb⟩
theorem same_23 (A:Option Addr) (c sb:Nat) (w:World) (hr:Kd.C (Kd.int .i64) w A 2 [2,3]) (hc:2≤c) (hz:w.heap[sb]? =some (.cells #[.int .i64 2,.int .i64 3] 3 (0,0))):Calls Tryz.prog 14 #[.slice A 2 c,.slice (some ⟨sb,0,none⟩) 2 2] w fun e w'=>e=.returned (.bool true)∧RowKit.Below w.heap.size w w':=
 sameInts_calls A (some ⟨sb,0,none⟩) c 2 [2,3] [2,3] w (by decide) hr hc (Kd.R_reads' (R_ints (own_two hz (Nat.zero_le _)))).2.2 (Nat.le_refl _)
theorem hd_dr1':(dropM (stI 6).1 (stI 6).2 [1]).2.2=0:=hd_dr1.1
theorem hd_dr2':(dropM dr1.1 dr1.2.1 [3]).2.2=1:=hd_dr2
theorem HAt.last6 {W:World} (h:HAt W w g l N (stI 6).1 (stI 6).2):Calls Tryz.prog 11 #[ptr l] w fun e w'=>e=.returned (.tuple #[.int .i64 3,.bool true])∧RowKit.Below w.heap.size w w':=by
 obtain⟨F,hd,hl⟩:=h.ex
 have h1:=last_calls hl
 rw[hd_last] at h1
 exact h1
theorem HAt.get1 {W:World} (h:HAt W w g l N (stI 6).1 (stI 6).2):Calls Tryz.prog 20 #[ptr l,.int .i64 1,.int .i64 13] w fun e w'=>∃A5 c5 A6 c6,e=.returned (.tuple #[.agg #[.int .i64 4,.string kAB,.int .i64 0,.int .i64 0,.int .i64 0,.slice A5 0 c5,.slice A6 0 c6],.int .i64 0])∧RowKit.Below w.heap.size w w':=by
 obtain⟨F,hd,hl⟩:=h.ex
 have h1:=getL_calls hd (stI_fit 6) hl 1 13
 rw[hd_re] at h1
 exact h1.mono (by rintro e w' ⟨A5,c5,A6,c6,rfl,_,_,hb⟩;exact⟨A5,c5,A6,c6,rfl,hb⟩)
theorem HAt.get2 {W:World} (h:HAt W w g l N dr2.1 dr2.2.1):Calls Tryz.prog 20 #[ptr l,.int .i64 1,.int .i64 13] w fun e w'=>∃(R:Re) (A5:Option Addr) (c5:Nat) (A6:Option Addr) (c6:Nat),e=.returned (.tuple #[.agg #[.int .i64 R.f0,.string R.f1,.int .i64 R.f2,.int .i64 R.f3,.int .i64 R.f4,.slice A5 R.f5.length c5,.slice A6 R.f6.length c6],.int .i64 3])∧RowKit.Below w.heap.size w w':=by
 obtain⟨F,hd,hl⟩:=h.ex
 have h1:=getL_calls hd dr2_fit hl 1 13
 rw[hd_get2] at h1
 exact h1.mono (by rintro e w' ⟨A5,c5,A6,c6,rfl,_,_,hb⟩;exact⟨_,A5,c5,A6,c6,rfl,hb⟩)
theorem HAt.hints1 {W:World} (h:HAt W w g l N (stI 6).1 (stI 6).2):Calls Tryz.prog 18 #[ptr l,.int .i64 1] w fun e w'=>∃A c,e=.returned (.tuple #[.slice A 2 c,.bool true])∧RowKit.Below w.heap.size w w':=by
 obtain⟨F,hd,hl⟩:=h.ex
 have h1:=hintsL_calls hd (stI_fit 6) hl 1
 rw[hd_hints.1] at h1
 refine h1.mono ?_
 rintro e w' ⟨v,rfl,hr,hb⟩
 obtain⟨A,c,rfl⟩:=Kd.R_slice hr
 exact⟨A,c,by rw[hd_hints.2],hb⟩
theorem HAt.open2 {W:World} (h:HAt W w g l N dr2.1 dr2.2.1):Calls Tryz.prog 8 #[ptr g,.int .i64 63] w fun e w'=>e=.returned (.tuple #[.pointer none,.int .i64 1])∧RowKit.Below w.heap.size w w':=by
 obtain⟨F,hd,hl⟩:=h.ex
 have h1:=open_calls hd dr2_fit 63
 have e:openM dr2.1 63=(none,1):=Prod.ext (by
  have:=hd_open2.2
  cases hq:(openM dr2.1 63).1 with
  | none=>rfl
  | some S=>rw[hq] at this;cases this) hd_open2.1
 rw[e] at h1
 exact h1.mono (fun e w' he=>⟨he.2,he.1⟩)
structure HAr (W w:World) (g l N:Nat) (M:DiskM) (S:LogS) (rb:Nat) (o:Obj):Prop where
 ex:∃F,DiskAt w W.heap.size g N M F∧LogO w W.heap.size l g F S∧¬F rb∧rb≠l
 bel:RowKit.Below W.heap.size W w
 blk:w.heap[rb]? =some o
theorem HAr.at {W:World} {rb:Nat} {o:Obj} (h:HAr W w g l N M S rb o):HAt W w g l N M S:=by
 obtain⟨F,hd,ho,_⟩:=h.ex
 exact⟨⟨F,hd,ho⟩,h.bel⟩
theorem HAr.below {W:World} {rb:Nat} {o:Obj} (h:HAr W w g l N M S rb o) (hb:RowKit.Below w.heap.size w w'):HAr W w' g l N M S rb o:=by
 obtain⟨F,hd,ho,h1,h2⟩:=h.ex
 exact⟨⟨F,hd.below hb,ho.below hb,h1,h2⟩,h.bel.trans (hb.mono h.bel.size),(hb.block _ (blk_lt h.blk)).trans h.blk⟩
theorem HAt.with {W:World} (h:HAt W w g l N M S) (cs:Array Value) (t:TypeId):HAr W (w.alloc (.cells cs t)) g l N M S w.heap.size (.cells cs t (0,0)):=by
 obtain⟨F,hd,ho⟩:=h.ex
 have hba:=below_alloc (RowKit.Below.refl w.heap.size w) (.cells cs t)
 exact⟨⟨F,hd.below hba,ho.below hba,fun hf=>absurd (hd.lt _ hf) (Nat.lt_irrefl _),fun e=>absurd (e ▸ ho.lt) (Nat.lt_irrefl _)⟩,h.bel.trans (hba.mono h.bel.size),heap_alloc_new _ _⟩
theorem HAr.drop {W:World} {rb:Nat} {o:Obj} (h:HAr W w g l N M S rb o) (n:Int) (hM:Fit M) (hl:S.man.segs.length≤1000000) (hN:N+6+2*S.man.segs.length≤1000000000000):
  Calls Tryz.prog 13 #[ptr l,.slice (some ⟨w.heap.size,0,none⟩) 1 1] (w.alloc (.cells #[.int .i64 n] 3)) fun e w'=>e=.returned (.int .i64 (dropM M S [n]).2.2)∧HAr W w' g l (N+6+2*S.man.segs.length) (dropM M S [n]).1 (dropM M S [n]).2.1 rb o:=by
 obtain⟨F,hd,ho,h1,h2⟩:=h.ex
 have hba:=below_alloc (RowKit.Below.refl w.heap.size w) (.cells #[.int .i64 n] 3)
 have hz:=heap_alloc_new w (.cells #[.int .i64 n] 3)
 have hbr:=(hba.block _ (blk_lt h.blk)).trans h.blk
 refine(drop_calls (hd.below hba) hM (ho.below hba) hl hN (some ⟨w.heap.size,0,none⟩) 1 [n] (fun W' hW'=>own_reads' (own_one (hW'.obj hz (fun e=>?_)) (Nat.zero_le _)))).mono ?_
 ·rcases e with e | e
  ·have:=hd.lt _ e;omega
  ·have:=ho.lt;omega
 ·rintro e w' ⟨rfl,ht⟩
  have ht':=ht
  obtain⟨F',k1,k2,k3,k4,k5⟩:=ht
  refine⟨rfl,⟨F',k1,k4,fun hf=>?_,h2⟩,below_turned (h.bel.trans (hba.mono h.bel.size)) (hd.below hba) (ho.below hba) ht',k5.obj hbr (fun e=>e.elim h1 h2)⟩
  rcases k3 rb hf with hf | hf
  ·exact h1 hf
  ·have:=blk_lt hbr;omega
theorem head_calls (w:World):Calls Tryz.prog 6 #[] w fun e w'=>e=.returned (.bool true)∧RowKit.Below w.heap.size w w':=by
 have HNEW:=ak (new? 10000 w.heap.size w (Nat.le_refl _))
 go_enter Tryz.func6,Tryz.ntmps6
 go_upto_region 2 with(go_at_call 7;(with_reducible refine HNEW.out.mono ?_);rintro e w1 ⟨g,F,rfl,hd1,hf1,hb1⟩;have HD1:=ak hd1;have HB1:=ak hb1;clear hd1 hf1 hb1)
 have hop:=open_calls HD1.out (Fit.new _) 64
 rw[show openM (newM 10000) 64=(some lo0,0) from rfl] at hop
 have HOP:=ak hop
 clear hop HNEW
 go_upto_region 5 with(go_at_call 8;(with_reducible refine HOP.out.mono ?_);rintro e w2 ⟨hb2,l,rfl,ho2,hl2⟩;have HA2:=ak (show HAt w w2 g l 0 hd0 lo0 from⟨⟨F,HD1.out.below hb2,ho2⟩,HB1.out.trans (hb2.mono HB1.out.size)⟩);clear hb2 ho2 hl2)
 have HLA:=ak (HA2.out.last0)
 clear HD1 HB1 HOP
 go_upto_region 8 with(go_at_call 11;(with_reducible refine HLA.out.mono ?_);rintro e w3 ⟨rfl,hb3⟩;have HA3:=ak (HA2.out.below hb3);clear hb3)
 go_upto_region 9 with(first
  | (go_at_call 9;(with_reducible refine HAT.out.mono ?_);rintro e w5 ⟨rfl,h5⟩;have HA5:=ak h5;clear h5)
  | (go_at_call 21;(with_reducible refine(tomb_calls _ _).mono ?_);rintro e w4 ⟨rfl,hb4⟩;have HAT:=ak (HA3.out.below hb4).add0;clear hb4))
 clear HLA HA2 HA3 HAT
 go_wp2
 go_loopg [10] 6 (fun kq v10 wr=>∃(k:Nat),v10=.int .i64 k∧Aside0 (k+kq=6)∧Aside0 (HAt w wr g l (32+32*k) (stI k).1 (stI k).2))
 case atStart=>exact⟨0,rfl,⟨by omega⟩,HA5⟩
 case round=>
  obtain⟨k,rfl,HK,HA⟩:=hrel
  cases gk with
  | zero=>
   obtain rfl:k=6:=by have:=HK.out;omega
   have HLA:=ak HA.out.last6
   go_upto_region 14 with(go_at_call 11;(with_reducible refine HLA.out.mono ?_);rintro e w6 ⟨rfl,hb6⟩;have HA6:=ak (HA.out.below hb6);clear hb6)
   have HGE:=ak HA6.out.get1
   go_upto_region 15 with(go_at_call 20;(with_reducible refine HGE.out.mono ?_);rintro e w7 ⟨A5,c5,A6,c6,rfl,hb7⟩;have HA7:=ak (HA6.out.below hb7);clear hb7)
   have HA8:=ak (HA7.out.with #[.int .i64 4,.string kAB,.int .i64 0,.int .i64 0,.int .i64 0,.slice A5 0 c5,.slice A6 0 c6] 35)
   generalize w7.alloc (.cells #[.int .i64 4,.string kAB,.int .i64 0,.int .i64 0,.int .i64 0,.slice A5 0 c5,.slice A6 0 c6] 35)=w8 at HA8 ⊢
   generalize w7.heap.size=rb at *
   have HHI:=ak HA8.out.at.hints1
   clear HLA HA HA6 HGE HA7
   go_upto_region 16 with(go_at_call 18;(with_reducible refine HHI.out.mono ?_);rintro e w9 ⟨A7,c7,rfl,hb9⟩;have HA9:=ak (HA8.out.below hb9);clear hb9)
   have HD1:=ak (HA9.out.drop 1 (stI_fit 6) hd_segs6 (by have:=hd_segs6;omega))
   rw[hd_dr1'] at HD1
   go_upto_region 17 with(go_at_call 13;(with_reducible refine HD1.out.mono ?_);rintro e w10 ⟨rfl,hA10⟩;have HA10:=ak (show HAr w w10 g l _ dr1.1 dr1.2.1 rb _ from hA10);clear hA10)
   have HD2:=ak (HA10.out.drop 3 dr1_fit hd_dr1.2 (by have:=hd_segs6;have:=hd_dr1.2;omega))
   rw[hd_dr2'] at HD2
   clear HA8 HHI HA9 HD1
   go_upto_region 18 with(go_at_call 13;(with_reducible refine HD2.out.mono ?_);rintro e w11 ⟨rfl,hA11⟩;have HA11:=ak (show HAr w w11 g l _ dr2.1 dr2.2.1 rb _ from hA11);clear hA11)
   have HG2:=ak HA11.out.at.get2
   clear HA10 HD2
   go_upto_region 19 with(go_at_call 20;(with_reducible refine HG2.out.mono ?_);rintro e w12 ⟨R,B5,d5,B6,d6,rfl,hb12⟩;have HA12:=ak (HA11.out.below hb12);clear hb12)
   have hb13:=below_alloc (RowKit.Below.refl w12.heap.size w12) (.cells #[.int .i64 R.f0,.string R.f1,.int .i64 R.f2,.int .i64 R.f3,.int .i64 R.f4,.slice B5 R.f5.length d5,.slice B6 R.f6.length d6] 35)
   generalize w12.alloc (.cells #[.int .i64 R.f0,.string R.f1,.int .i64 R.f2,.int .i64 R.f3,.int .i64 R.f4,.slice B5 R.f5.length d5,.slice B6 R.f6.length d6] 35)=w13 at hb13 ⊢
   have HA13:=ak (HA12.out.below hb13)
   have HOP2:=ak HA13.out.at.open2
   generalize w12.heap.size=rb2 at *
   clear hb13 HA11 HG2 HA12
   go_upto_region 20 with(go_at_call 8;(with_reducible refine HOP2.out.mono ?_);rintro e w14 ⟨rfl,hb14⟩;have HA14:=ak (HA13.out.below hb14);clear hb14)
   clear HA13 HOP2
   refine st_ 65 (S:=(fun w'=>RowKit.Below w14.heap.size w14 w')) (ds:=[]) (by kernel_rfl) rfl (by kernel_rfl) (RowKit.Below.refl _ _).drew (fun hHeld=>?_);refine with_tabW hd20tab hd20bits (fun HT_ HW_=>?_)
   generalize w14.drew=b0 at hHeld ⊢
   refine fl_ [0,91,1,1,92,3,2,93,7,3,94,15,4,95,31,5,96,63,6,97,127,7,98,255,8,99,511,9,100,1023,10,101,2047,11,102,4095,12,103,8191,13,104,16383,14,105,32767,15,106,65535,16,107,131071,17,108,262143,18,109,524287,19,110,1048575,20,111,2097151,21,112,4194303,22,113,8388607,23,114,16777215,24,115,33554431,25,116,67108863] ?_
   iterate 26 (refine pq_ (v:=?_) (a':=?_) HT_ rfl rfl (.inl ⟨by rfl,?_⟩) ?_ ?_;rotate_left;(focus intro w';go_simp;with_reducible rfl);rotate_left;(focus simp only[Act.put,zq1,zq2,zq3,i64_w,i32_w];rfl))
   refine fe_ ?_
   refine tk_ 26 134217727 (N:=some 117) (v:=?_) (a':=?_) HT_ HW_ rfl rfl (.inl ⟨by rfl,?_⟩) hHeld ?_ ?_
   rotate_left
   ·rintro w' hs
    have hx:=(hs.block _ (blk_lt HA14.out.blk)).trans HA14.out.blk
    have x0:=bq hx 0 (.int .i64 4)
    have x1:=bq hx 1 (.string kAB)
    have x2:=bq hx 2 (.int .i64 0)
    have x3:=bq hx 3 (.int .i64 0)
    have x4:=bq hx 4 (.int .i64 0)
    have x5:=bq hx 5 (.slice A5 0 c5)
    have x6:=bq hx 6 (.slice A6 0 c6)
    go_simp
    with_reducible rfl
   rotate_left
   ·simp only[Act.put,zq1,zq2,zq3,i64_w,i32_w]
    rfl
   refine on_ 27 268435455 (some 118) HT_ rfl rfl (by kernel_rfl) (by decide) (fun K hK=>?_)
   refine goes_ Tryz.func21 (by kernel_rfl) rfl #[.string kAB] (by rfl) rfl rfl (by(try simp only[List.map_toArray,List.map_cons,List.map_nil]);first | done | rfl) ?_
   refine(tomb_calls kAB b0).mono ?_
   rintro e b1 ⟨rfl,hb⟩
   refine⟨_,rfl,?_⟩
   have hHeld:=hHeld.trans (hb.mono hHeld.size)
   refine kn_ (a':=?_) hK hHeld ?_ fun hHeld=>?_
   rotate_left;(focus show Act.put _ (some 118) _=_;simp only[Act.put,zq1,zq2,zq3,i64_w,i32_w];rfl);clear hK K
   clear hb
   refine on_ 28 536870911 (some 119) HT_ rfl rfl (by kernel_rfl) (by decide) (fun K hK=>?_)
   refine goes_ Tryz.func22 (by kernel_rfl) rfl #[.agg #[.int .i64 4,.string kAB,.int .i64 0,.int .i64 0,.int .i64 0,.slice A5 0 c5,.slice A6 0 c6],.agg #[.int .i64 4,.string kAB,.int .i64 0,.int .i64 0,.int .i64 0,.slice none 0 0,.slice none 0 0]] (by rfl) rfl rfl (by(try simp only[List.map_toArray,List.map_cons,List.map_nil]);first | done | rfl) ?_
   refine(same_ab 4 kAB A5 A6 c5 c6 b1).mono ?_
   rintro e b2 ⟨rfl,hb⟩
   refine⟨_,rfl,?_⟩
   have hHeld:=hHeld.trans (hb.mono hHeld.size)
   refine kn_ (a':=?_) hK hHeld ?_ fun hHeld=>?_
   rotate_left;(focus show Act.put _ (some 119) _=_;simp only[Act.put,zq1,zq2,zq3,i64_w,i32_w];rfl);clear hK K
   clear hb
   refine fl_ [29,120,1073741823,30,121,2147483647,31,122,4294967295,32,123,8589934591,33,124,17179869183,34,125,34359738367,35,126,68719476735,36,127,137438953471,37,128,274877906943,38,129,549755813887,39,130,1099511627775,40,131,2199023255551,41,132,4398046511103,42,133,8796093022207,43,134,17592186044415,44,135,35184372088831,45,136,70368744177663,46,137,140737488355327,47,138,281474976710655,48,139,562949953421311,49,140,1125899906842623,50,141,2251799813685247,51,142,4503599627370495,52,143,9007199254740991,53,144,18014398509481983,54,145,36028797018963967,55,146,72057594037927935,56,147,144115188075855871,57,148,288230376151711743,58,149,576460752303423487,59,150,1152921504606846975] ?_
   iterate 31 (refine pq_ (v:=?_) (a':=?_) HT_ rfl rfl (.inl ⟨by rfl,?_⟩) ?_ ?_;rotate_left;(focus intro w';go_simp;with_reducible rfl);rotate_left;(focus simp only[Act.put,zq1,zq2,zq3,i64_w,i32_w];rfl))
   refine fe_ ?_
   refine tw_ 60 61 2305843009213693951 3458764513820540927 (some 151) (some 152) HT_ rfl rfl rfl rfl (by kernel_rfl) (by decide) (by decide) (fun K hK=>?_) (fun K hK=>?_)
   ·refine goes_ Tryz.func10 (by kernel_rfl) rfl #[ptr l] (by rfl) rfl rfl (by(try simp only[List.map_toArray,List.map_cons,List.map_nil]);first | done | rfl) ?_
    refine((HA14.out.below hHeld).at.segs2).mono ?_
    rintro e b3 ⟨A8,c8,rfl,hr8,hc8,hb⟩
    refine⟨_,rfl,?_⟩
    have hHeld:=hHeld.trans (hb.mono hHeld.size)
    refine kn_ (a':=?_) hK hHeld ?_ fun hHeld=>?_
    rotate_left;(focus show Act.put _ (some 151) _=_;simp only[Act.put,zq1,zq2,zq3,i64_w,i32_w];rfl);clear hK K
    clear hb
    refine on_ 61 4611686018427387903 (some 152) HT_ rfl rfl (by kernel_rfl) (by decide) (fun K hK=>?_)
    refine Mn.alloc_step rfl (by go_simp;exact⟨rfl,rfl⟩) ?_
    have hlit:=heap_alloc_new b3 (.cells #[.int .i64 2,.int .i64 3] 3)
    have hHeld:=below_alloc hHeld (.cells #[.int .i64 2,.int .i64 3] 3)
    refine kn_ (a':=?_) hK hHeld ?_ fun hHeld=>?_
    rotate_left;(focus show Act.put _ (some 152) _=_;simp only[Act.put,zq1,zq2,zq3,i64_w,i32_w];rfl);clear hK K
    have hr8:=Kd.C_below hr8 (below_alloc (RowKit.Below.refl b3.heap.size b3) (.cells #[.int .i64 2,.int .i64 3] 3))
    generalize b3.alloc (.cells #[.int .i64 2,.int .i64 3] 3)=b4 at hHeld hlit hr8 ⊢
    refine on_ 62 9223372036854775807 (some 153) HT_ rfl rfl (by kernel_rfl) (by decide) (fun K hK=>?_)
    refine goes_ Tryz.func14 (by kernel_rfl) rfl #[.slice A8 2 c8,.slice (some ⟨b3.heap.size,0,none⟩) 2 2] (by rfl) rfl rfl (by(try simp only[List.map_toArray,List.map_cons,List.map_nil]);first | done | rfl) ?_
    refine(same_23 A8 c8 b3.heap.size b4 hr8 hc8 hlit).mono ?_
    rintro e b5 ⟨rfl,hb⟩
    refine⟨_,rfl,?_⟩
    have hHeld:=hHeld.trans (hb.mono hHeld.size)
    refine kn_ (a':=?_) hK hHeld ?_ fun hHeld=>?_
    rotate_left;(focus show Act.put _ (some 153) _=_;simp only[Act.put,zq1,zq2,zq3,i64_w,i32_w];rfl);clear hK K
    clear hb
    refine fl_ [63,154,18446744073709551615,64,0,36893488147419103231] ?_
    iterate 2 (refine pq_ (v:=?_) (a':=?_) HT_ rfl rfl (.inl ⟨by rfl,?_⟩) ?_ ?_;rotate_left;(focus intro w';go_simp;with_reducible rfl);rotate_left;(focus simp only[Act.put,zq1,zq2,zq3,i64_w,i32_w];rfl))
    refine fe_ ?_
    refine done_ (done_of HT_.out (by kernel_rfl)) ?_
    go_wp2
    go_ret
    exact⟨rfl,HA14.out.bel.trans (hHeld.mono HA14.out.bel.size)⟩
   ·refine Mn.alloc_step rfl (by go_simp;exact⟨rfl,rfl⟩) ?_
    have hlit:=heap_alloc_new b2 (.cells #[.int .i64 2,.int .i64 3] 3)
    have hHeld:=below_alloc hHeld (.cells #[.int .i64 2,.int .i64 3] 3)
    refine kn_ (a':=?_) hK hHeld ?_ fun hHeld=>?_
    rotate_left;(focus show Act.put _ (some 152) _=_;simp only[Act.put,zq1,zq2,zq3,i64_w,i32_w];rfl);clear hK K
    generalize b2.alloc (.cells #[.int .i64 2,.int .i64 3] 3)=b3 at hHeld hlit ⊢
    refine on_ 60 4611686018427387903 (some 151) HT_ rfl rfl (by kernel_rfl) (by decide) (fun K hK=>?_)
    refine goes_ Tryz.func10 (by kernel_rfl) rfl #[ptr l] (by rfl) rfl rfl (by(try simp only[List.map_toArray,List.map_cons,List.map_nil]);first | done | rfl) ?_
    refine((HA14.out.below hHeld).at.segs2).mono ?_
    rintro e b4 ⟨A8,c8,rfl,hr8,hc8,hb⟩
    refine⟨_,rfl,?_⟩
    have hHeld:=hHeld.trans (hb.mono hHeld.size)
    refine kn_ (a':=?_) hK hHeld ?_ fun hHeld=>?_
    rotate_left;(focus show Act.put _ (some 151) _=_;simp only[Act.put,zq1,zq2,zq3,i64_w,i32_w];rfl);clear hK K
    have hlit:=(hb.block _ (blk_lt hlit)).trans hlit
    clear hb
    refine on_ 62 9223372036854775807 (some 153) HT_ rfl rfl (by kernel_rfl) (by decide) (fun K hK=>?_)
    refine goes_ Tryz.func14 (by kernel_rfl) rfl #[.slice A8 2 c8,.slice (some ⟨b2.heap.size,0,none⟩) 2 2] (by rfl) rfl rfl (by(try simp only[List.map_toArray,List.map_cons,List.map_nil]);first | done | rfl) ?_
    refine(same_23 A8 c8 b2.heap.size b4 hr8 hc8 hlit).mono ?_
    rintro e b5 ⟨rfl,hb⟩
    refine⟨_,rfl,?_⟩
    have hHeld:=hHeld.trans (hb.mono hHeld.size)
    refine kn_ (a':=?_) hK hHeld ?_ fun hHeld=>?_
    rotate_left;(focus show Act.put _ (some 153) _=_;simp only[Act.put,zq1,zq2,zq3,i64_w,i32_w];rfl);clear hK K
    clear hb
    refine fl_ [63,154,18446744073709551615,64,0,36893488147419103231] ?_
    iterate 2 (refine pq_ (v:=?_) (a':=?_) HT_ rfl rfl (.inl ⟨by rfl,?_⟩) ?_ ?_;rotate_left;(focus intro w';go_simp;with_reducible rfl);rotate_left;(focus simp only[Act.put,zq1,zq2,zq3,i64_w,i32_w];rfl))
    refine fe_ ?_
    refine done_ (done_of HT_.out (by kernel_rfl)) ?_
    go_wp2
    go_ret
    exact⟨rfl,HA14.out.bel.trans (hHeld.mono HA14.out.bel.size)⟩
  | succ gk=>
   have hk0:k < 6:=by have:=HK.out;omega
   have d1:decide ((k:Int) < 6)=true:=decide_eq_true (by omega)
   have d2:decide (k < 6)=true:=decide_eq_true hk0
   go_upto_region 11 with(first
    | (go_at_call 9;(with_reducible refine HAT.out.mono ?_);rintro e w5 ⟨v5,rfl,h5⟩;have HA6:=ak h5;clear h5)
    | (go_at_call 21;(with_reducible refine(tomb_calls _ _).mono ?_);rintro e w4 ⟨rfl,hb4⟩;have HAT:=ak ((HA.out.below hb4).addi k (by have:=HK.out;omega) (by have:=HK.out;omega));clear hb4))
   go_wp2
   go_roundg gk
   case measure=>omega
   case rel=>exact⟨k+1,rfl,⟨by have:=HK.out;omega⟩,HA6⟩
end Go.Proofs.YteccdnejnbkbiaaGreat.La
end
section
namespace Go.Proofs.YteccdnejnbkbiaaGreat.Gt
open Go.RowKit Go.Maps Fr Ext Go.Proofs.YteccdnejnbkbiaaGreat.Nm Dk Mn Lg La YteccdnejnbkbiaaGreatW.PrintWords YteccdnejnbkbiaaGreatW.PrintLast YteccdnejnbkbiaaGreatW.PrintMore
open Rc (Re Lo zeroR recC Norm Norm.intro Norm.elim)
variable {W w w' w1:World} {B l g N k:Nat} {M M':DiskM} {F F' G:Nat→Prop} {S S':LogS} {A A1:Option Addr} {c c1:Nat} {pl:List Int}
structure At (W w:World) (g l N:Nat) (M:DiskM) (S:LogS) (A:Option Addr) (c:Nat) (pl:List Int):Prop where
 ex:∃F,DiskAt w W.heap.size g N M F∧LogO w W.heap.size l g F S∧∀k,(Value.slice A pl.length c).ownBlock=some k→¬F k∧k≠l
 row:w.ownsRow W.heap.size 3 1 (.slice A pl.length c) pl.length (nums .i64 pl)
 bel:RowKit.Below W.heap.size W w
 nil:pl=[]→A=none
theorem bytes_ok {R:Re} (h:HrA.OkRec R):IsBytes R.f6:=bytes_ok' _ h.2.2.2.2.2.2
theorem row_first {base:Nat} {v:Value} {x:Int} {xs:List Int} (h:w.ownsRow base 3 1 v (x::xs).length (nums .i64 (x::xs))):∃g cap cur,v=.slice (some ⟨g,0,none⟩) (x::xs).length cap∧w.heap[g]? =some (.cells cur 3 (0,0))∧cur[0]? =some (.int .i64 x):=by
 rcases h.2 with⟨_,h2⟩ | ⟨g,cap,cur,rfl,hb,hh,h1,h2,h3,h4⟩
 ·cases h2
 ·refine⟨g,cap,cur,rfl,hh,?_⟩
  have h5:=congrArg (fun l:List Value=>l[0]?) h4
  simpa [nums] using h5
theorem rows_apart {b1 b2:Nat} {u v:Value} {x y:Int} {xs ys:List Int} (h1:w.ownsRow b1 3 1 u (x::xs).length (nums .i64 (x::xs))) (h2:w.ownsRow b2 3 1 v (y::ys).length (nums .i64 (y::ys))) (hne:x≠y) (k:Nat) (hu:u.ownBlock=some k):v.ownBlock≠some k:=by
 intro hv
 obtain⟨g1,c1,cur1,rfl,a1,a2⟩:=row_first h1
 obtain⟨g2,c2,cur2,rfl,a3,a4⟩:=row_first h2
 have e1:g1=k:=by simpa [Value.ownBlock] using hu
 have e2:g2=k:=by simpa [Value.ownBlock] using hv
 subst e1
 rw[e2,a1] at a3
 injection a3 with a3
 injection a3 with a3
 rw[a3,a4] at a2
 injection a2 with a2
 injection a2 with _ a2
 exact hne a2.symm
theorem LogO.grown (h:LogO w B l g F S) {row:Option Nat} (hg:w.grownBy w' row) (hl:row≠some l) (hr:∀v,Kd.R (Kd.int .i64) 3 w B (fun _=>True) v S.man.segs→∀k,v.ownBlock=some k→row≠some k):LogO w' B l g F S:=by
 obtain⟨⟨A,c,h1,h2,h3⟩,hs,ha⟩:=h
 have hk:=Rc.Keeps.of_grown hg
 refine⟨⟨A,c,hk.obj h1 (fun e=>hl e.symm),row_keep h2 hk (fun k hk' e=>hr _ h2 k hk' e.symm),h3⟩,hs,ha⟩
theorem At.grown {y:Int} {v1:Value} (h:At W w g l N M S A c pl) (hs:S.man.segs=[1]) (hp:pl=[]∨pl.head? =some 13) (ho:w'.ownsRow W.heap.size 3 1 v1 (pl++[y]).length (nums .i64 (pl++[y]))) (hb:RowKit.Below W.heap.size W w') (hg:w.grownBy w' (Value.slice A pl.length c).ownBlock) (hat:v1.ownBlock=(Value.slice A pl.length c).ownBlock∨∃b,v1.ownBlock=some b∧w.heap.size≤b):∃A' c',v1=.slice A' (pl++[y]).length c'∧At W w' g l N M S A' c' (pl++[y]):=by
 obtain⟨F,hd,hl,hF⟩:=h.ex
 obtain⟨A',c',rfl⟩:=own_slice ho
 refine⟨A',c',rfl,⟨F,hd.keep (Rc.Keeps.of_grown hg) (fun k hk e=>(hF k e.symm).1 hk),LogO.grown hl hg (fun e=>(hF l e).2 rfl) (fun v hv k hk e=>?_),fun k hk=>?_⟩,ho,hb,fun e=>by simp at e⟩
 ·rcases hp with rfl | hp
  ·rw[h.nil rfl] at e;cases e
  ·obtain⟨z,zs,e1⟩:∃z zs,pl=z::zs:=by
    cases pl with
    | nil=>cases hp
    | cons z zs=>exact⟨z,zs,rfl⟩
   have e2:z=13:=by rw[e1] at hp;exact Option.some.inj hp
   have h1:=h.row
   rw[e1] at h1 e
   have h2:=Kd.own_of_R hv
   rw[hs] at h2
   exact rows_apart h1 (xs:=zs) (ys:=[]) h2 (by omega) k e hk
 ·rcases hat with hat | ⟨b,hat,hle⟩
  ·exact hF k (by rw[← hat];exact hk)
  ·rw[hat] at hk
   obtain rfl:=Option.some.inj hk
   exact⟨fun hf=>Nat.not_lt.2 hle (hd.lt _ hf),fun e=>Nat.not_lt.2 hle (e ▸ hl.lt)⟩
theorem At.of_turned {N':Nat} (hd:DiskAt w W.heap.size g N M F) (hl:LogO w W.heap.size l g F S) (hF:∀k,(Value.slice A pl.length c).ownBlock=some k→¬F k∧k≠l) (h:At W w g l N M S A c pl) (ht:LTurned w w' W.heap.size l g N' F M' S'):At W w' g l N' M' S' A c pl:=by
 have ht':=ht
 obtain⟨F',h1,h2,h3,h4,h5⟩:=ht
 exact⟨⟨F',h1,h4,fun k hk=>⟨fun hf=>(h3 k hf).elim (hF k hk).1 (fun hle=>Nat.not_lt.2 hle (own_lt h.row k hk)),(hF k hk).2⟩⟩,own_move h.row (fun k hk=>h5.block k (own_lt h.row k hk) (fun e=>e.elim (hF k hk).1 (hF k hk).2)),below_turned h.bel hd hl ht',h.nil⟩
theorem At.below (h:At W w g l N M S A c pl) (hb:RowKit.Below w.heap.size w w'):At W w' g l N M S A c pl:=by
 obtain⟨F,hd,hl,hF⟩:=h.ex
 exact⟨⟨F,hd.below hb,hl.below hb,hF⟩,own_move h.row (fun k hk=>hb.block k (own_lt h.row k hk)),h.bel.trans (hb.mono h.bel.size),h.nil⟩
theorem At.done (h:At W w g l N M S A c pl):Calls Tryz.prog 19 #[ptr g] w fun e w'=>e=.returned (.int .i64 M.d.done)∧w'=w:=by
 obtain⟨F,hd,_⟩:=h.ex
 exact hd.done?
theorem At.got (h:At W w g l N M S A c pl) (hM:Fit M) (n at_:Int):Calls Tryz.prog 20 #[ptr l,.int .i64 n,.int .i64 at_] w fun e w'=>∃(A5:Option Addr) (c5:Nat) (A6:Option Addr) (c6:Nat),e=.returned (.tuple #[.agg #[.int .i64 (getLM M S n at_).1.f0,.string (getLM M S n at_).1.f1,.int .i64 (getLM M S n at_).1.f2,.int .i64 (getLM M S n at_).1.f3,.int .i64 (getLM M S n at_).1.f4,.slice A5 (getLM M S n at_).1.f5.length c5,.slice A6 (getLM M S n at_).1.f6.length c6],.int .i64 (getLM M S n at_).2])∧RowKit.Below w.heap.size w w':=by
 obtain⟨F,hd,hl,_⟩:=h.ex
 exact(getL_calls hd hM hl n at_).mono (by rintro e w' ⟨A5,c5,A6,c6,rfl,_,_,hb⟩;exact⟨A5,c5,A6,c6,rfl,hb⟩)
theorem At.has (h:At W w g l N M S A c pl) (x:Int):pl.length≤1000000000→Calls Tryz.prog 12 #[.slice A pl.length c,.int .i64 x] w fun e w'=>e=.returned (.bool (pl.contains x))∧RowKit.Below w.heap.size w w':=fun hl=>
 has_calls A c pl x w hl (Kd.R_reads' (R_ints h.row)).2.2 (Kd.R_reads' (R_ints h.row)).2.1
theorem at_rec {a0:Option Addr} {rs:List Re} (hr:Kd.C Pt.k35 W a0 rs.length rs) (i:Nat) (hi:i < rs.length):∃ad A5 c5 A6 c6,a0=some ad∧W.cell? (ad.add (i*7))=some (.int .i64 rs[i].f0)∧W.cell? ⟨(ad.add (i*7)).block,(ad.add (i*7)).off+1,none⟩=some (.string rs[i].f1)∧W.cell? ⟨(ad.add (i*7)).block,(ad.add (i*7)).off+2,none⟩=some (.int .i64 rs[i].f2)∧W.cell? ⟨(ad.add (i*7)).block,(ad.add (i*7)).off+3,none⟩=some (.int .i64 rs[i].f3)∧W.cell? ⟨(ad.add (i*7)).block,(ad.add (i*7)).off+4,none⟩=some (.int .i64 rs[i].f4)∧W.cell? ⟨(ad.add (i*7)).block,(ad.add (i*7)).off+5,none⟩=some (.slice A5 rs[i].f5.length c5)∧W.cell? ⟨(ad.add (i*7)).block,(ad.add (i*7)).off+6,none⟩=some (.slice A6 rs[i].f6.length c6)∧Kd.C Pt.k95 W A5 rs[i].f5.length rs[i].f5∧Kd.C (Kd.int .u8) W A6 rs[i].f6.length rs[i].f6:=by
 obtain⟨ad,A5,c5,A6,c6,e,h0,h1,h2,h3,h4,h5,h6,_,h7,_,h8⟩:=Pt.at_T35 hr (i:Int) (by omega) (by omega)
 have e1:Pt.rd_T35 rs (i:Int)=rs[i]:=by
  unfold Pt.rd_T35
  rw[Int.toNat_natCast,List.getD_eq_getElem?_getD,List.getElem?_eq_getElem hi];rfl
 rw[e1] at h0 h1 h2 h3 h4 h5 h6 h7 h8
 rw[Int.toNat_natCast] at h0 h1 h2 h3 h4 h5 h6
 exact⟨ad,A5,c5,A6,c6,e,h0,h1,h2,h3,h4,h5,h6,h7,h8⟩
theorem gets_calls (a0:Option Addr) (c0:Nat) (rs:List Re) (n at_:Int) (W:World) (hr:Kd.C Pt.k35 W a0 rs.length rs) (hc:rs.length≤c0) (hok:∀R∈rs,HrA.OkRec R):
  Calls Tryz.prog 5 #[.slice a0 rs.length c0,.int .i64 n,.int .i64 at_] W fun e w'=>e=.returned (.bool true)∧RowKit.Below W.heap.size W w':=by
 have HR:=ak hr
 have HOK:=ak hok
 have HHD:=ak (head_calls W)
 clear hr hok
 go_enter Tryz.func5,Tryz.ntmps5
 go_upto_region 2 with(go_at_call 6;(with_reducible refine HHD.out.mono ?_);rintro e w1 ⟨rfl,hb1⟩;have HB1:=ak hb1;clear hb1)
 have HNW:=ak (new? 4194304 W.heap.size w1 HB1.out.size)
 go_upto_region 3 with(go_at_call 7;(with_reducible refine HNW.out.mono ?_);rintro e w2 ⟨g,F,rfl,hd2,hf2,hb2⟩;have HD2:=ak hd2;have HB2:=ak (HB1.out.trans (hb2.mono HB1.out.size));clear hd2 hf2 hb2)
 by_cases h40:(rs.length:Int) > 40
 ·have d1:decide ((rs.length:Int) > 40)=true:=decide_eq_true h40
  have d2:decide (rs.length > 40)=true:=decide_eq_true (by omega)
  clear h40
  go_wp2
  go_ret
  exact⟨rfl,HB2.out⟩
 have d1:decide ((rs.length:Int) > 40)=false:=decide_eq_false h40
 have d2:decide (rs.length > 40)=false:=decide_eq_false (by omega)
 have H40:=ak h40
 clear h40
 have hop:=open_calls HD2.out (Fit.new _) 1048576
 rw[show openM (newM 4194304) 1048576=(some S0,0) from rfl] at hop
 have HOP:=ak hop
 clear hop HNW HHD
 go_upto_region 6 with(go_at_call 8;(with_reducible refine HOP.out.mono ?_);rintro e w3 ⟨hb3,l,rfl,ho3,hl3⟩;have HB3:=ak (HB2.out.trans (hb3.mono HB2.out.size));have HD3:=ak (HD2.out.below hb3);have HO3:=ak ho3;clear hb3 ho3 hl3)
 have HAT0:=ak (show At W w3 g l 0 M0 S0 none 0 [] from⟨⟨F,HD3.out,HO3.out,fun k hk=>by cases hk⟩,⟨rfl,.inl ⟨rfl,rfl⟩⟩,HB3.out,fun _=>rfl⟩)
 clear HD2 HD3 HO3 HB1 HB2 HB3 HOP
 go_wp2
 go_loopg [11,12] rs.length (fun kq v11 v12 wr=>∃(k:Nat) (A:Option Addr) (c:Nat),v11=.slice A (gsM (rs.take k)).2.2.length c∧v12=.int .i64 k∧Aside0 (k+kq=rs.length)∧Aside0 (At W wr g l (32*k) (gsM (rs.take k)).1 (gsM (rs.take k)).2.1 A c (gsM (rs.take k)).2.2))
 case atStart=>exact⟨0,none,0,rfl,rfl,⟨by omega⟩,HAT0⟩
 case round=>
  obtain⟨k,A,c,rfl,rfl,HK,HA⟩:=hrel
  have HGI:=ak (GI.of rs k (by have:=HK.out;omega) (by have:=HK.out;have:=H40.out;omega) (fun R hR=>bytes_ok (HOK.out R hR)))
  have HFT:=ak (gsM_fit (rs.take k) (fun R hR=>bytes_ok (HOK.out R (List.mem_of_mem_take hR))))
  have HLN:=ak (gs_len (rs.take k))
  cases gk with
  | zero=>
   obtain rfl:k=rs.length:=by have:=HK.out;omega
   have d1:decide ((rs.length:Int) < (rs.length:Int))=false:=decide_eq_false (by omega)
   have d2:decide (rs.length < rs.length)=false:=decide_eq_false (by omega)
   have htk:rs.take rs.length=rs:=List.take_length
   rw[htk] at HA HGI HFT HLN ⊢
   have hgone:=fun hn=>GI.gone HGI.out (n:=n) at_ hn
   have hgot:=fun hp=>GI.got HGI.out (by have:=H40.out;omega) (at_:=at_) hp
   generalize gsM rs=p at *
   obtain⟨M,S,pl⟩:=p
   dsimp only at HA HGI HFT HLN hgone hgot ⊢
   have HDN:=ak HA.out.done
   have HGE:=ak (HA.out.got HFT.out n at_)
   have HGN:=ak hgone
   have HGT:=ak hgot
   clear hgone hgot htk
   go_upto_region 18 with(go_at_call 19;(with_reducible refine HDN.out.mono ?_);rintro e w6 ⟨rfl,hw⟩;obtain rfl:=hw.symm)
   generalize hq:getLM M S n at_=q at HGE
   have HQ:=ak hq
   obtain⟨R,er⟩:=q
   dsimp only at HGE
   clear hq
   go_upto_region 19 with(go_at_call 20;(with_reducible refine HGE.out.mono ?_);rintro e w7 ⟨B5,d5,B6,d6,rfl,hb7⟩;have HA7:=ak (HA.out.below hb7);clear hb7)
   have hb8:=below_alloc (RowKit.Below.refl w7.heap.size w7) (.cells #[.int .i64 R.f0,.string R.f1,.int .i64 R.f2,.int .i64 R.f3,.int .i64 R.f4,.slice B5 R.f5.length d5,.slice B6 R.f6.length d6] 35)
   generalize w7.alloc (.cells #[.int .i64 R.f0,.string R.f1,.int .i64 R.f2,.int .i64 R.f3,.int .i64 R.f4,.slice B5 R.f5.length d5,.slice B6 R.f6.length d6] 35)=w8 at hb8 ⊢
   have HA8:=ak (HA7.out.below hb8)
   generalize w7.heap.size=rb at *
   have HD8:=ak HA8.out.done
   have HH8:=ak (HA8.out.has at_ (by have h1:=HLN.out;have h2:=H40.out;omega))
   have HLP:=ak (show pl.length≤40 by have h1:=HLN.out;have h2:=H40.out;omega)
   clear hb8 HA7 HDN HGE
   by_cases hp:pl=[]
   ·have h3:=HGN.out (.inl hp)
    rw[HQ.out] at h3
    have h3:er=3:=h3
    subst h3
    subst hp
    have l0:([]:List Int).length=0:=rfl
    rw[l0]
    go_wp2_with (go_at_call 19;(with_reducible refine HD8.out.mono ?_);rintro e w9 ⟨rfl,hw⟩;obtain rfl:=hw.symm)
    go_ret
    exact⟨rfl,HA8.out.bel⟩
   have hl0:((pl.length:Int)==0)=false:=beq_eq_false_iff_ne.mpr (fun e=>hp (List.eq_nil_of_length_eq_zero (by omega)))
   have hl1:((pl.length:Nat)==0)=false:=beq_eq_false_iff_ne.mpr (fun e=>hp (List.eq_nil_of_length_eq_zero e))
   by_cases hn:n=1
   case neg=>
    have h3:=HGN.out (.inr hn)
    rw[HQ.out] at h3
    have h3:er=3:=h3
    subst h3
    have n1:(n !=1)=true:=bne_iff_ne.mpr hn
    clear hp hn
    go_wp2_with (go_at_call 19;(with_reducible refine HD8.out.mono ?_);rintro e w9 ⟨rfl,hw⟩;obtain rfl:=hw.symm)
    go_ret
    exact⟨rfl,HA8.out.bel⟩
   subst hn
   obtain⟨g1,g2⟩:=HGT.out hp
   rw[HQ.out] at g1 g2
   have G1:Aside0 (at_∈pl→er=0):=⟨g1⟩
   have G2:Aside0 (¬(0≤at_∧at_ < 4194304)→er=1):=⟨g2⟩
   clear g1 g2 hp HQ
   obtain⟨b,hb⟩:∃b,pl.contains at_=b:=⟨_,rfl⟩
   rw[hb] at HH8
   have HB:=ak hb
   clear hb
   cases b with
   | true=>
    have h0:er=0:=G1.out (by simpa using HB.out)
    have h1:0≤at_∧at_ < 4194304:=by
     rcases Classical.em (0≤at_∧at_ < 4194304) with h | h
     ·exact h
     ·have:=G2.out h;omega
    subst h0
    have e1:decide (at_≥0)=true:=decide_eq_true h1.1
    have e2:decide (at_ < 4194304)=true:=decide_eq_true h1.2
    clear h1
    go_wp2_with (first
     | (go_at_call 19;(with_reducible refine(HA9.out.done).mono ?_);rintro e w10 ⟨rfl,hw⟩;obtain rfl:=hw.symm)
     | (go_at_call 12;(with_reducible refine HH8.out.mono ?_);rintro e w9 ⟨rfl,hb9⟩;have HA9:=ak (HA8.out.below hb9);clear hb9))
    go_ret
    exact⟨rfl,HA9.out.bel⟩
   | false=>
    by_cases h1:0≤at_
    case neg=>
     have h0:er=1:=G2.out (fun h=>h1 h.1)
     subst h0
     have e1:decide (at_≥0)=false:=decide_eq_false h1
     clear h1
     go_wp2_with (first
      | (go_at_call 19;(with_reducible refine(HA9.out.done).mono ?_);rintro e w10 ⟨rfl,hw⟩;obtain rfl:=hw.symm)
      | (go_at_call 12;(with_reducible refine HH8.out.mono ?_);rintro e w9 ⟨rfl,hb9⟩;have HA9:=ak (HA8.out.below hb9);clear hb9))
     go_ret
     exact⟨rfl,HA9.out.bel⟩
    have e1:decide (at_≥0)=true:=decide_eq_true h1
    by_cases h2:at_ < 4194304
    ·have e2:decide (at_ < 4194304)=true:=decide_eq_true h2
     clear h1 h2
     go_wp2_with (first
      | (go_at_call 19;(with_reducible refine(HA9.out.done).mono ?_);rintro e w10 ⟨rfl,hw⟩;obtain rfl:=hw.symm)
      | (go_at_call 12;(with_reducible refine HH8.out.mono ?_);rintro e w9 ⟨rfl,hb9⟩;have HA9:=ak (HA8.out.below hb9);clear hb9))
     go_ret
     exact⟨rfl,HA9.out.bel⟩
    ·have h0:er=1:=G2.out (fun h=>h2 h.2)
     subst h0
     have e2:decide (at_ < 4194304)=false:=decide_eq_false h2
     clear h1 h2
     go_wp2_with (first
      | (go_at_call 19;(with_reducible refine(HA9.out.done).mono ?_);rintro e w10 ⟨rfl,hw⟩;obtain rfl:=hw.symm)
      | (go_at_call 12;(with_reducible refine HH8.out.mono ?_);rintro e w9 ⟨rfl,hb9⟩;have HA9:=ak (HA8.out.below hb9);clear hb9))
     go_ret
     exact⟨rfl,HA9.out.bel⟩
  | succ gk=>
   have hk0:k < rs.length:=by have:=HK.out;omega
   have d1:decide ((k:Int) < (rs.length:Int))=true:=decide_eq_true (by omega)
   have d2:decide (k < rs.length)=true:=decide_eq_true hk0
   obtain⟨ad,A5,c5,A6,c6,e1,q0,q1,q2,q3,q4,q5,q6,hk5,hk6⟩:=at_rec HR.out k hk0
   subst e1
   have hok:=HOK.out _ (List.getElem_mem hk0)
   have hstep:=gsM_snoc (rs.take k) rs[k]
   rw[← List.take_succ_eq_append_getElem hk0] at hstep
   generalize rs[k]=R at *
   have HBL:=ak HA.out.bel
   have q0:=pw_cell_below HBL.out q0
   have q1:=pw_cell_below HBL.out q1
   have q2:=pw_cell_below HBL.out q2
   have q3:=pw_cell_below HBL.out q3
   have q4:=pw_cell_below HBL.out q4
   have q5:=pw_cell_below HBL.out q5
   have q6:=pw_cell_below HBL.out q6
   have HK5:=ak hk5
   have HK6:=ak hk6
   have HRK:=ak hok
   have HST:=ak hstep
   clear hk5 hk6 hok hstep
   obtain⟨b1,hb1⟩:∃b,decide ((R.f6.length:Int) > 5000)=b:=⟨_,rfl⟩
   obtain⟨b2,hb2⟩:∃b,decide ((R.f5.length:Int) > 600)=b:=⟨_,rfl⟩
   obtain⟨b3,hb3⟩:∃b,decide ((R.f1.size:Int) > 2000)=b:=⟨_,rfl⟩
   have m1:k < rs.length:=hk0
   cases b1 with
   | true=>
    go_wp2
    go_ret
    exact⟨rfl,HBL.out⟩
   | false=>
   cases b2 with
   | true=>
    go_wp2
    go_ret
    exact⟨rfl,HBL.out⟩
   | false=>
   cases b3 with
   | true=>
    go_wp2
    go_ret
    exact⟨rfl,HBL.out⟩
   | false=>
   have HN5:=ak (show R.f5.length≤1000000000 by have:=of_decide_eq_false hb2;omega)
   obtain⟨F1,hd1,ho1,hf1⟩:=HA.out.ex
   have had:=ladd_calls hd1 HFT.out ho1 (GI.segs HGI.out) (by have:=HK.out;have:=H40.out;omega) R A5 A6 c5 c6 HRK.out.1
    (fun W' hW'=>Kd.C_below HK5.out (Rc.below_keeps HBL.out hW' (fun k hk=>hk.elim (hd1.base k) (fun e=>e ▸ ho1.above)))) HN5.out
    (fun W' hW'=>Kd.C_below HK6.out (Rc.below_keeps HBL.out hW' (fun k hk=>hk.elim (hd1.base k) (fun e=>e ▸ ho1.above))))
   have HTU:=ak (fun w' M' S' N'=>At.of_turned (w':=w') (M':=M') (S':=S') (N':=N') hd1 ho1 hf1 HA.out)
   have hgi2:=(GI.step HGI.out R (bytes_ok HRK.out) (by have:=HK.out;have:=H40.out;omega))
   have hst:=HST.out
   unfold addG at hst hgi2
   generalize (gsM (rs.take k))=p at *
   generalize laddM p.1 p.2.1 R=q at *
   obtain⟨M',S',n1,a1,k1,er⟩:=q
   dsimp only at had hst hgi2
   simp only[recC] at had
   have HAD:=ak had
   have HST2:=ak hst
   have HG2:=ak hgi2
   clear had hst hgi2 hd1 ho1 hf1 HST
   go_upto_region 15 with(go_at_call 9;(with_reducible refine HAD.out.mono ?_);rintro e w5 ⟨rfl,h5⟩;have H5:=ak (HTU.out _ _ _ _ h5);clear h5)
   by_cases he:er=0
   ·subst he
    have hg2:=HG2.out
    have hst2:=HST2.out
    rw[if_pos (by trivial)] at hg2 hst2
    have HG3:=ak hg2
    have HST3:=ak hst2
    have HSL:=ak (show(p.2.2.length+1)*8≤140737488355328 by have h1:=HLN.out;have h2:=H40.out;rw[List.length_take] at h1;omega)
    have HBS:=ak H5.out.bel.size
    clear hg2 hst2 HST2 HG2
    go_wp2_with (at_builtin;refine print_append_num (w0:=W) W.heap.size rfl (.tmp 86) (.tmp 88) 24 3 .i64 8 rfl Tryz.underlying24 infoI (by decide) (.slice A p.2.2.length c) p.2.2 a1 rfl rfl H5.out.row H5.out.bel HBS.out HSL.out ?_;intro v4 w6 ho4 hb4 hg4 hat4;obtain⟨A',c',hv4,hA6⟩:=H5.out.grown (GI.one HG3.out (by simp)) (GI.head HGI.out) ho4 hb4 hg4 hat4;subst hv4;have HA6:=ak hA6;clear ho4 hb4 hg4 hat4 hA6)
    go_roundg gk
    case measure=>omega
    case rel=>exact⟨k+1,A',c',by rw[HST3.out,show(p.2.2++[a1]).length=p.2.2.length+1 from List.length_append],by rw[wrap_succ k (by have:=HK.out;have:=H40.out;omega)],⟨by have:=HK.out;omega⟩,⟨by rw[HST3.out];exact HA6.out⟩⟩
   ·have d9:(er==0)=false:=beq_eq_false_iff_ne.mpr he
    have HE:=ak he
    clear he
    go_wp2
    go_roundg gk
    case measure=>omega
    case rel=>exact⟨k+1,A,c,by rw[HST2.out,if_neg HE.out],by rw[wrap_succ k (by have:=HK.out;have:=H40.out;omega)],⟨by have:=HK.out;omega⟩,⟨by rw[HST2.out,if_neg HE.out];exact H5.out⟩⟩
end Go.Proofs.YteccdnejnbkbiaaGreat.Gt
namespace Go.Proofs.YteccdnejnbkbiaaGreat.Gt
open Go.RowKit YteccdnejnbkbiaaGreatW.PrintWords
theorem LogGets.walk (a0:Option Addr) (n0 c0:Nat) (z0:List Rc.Re) (n at_:Int) (W:World)
  (h0:z0.length=n0∧n0≤c0∧c0≤maxLen∧Kd.C Pt.k35 W a0 n0 z0∧∀y∈z0,HrA.OkRec y) (_h1:(Lit.int .i64 n).wf=true) (_h2:(Lit.int .i64 at_).wf=true):
  Calls Tryz.prog 5 #[.slice a0 n0 c0,.int .i64 n,.int .i64 at_] W fun e w'=>e=.returned (.bool true)∧Below W.heap.size W w':=by
 obtain⟨rfl,p0,m0,q0,r0⟩:=h0
 exact gets_calls a0 c0 z0 n at_ W q0 p0 r0
end Go.Proofs.YteccdnejnbkbiaaGreat.Gt
end
section
namespace Go.Proofs.YteccdnejnbkbiaaGreatW.PrintWords
open Go.ChangeShapes Go.WideShapes
end Go.Proofs.YteccdnejnbkbiaaGreatW.PrintWords
end
