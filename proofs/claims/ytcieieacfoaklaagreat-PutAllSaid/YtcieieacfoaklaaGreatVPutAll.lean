/- The statement PutAll holds: for every input the law answers true. The texts are joined. -/
import Derived.Test.YtcieieacfoaklaaGreatV6
import Derived.Test.YtcieieacfoaklaaGreatRows
import Derived.WalkKit
import Derived.ProofKit
import Derived.OpenShut
import Derived.ShutString
import Derived.ChangeOld
import Derived.Below
import Derived.SizedLaws
set_option linter.unusedVariables false
set_option linter.unusedSimpArgs false
set_option maxRecDepth 100000
set_option maxHeartbeats 8000000
section
namespace Go.Proofs.YtcieieacfoaklaaGreat.Pw
open Go.RowKit Go.Shelf Go.Maps Fr Ext Pt Go.Proofs.YtcieieacfoaklaaGreat.Nm Dk Mn Pu Ct Lg YtcieieacfoaklaaGreatW.PrintWords YtcieieacfoaklaaGreatW.PrintLast YtcieieacfoaklaaGreatW.PrintMore
open Rc (Re Lo withinB keyB zeroR recC Norm Norm.intro Norm.elim)
variable {W w w' w1:World} {B l g wb cb c N k n:Nat} {M M':DiskM} {F F' G:Nat→Prop} {S S':LogS} {p p':Wr} {hv pv hv' pv':Value} {A A':Option Addr} {q q':St} {b:List Int}
theorem AtW.wide {m:Nat} (h:AtW W w l g wb cb q k n) (hm:n≤m):AtW W w l g wb cb q k m:=⟨h.ex,h.bel,h.ok.mono hm⟩
theorem value_done {lim:Int} {st:List Th.Stand} {all:List Int} {pl:Pl} (h:AtW W w l g wb cb q k n) (hd:Done q.2.2 pl st all) (ht:Th.TI lim q.1 q.2.1 st) (hal:all.length≤1000000):
  Calls Tryz.prog 16 #[ptr l,.agg (placeV pl)] w fun e w'=>e=.returned (.tuple #[.string (strOfNums all),.bool true])∧RowKit.Below w.heap.size w w':=by
 rcases hd.reads ht with⟨h1,h2,h3⟩ | ⟨h1,h2,h3,ls,h4,h5,h6,h7⟩
 ·exact value_inline h pl q.2.2.key all hd.1 h2 h3
 ·exact value_root h pl q.2.2.key q.2.2.id all q.2.2.pieces ls hd.1 h2 h3 h4 h5 h6 hal h7
theorem done_kind {st:List Th.Stand} {all:List Int} {pl:Pl} {p:Wr} (hd:Done p pl st all):(decide (pl.kind=3)=true∧(all.length:Int)≤p.c.small)∨(pl.kind=2∧p.c.small < all.length):=by
 rcases hd.2 with⟨h1,h2,_⟩ | ⟨h1,h2,_⟩
 ·exact .inl ⟨decide_eq_true h2,h1⟩
 ·exact .inr ⟨h2,h1⟩
def opA (x:Op8):OpA:=(x.f0,x.f1,x.f2)
theorem costs_map (xs:List Op8):costs (xs.map opA)=(xs.map costO).sum:=by
 unfold costs
 rw[List.map_map]
 rfl
theorem run_succ (s:StA) (xs:List Op8) (k:Nat) (hk:k < xs.length):runA s ((xs.map opA).take (k+1))=stepA (opA xs[k]) (runA s ((xs.map opA).take k))∧costs ((xs.map opA).take (k+1))=costs ((xs.map opA).take k)+costO xs[k]:=by
 have h:(xs.map opA).take (k+1)=(xs.map opA).take k++[opA xs[k]]:=by
  rw[List.take_succ_eq_append_getElem (by simpa using hk),List.getElem_map]
 rw[h,runA_snoc]
 refine⟨rfl,?_⟩
 unfold costs
 rw[List.map_append,List.sum_append]
 simp [costA,costO,opA]
theorem step_add {o:OpA} {s:StA} (h:o.1=4):stepA o s=(((laddM s.1.1 s.1.2.1 o.2.2).1,(laddM s.1.1 s.1.2.1 o.2.2).2.1,s.1.2.2),s.2):=if_pos h
theorem step_write {o:OpA} {s:StA} (h:¬o.1=4) (h2:o.1 < 3):stepA o s=((writeM s.1 o.2.1).1,if(writeM s.1 o.2.1).2=0 then s.2++o.2.1 else s.2):=(if_neg h).trans (if_pos h2)
theorem step_none {o:OpA} {s:StA} (h:¬o.1=4) (h2:¬o.1 < 3):stepA o s=s:=(if_neg h).trans (if_neg h2)
theorem all_calls (key:ByteArray) (id:Int) (c:Cfg) (a0:Option Addr) (c0:Nat) (xs:List Op8) (W:World) (hr:Kd.C k40 W a0 xs.length xs) (hn:xs.length < 100000000000000)
  (hs:∀o∈xs,o.f1.length < 1000000000000000∧o.f2.f6.length < 1000000000000000∧o.f2.f1.size < 1000000000000000∧o.f2.f5.length < 1000000000000000) (hB:∀o∈xs,IsBytes o.f1∧IsBytes o.f2.f6∧(Lit.int .i64 o.f2.f0).wf=true):
  Calls Tryz.prog 3 #[.string key,.int .i64 id,.agg (cfgV c),.slice a0 xs.length c0] W fun e w'=>e=.returned (.bool true)∧RowKit.Below W.heap.size W w':=by
 have hz:=heap_alloc_new W (.cells (cfgV c) 23)
 have hb0:=below_alloc (RowKit.Below.refl W.heap.size W) (.cells (cfgV c) 23)
 have HHD:=ak head_calls
 have HBB:=ak hB
 have HNX:=ak hn
 have HSX:=ak hs
 have hbb:=Kd.C_below hr hb0
 clear hB hr hn hs
 go_enter Tryz.func3,Tryz.ntmps3
 go_upto_region 1 with(fail)
 generalize hw0:W.alloc (.cells #[.int .i64 c.piece,.int .i64 c.small,.int .i64 c.max,.int .i64 c.limit,.int .i64 c.handles] 23)=w0 at hz hb0 hbb ⊢
 clear hw0
 obtain⟨kb,hkb⟩:∃kb,W.heap.size=kb:=⟨_,rfl⟩
 rw[hkb] at hz ⊢
 have HKB:=ak hkb
 have HZ:=ak hz
 have HB0:=ak hb0
 have HRB:=ak hbb
 clear hkb hz hb0 hbb
 have HX:=ak (fun w' (h:RowKit.Below w0.heap.size w0 w')=>(h.block _ (blk_lt HZ.out)).trans HZ.out)
 clear HZ
 go_upto_region 2 with(go_at_call 8;(with_reducible refine(HHD.out _).mono ?_);rintro e w1 ⟨rfl,hb1⟩;have HB1:=ak hb1;clear hb1)
 have HNW:=ak (new? 16777216 w0.heap.size w1 HB1.out.size)
 clear HHD
 go_upto_region 3 with(go_at_call 9;(with_reducible refine HNW.out.mono ?_);rintro e w2 ⟨g,F,rfl,hd2,hf2,hb2⟩;have HD2:=ak hd2;have HB2:=ak (HB1.out.trans (hb2.mono HB1.out.size));clear hd2 hf2 hb2)
 clear HNW HB1
 have HGR:=ak (great_calls a0 c0 xs HNX.out (Kd.C_below HRB.out HB2.out) HSX.out)
 go_upto_if 33 with(go_at_call 10;(with_reducible refine HGR.out.mono ?_);rintro e w3 ⟨gr,rfl,hb3,hgr⟩;have HB3:=ak (HB2.out.trans (hb3.mono HB2.out.size));have HD3:=ak (HD2.out.below hb3);have HGT:=ak hgr;clear hb3 hgr)
 ·go_wp2
  go_ret
  exact⟨rfl,HB0.out.trans (HB3.out.mono HB0.out.size)⟩
 have hgf:gr=false:=by first | assumption | simpa using ‹¬gr=true›
 subst hgf
 clear HGR HB2 HD2
 by_cases hk9:(900:Int) < (key.size:Int)
 ·have d1:decide ((900:Int) < (key.size:Int))=true:=decide_eq_true hk9
  have d2:decide (900 < key.size)=true:=decide_eq_true (by omega)
  rw[d1]
  clear hk9
  go_wp2
  go_ret
  exact⟨rfl,HB0.out.trans (HB3.out.mono HB0.out.size)⟩
 have d1:decide ((900:Int) < (key.size:Int))=false:=decide_eq_false hk9
 have d2:decide (900 < key.size)=false:=decide_eq_false (by omega)
 rw[d1]
 clear hk9
 have hop:=open_calls HD3.out (Fit.new _) 4096
 rw[show openM (newM 16777216) 4096=(some ⟨4096,⟨[],1⟩,-1⟩,0) from rfl] at hop
 have HOP:=ak hop
 clear hop
 go_upto_region 8 with(go_at_call 11;(with_reducible refine HOP.out.mono ?_);rintro e w4 ⟨hb4,l,rfl,ho4,hl4⟩;have HB4:=ak (HB3.out.trans (hb4.mono HB3.out.size));have HD4:=ak (HD3.out.below hb4);have HO4:=ak ho4;clear hb4 ho4 hl4)
 clear HOP HB3 HD3
 have x0:w4.cell? ⟨kb,0,none⟩=some (.int .i64 c.piece):=(blk_cell (HX.out _ HB4.out) 0).trans rfl
 have x1:w4.cell? ⟨kb,1,none⟩=some (.int .i64 c.small):=(blk_cell (HX.out _ HB4.out) 1).trans rfl
 have x2:w4.cell? ⟨kb,2,none⟩=some (.int .i64 c.max):=(blk_cell (HX.out _ HB4.out) 2).trans rfl
 have x3:w4.cell? ⟨kb,3,none⟩=some (.int .i64 c.limit):=(blk_cell (HX.out _ HB4.out) 3).trans rfl
 have x4:w4.cell? ⟨kb,4,none⟩=some (.int .i64 c.handles):=(blk_cell (HX.out _ HB4.out) 4).trans rfl
 by_cases hok:rightC c=true∧keyB key=true∧withinB id 0 1099511627776=true
 case neg=>
  have HN:=ak (new_none l key id c w4 (if_neg hok))
  clear hok
  go_wp2_with (go_at_call 12;(with_reducible refine HN.out.mono ?_);rintro e w5 ⟨rfl,hb5⟩;have HB5:=ak (HB4.out.trans (hb5.mono HB4.out.size));clear hb5)
  go_ret
  exact⟨rfl,HB0.out.trans (HB5.out.mono HB0.out.size)⟩
 have HRG:=ak hok.1
 have HN:=ak (new_some l key id c w4 hok.1 hok.2.1 hok.2.2)
 have HAI:=ak (AI.of (AI.new hok.1 hok.2.1 hok.2.2) (xs.map opA) (fun o ho=>by
  obtain⟨x,hx,rfl⟩:=List.mem_map.1 ho
  exact⟨(HBB.out x hx).1,(HBB.out x hx).2.1⟩) (by rw[List.length_map];exact(HGT.out trivial).1) (by rw[costs_map];exact(HGT.out trivial).2))
 clear hok
 go_upto_region 11 with(go_at_call 12;(with_reducible refine HN.out.mono ?_);rintro e w5 ⟨wb,cb,rfl,hb5,hw5,hc5,ho5,hu5⟩;have HA5:=ak (AtW.start HB4.out HD4.out (Fit.new _) HO4.out (Nat.zero_le _) HRG.out hb5 hw5 hc5 ho5 hu5);clear hb5 hw5 hc5 ho5 hu5)
 clear HN HB4 HD4 HO4 x0 x1 x2 x3 x4
 obtain⟨s0,hs0⟩:∃s:StA,((newM 16777216,⟨4096,⟨[],1⟩,-1⟩,wr0 key id c),[])=s:=⟨_,rfl⟩
 rw[hs0] at HAI
 have HA5:=ak (show AtW w0 w5 l g wb cb s0.1 0 0 by rw[← hs0];exact HA5.out)
 have HS0:=ak (show s0.2=[] by rw[← hs0])
 clear hs0
 have HNX1:=ak (HGT.out trivial).1
 have HCS:=ak (show ∀k,k≤xs.length→costs ((xs.map opA).take k)≤20000 from fun k hk=>by
  have h1:costs ((xs.map opA).take k)+costs ((xs.map opA).drop k)=costs (xs.map opA):=by
   unfold costs
   rw[← List.sum_append,← List.map_append,List.take_append_drop]
  rw[costs_map] at h1
  have:=(HGT.out trivial).2
  omega)
 go_wp2
 go_loopg [14,15] xs.length (fun kq v14 v15 wr=>∃(k:Nat),v14=.string (strOfNums (runA s0 ((xs.map opA).take k)).2)∧v15=.int .i64 k∧Aside0 (k+kq=xs.length)∧Aside0 (AtW w0 wr l g wb cb (runA s0 ((xs.map opA).take k)).1 k (costs ((xs.map opA).take k))))
 case atStart=>exact⟨0,by rw[List.take_zero];show _=Value.string (strOfNums s0.2);rw[HS0.out];rfl,rfl,⟨by omega⟩,⟨by rw[List.take_zero];exact HA5.out⟩⟩
 case round=>
  obtain⟨k,rfl,rfl,HQ,HA⟩:=hrel
  have hai:=HAI.out k (by have:=HQ.out;rw[List.length_map];omega)
  have hcs:=HCS.out k (by have:=HQ.out;omega)
  have HN20:=ak hcs
  clear hcs
  cases gk with
  | zero=>
   obtain rfl:k=xs.length:=by have:=HQ.out;omega
   have d1:decide ((xs.length:Int) < (xs.length:Int))=false:=decide_eq_false (by omega)
   have d2:decide (xs.length < xs.length)=false:=decide_eq_false (by omega)
   have hlen:=hai.len
   have HAL:=ak (show(runA s0 ((xs.map opA).take xs.length)).2.length≤20000 by have:=HN20.out;omega)
   obtain⟨st',m1,m2,m3,m4,m5,m6⟩:=hai.commit HNX1.out HN20.out
   have hcm:=HA.out.commit (by have:=HNX1.out;omega) (by have:=HN20.out;omega)
   generalize runA s0 ((xs.map opA).take xs.length)=s at *
   obtain⟨all,hall⟩:∃a,s.2=a:=⟨_,rfl⟩
   rw[hall] at m3 m6 HAL ⊢
   generalize commitM s.1=r at *
   obtain⟨r1,pl,r3⟩:=r
   dsimp only at m1 m2 m3 m4 m5 m6 hcm
   subst m1
   have HCM:=ak (show Calls Tryz.prog 15 #[ptr wb] wr (fun e w'=>e=.returned (.tuple #[.agg #[.int .i64 pl.seg,.int .i64 pl.kind,.string pl.key,.int .i64 pl.at_,.int .i64 pl.size],.int .i64 0])∧AtW w0 w' l g wb cb r1 (xs.length+1) (costs ((xs.map opA).take xs.length))) from hcm)
   have M2:=ak m2
   have M3:=ak m3
   have M4:=ak m4
   have M5:=ak m5
   have M6:=ak m6
   clear hai hcm m2 m3 m4 m5 m6 hlen hall
   go_upto_region 24 with(go_at_call 15;(with_reducible refine HCM.out.mono ?_);rintro e w6 ⟨rfl,h6⟩;have H6:=ak h6;clear h6)
   have hp7:=heap_alloc_new w6 (.cells (placeV pl) 47)
   have hb7:=below_alloc (RowKit.Below.refl w6.heap.size w6) (.cells (placeV pl) 47)
   generalize hw7:w6.alloc (.cells #[.int .i64 pl.seg,.int .i64 pl.kind,.string pl.key,.int .i64 pl.at_,.int .i64 pl.size] 47)=w7 at hp7 hb7 ⊢
   clear hw7
   have H7:=ak (H6.out.below hb7)
   obtain⟨pb,hpb⟩:∃pb,w6.heap.size=pb:=⟨_,rfl⟩
   rw[hpb] at hp7 ⊢
   have y0:=bq hp7 0 (.int .i64 pl.seg)
   have y1:=bq hp7 1 (.int .i64 pl.kind)
   have y2:=bq hp7 2 (.string pl.key)
   have y3:=bq hp7 3 (.int .i64 pl.at_)
   have y4:=bq hp7 4 (.int .i64 pl.size)
   have HP7:=ak hp7
   clear hp7 hb7 hpb HCM H6 HA
   have HVA:=ak (value_done H7.out M3.out M2.out (by have:=HAL.out;omega))
   have hkk:=M3.out.1.trans M4.out
   have hdk:=done_kind M3.out
   rw[M5.out] at hdk
   have HDK:=ak hdk
   have hq:(key.toList==key.toList)=true:=beq_self_eq_true _
   have HHE:=ak hkk
   clear hkk hdk
   go_upto_region 25 with(go_at_call 16;(with_reducible refine HVA.out.mono ?_);rintro e w8 ⟨rfl,hb8⟩;have H8:=ak (H7.out.below hb8);have HP8:=ak ((hb8.block _ (blk_lt HP7.out)).trans HP7.out);clear hb8)
   clear y0 y1 y2 y3 y4 HVA H7 HP7
   have y1:=bq HP8.out 1 (.int .i64 pl.kind)
   have y2:w8.cell? ⟨pb,2,none⟩=some (.string key):=(blk_cell HP8.out 2).trans (by rw[← HHE.out];rfl)
   have x1:w8.cell? ⟨kb,1,none⟩=some (.int .i64 c.small):=(blk_cell (HX.out _ H8.out.bel) 1).trans rfl
   have HSI:=ak (show Calls Tryz.prog 17 #[ptr wb] w8 (fun e w'=>e=.returned (.int .i64 all.length)∧w'=w8) from H8.out.size.mono (fun e w' he=>⟨he.1.trans (by rw[M6.out]),he.2⟩))
   have hsz:=str_size all
   generalize strOfNums all=st at hsz ⊢
   have hq2:(st.toList==st.toList)=true:=beq_self_eq_true _
   have HEN:=ak (HB0.out.trans (H8.out.bel.mono HB0.out.size))
   have hq3:((all.length:Int)==(st.size:Int))=true:=by rw[hsz];exact beq_self_eq_true _
   have hq4:(all.length==st.size)=true:=by rw[hsz];exact beq_self_eq_true _
   rcases HDK.out with⟨k1,k2⟩ | ⟨k1,k2⟩
   ·have k1:pl.kind=3:=of_decide_eq_true k1
    rw[k1] at y1
    have q1:decide ((st.size:Int)≤c.small)=true:=decide_eq_true (by rw[hsz];exact k2)
    clear k1 k2 hsz
    go_wp2_with (go_at_call 17;(with_reducible refine HSI.out.mono ?_);rintro e w9 ⟨rfl,hw⟩;obtain rfl:=hw.symm)
    go_ret
    exact⟨rfl,HEN.out⟩
   ·rw[k1] at y1
    have q1:decide ((st.size:Int)≤c.small)=false:=decide_eq_false (by rw[hsz];omega)
    clear k1 k2 hsz
    go_wp2_with (go_at_call 17;(with_reducible refine HSI.out.mono ?_);rintro e w9 ⟨rfl,hw⟩;obtain rfl:=hw.symm)
    go_ret
    exact⟨rfl,HEN.out⟩
  | succ gk=>
   have hk0:k < xs.length:=by have:=HQ.out;omega
   have d1:decide ((k:Int) < (xs.length:Int))=true:=decide_eq_true (by omega)
   have d2:decide (k < xs.length)=true:=decide_eq_true hk0
   obtain⟨ad,A1,c1,A7,c7,A8,c8,e0,x0,x1,x2,x3,x4,x5,x6,x7,x8,x9,l1,k1,k7,k8⟩:=at_op HRB.out k hk0
   subst e0
   have hrs:=run_succ s0 xs k hk0
   have hc2:=HCS.out (k+1) hk0
   rw[hrs.2] at hc2
   have HBX:=ak (HBB.out xs[k] (List.getElem_mem hk0))
   have hstep:=hai.step (opA xs[k]) HBX.out.1 HBX.out.2.1 (by have:=HNX1.out;omega) hc2
   generalize xs[k]=x at x0 x1 x2 x3 x4 x5 x6 x7 x8 l1 k1 k7 k8 hrs hc2 HBX hstep
   generalize hrun:runA s0 ((xs.map opA).take k)=s at HA hai hrs hstep ⊢
   have HRS:=ak hrs
   have HC2:=ak hc2
   have HSE:=ak hstep.2
   have HLN:=ak hai.len
   have HL1:=ak l1
   have HK1:=ak k1
   have HK7:=ak k7
   have HK8:=ak k8
   have HRU:=ak hrun
   have y0:=pw_cell_below HA.out.bel x0
   have y1:=pw_cell_below HA.out.bel x1
   have y2:=pw_cell_below HA.out.bel x2
   have y3:=pw_cell_below HA.out.bel x3
   have y4:=pw_cell_below HA.out.bel x4
   have y5:=pw_cell_below HA.out.bel x5
   have y6:=pw_cell_below HA.out.bel x6
   have y7:=pw_cell_below HA.out.bel x7
   have y8:=pw_cell_below HA.out.bel x8
   clear x0 x2 x3 x4 x5 x6 x7 x8 x9 l1 k1 k7 k8 hrs hc2 hstep hai hrun
   have X1:=ak x1
   clear x1
   have b0:(0:Int)≤(k:Int):=by omega
   have b1:(k:Int) < (xs.length:Int):=by omega
   by_cases h4:x.f0=4
   ·have e4:(x.f0==4)=true:=beq_iff_eq.mpr h4
    have HST:=ak (HRS.out.1.trans (step_add h4))
    have HAD:=ak (HA.out.add (by have:=HNX1.out;omega) x.f2 A7 A8 c7 c8 HBX.out.2.2 HBX.out.2.1 (fun W' hW=>Kd.C_below HK7.out hW) (by have:=HC2.out;unfold costO at this;omega) (fun W' hW=>Kd.C_below HK8.out hW))
    clear h4
    simp only[recC] at HAD
    go_wp2_with (go_at_call 13;(with_reducible refine HAD.out.mono ?_);rintro e w6 ⟨⟨v6,rfl⟩,h6⟩;have H6:=ak h6;clear h6)
    go_roundg gk
    case measure=>omega
    case rel=>exact⟨k+1,by rw[HST.out],by rw[wrap_k k (by have:=HNX.out;omega)],⟨by have:=HQ.out;omega⟩,⟨by rw[HST.out,HRS.out.2];exact H6.out.wide (by omega)⟩⟩
   have e4:(x.f0==4)=false:=beq_eq_false_iff_ne.mpr h4
   by_cases h3:x.f0 < 3
   case neg=>
    have e3:decide (x.f0 < 3)=false:=decide_eq_false h3
    have HST:=ak (HRS.out.1.trans (step_none h4 h3))
    clear h3 h4
    go_wp2
    go_roundg gk
    case measure=>omega
    case rel=>exact⟨k+1,by rw[HST.out],by rw[wrap_k k (by have:=HNX.out;omega)],⟨by have:=HQ.out;omega⟩,⟨by rw[HST.out,HRS.out.2];exact(HA.out.wide (by omega)).more (by omega)⟩⟩
   have e3:decide (x.f0 < 3)=true:=decide_eq_true h3
   have hst:=HRS.out.1.trans (step_write h4 h3)
   have hse:=HSE.out h4 h3
   have hwr:=HA.out.writeI (by have:=HNX1.out;omega) HBX.out.1 (by have:=HC2.out;unfold costO at this;omega) A1 c1 HL1.out HK1.out
   have hst:runA s0 ((xs.map opA).take (k+1))=((writeM s.1 x.f1).1,if(writeM s.1 x.f1).2=0 then s.2++x.f1 else s.2):=hst
   have hse:(writeM s.1 x.f1).2≠0→(writeM s.1 x.f1).2=2∧c.max < (s.2.length:Int)+x.f1.length:=hse
   generalize writeM s.1 x.f1=r at hst hse hwr
   obtain⟨r1,r2⟩:=r
   dsimp only at hst hse hwr
   have HWR:=ak hwr
   have HST:=ak hst
   have HSE2:=ak hse
   clear h3 h4 hst hse hwr HSE
   go_upto_region 19 with(go_at_call 14;(with_reducible refine HWR.out.mono ?_);rintro e w6 ⟨rfl,h6⟩;have H6:=ak h6;clear h6)
   clear y0 y1 y2 y3 y4 y5 y6 y7 y8
   have y1:=pw_cell_below H6.out.bel X1.out
   by_cases hr:r2=0
   ·subst hr
    have hcv:=conv_row c1 (Kd.C_below HK1.out H6.out.bel)
    have hadd:=add_str 9 (strOfNums s.2) (strOfNums x.f1) (by rw[str_size,str_size];have h1:=HLN.out;have h2:=HN20.out;have h3:=HC2.out;unfold costO at h3;omega)
    have HST2:=ak (HST.out.trans (by rw[if_pos rfl]))
    go_wp2
    go_roundg gk
    case measure=>omega
    case rel=>exact⟨k+1,by rw[HST2.out,← str_app],by rw[wrap_k k (by have:=HNX.out;omega)],⟨by have:=HQ.out;omega⟩,⟨by rw[HST2.out,HRS.out.2];exact H6.out.wide (by unfold costO;omega)⟩⟩
   obtain⟨g1,g2⟩:=HSE2.out hr
   subst g1
   have HST2:=ak (HST.out.trans (by rw[if_neg (by decide)]))
   have hx6:=HX.out _ H6.out.bel
   have y9:=bq hx6 2 (.int .i64 c.max)
   have hd:decide (wrap64 (((strOfNums s.2).size:Int)+(x.f1.length:Int))≤c.max)=false:=decide_eq_false (by
    rw[str_size]
    have h1:=HLN.out
    have h2:=HN20.out
    have h3:=HC2.out
    unfold costO at h3
    have h4:wrap64 ((s.2.length:Int)+(x.f1.length:Int))=(s.2.length:Int)+(x.f1.length:Int):=by unfold wrap64;omega
    rw[h4]
    omega)
   clear hr g2 hx6
   go_wp2
   go_quiet (fail)
   have H7:=ak (H6.out.below (pw_below_drewN (RowKit.Below.refl w6.heap.size w6) nq))
   clear y9 y1 hd
   generalize w6.drewN nq=w7 at H7 ⊢
   go_wp2
   go_roundg gk
   case measure=>omega
   case rel=>exact⟨k+1,by rw[HST2.out],by rw[wrap_k k (by have:=HNX.out;omega)],⟨by have:=HQ.out;omega⟩,⟨by rw[HST2.out,HRS.out.2];exact H7.out.wide (by unfold costO;omega)⟩⟩
theorem PutAll.walk (key:ByteArray) (id:Int) (c:Cfg) (a0:Option Addr) (n0 c0:Nat) (z0:List Op8) (W:World) (_h0:key.size≤maxLen) (_h1:(Lit.int .i64 id).wf=true)
  (h3:z0.length=n0∧n0≤c0∧c0≤maxLen∧Kd.C k40 W a0 n0 z0∧n0*136≤reachBytes∧∀y∈z0,HrW.OkOp y):
  Calls Tryz.prog 3 #[.string key,.int .i64 id,.agg (cfgV c),.slice a0 n0 c0] W fun e w'=>e=.returned (.bool true)∧RowKit.Below W.heap.size W w':=by
 obtain⟨rfl,p0,m0,q0,r0,s0⟩:=h3
 have hR:reachBytes=140737488351232:=rfl
 refine all_calls key id c a0 c0 z0 W q0 (by omega) (fun o ho=>?_) (fun o ho=>?_)
 ·obtain⟨h1,h2,⟨h3,h4⟩,h5⟩:=s0 o ho
  obtain⟨g1,g2,g3⟩:=h4
  have:=h2.1
  exact⟨by omega,by omega,by omega,by omega⟩
 ·obtain⟨h1,h2,⟨h3,h4⟩,h5⟩:=s0 o ho
  exact⟨Pure.bytes_of_wf _ h2.2,Pure.bytes_of_wf _ h3.2.2.2.2.2.2,h3.1⟩
end Go.Proofs.YtcieieacfoaklaaGreat.Pw
end
section
/- The statement PutAll, out of the walk of the law. -/
namespace Go.Proofs.YtcieieacfoaklaaGreat.putAll
open Go.ChangeShapes Go.WideShapes Go.ChangeAt Go.RowKit
open Go.ChangeMaps (open_string shut_string)
theorem own:ownKnob Tryz.prog.godebug=none:=by kernel_rfl
theorem laidOut:laidOutB Tryz.prog=true:=by kernel_rfl
theorem lifted (os:Os) (started:os.Started) (H:Type) (enc:TypeId×Value→H):
  ReturnsInHanded {} Tryz.checked os 3 .any (Rows.putAllSpec.pre6 enc Tryz.prog Tryz.f3 Rows.putAllRow.domain false) (Rows.putAllSpec.post enc Tryz.prog Tryz.f3 false true false false):=by
 refine returnsInHanded_of_change_sized (C:=Tryz.checked) own started (by kernel_rfl) Tryz.func3
  (ChangeSpec.witness6 (enc:=enc) (C:=Tryz.checked) false ⟨#[],#[.string ByteArray.empty,.int .i64 0,.agg #[.int .i64 0,.int .i64 0,.int .i64 0,.int .i64 0,.int .i64 0],.slice none 0 0],[]⟩ 8 (by kernel_rfl) (by kernel_rfl) (by kernel_rfl) (by kernel_rfl)) ?_
 intro W base args ds gs before hval0 hW hcnd hsz0 _
 have hsz:(DataW.weightsEach Tryz.prog (Tryz.f3.params.toList++Rows.putAllSpec.plain.varTypes Tryz.prog) (ds++gs)).all (·≤reachBytes)=true:=hsz0
 have hval:∀(j:Nat) t v,Tryz.f3.params[j]? =some t→args[j]? =some v→Value.okWide Tryz.prog W .any base t v:=hval0
 have hW':=hW
 obtain⟨p,q,hA0,hV,rfl,hfz,hnd⟩:=hW
 have hA:DataW.TrodAll enc Tryz.prog W 0 (fun _=>true) true Tryz.f3.params.toList args.toList ds p:=hA0
 rw[Tryz.params3] at hA hval hsz
 obtain⟨v0,vs0,d0,ds0,p0,q0,hargs,rfl,rfl,h0,r0⟩:=trodAll_cons hA
 obtain⟨v1,vs1,d1,ds1,p1,q1,rfl,rfl,rfl,h1,r1⟩:=trodAll_cons r0
 obtain⟨v2,vs2,d2,ds2,p2,q2,rfl,rfl,rfl,h2,r2⟩:=trodAll_cons r1
 obtain⟨v3,vs3,d3,ds3,p3,q3,rfl,rfl,rfl,h3,r3⟩:=trodAll_cons r2
 obtain⟨rfl,rfl,rfl⟩:=trodAll_nil r3
 obtain rfl:args=#[v0,v1,v2,v3]:=by cases args;simp_all
 obtain⟨rfl,rfl⟩:=trodVars_none hV
 obtain⟨a0,rfl,rfl,rfl,y0⟩:=open_string Tryz.underlying9 (hval 0 9 v0 rfl rfl) h0
 obtain⟨a1,rfl,rfl,rfl,w1⟩:=open_int Tryz.underlying2 (hval 1 2 v1 rfl rfl) h1
 have k2:=h2
 have lt2:∀x∈p2,x.block < W.heap.size:=by obtain⟨m,hm⟩:=k2;exact DataW.trod_lt m _ _ _ hm
 obtain⟨a2,rfl⟩:=HrC.open_cfg (hval 2 23 v2 rfl rfl) h2
 obtain⟨a3,len3,cap3,rfl⟩:=okWide_slice Tryz.underlying24 (hval 3 24 v3 rfl rfl)
 have k3:=h3
 have lt3:∀x∈p3,x.block < W.heap.size:=by obtain⟨m,hm⟩:=k3;exact DataW.trod_lt m _ _ _ hm
 obtain⟨f3,hf3⟩:=h3
 obtain⟨z3,w3⟩:=HrW.opensW_row (B:=136) Tryz.underlying24 (by kernel_rfl) (by kernel_rfl) HrW.opensW_op hf3 (HrW.light_each hsz 3 _ _ rfl rfl)
 clear hA0 hval0 hsz0 hsz
 refine(Pw.PutAll.walk a0 a1 a2 a3 len3 cap3 z3 W y0 w1 w3).mono fun e W' ⟨he,bel⟩=>?_
 subst he
 exact⟨_,rfl,_,_,_,[],_,[],hW',trodAll_mk1 (shut_bool Tryz.underlying4 _),(trodAll_cons_mk (shut_string Tryz.underlying9 y0) (trodAll_cons_mk (shut_int Tryz.underlying2 w1) (trodAll_cons_mk (Below.trod laidOut (by kernel_rfl) (of_decide_eq_true (by kernel_rfl)) k2 bel lt2) (trodAll_cons_mk (Below.trod laidOut (by kernel_rfl) (of_decide_eq_true (by kernel_rfl)) k3 bel lt3) trodAll_mk0)))),rfl,bel.frame _,fun h=>by cases h⟩
theorem closed:joinedFacts Tryz.pinned.checked.prog 3 Tryz.f3 Rows.putAllSpec Rows.putAllRow=true:=of_decide_eq_true (by kernel_rfl)
theorem over:Rows.putAllRow.holds Tryz.pinned (OpenSpec.ofChange Rows.putAllSpec):=
 OpenClaim.holds_of_wide 3 Tryz.f3 rfl rfl rfl rfl rfl rfl rfl ⟨rfl,rfl,rfl,rfl,rfl⟩ rfl rfl rfl rfl rfl (by kernel_rfl) Tryz.func3 closed
  (of_decide_eq_true (by kernel_rfl)) (by unfold Func.isWrapper;first | (rw[if_pos (by decide+kernel)];kernel_rfl) | (rw[if_neg (by decide+kernel)];exact⟨rfl,rfl⟩))
  (fun os started H enc _=>lifted os started H enc)
theorem proved:Rows.PutAllSaid:=over
#print axioms proved
end Go.Proofs.YtcieieacfoaklaaGreat.putAll
namespace Go.Proofs.YtcieieacfoaklaaGreat
theorem putAll_holds:Rows.PutAllSaid:=putAll.proved
end Go.Proofs.YtcieieacfoaklaaGreat
end
