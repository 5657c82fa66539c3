/- Texts of this claim, joined. -/
import Derived.Test.YteccdnejnbkbiaaGreatV3
import Derived.Test.YteccdnejnbkbiaaGreatV2
import Derived.Test.YteccdnejnbkbiaaGreatV0
import Derived.Test.YteccdnejnbkbiaaGreatV1
import Derived.Lib.Bytealg
import Derived.Shelf.GgSortFunc.InsertionK
import Derived.Shelf.SlSortCmp.WholeK
import Derived.Test.YteccdnejnbkbiaaGreatProg
import Derived.Below
import Derived.Deep.Draws
import Derived.Deep.AppendLies
import Derived.Maps.AppendAt
import Derived.OwnWalk
import Derived.Laws.BytesArg
import Derived.Laws.MakeOwn
import Derived.Laws.OwnMore
import Derived.Deep.OwnRows
import Derived.Tactics
import Derived.Lib.ConvBytes
import Derived.Laws.Slices
import Derived.WalkKit
import Derived.KernelRfl
import Derived.RowKit3
import Derived.Deep.LoopGhost
import Derived.Deep.QuietTactic
import Derived.BigQuiet
import Derived.WideLaws
import Derived.Deep.DeepCutAuto
import Derived.Deep.CutBlock
import Derived.Deep.RegionHeld3
import Derived.Laws.Rows
import Derived.Lib.AppendStr
import Derived.ArgAppend
import Derived.Laws.IdiomCopy
import Derived.OrdersHeld
import Derived.Laws.BitsLemmas
import Derived.RowKit
import Derived.Shelf.SlSortCmp.NoneTotal
import Derived.Shelf.SlIter.AllValuesS
import Derived.Deep.Slices
import Derived.Test.YteccdnejnbkbiaaGreatRows
set_option linter.unusedVariables false
set_option linter.unusedSimpArgs false
set_option maxRecDepth 100000
set_option maxHeartbeats 8000000
section
namespace Go.Proofs.YteccdnejnbkbiaaGreat.Lg
open Go.RowKit Go.Maps Fr Ext Go.Proofs.YteccdnejnbkbiaaGreat.Nm Dk Mn YteccdnejnbkbiaaGreatW.PrintWords YteccdnejnbkbiaaGreatW.PrintLast YteccdnejnbkbiaaGreatW.PrintMore
open Sg (segN segN_le segN_ascii)
open Rc (Re Lo zeroR recC)

structure LogS where
 limit:Int
 man:ManM
 last:Int
abbrev logC (g:Nat) (S:LogS) (A:Option Addr) (c:Nat):Array Value:=#[ptr g,.int .i64 S.limit,.slice A S.man.segs.length c,.int .i64 S.man.next,.int .i64 S.last]
structure LogO (w:World) (B l g:Nat) (F:Nat→Prop) (S:LogS):Prop where
 blk:∃A c,w.heap[l]? =some (.cells (logC g S A c) 70 (0,0))∧Kd.R (Kd.int .i64) 3 w B (fun _=>True) (.slice A S.man.segs.length c) S.man.segs∧∀k,(Value.slice A S.man.segs.length c).ownBlock=some k→¬F k
 self:¬F l
 above:B≤l
variable {w w' w1:World} {B l g N:Nat} {M M':DiskM} {F F' G:Nat→Prop} {S S':LogS}
theorem LogO.lt (h:LogO w B l g F S):l < w.heap.size:=by
 obtain⟨A,c,h1,_⟩:=h.blk
 exact blk_lt h1
theorem LogO.keep (h:LogO w B l g F S) (hk:Keeps F w w') (hF:∀k,F' k→F k∨w.heap.size≤k):LogO w' B l g F' S:=by
 have hl:=h.lt
 obtain⟨⟨A,c,h1,h2,h3⟩,hs,ha⟩:=h
 refine⟨⟨A,c,hk.obj h1 hs,row_keep h2 hk h3,fun k hk' hf=>?_⟩,fun hf=>?_,ha⟩
 ·rcases hF k hf with hf | hf
  ·exact h3 k hk' hf
  ·have:=Kd.R_lt h2 k hk'
   omega
 ·rcases hF l hf with hf | hf
  ·exact hs hf
  ·omega
theorem LogO.below (h:LogO w B l g F S) (hb:RowKit.Below w.heap.size w w'):LogO w' B l g F S:=h.keep (Keeps.of_below hb) (fun _ h=>.inl h)
theorem LogO.turned (h:LogO w B l g F S) (ht:Turned w w' B g N F M'):∃F',DiskAt w' B g N M' F'∧(∀k,F k→F' k)∧(∀k,F' k→F k∨w.heap.size≤k)∧Keeps F w w'∧LogO w' B l g F' S:=by
 obtain⟨F',h1,h2,h3,h4⟩:=ht
 exact⟨F',h1,h2,h3,h4,h.keep h4 h3⟩
def LTurned (w w':World) (B l g N:Nat) (F:Nat→Prop) (M':DiskM) (S':LogS):Prop:=
 ∃F',DiskAt w' B g N M' F'∧(∀k,F k→F' k)∧(∀k,F' k→F k∨w.heap.size≤k)∧LogO w' B l g F' S'∧Keeps (fun k=>F k∨k=l) w w'
theorem LTurned.of_turned (h:LogO w B l g F S) (ht:Turned w w' B g N F M'):LTurned w w' B l g N F M' S:=by
 obtain⟨F',h1,h2,h3,h4,h5⟩:=h.turned ht
 exact⟨F',h1,h2,h3,h5,h4.mono (fun k hk=>.inl hk)⟩
theorem LTurned.mono {N':Nat} (h:LTurned w w' B l g N F M' S') (hN:N≤N'):LTurned w w' B l g N' F M' S':=by
 obtain⟨F',h1,h2⟩:=h
 exact⟨F',h1.mono hN,h2⟩
theorem LTurned.after (hb:RowKit.Below w.heap.size w w1) (h:LTurned w1 w' B l g N F M' S'):LTurned w w' B l g N F M' S':=by
 obtain⟨F',h1,h2,h3,h4,h5⟩:=h
 exact⟨F',h1,h2,fun k hk=>(h3 k hk).imp id (fun h=>Nat.le_trans hb.size h),h4,(Keeps.of_below hb).trans h5⟩
theorem LTurned.glue {w2:World} {N2:Nat} {F1:Nat→Prop} (h2:∀k,F k→F1 k) (h3:∀k,F1 k→F k∨w.heap.size≤k) (h4:Keeps (fun k=>F k∨k=l) w w1) (ht:LTurned w1 w2 B l g N2 F1 M' S'):LTurned w w2 B l g N2 F M' S':=by
 obtain⟨F2,k1,k2,k3,k4,k5⟩:=ht
 refine⟨F2,k1,fun k hk=>k2 k (h2 k hk),fun k hk=>?_,k4,⟨k5.os.trans h4.os,k5.tape.trans h4.tape,k5.output.trans h4.output,Nat.le_trans h4.size k5.size,fun k hk hf=>?_⟩⟩
 ·rcases k3 k hk with hk | hk
  ·exact h3 k hk
  ·exact .inr (Nat.le_trans h4.size hk)
 ·have hF1:¬(F1 k∨k=l):=fun h=>by
   rcases h with h | h
   ·rcases h3 k h with h | h
    ·exact hf (.inl h)
    ·omega
   ·exact hf (.inr h)
  exact(k5.block k (Nat.lt_of_lt_of_le hk h4.size) hF1).trans (h4.block k hk hf)
def hintN (n:Int):ByteArray:=nameOf 2 n
theorem hintN_le (n:Int):(hintN n).size≤maxLen:=nameOf_le _ _
theorem hintN_ascii (n:Int):Ascii (hintN n):=Sg.nameOf_ascii _ _
theorem file_calls (n:Int) (w:World):Calls Tryz.prog 36 #[.int .i64 n] w fun e w'=>e=.returned (.string (segN n))∧RowKit.Below w.heap.size w w':=by
 go_enter Tryz.func36,Tryz.ntmps36
 go_wp2_with (go_at_call 48;(with_reducible refine(Nm.of_calls _ _ _).mono ?_);rintro e w1 ⟨rfl,hb⟩)
 go_ret
 exact⟨rfl,hb⟩
theorem hints_calls (n:Int) (w:World):Calls Tryz.prog 37 #[.int .i64 n] w fun e w'=>e=.returned (.string (hintN n))∧RowKit.Below w.heap.size w w':=by
 go_enter Tryz.func37,Tryz.ntmps37
 go_wp2_with (go_at_call 48;(with_reducible refine(Nm.of_calls _ _ _).mono ?_);rintro e w1 ⟨rfl,hb⟩)
 go_ret
 exact⟨rfl,hb⟩
theorem last_calls (h:LogO w B l g F S):Calls Tryz.prog 11 #[ptr l] w fun e w'=>e=.returned (.tuple #[.int .i64 (max S.last 0),.bool (decide (0≤S.last))])∧RowKit.Below w.heap.size w w':=by
 obtain⟨⟨A,c,h1,h2,h3⟩,hs,ha⟩:=h
 have x4:=bq h1 4 (.int .i64 S.last)
 clear h1 h2 h3 hs ha
 go_enter Tryz.func11,Tryz.ntmps11
 go_wp2
 repeat (go_quiet (fail);try go_wp2)
 go_ret2
 exact⟨rfl,pw_below_drewN (RowKit.Below.refl _ _) _⟩
theorem segs_calls (h:LogO w B l g F S) (hl:S.man.segs.length≤1000000):Calls Tryz.prog 10 #[ptr l] w fun e w'=>∃v,e=.returned v∧Kd.R (Kd.int .i64) 3 w' w.heap.size (fun _=>True) v S.man.segs∧RowKit.Below w.heap.size w w':=by
 obtain⟨⟨A,c,h1,h2,h3⟩,hs,ha⟩:=h
 have x2:=bq h1 2 (.slice A S.man.segs.length c)
 have HCL:=ak (Sh.clone_own (Kd.own_of_R h2) (by omega))
 clear h1 h2 h3 hs ha
 go_enter Tryz.func10,Tryz.ntmps10
 go_wp2_with (go_at_call 28;(with_reducible refine HCL.out.mono ?_);rintro e w1 ⟨v,rfl,ho,hb⟩)
 go_ret
 exact⟨_,rfl,R_ints ho,hb⟩
def logSync (M:DiskM) (S:LogS):DiskM×Int:=if S.last < 0 then(M,0) else syncM M (segN S.last)
theorem sync_calls (hd:DiskAt w B g N M F) (h:LogO w B l g F S):Calls Tryz.prog 38 #[ptr l] w fun e w'=>e=.returned (.int .i64 (logSync M S).2)∧Turned w w' B g N F (logSync M S).1:=by
 obtain⟨⟨A,c,h1,h2,h3⟩,hs,ha⟩:=h
 have x0:=bq h1 0 (ptr g)
 have x4:=bq h1 4 (.int .i64 S.last)
 have HD:=ak hd
 unfold logSync
 clear h1 h2 h3 hs ha hd
 by_cases hn:S.last < 0
 ·have d1:decide (S.last < 0)=true:=decide_eq_true hn
  rw[if_pos hn]
  clear hn
  go_enter Tryz.func38,Tryz.ntmps38
  go_wp2
  go_ret
  exact⟨rfl,Turned.refl HD.out⟩
 ·have d1:decide (S.last < 0)=false:=decide_eq_false hn
  rw[if_neg hn]
  clear hn
  have HSY:=ak (fun W (hW:RowKit.Below w.heap.size w W)=>(HD.out.below hW).sync? (segN S.last) (segN_le _))
  go_enter Tryz.func38,Tryz.ntmps38
  go_upto_region 3 with(fail)
  go_region_with (first
   | (go_at_call 68;(with_reducible refine(HSY.out _ HB1.out).mono ?_);rintro e w2 ⟨rfl,h2⟩;have H2:=ak h2;clear h2)
   | (go_at_call 36;(with_reducible refine(file_calls _ _).mono ?_);rintro e w1 ⟨rfl,hb⟩;have HB1:=ak ((RowKit.Below.refl w.heap.size w).drew.trans hb);have y0:=pw_cell_below HB1.out x0;clear hb))
  all_goals
   try go_wp2
   go_ret
   exact⟨rfl,Turned.after (Keeps.of_below HB1.out) H2.out⟩
end Go.Proofs.YteccdnejnbkbiaaGreat.Lg
end
section
namespace Go.Proofs.YteccdnejnbkbiaaGreat.Lg
open Go.RowKit Go.Maps Fr Ext Go.Proofs.YteccdnejnbkbiaaGreat.Nm Dk Mn YteccdnejnbkbiaaGreatW.PrintWords YteccdnejnbkbiaaGreatW.PrintLast YteccdnejnbkbiaaGreatW.PrintMore
open Sg (segN segN_le segN_ascii)
open Rc (Re Lo zeroR recC)

variable {w w' w1:World} {B l g N:Nat} {M M':DiskM} {F F' G:Nat→Prop} {S S':LogS}
def namesM (M:DiskM):List ByteArray:=(listM M).map fun x=>⟨x.toArray⟩
theorem names_mem {s:ByteArray} (h:s∈namesM M):s.data.toList∈strKeys M.D:=by
 obtain⟨x,hx,rfl⟩:=List.mem_map.1 h
 exact(Sh.isort_perm _ _).mem_iff.1 hx
theorem names_fit (hM:Fit M):∀s∈namesM M,Ascii s∧s.size≤1000000:=by
 intro s hs
 have h:=hM.name (hM.mem.1 (names_mem hs))
 exact⟨h.1,Nat.le_trans h.2 (by decide)⟩
theorem names_length:(namesM M).length=(listM M).length:=List.length_map _
theorem names_le (hM:Fit M):(namesM M).length≤4096:=by
 rw[names_length]
 unfold listM
 rw[(Sh.isort_perm _ _).length_eq,strKeys_length]
 exact hM.size
theorem names_row {base:Nat} {v:Value} (h:w.ownsRow base 9 1 v (listM M).length ((listM M).map encStr)):Kd.R Kd.string 9 w base (fun _=>True) v (namesM M):=by
 refine Kd.R_of_own ?_ (fun _ _=>trivial)
 rw[names_length]
 have e:encs Value.string (namesM M)=(listM M).map encStr:=by simp [encs,namesM,encStr]
 rw[e]
 exact h
def nextM (M:DiskM) (S:LogS):Int:=match (segsL (namesM M)).getLast? with | none=>S.man.next | some z=>max S.man.next (wrap64 (z+1))
theorem segs_length (L:List ByteArray):(segsL L).length≤L.length:=by
 have h1:=Sh.compact_length (Sh.sortL (segL L))
 rw[Sh.sortL_length] at h1
 exact Nat.le_trans h1 (segL_length L)
theorem next_calls (hd:DiskAt w B g N M F) (hM:Fit M) (h:LogO w B l g F S):Calls Tryz.prog 39 #[ptr l] w fun e w'=>e=.returned (.int .i64 (nextM M S))∧RowKit.Below w.heap.size w w':=by
 obtain⟨⟨A,c,h1,h2,h3⟩,hs,ha⟩:=h
 have x0:=bq h1 0 (ptr g)
 have HBK:=ak h1
 have HLI:=ak (hd.list? (Nat.le_trans hM.size (by decide)))
 have HNF:=ak (names_fit hM)
 have HNL:=ak (names_le hM)
 have hnx:nextM M S=match (segsL (namesM M)).getLast? with | none=>S.man.next | some z=>max S.man.next (wrap64 (z+1)):=rfl
 have HSL:=ak (segs_length (namesM M))
 have HSG:=ak (fun W (A:Option Addr) (c:Nat) (hr:Kd.C Kd.string W A (namesM M).length (namesM M)) (hc:(namesM M).length≤c)=>segments_calls A c (namesM M) W hr hc (by have:=HNL.out;omega) HNF.out)
 generalize segsL (namesM M)=t at hnx HSG HSL
 have HNX:=ak hnx
 clear h1 h2 h3 hs ha hd hM hnx
 go_enter Tryz.func39,Tryz.ntmps39
 go_upto_region 2 with(first
  | (go_at_call 72;(with_reducible refine(HSG.out _ _ _ HR1.out.2 HR1.out.1).mono ?_);rintro e w2 ⟨v2,rfl,ho2,hb2⟩;obtain⟨A2,c2,hv2⟩:=own_slice ho2;subst hv2;have HO2:=ak (Kd.R_reads' (R_ints ho2)).2.2;have HB2:=ak (HB1.out.trans (hb2.mono HB1.out.size));clear ho2 hb2)
  | (go_at_call 73;(with_reducible refine HLI.out.mono ?_);rintro e w1 ⟨v1,rfl,ho1,hb1⟩;have hr1:=names_row ho1;obtain⟨A1,c1,hv1⟩:=Kd.R_slice hr1;subst hv1;have HR1:=ak (Kd.R_reads' hr1).2;have HB1:=ak hb1;clear ho1 hr1 hb1))
 have x3:w2.cell? ⟨l,3,none⟩=some (.int .i64 S.man.next):=pw_cell_below HB2.out ((blk_cell HBK.out 3).trans rfl)
 rcases List.eq_nil_or_concat t with ht | ⟨p,z,ht⟩
 ·subst ht
  have e0:(([]:List Int).length)=0:=rfl
  rw[e0]
  have hn:=HNX.out
  have HN2:=ak (show nextM M S=S.man.next from hn)
  clear hn HNX
  go_wp2
  go_ret
  exact⟨by rw[HN2.out];rfl,HB2.out⟩
 ·have hn:=HNX.out
  rw[ht,List.concat_eq_append,List.getLast?_append] at hn
  have HN2:=ak (show nextM M S=max S.man.next (wrap64 (z+1)) from hn)
  have hlen:t.length=p.length+1:=by rw[ht];simp
  obtain⟨ad,e1,y0⟩:=Kd.at_int HO2.out (p.length:Int) (by omega) (by omega)
  subst e1
  have hz:rd t (p.length:Int)=z:=by rw[rd_nat t p.length (by omega)];simp [ht]
  rw[hz,Int.toNat_natCast] at y0
  have HL2:=ak hlen
  rw[hlen]
  generalize hk:p.length=k at y0 HL2 ⊢
  have hkl:k≤4096:=by have h1:=HSL.out;have h2:=HNL.out;have h3:=HL2.out;omega
  have d0:(((k+1:Nat):Int)==0)=false:=beq_eq_false_iff_ne.2 (by omega)
  have d1:((k+1:Nat)==0)=false:=beq_eq_false_iff_ne.2 (by omega)
  have d2:((k:Int)+1==0)=false:=beq_eq_false_iff_ne.2 (by omega)
  have e1:wrap64 ((k:Int)+1 - 1)=(k:Int):=by unfold wrap64;omega
  have e2:wrap64 (((k+1:Nat):Int) - 1)=(k:Int):=by unfold wrap64;omega
  have e3:(k:Int)+1 - 1=(k:Int):=by omega
  have e4:IntKind.i64.wrap (k:Int)=(k:Int):=by rw[i64_w];unfold wrap64;omega
  have m1:k < k+1:=by omega
  have m2:(k:Int) < (k:Int)+1:=by omega
  clear hn HNX hlen hz ht hk
  go_wp2
  repeat (go_quiet (fail);try go_wp2)
  go_ret
  exact⟨by rw[HN2.out];rfl,HB2.out.trans (pw_below_drewN (RowKit.Below.refl _ _) _ |>.mono HB2.out.size)⟩
def getLM (M:DiskM) (S:LogS) (n at_:Int):Re×Int:=if S.man.segs.contains n=true then Sg.getSM M n at_ else(zeroR,3)
theorem getL_calls (hd:DiskAt w B g N M F) (hM:Fit M) (h:LogO w B l g F S) (n at_:Int):Calls Tryz.prog 20 #[ptr l,.int .i64 n,.int .i64 at_] w fun e w'=>Sg.GotE w w' e (getLM M S n at_).1 (getLM M S n at_).2:=by
 obtain⟨⟨A,c,h1,h2,h3⟩,hs,ha⟩:=h
 have HCO:=ak (fun W (hW:RowKit.Below w.heap.size w W)=>Sh.contains_own n (Kd.own_of_R (Kd.R_below h2 hW)))
 have HGE:=ak (fun W (hW:RowKit.Below w.heap.size w W)=>Sg.get_calls (hd.below hW) hM n at_)
 have HBK:=ak h1
 have hdef:getLM M S n at_=if S.man.segs.contains n=true then Sg.getSM M n at_ else(zeroR,3):=rfl
 generalize getLM M S n at_=GM at hdef ⊢
 obtain⟨b,hb⟩:∃b,S.man.segs.contains n=b:=⟨_,rfl⟩
 rw[hb] at hdef HCO
 have HDEF:=ak hdef
 have hz:=heap_alloc_new w (.cells #[.int .i64 0,.string ⟨#[]⟩,.int .i64 0,.int .i64 0,.int .i64 0,.slice none 0 0,.slice none 0 0] 35)
 have hb1:=below_alloc (RowKit.Below.refl w.heap.size w) (.cells #[.int .i64 0,.string ⟨#[]⟩,.int .i64 0,.int .i64 0,.int .i64 0,.slice none 0 0,.slice none 0 0] 35)
 clear h1 h2 h3 hs ha hd hM hdef hb
 go_enter Tryz.func20,Tryz.ntmps20
 go_upto_region 1 with(fail)
 generalize w.alloc (.cells #[.int .i64 0,.string ⟨#[]⟩,.int .i64 0,.int .i64 0,.int .i64 0,.slice none 0 0,.slice none 0 0] 35)=w1 at hz hb1 ⊢
 obtain⟨rc,hrc⟩:∃rc,w.heap.size=rc:=⟨_,rfl⟩
 rw[hrc] at hz ⊢
 have HRC:=ak hrc
 have HZ1:=ak hz
 have HB1:=ak hb1
 have x2:w1.cell? ⟨l,2,none⟩=some (.slice A S.man.segs.length c):=pw_cell_below hb1 ((blk_cell HBK.out 2).trans rfl)
 have x0:w1.cell? ⟨l,0,none⟩=some (ptr g):=pw_cell_below hb1 ((blk_cell HBK.out 0).trans rfl)
 have k0:=bq hz 0 (.int .i64 0)
 have k1:=bq hz 1 (.string ⟨#[]⟩)
 have k2:=bq hz 2 (.int .i64 0)
 have k3:=bq hz 3 (.int .i64 0)
 have k4:=bq hz 4 (.int .i64 0)
 have k5:=bq hz 5 (.slice none 0 0)
 have k6:=bq hz 6 (.slice none 0 0)
 have g0:=blk_frozen hz 0
 have g1:=blk_frozen hz 1
 have g2:=blk_frozen hz 2
 have g3:=blk_frozen hz 3
 have g4:=blk_frozen hz 4
 have g5:=blk_frozen hz 5
 have g6:=blk_frozen hz 6
 clear hz hb1 hrc
 cases b with
 | false=>
  go_wp2_with (go_at_call 30;(with_reducible refine(HCO.out _ HB1.out).mono ?_);rintro e w2 ⟨rfl,hw⟩;obtain rfl:=hw.symm)
  obtain⟨W',p1,p2,p3⟩:=Sg.zero_end HRC.out HZ1.out HB1.out
  rw[← p1]
  refine bodyPost_ret (results_ct rfl _ _ rc 35 (recC zeroR none 0 none 0) (0,0) _ rfl p2 Tryz.underlying35 rfl (by kernel_rfl)) rfl ?_
  rw[HDEF.out,if_neg (by decide)]
  exact⟨none,0,none,0,rfl,Kd.R_nil _ _ _ _ _,Kd.R_nil _ _ _ _ _,p3⟩
 | true=>
  go_upto_region 3 with(go_at_call 30;(with_reducible refine(HCO.out _ HB1.out).mono ?_);rintro e w2 ⟨rfl,hw⟩;obtain rfl:=hw.symm)
  have hG:=HGE.out w1 HB1.out
  have hdef:=HDEF.out
  rw[if_pos (by trivial)] at hdef
  generalize Sg.getSM M n at_=gm at hG hdef
  obtain⟨R,er⟩:=gm
  have HG:=ak hG
  have HDEF2:=ak hdef
  clear hG hdef HDEF k0 k1 k2 k3 k4 k5 k6 g0 g1 g2 g3 g4 g5 g6
  go_wp2_with (go_at_call 47;(with_reducible refine HG.out.mono ?_);rintro e w3 ⟨A5,c5,A6,c6,rfl,hl3,hy3,hb3⟩;have hz3:=(hb3.block _ (blk_lt HZ1.out)).trans HZ1.out;have HZ3:=ak hz3;have HL3:=ak (Kd.R_lower hl3 HB1.out.size);have HY3:=ak (Kd.R_lower hy3 HB1.out.size);have HB3:=ak (HB1.out.trans (hb3.mono HB1.out.size));have k0:=bq hz3 0 (.int .i64 0);have k1:=bq hz3 1 (.string ⟨#[]⟩);have k2:=bq hz3 2 (.int .i64 0);have k3:=bq hz3 3 (.int .i64 0);have k4:=bq hz3 4 (.int .i64 0);have k5:=bq hz3 5 (.slice none 0 0);have k6:=bq hz3 6 (.slice none 0 0);have g0:=blk_frozen hz3 0;have g1:=blk_frozen hz3 1;have g2:=blk_frozen hz3 2;have g3:=blk_frozen hz3 3;have g4:=blk_frozen hz3 4;have g5:=blk_frozen hz3 5;have g6:=blk_frozen hz3 6;clear hl3 hy3 hb3 hz3;simp only[recC])
  refine bodyPost_ret (results_ct rfl _ _ rc 35 (recC R A5 c5 A6 c6) (0,0) _ rfl (blk_put (blk_put (blk_put (blk_put (blk_put (blk_put (blk_put (HZ3.out) 0 _ rfl) 1 _ rfl) 2 _ rfl) 3 _ rfl) 4 _ rfl) 5 _ rfl) 6 _ rfl) Tryz.underlying35 rfl (by kernel_rfl)) rfl ?_
  rw[HDEF2.out]
  exact⟨A5,c5,A6,c6,rfl,Kd.R_mono (Kd.R_far (p:=⟨rc,6,none⟩) (Kd.R_far (p:=⟨rc,5,none⟩) (Kd.R_far (p:=⟨rc,4,none⟩) (Kd.R_far (p:=⟨rc,3,none⟩) (Kd.R_far (p:=⟨rc,2,none⟩) (Kd.R_far (p:=⟨rc,1,none⟩) (Kd.R_far (p:=⟨rc,0,none⟩) (Kd.R_types HL3.out HZ3.out (by decide)) (fun k hk=>hk.2) _) (fun k hk=>hk.2) _) (fun k hk=>hk.2) _) (fun k hk=>hk.2) _) (fun k hk=>hk.2) _) (fun k hk=>hk.2) _) (fun k hk=>hk.2) _) (fun _ _=>trivial),Kd.R_mono (Kd.R_far (p:=⟨rc,6,none⟩) (Kd.R_far (p:=⟨rc,5,none⟩) (Kd.R_far (p:=⟨rc,4,none⟩) (Kd.R_far (p:=⟨rc,3,none⟩) (Kd.R_far (p:=⟨rc,2,none⟩) (Kd.R_far (p:=⟨rc,1,none⟩) (Kd.R_far (p:=⟨rc,0,none⟩) (Kd.R_types HY3.out HZ3.out (by decide)) (fun k hk=>hk.2) _) (fun k hk=>hk.2) _) (fun k hk=>hk.2) _) (fun k hk=>hk.2) _) (fun k hk=>hk.2) _) (fun k hk=>hk.2) _) (fun k hk=>hk.2) _) (fun _ _=>trivial),(((((((HB3.out.setCell (p:=⟨rc,0,none⟩) (Nat.le_of_eq HRC.out) _).setCell (p:=⟨rc,1,none⟩) (Nat.le_of_eq HRC.out) _).setCell (p:=⟨rc,2,none⟩) (Nat.le_of_eq HRC.out) _).setCell (p:=⟨rc,3,none⟩) (Nat.le_of_eq HRC.out) _).setCell (p:=⟨rc,4,none⟩) (Nat.le_of_eq HRC.out) _).setCell (p:=⟨rc,5,none⟩) (Nat.le_of_eq HRC.out) _).setCell (p:=⟨rc,6,none⟩) (Nat.le_of_eq HRC.out) _)⟩
end Go.Proofs.YteccdnejnbkbiaaGreat.Lg
end
section
namespace Go.Proofs.YteccdnejnbkbiaaGreat.Lg
open Go.RowKit Go.Maps Fr Ext Go.Proofs.YteccdnejnbkbiaaGreat.Nm Dk Mn YteccdnejnbkbiaaGreatW.PrintWords YteccdnejnbkbiaaGreatW.PrintLast YteccdnejnbkbiaaGreatW.PrintMore
open Sg (segN segN_le segN_ascii)
open Rc (Re Lo zeroR recC)

variable {w w' w1:World} {B l g N:Nat} {M M':DiskM} {F F' G:Nat→Prop} {S S':LogS}
def openM (M:DiskM) (limit:Int):Option LogS×Int:=
 if limit < 64 then(none,1) else if limit > 1073741824 then(none,1)
 else if(loadM M).2.2=0 then(some ⟨limit,if(loadM M).2.1=true then(loadM M).1 else⟨[],1⟩,-1⟩,0) else(none,(loadM M).2.2)
def OpenE (w w':World) (B g:Nat) (F:Nat→Prop) (e:Ending) (r:Option LogS×Int):Prop:=
 RowKit.Below w.heap.size w w'∧(match r.1 with
  | none=>e=.returned (.tuple #[.pointer none,.int .i64 r.2])
  | some S=>∃l,e=.returned (.tuple #[ptr l,.int .i64 r.2])∧LogO w' B l g F S∧w.heap.size≤l)
theorem open_calls (hd:DiskAt w B g N M F) (hM:Fit M) (limit:Int):Calls Tryz.prog 8 #[ptr g,.int .i64 limit] w fun e w'=>OpenE w w' B g F e (openM M limit):=by
 have HLO:=ak (load_calls hd hM)
 have HBS:=ak (Nat.le_trans (hd.base g hd.self) (Nat.le_of_lt (hd.lt g hd.self)))
 have HLT:=ak hd.lt
 have hdef:openM M limit=if limit < 64 then(none,1) else if limit > 1073741824 then(none,1) else if(loadM M).2.2=0 then(some ⟨limit,if(loadM M).2.1=true then(loadM M).1 else⟨[],1⟩,-1⟩,0) else(none,(loadM M).2.2):=rfl
 generalize openM M limit=OM at hdef ⊢
 generalize loadM M=lm at hdef HLO
 obtain⟨m,ok,er⟩:=lm
 dsimp only at hdef
 have HDEF:=ak hdef
 clear hd hM hdef
 by_cases h1:limit < 64
 ·have d1:decide (limit < 64)=true:=decide_eq_true h1
  have H1:=ak h1
  clear h1
  go_enter Tryz.func8,Tryz.ntmps8
  go_wp2
  go_ret2
  rw[HDEF.out,if_pos H1.out]
  exact⟨RowKit.Below.refl _ _,rfl⟩
 have d1:decide (limit < 64)=false:=decide_eq_false h1
 by_cases h2:limit > 1073741824
 ·have d2:decide (limit > 1073741824)=true:=decide_eq_true h2
  have d2':decide (1073741824 < limit)=true:=decide_eq_true h2
  have H1:=ak h1
  have H2:=ak h2
  clear h1 h2
  go_enter Tryz.func8,Tryz.ntmps8
  go_wp2
  go_ret2
  rw[HDEF.out,if_neg (by have:=H1.out;omega),if_pos H2.out]
  exact⟨RowKit.Below.refl _ _,rfl⟩
 have d2:decide (limit > 1073741824)=false:=decide_eq_false h2
 have d2':decide (1073741824 < limit)=false:=decide_eq_false h2
 have hdef:=HDEF.out
 rw[if_neg h1,if_neg h2] at hdef
 have HDEF2:=ak hdef
 clear hdef HDEF h1 h2
 go_enter Tryz.func8,Tryz.ntmps8
 go_upto_region 4 with(go_at_call 23;(with_reducible refine HLO.out.mono ?_);rintro e w1 ⟨A1,c1,rfl,hr1,hb1⟩;have HR1:=ak hr1;have HB1:=ak hb1;clear hr1 hb1)
 have hn2:=heap_alloc_new w1 (.cells #[.slice A1 m.segs.length c1,.int .i64 m.next] 66)
 have hb2:=below_alloc (RowKit.Below.refl w1.heap.size w1) (.cells #[.slice A1 m.segs.length c1,.int .i64 m.next] 66)
 have HR2:=ak (Kd.R_below HR1.out hb2)
 have HB2:=ak (HB1.out.trans (hb2.mono HB1.out.size))
 generalize w1.alloc (.cells #[.slice A1 m.segs.length c1,.int .i64 m.next] 66)=w2 at hn2 hb2 HR2 HB2 ⊢
 obtain⟨mb,hmb⟩:∃mb,w1.heap.size=mb:=⟨_,rfl⟩
 rw[hmb] at hn2 ⊢
 have HMB:=ak (show w.heap.size≤mb by rw[← hmb];exact HB1.out.size)
 have HN2:=ak hn2
 have k0:=bq hn2 0 (.slice A1 m.segs.length c1)
 have k1:=bq hn2 1 (.int .i64 m.next)
 have g0:=blk_frozen hn2 0
 have g1:=blk_frozen hn2 1
 clear hn2 hb2 hmb
 by_cases he:er=0
 case neg=>
  have d3:(er !=0)=true:=bne_iff_ne.mpr he
  have HE:=ak he
  clear he
  go_wp2
  go_ret2
  rw[HDEF2.out,if_neg HE.out]
  exact⟨HB2.out,rfl⟩
 subst he
 cases ok with
 | true=>
  go_wp2
  go_ret2
  rw[HDEF2.out,if_pos (by trivial),if_pos (by trivial)]
  have hnew:=heap_alloc_new w2 (.cells #[ptr g,.int .i64 limit,.slice A1 m.segs.length c1,.int .i64 m.next,.int .i64 (-1)] 70)
  have hbb:=below_alloc (RowKit.Below.refl w2.heap.size w2) (.cells #[ptr g,.int .i64 limit,.slice A1 m.segs.length c1,.int .i64 m.next,.int .i64 (-1)] 70)
  refine⟨HB2.out.trans (hbb.mono HB2.out.size),w2.heap.size,rfl,⟨⟨A1,c1,hnew,Kd.R_lower (Kd.R_below HR2.out hbb) HBS.out,fun k hk hf=>?_⟩,fun hf=>?_,?_⟩,HB2.out.size⟩
  ·have h1:=Kd.R_base HR2.out k hk
   have h2:=HLT.out k hf
   omega
  ·have h2:=HLT.out _ hf
   have h3:=HB2.out.size
   omega
  ·exact Nat.le_trans HBS.out HB2.out.size
 | false=>
  go_wp2
  go_ret2
  rw[HDEF2.out,if_pos (by trivial),if_neg (by decide)]
  have hb3:RowKit.Below w.heap.size w ((w2.setCell ⟨mb,0,none⟩ (.slice none 0 0)).setCell ⟨mb,1,none⟩ (.int .i64 1)):=(HB2.out.setCell (p:=⟨mb,0,none⟩) HMB.out _).setCell (p:=⟨mb,1,none⟩) HMB.out _
  have hs3:((w2.setCell ⟨mb,0,none⟩ (.slice none 0 0)).setCell ⟨mb,1,none⟩ (.int .i64 1)).heap.size=w2.heap.size:=by rw[World.size_setCell,World.size_setCell]
  rw[← hs3]
  generalize (w2.setCell ⟨mb,0,none⟩ (.slice none 0 0)).setCell ⟨mb,1,none⟩ (.int .i64 1)=w3 at hb3 ⊢
  clear hs3
  have hnew:=heap_alloc_new w3 (.cells #[ptr g,.int .i64 limit,.slice none 0 0,.int .i64 1,.int .i64 (-1)] 70)
  have hbb:=below_alloc (RowKit.Below.refl w3.heap.size w3) (.cells #[ptr g,.int .i64 limit,.slice none 0 0,.int .i64 1,.int .i64 (-1)] 70)
  refine⟨hb3.trans (hbb.mono hb3.size),w3.heap.size,rfl,⟨⟨none,0,hnew,Kd.R_nil _ _ _ _ _,fun k hk hf=>?_⟩,fun hf=>?_,?_⟩,hb3.size⟩
  ·cases hk
  ·have h2:=HLT.out _ hf
   have h3:=hb3.size
   omega
  ·exact Nat.le_trans HBS.out hb3.size
def removesM:List ByteArray→DiskM→DiskM
 | [],M=>M
 | s::r,M=>removesM r (gone1 M s).1
theorem removes_take (L:List ByteArray):∀(M:DiskM) (k:Nat) (hk:k < L.length),removesM (L.take (k+1)) M=(gone1 (removesM (L.take k) M) L[k]).1:=by
 induction L with
 | nil=>intro M k hk;exact absurd hk (Nat.not_lt_zero _)
 | cons s r ih=>
  intro M k hk
  cases k with
  | zero=>rfl
  | succ k=>exact ih (gone1 M s).1 k (by simpa using hk)
theorem removes_fit (L:List ByteArray):∀M,Fit M→Fit (removesM L M):=by
 induction L with
 | nil=>intro M h;exact h
 | cons s r ih=>intro M h;exact ih _ (gone1_fit h s)
theorem remove_calls (L:List ByteArray) (A0:Option Addr) (hd:DiskAt w B g N M F) (hM:Fit M) (h:LogO w B l g F S) (hL:L.length≤1000000) (hN:N+L.length≤1000000000000) (hs:∀s∈L,s.size≤maxLen) (hr:Kd.C Kd.string w A0 L.length L) (hrk:∀W,Keeps F w W→Kd.C Kd.string W A0 L.length L) (c0:Nat):
  Calls Tryz.prog 35 #[ptr l,.slice A0 L.length c0] w fun e w'=>e=.returned (.tuple #[])∧Turned w w' B g (N+L.length) F (removesM L M):=by
 have HD:=ak hd
 have HM:=ak hM
 have HO:=ak h
 have HS:=ak hs
 have HR:=ak hrk
 have HN:=ak hN
 clear hd hM h hs hr hrk hN
 go_enter Tryz.func35,Tryz.ntmps35
 go_wp2
 go_loopg [10] L.length (fun kq v10 wr=>∃k:Nat,v10=.int .i64 k∧Aside0 (k+kq=L.length)∧Aside0 (Turned w wr B g (N+k) F (removesM (L.take k) M)))
 case atStart=>exact⟨0,rfl,⟨by omega⟩,⟨Turned.refl HD.out⟩⟩
 case round=>
  obtain⟨k,rfl,HK,HT⟩:=hrel
  cases gk with
  | zero=>
   obtain rfl:k=L.length:=by have:=HK.out;omega
   have d1:decide ((L.length:Int) < (L.length:Int))=false:=decide_eq_false (by omega)
   have d2:decide (L.length < L.length)=false:=decide_eq_false (by omega)
   go_wp2
   go_end0
   have ht:=HT.out
   rw[List.take_length] at ht
   exact⟨rfl,ht⟩
  | succ gk=>
   have hk0:k < L.length:=by have:=HK.out;omega
   have d1:decide ((k:Int) < (L.length:Int))=true:=decide_eq_true (by omega)
   have d2:decide (k < L.length)=true:=decide_eq_true hk0
   obtain⟨F1,hd1,hs1,hs2,hk1⟩:=HT.out
   obtain⟨ad,e1,hcell⟩:=Kd.at_string (HR.out wr hk1) (k:Int) (by omega) (by omega)
   cases e1
   rw[Int.toNat_natCast] at hcell
   have hstep:=removes_take L M k hk0
   have hmem:L[k]∈L:=List.getElem_mem hk0
   have hrd:rdOf ByteArray.empty L (k:Int)=L[k]:=by simp [rdOf,List.getD_eq_getElem?_getD,List.getElem?_eq_getElem hk0]
   rw[hrd] at hcell
   have hsz:=HS.out _ hmem
   have hfit1:=removes_fit (L.take k) M HM.out
   generalize L[k]=s at hcell hstep hsz
   generalize removesM (L.take k) M=M1 at hd1 hstep hfit1
   obtain⟨⟨A,c,b1,b2,b3⟩,b4,b5⟩:=HO.out.keep hk1 hs2
   have x0:=bq b1 0 (ptr g)
   have HG:=ak (fun W' M' (h:Turned wr W' B g (N+k+1) F1 M')=>Turned.glue hs1 hs2 hk1 h)
   have HD1:=ak hd1
   have HST:=ak hstep
   have hsz1:=hd1.size? s hsz
   have HRM:=ak (hd1.remove? s hsz (by have:=HN.out;omega))
   obtain⟨b,hb⟩:∃b,(Dk.look M1.D s).isSome=b:=⟨_,rfl⟩
   rw[hb] at hsz1
   have HSZ:=ak hsz1
   have HBB:=ak hb
   clear hd1 hs1 hs2 hk1 b1 b2 b3 b4 b5 hstep hsz1 hb hmem hrd
   cases b with
   | false=>
    go_wp2_with (go_at_call 15;(with_reducible refine HSZ.out.mono ?_);rintro e w1 ⟨rfl,hw⟩;obtain rfl:=hw.symm)
    go_roundg gk
    case measure=>omega
    case rel=>
     refine⟨k+1,by go_num,⟨by have:=HK.out;omega⟩,⟨HG.out _ _ ?_⟩⟩
     rw[HST.out]
     unfold gone1
     rw[HBB.out,if_neg (by decide)]
     exact(Turned.refl HD1.out).mono (by omega)
   | true=>
    go_wp2_with (first
     | (go_at_call 62;(with_reducible refine HRM.out.mono ?_);rintro e w2 ⟨rfl,h2⟩;have H2:=ak h2;clear h2)
     | (go_at_call 15;(with_reducible refine HSZ.out.mono ?_);rintro e w1 ⟨rfl,hw⟩;obtain rfl:=hw.symm))
    go_roundg gk
    case measure=>omega
    case rel=>
     refine⟨k+1,by go_num,⟨by have:=HK.out;omega⟩,⟨HG.out _ _ ?_⟩⟩
     rw[HST.out]
     unfold gone1
     rw[HBB.out,if_pos (by trivial)]
     exact H2.out
end Go.Proofs.YteccdnejnbkbiaaGreat.Lg
end
section
namespace Go.Proofs.YteccdnejnbkbiaaGreat.Pt
open Go.RowKit YteccdnejnbkbiaaGreatW.PrintWords YteccdnejnbkbiaaGreatW.PrintLast YteccdnejnbkbiaaGreatW.PrintMore
open Rc (Norm Norm.intro Norm.elim)
def hh4T:Bool×List (List Nat×List Nat):=(true,[([],[]),([0],[0]),([1],[1]),([2],[2]),([],[]),([4],[4]),([5],[5]),([],[]),([],[]),([8],[8]),([9],[9]),([10],[10]),([11],[11]),([],[]),([13],[13]),([14],[14]),([15],[15]),([12,16],[12,16]),([3,6,7,17],[3,6,7,17]),([18,0,1,2,3,4,5,6,7,8,9,10,11,12,13,14,15,16,17,18],[18]),([19,0,1,2,3,4,5,6,7,8,9,10,11,12,13,14,15,16,17,18,19],[])])
def hh4B:List Nat:=[0,1,3,7,0,16,48,0,0,256,768,1792,3840,0,8192,24576,57344,130816,262143,524287,1048575]
theorem hh4tab:rtab .any (opsOf Tryz.f85 4)=hh4T:=by kernel_rfl
theorem hh4bits:waitsOk hh4T.2 hh4B=true:=by kernel_rfl
def hint_hint.f (l0:List Int):Option (Int×ByteArray×Int×Int×Bool):=if(l0.length:Int)≤7 then(some (0,(⟨#[]⟩:ByteArray),0,0,false)) else(if 1 < (l0.length:Int) then(if 2 < (l0.length:Int) then(if 3 < (l0.length:Int) then(if 4 < (l0.length:Int) then(if 0 < (l0.length:Int) then(if 7≤(l0.length:Int) then(if 5 < (l0.length:Int) then(if 6 < (l0.length:Int) then(some (wrap64 (rd l0 0),strOfNums (l0.drop 7),Go.bits .or .i64 (Go.bits .or .i64 (Go.bits .or .i64 (wrap64 ((wrap64 (rd l0 1))*16777216)) (wrap64 ((wrap64 (rd l0 2))*65536))) (wrap64 ((wrap64 (rd l0 3))*256))) (wrap64 (rd l0 4)),Go.bits .or .i64 (wrap64 ((wrap64 (rd l0 5))*256)) (wrap64 (rd l0 6)),true)) else(none)) else(none)) else(none)) else(none)) else(none)) else(none)) else(none)) else(none))
theorem below_set4 {w0 w1:World} {k:Nat} (hb:Below w0.heap.size w0 w1) (h:w0.heap.size≤k) (v0 v1 v2 v3:Value):Below w0.heap.size w0 ((((w1.setCell ⟨k,0,none⟩ v0).setCell ⟨k,1,none⟩ v1).setCell ⟨k,2,none⟩ v2).setCell ⟨k,3,none⟩ v3):=
 (((hb.setCell (p:=⟨k,0,none⟩) h _).setCell (p:=⟨k,1,none⟩) h _).setCell (p:=⟨k,2,none⟩) h _).setCell (p:=⟨k,3,none⟩) h _
theorem hint_hint.calls (A0:Option Addr) (c0:Nat) (l0:List Int) (r1:Int) (r2:ByteArray) (r3:Int) (r4:Int) (r5:Bool) (w:World) (hr0:Kd.C (Kd.int .u8) w A0 l0.length l0) (hc0:l0.length≤c0) (h:hint_hint.f l0=some (r1,r2,r3,r4,r5)):
  Calls Tryz.prog 85 #[.slice A0 l0.length c0] w fun e w'=>e=.returned (.tuple #[.agg #[.int .i64 r1,.string r2,.int .i64 r3,.int .i64 r4],.bool r5])∧Below w.heap.size w w':=by
 have hz:=heap_alloc_new w (.cells #[.int .i64 0,.string (⟨#[]⟩:ByteArray),.int .i64 0,.int .i64 0] 141)
 have hb:=below_alloc (Below.refl w.heap.size w) (.cells #[.int .i64 0,.string (⟨#[]⟩:ByteArray),.int .i64 0,.int .i64 0] 141)
 have HR:=ak hr0
 have HC:=ak hc0
 clear hr0
 unfold hint_hint.f at h
 go_enter Tryz.func85,Tryz.ntmps85
 by_cases h7:(l0.length:Int)≤7
 ·rw[if_pos h7] at h
  simp only[Option.some.injEq,Prod.mk.injEq] at h
  obtain⟨rfl,rfl,rfl,rfl,rfl⟩:=h
  have d1:decide ((l0.length:Int)≤7)=true:=decide_eq_true h7
  have d2:decide (l0.length≤7)=true:=decide_eq_true (by omega)
  clear h7
  go_upto_region 1 with(fail)
  generalize w.alloc (.cells #[.int .i64 0,.string (⟨#[]⟩:ByteArray),.int .i64 0,.int .i64 0] 141)=w1 at hz hb ⊢
  obtain⟨rb,hrb⟩:∃rb,w.heap.size=rb:=⟨_,rfl⟩
  have HB:=ak hb
  rw[hrb] at hz ⊢
  have HZ:=ak hz
  have HRB:=ak hrb
  have k0:=bq hz 0 (.int .i64 0)
  have k1:=bq hz 1 (.string ⟨#[]⟩)
  have k2:=bq hz 2 (.int .i64 0)
  have k3:=bq hz 3 (.int .i64 0)
  have g0:=blk_frozen hz 0
  have g1:=blk_frozen hz 1
  have g2:=blk_frozen hz 2
  have g3:=blk_frozen hz 3
  clear hz hb hrb
  go_wp2
  refine bodyPost_ret (results_ct rfl _ _ rb 141 #[.int .i64 0,.string ⟨#[]⟩,.int .i64 0,.int .i64 0] (0,0) _ rfl (blk_put (blk_put (blk_put (blk_put HZ.out 0 _ rfl) 1 _ rfl) 2 _ rfl) 3 _ rfl) Tryz.underlying141 rfl (by kernel_rfl)) rfl ?_
  exact⟨rfl,below_set4 HB.out (Nat.le_of_eq HRB.out) _ _ _ _⟩
 rw[if_neg h7,if_pos (by omega),if_pos (by omega),if_pos (by omega),if_pos (by omega),if_pos (by omega),if_pos (by omega),if_pos (by omega),if_pos (by omega)] at h
 simp only[Option.some.injEq,Prod.mk.injEq] at h
 obtain⟨rfl,rfl,rfl,rfl,rfl⟩:=h
 have d1:decide ((l0.length:Int)≤7)=false:=decide_eq_false h7
 have d2:decide (l0.length≤7)=false:=decide_eq_false (by omega)
 go_upto_region 1 with(fail)
 generalize w.alloc (.cells #[.int .i64 0,.string (⟨#[]⟩:ByteArray),.int .i64 0,.int .i64 0] 141)=w1 at hz hb ⊢
 obtain⟨rb,hrb⟩:∃rb,w.heap.size=rb:=⟨_,rfl⟩
 have HB:=ak hb
 rw[hrb] at hz ⊢
 have HZ:=ak hz
 have HRB:=ak hrb
 obtain⟨ad,e1,x1⟩:=Kd.at_int (Kd.C_below HR.out HB.out) 1 (by omega) (by omega)
 cases e1
 have x1:w1.cell? ⟨ad.block,ad.off+1,none⟩=some (.int .u8 (rd l0 1)):=x1
 obtain⟨ad2,e1,x2⟩:=Kd.at_int (Kd.C_below HR.out HB.out) 2 (by omega) (by omega)
 cases e1
 have x2:w1.cell? ⟨ad.block,ad.off+2,none⟩=some (.int .u8 (rd l0 2)):=x2
 obtain⟨ad3,e1,x3⟩:=Kd.at_int (Kd.C_below HR.out HB.out) 3 (by omega) (by omega)
 cases e1
 have x3:w1.cell? ⟨ad.block,ad.off+3,none⟩=some (.int .u8 (rd l0 3)):=x3
 obtain⟨ad4,e1,x4⟩:=Kd.at_int (Kd.C_below HR.out HB.out) 4 (by omega) (by omega)
 cases e1
 have x4:w1.cell? ⟨ad.block,ad.off+4,none⟩=some (.int .u8 (rd l0 4)):=x4
 have m1:1 < l0.length:=by omega
 have m2:2 < l0.length:=by omega
 have m3:3 < l0.length:=by omega
 have m4:4 < l0.length:=by omega
 obtain⟨ad5,e1,y0⟩:=Kd.at_int (Kd.C_below HR.out HB.out) 0 (by omega) (by omega)
 cases e1
 have y0:w1.cell? ad=some (.int .u8 (rd l0 0)):=y0
 obtain⟨ad6,e1,y5⟩:=Kd.at_int (Kd.C_below HR.out HB.out) 5 (by omega) (by omega)
 cases e1
 have y5:w1.cell? ⟨ad.block,ad.off+5,none⟩=some (.int .u8 (rd l0 5)):=y5
 obtain⟨ad7,e1,y6⟩:=Kd.at_int (Kd.C_below HR.out HB.out) 6 (by omega) (by omega)
 cases e1
 have y6:w1.cell? ⟨ad.block,ad.off+6,none⟩=some (.int .u8 (rd l0 6)):=y6
 have m0:0 < l0.length:=by omega
 have m5:5 < l0.length:=by omega
 have m6:6 < l0.length:=by omega
 have m7:7≤l0.length:=by omega
 have n5:(5 < (l0.length:Int))=True:=eq_true (by omega)
 have n6:(6 < (l0.length:Int))=True:=eq_true (by omega)
 have m8:(7:Int)≤(l0.length:Int):=by omega
 clear hz hb hrb
 go_wp2
 go_quiet (fail)
 go_upto_region 4 with(fail)
 have hb2:=pw_below_drewN (Below.refl w1.heap.size w1) nq
 generalize w1.drewN nq=w2 at hb2 ⊢
 have y0:=pw_cell_below hb2 y0
 have y5:=pw_cell_below hb2 y5
 have y6:=pw_cell_below hb2 y6
 have HZ2:=ak ((hb2.block _ (blk_lt HZ.out)).trans HZ.out)
 have HB2:=ak (HB.out.trans (hb2.mono HB.out.size))
 have HCV:=ak (fun W (hW:Below w2.heap.size w2 W)=>show(convert 33 9 (.slice (some ⟨ad.block,ad.off+7,none⟩) (l0.length - 7) (c0 - 7))).run Tryz.prog W=.ok (.string (strOfNums (l0.drop 7))) W from by
  have h1:=Kd.C_drop (m:=7) (Kd.C_below HR.out (HB2.out.trans (hW.mono HB2.out.size))) (by omega) hc0
  rw[if_neg (by omega)] at h1
  have h2:=Kd.C_string (P:=Tryz.prog) (c:=c0 - 7) Tryz.underlying33 Tryz.underlying5 Tryz.underlying9 h1
  rw[List.length_drop] at h2
  exact h2)
 have c7:(c0=7)=False:=eq_false (by omega)
 have hrb1:w2.heap.size > rb:=blk_lt HZ2.out
 clear x1 x2 x3 x4 m1 m2 m3 m4 hb2
 refine st_ 21 (S:=(fun w'=>RowKit.Below w2.heap.size w2 w')) (ds:=[19]) (by kernel_rfl) rfl (by kernel_rfl) (RowKit.Below.refl _ _).drew (fun hHeld=>?_);refine with_tabW hh4tab hh4bits (fun HT_ HW_=>?_)
 generalize w2.drew=b0 at hHeld ⊢
 refine fl_ [0,31,1,1,32,3,4,35,19,5,36,51,7,38,179,8,39,435,9,40,947,13,44,9139,14,45,25523] ?_
 iterate 9 (refine pq_ (v:=?_) (a':=?_) HT_ rfl rfl (.inl ⟨by rfl,?_⟩) ?_ ?_;rotate_left;(focus intro w';go_simp;with_reducible rfl);rotate_left;(focus simp only[Act.put,zq1,zq2,zq3,i64_w,i32_w];rfl))
 refine fe_ ?_
 refine tk_ 2 25527 (N:=some 33) (v:=?_) (a':=?_) HT_ HW_ rfl rfl (.inl ⟨by rfl,?_⟩) hHeld ?_ ?_
 rotate_left
 ·rintro w' hs
  have xx:=pw_cell_below hs y0
  go_simp
  with_reducible rfl
 rotate_left
 ·simp only[Act.put,zq1,zq2,zq3,i64_w,i32_w]
  rfl
 refine fl_ [3,34,25535] ?_
 (refine pq_ (v:=?_) (a':=?_) HT_ rfl rfl (.inl ⟨by rfl,?_⟩) ?_ ?_;rotate_left;(focus intro w';go_simp;with_reducible rfl);rotate_left;(focus simp only[Act.put,zq1,zq2,zq3,i64_w,i32_w];rfl))
 refine fe_ ?_
 refine tk_ 10 26559 (N:=some 41) (v:=?_) (a':=?_) HT_ HW_ rfl rfl (.inl ⟨by rfl,?_⟩) hHeld ?_ ?_
 rotate_left
 ·rintro w' hs
  have xx:=pw_cell_below hs y5
  go_simp
  with_reducible rfl
 rotate_left
 ·simp only[Act.put,zq1,zq2,zq3,i64_w,i32_w]
  rfl
 refine fl_ [11,42,28607,12,43,32703] ?_
 iterate 2 (refine pq_ (v:=?_) (a':=?_) HT_ rfl rfl (.inl ⟨by rfl,?_⟩) ?_ ?_;rotate_left;(focus intro w';go_simp;with_reducible rfl);rotate_left;(focus simp only[Act.put,zq1,zq2,zq3,i64_w,i32_w];rfl))
 refine fe_ ?_
 refine tk_ 15 65471 (N:=some 46) (v:=?_) (a':=?_) HT_ HW_ rfl rfl (.inl ⟨by rfl,?_⟩) hHeld ?_ ?_
 rotate_left
 ·rintro w' hs
  have xx:=pw_cell_below hs y6
  go_simp
  with_reducible rfl
 rotate_left
 ·simp only[Act.put,zq1,zq2,zq3,i64_w,i32_w]
  rfl
 refine fl_ [16,47,131007,17,48,262079] ?_
 iterate 2 (refine pq_ (v:=?_) (a':=?_) HT_ rfl rfl (.inl ⟨by rfl,?_⟩) ?_ ?_;rotate_left;(focus intro w';go_simp;with_reducible rfl);rotate_left;(focus simp only[Act.put,zq1,zq2,zq3,i64_w,i32_w];rfl))
 refine fe_ ?_
 refine tk_ 6 262143 (N:=some 37) (v:=?_) (a':=?_) HT_ HW_ rfl rfl (.inl ⟨by rfl,?_⟩) hHeld ?_ ?_
 rotate_left
 ·rintro w' hs
  have xx:=HCV.out w' hs
  go_simp
  with_reducible rfl
 rotate_left
 ·simp only[Act.put,zq1,zq2,zq3,i64_w,i32_w]
  rfl
 refine fl_ [18,49,524287] ?_
 (refine pq_ (v:=?_) (a':=?_) HT_ rfl rfl (.inl ⟨by rfl,?_⟩) ?_ ?_;rotate_left;(focus intro w';go_simp;with_reducible rfl);rotate_left;(focus simp only[Act.put,zq1,zq2,zq3,i64_w,i32_w];rfl))
 refine fe_ ?_
 refine la_ 19 1048575 none HT_ rfl rfl (by kernel_rfl) (by decide) (fun K hK=>?_)
 have hz:=(hHeld.block _ (blk_lt HZ2.out)).trans HZ2.out
 have q0:_root_.Go.World.cell? b0 ⟨rb,0,none⟩=some (.int .i64 0):=(blk_cell hz 0).trans rfl
 have q1:_root_.Go.World.cell? b0 ⟨rb,1,none⟩=some (.string (⟨#[]⟩:ByteArray)):=(blk_cell hz 1).trans rfl
 have q2:_root_.Go.World.cell? b0 ⟨rb,2,none⟩=some (.int .i64 0):=(blk_cell hz 2).trans rfl
 have q3:_root_.Go.World.cell? b0 ⟨rb,3,none⟩=some (.int .i64 0):=(blk_cell hz 3).trans rfl
 have f0:=blk_frozen hz 0
 have f1:=blk_frozen hz 1
 have f2:=blk_frozen hz 2
 have f3:=blk_frozen hz 3
 have HZ3:=ak hz
 have HB3:=ak (HB2.out.trans (hHeld.mono HB2.out.size))
 refine Rc.store_step rfl (by go_simp;rfl) ?_
 refine hK.out _ _ ?_
 clear hK K
 refine norm_ (a':=?_) ?_ ?_
 rotate_left
 ·show Act.put _ (none) _=_
  simp only[Act.put,zq1,zq2,zq3,i64_w,i32_w]
  rfl
 refine fl_ [20,3,2097151] ?_
 (refine pq_ (v:=?_) (a':=?_) HT_ rfl rfl (.inl ⟨by rfl,?_⟩) ?_ ?_;rotate_left;(focus intro w';go_simp;with_reducible rfl);rotate_left;(focus simp only[Act.put,zq1,zq2,zq3,i64_w,i32_w];rfl))
 refine fe_ ?_
 refine done_ (done_of HT_.out (by kernel_rfl)) ?_
 go_wp2
 refine bodyPost_ret (results_ct rfl _ _ rb 141 #[.int .i64 (wrap64 (rd l0 0)),.string (strOfNums (l0.drop 7)),.int .i64 (Go.bits .or .i64 (Go.bits .or .i64 (Go.bits .or .i64 (wrap64 ((wrap64 (rd l0 1))*16777216)) (wrap64 ((wrap64 (rd l0 2))*65536))) (wrap64 ((wrap64 (rd l0 3))*256))) (wrap64 (rd l0 4))),.int .i64 (Go.bits .or .i64 (wrap64 ((wrap64 (rd l0 5))*256)) (wrap64 (rd l0 6)))] (0,0) _ rfl (blk_put (blk_put (blk_put (blk_put HZ3.out 0 _ rfl) 1 _ rfl) 2 _ rfl) 3 _ rfl) Tryz.underlying141 rfl (by kernel_rfl)) rfl ?_
 exact⟨rfl,below_set4 HB3.out (Nat.le_of_eq HRB.out) _ _ _ _⟩
end Go.Proofs.YteccdnejnbkbiaaGreat.Pt
end
section
namespace Go.Proofs.YteccdnejnbkbiaaGreat.Pt
open Go.RowKit YteccdnejnbkbiaaGreatW.PrintWords YteccdnejnbkbiaaGreatW.PrintLast YteccdnejnbkbiaaGreatW.PrintMore
attribute [local go_sem] max2_int min2_int max_two min_two max_three min_three max_four min_four   -- for this text's walks alone

open Ext
def bytes_Equal.f (l0:List Int) (l1:List Int):Option (Bool):=some ((strOfNums l0).toList==(strOfNums l1).toList)
theorem bytes_Equal.calls (A0:Option Addr) (c0:Nat) (l0:List Int) (A1:Option Addr) (c1:Nat) (l1:List Int) (r:Bool) (w:World) (hr0:Kd.C (Kd.int .u8) w A0 l0.length l0) (hc0:l0.length≤c0) (hr1:Kd.C (Kd.int .u8) w A1 l1.length l1) (hc1:l1.length≤c1) (h:bytes_Equal.f l0 l1=some r):
  Calls Tryz.prog 87 #[.slice A0 l0.length c0,.slice A1 l1.length c1] w fun e w'=>e=.returned (.bool r)∧Drawn0 w w':=by
 have HR0:=ak hr0
 have HC0:=ak hc0
 clear hr0 hc0
 have HR1:=ak hr1
 have HC1:=ak hc1
 clear hr1 hc1
 have H:(some ((strOfNums l0).toList==(strOfNums l1).toList))=some r:=h
 clear h
 obtain rfl:=Option.some.inj H
 have hcv3:=Kd.C_string (P:=Tryz.prog) (A:=A0) (c:=c0) Tryz.underlying33 Tryz.underlying5 Tryz.underlying9 HR0.out
 have hcv4:=fun nq_:Nat=>Kd.C_string (P:=Tryz.prog) (A:=A0) (c:=c0) Tryz.underlying33 Tryz.underlying5 Tryz.underlying9 (Kd.C_drewN HR0.out nq_)
 have hcv5:=Kd.C_string (P:=Tryz.prog) (A:=A1) (c:=c1) Tryz.underlying33 Tryz.underlying5 Tryz.underlying9 HR1.out
 have hcv6:=fun nq_:Nat=>Kd.C_string (P:=Tryz.prog) (A:=A1) (c:=c1) Tryz.underlying33 Tryz.underlying5 Tryz.underlying9 (Kd.C_drewN HR1.out nq_)
 go_enter Tryz.func87,Tryz.ntmps87
 go_wp2
 go_ret
 exact⟨by first | rfl | (simp;done) | (simp [*];done),by repeat (first | exact Drawn0.refl _ | apply Drawn0.step)⟩

def hint_within.f (a0:Int) (a1:Int) (a2:Int):Option (Bool):=if a0≥a1 then(some (decide (a0≤a2))) else(some false)
theorem hint_within.calls (a0:Int) (a1:Int) (a2:Int) (r:Bool) (w:World) (h:hint_within.f a0 a1 a2=some r):
  Calls Tryz.prog 84 #[.int .i64 a0,.int .i64 a1,.int .i64 a2] w fun e w'=>e=.returned (.bool r)∧Drawn0 w w':=by
 have H:(if a0≥a1 then(some (decide (a0≤a2))) else(some false))=some r:=h
 clear h
 by_cases c4:a0≥a1
 ·rw[if_pos c4] at H
  have c4b0:decide (a1≤a0)=true:=decide_eq_true c4
  clear c4
  obtain rfl:=Option.some.inj H
  go_enter Tryz.func84,Tryz.ntmps84
  go_wp2
  go_ret
  exact⟨by first | rfl | (simp;done) | (simp [*];done),by repeat (first | exact Drawn0.refl _ | apply Drawn0.step)⟩
 ·rw[if_neg c4] at H
  have c4b0:decide (a1≤a0)=false:=decide_eq_false c4
  clear c4
  obtain rfl:=Option.some.inj H
  go_enter Tryz.func84,Tryz.ntmps84
  go_wp2
  go_ret
  exact⟨by first | rfl | (simp;done) | (simp [*];done),by repeat (first | exact Drawn0.refl _ | apply Drawn0.step)⟩



def hint_four.f (l0:List Int) (a1:Int):Option (List Int):=(some (([(a1 / 16777216) % 256,(a1 / 65536) % 256,(a1 / 256) % 256,(a1) % 256]:List Int):List Int)).bind fun y110=>(if l0.length+y110.length < 140737488355328 then(some (l0++y110)) else(none))
end Go.Proofs.YteccdnejnbkbiaaGreat.Pt
end
section
namespace Go.Proofs.YteccdnejnbkbiaaGreat.Pt
open Go.RowKit Go.Maps Fr Ext Go.Proofs.YteccdnejnbkbiaaGreat.Nm Dk YteccdnejnbkbiaaGreatW.PrintWords YteccdnejnbkbiaaGreatW.PrintLast YteccdnejnbkbiaaGreatW.PrintMore
open Rc (Norm Norm.intro Norm.elim)
open Mn (keeps_step own_u8)
def hb1T:Bool×List (List Nat×List Nat):=(true,[([],[]),([0],[0]),([1],[1]),([2],[2]),([],[]),([4],[4]),([3,5],[3,5]),([],[]),([7],[7]),([8],[8]),([9],[9]),([],[]),([11],[11]),([12],[12]),([10,13],[10,13]),([6,14,6],[6,14]),([15,15,0,1,2,3,4,5,6,7,8,9,10,11,12,13,14,15],[15])])
def hb1B:List Nat:=[0,1,3,7,0,16,63,0,128,384,896,0,2048,6144,16256,32767,65535]
theorem hb1tab:rtab .any (opsOf Tryz.f129 1)=hb1T:=by kernel_rfl
theorem hb1bits:waitsOk hb1T.2 hb1B=true:=by kernel_rfl
def fourL (n:Int):List Int:=[n / 16777216 % 256,n / 65536 % 256,n / 256 % 256,n % 256]
theorem four_calls {w0 w:World} (v:Value) (xs:List Int) (n:Int) (hB:RowKit.Below w0.heap.size w0 w) (ho:w.ownsRow w0.heap.size 5 1 v xs.length (nums .u8 xs)) (hx:xs.length≤1000000000):
  Calls Tryz.prog 140 #[v,.int .i64 n] w fun e w'=>∃v',e=.returned v'∧w'.ownsRow w0.heap.size 5 1 v' (xs++fourL n).length (nums .u8 (xs++fourL n))∧RowKit.Below w0.heap.size w0 w'∧Keeps (fun k=>v.ownBlock=some k) w w':=by
 have HB:=ak hB
 have HO:=ak ho
 have HX:=ak (show(xs.length+4)*1≤140737488355328 by omega)
 have HBA:=ak (below_alloc (RowKit.Below.refl w.heap.size w) (.cells #[.int .u8 (n / 16777216 % 256),.int .u8 (n / 65536 % 256),.int .u8 (n / 256 % 256),.int .u8 (n % 256)] 5))
 clear hB ho hx
 go_enter Tryz.func140,Tryz.ntmps140
 go_wp2_with (at_builtin;refine print_append_row (w0:=w0) w0.heap.size rfl _ _ 33 5 .u8 1 rfl Tryz.underlying33 info_u8 (by omega) _ xs (fourL n) _ _ _ rfl rfl (pw_own_below HO.out HBA.out) (lit_reads w 5 .u8 (fourL n) (by simp [fourL])) (HB.out.trans (HBA.out.mono HB.out.size)) (Nat.le_trans HB.out.size HBA.out.size) HX.out ?_;intro v1 wz hv1 hbz hgz haz;have HV1:=ak hv1;have HBZ:=ak hbz;have HKZ:=ak (keeps_step (Keeps.refl _ _) (.inl rfl) hgz);clear hv1 hbz hgz haz)
 go_ret
 exact⟨_,rfl,HV1.out,HBZ.out,HKZ.out⟩
theorem u8_one {w:World} {base sb:Nat} {n:Int} (h:w.heap[sb]? =some (.cells #[.int .u8 n] 5 (0,0))) (hb:base≤sb):w.ownsRow base 5 1 (.slice (some ⟨sb,0,none⟩) 1 1) 1 (nums .u8 [n]):=
 ⟨rfl,.inr ⟨sb,1,_,rfl,hb,h,Nat.le_refl _,by decide,rfl,rfl⟩⟩
theorem u8_two {w:World} {sb:Nat} {a b:Int} (h:w.heap[sb]? =some (.cells #[.int .u8 a,.int .u8 b] 5 (0,0))):Kd.C (Kd.int .u8) w (some ⟨sb,0,none⟩) 2 [a,b]:=
 Kd.C_of_reads (d:=(0:Int)) (h1:=fun _=>rfl) (reads_of_block (k:=.u8) (xs:=[a,b]) h (by simp))
def hint_body.f (a0_0:Int) (a0_1:ByteArray) (a0_2:Int) (a0_3:Int):Option (List Int):=(hint_four.f (([(a0_0) % 256]:List Int)) a0_2).bind fun t120=>((some (([(a0_3 / 256) % 256,(a0_3) % 256]:List Int):List Int)).bind fun y123=>(if t120.length+y123.length < 140737488355328 then((some (t120++y123:List Int)).bind fun y126=>(if y126.length+a0_1.size < 140737488355328 then(some (y126++bytesOf a0_1)) else(none))) else(none)))
theorem body_r {a0:Int} {s:ByteArray} {a2 a3:Int} {r:List Int} (h:hint_body.f a0 s a2 a3=some r):r=([a0 % 256]++fourL a2)++[a3 / 256 % 256,a3 % 256]++bytesOf s∧s.size≤140737488355320:=by
 unfold hint_body.f hint_four.f at h
 simp only[Option.bind_some] at h
 split at h
 ·simp only[Option.bind_some] at h
  split at h
  ·try simp only[Option.bind_some] at h
   split at h
   ·rename_i h3
    simp only[Option.some.injEq] at h
    refine⟨h.symm,?_⟩
    simp only[List.length_append,List.length_cons,List.length_nil] at h3
    omega
   ·cases h
  ·cases h
 ·cases h
theorem hint_body.calls (a0_0:Int) (a0_1:ByteArray) (a0_2:Int) (a0_3:Int) (r:List Int) (w:World) (h:hint_body.f a0_0 a0_1 a0_2 a0_3=some r):
  Calls Tryz.prog 129 #[.agg #[.int .i64 a0_0,.string a0_1,.int .i64 a0_2,.int .i64 a0_3]] w fun e w'=>∃v0_:Value,e=.returned (v0_)∧Kd.R (Kd.int .u8) 5 w' w.heap.size (fun _=>True) v0_ r∧Below w.heap.size w w':=by
 obtain⟨hrr,hsz⟩:=body_r h
 have HRR:=ak hrr
 have HSZ:=ak hsz
 clear h hsz hrr
 have hz:=heap_alloc_new w (.cells #[.int .i64 a0_0,.string a0_1,.int .i64 a0_2,.int .i64 a0_3] 141)
 have hb:=below_alloc (Below.refl w.heap.size w) (.cells #[.int .i64 a0_0,.string a0_1,.int .i64 a0_2,.int .i64 a0_3] 141)
 go_enter Tryz.func129,Tryz.ntmps129
 go_upto_region 1 with(fail)
 generalize w.alloc (.cells #[.int .i64 a0_0,.string a0_1,.int .i64 a0_2,.int .i64 a0_3] 141)=w1 at hz hb ⊢
 obtain⟨rb,hrb⟩:∃rb,w.heap.size=rb:=⟨_,rfl⟩
 have HB:=ak hb
 rw[hrb] at hz ⊢
 have HZ:=ak hz
 have x0:=bq hz 0 (.int .i64 a0_0)
 have x1:=bq hz 1 (.string a0_1)
 have x2:=bq hz 2 (.int .i64 a0_2)
 have x3:=bq hz 3 (.int .i64 a0_3)
 have q1:IntKind.u8.wrap a0_0=a0_0 % 256:=IntKind.wrap_u8 _
 have q2:IntKind.u8.wrap (a0_3 / 256)=a0_3 / 256 % 256:=IntKind.wrap_u8 _
 have q3:IntKind.u8.wrap a0_3=a0_3 % 256:=IntKind.wrap_u8 _
 obtain⟨L1,hL1⟩:∃L1,([a0_0 % 256]++fourL a0_2:List Int).length=L1:=⟨_,rfl⟩
 have HL1:=ak hL1
 have HA1:=ak (show(([a0_0 % 256]++fourL a0_2:List Int).length+2)*1≤140737488355328 by simp [fourL])
 clear hz hb hrb hL1
 refine Code.wp_mono (Q:=Norm fun a' W=>∃(sb:Nat) (A1:Option Addr) (c1:Nat) (sb2:Nat) (v3:Value),a'={tmps:=#[.agg #[.int .i64 a0_0,.string a0_1,.int .i64 a0_2,.int .i64 a0_3],.pointer (some ⟨rb,0,none⟩),.slice none 0 0,v3,.pointer (some ⟨rb,0,none⟩),.int .i64 a0_0,.int .u8 (a0_0 % 256),.slice (some ⟨sb,0,none⟩) 1 1,.pointer (some ⟨rb,2,none⟩),.int .i64 a0_2,.slice A1 L1 c1,.pointer (some ⟨rb,3,none⟩),.int .i64 a0_3,.int .i64 (a0_3 / 256),.int .u8 (a0_3 / 256 % 256),.pointer (some ⟨rb,3,none⟩),.int .i64 a0_3,.int .u8 (a0_3 % 256),.slice (some ⟨sb2,0,none⟩) 2 2,v3,undef,undef,undef,undef],defers:=[]}∧Kd.R (Kd.int .u8) 5 W w1.heap.size (fun _=>True) v3 (([a0_0 % 256]++fourL a0_2)++[a0_3 / 256 % 256,a0_3 % 256])∧RowKit.Below w1.heap.size w1 W) (Norm.elim ?mono) ?reg
 case reg=>
  refine st_ 17 (S:=(fun w'=>RowKit.Below w1.heap.size w1 w')) (ds:=[]) (by kernel_rfl) rfl (by kernel_rfl) (RowKit.Below.refl _ _).drew (fun hHeld=>?_);refine with_tabW hb1tab hb1bits (fun HT_ HW_=>?_)
  generalize w1.drew=b0 at hHeld ⊢
  refine fl_ [0,4,1,4,8,17,7,11,145,11,15,2193] ?_
  iterate 4 (refine pq_ (v:=?_) (a':=?_) HT_ rfl rfl (.inl ⟨by rfl,?_⟩) ?_ ?_;rotate_left;(focus intro w';go_simp;with_reducible rfl);rotate_left;(focus simp only[Act.put,zq1,zq2,zq3,i64_w,i32_w];rfl))
  refine fe_ ?_
  refine tk_ 1 2195 (N:=some 5) (v:=?_) (a':=?_) HT_ HW_ rfl rfl (.inl ⟨by rfl,?_⟩) hHeld ?_ ?_
  rotate_left
  ·rintro w' hs
   have xx:=pw_cell_below hs x0
   go_simp
   with_reducible rfl
  rotate_left
  ·simp only[Act.put,zq1,zq2,zq3,i64_w,i32_w]
   rfl
  refine fl_ [2,6,2199] ?_
  (refine pq_ (v:=?_) (a':=?_) HT_ rfl rfl (.inl ⟨by rfl,?_⟩) ?_ ?_;rotate_left;(focus intro w';go_simp;with_reducible rfl);rotate_left;(focus simp only[Act.put,zq1,zq2,zq3,i64_w,i32_w];rfl))
  refine fe_ ?_
  refine tk_ 5 2231 (N:=some 9) (v:=?_) (a':=?_) HT_ HW_ rfl rfl (.inl ⟨by rfl,?_⟩) hHeld ?_ ?_
  rotate_left
  ·rintro w' hs
   have xx:=pw_cell_below hs x2
   go_simp
   with_reducible rfl
  rotate_left
  ·simp only[Act.put,zq1,zq2,zq3,i64_w,i32_w]
   rfl
  refine tk_ 8 2487 (N:=some 12) (v:=?_) (a':=?_) HT_ HW_ rfl rfl (.inl ⟨by rfl,?_⟩) hHeld ?_ ?_
  rotate_left
  ·rintro w' hs
   have xx:=pw_cell_below hs x3
   go_simp
   with_reducible rfl
  rotate_left
  ·simp only[Act.put,zq1,zq2,zq3,i64_w,i32_w]
   rfl
  refine fl_ [9,13,2999,10,14,4023] ?_
  iterate 2 (refine pq_ (v:=?_) (a':=?_) HT_ rfl rfl (.inl ⟨by rfl,?_⟩) ?_ ?_;rotate_left;(focus intro w';go_simp;with_reducible rfl);rotate_left;(focus simp only[Act.put,zq1,zq2,zq3,i64_w,i32_w];rfl))
  refine fe_ ?_
  refine tk_ 12 8119 (N:=some 16) (v:=?_) (a':=?_) HT_ HW_ rfl rfl (.inl ⟨by rfl,?_⟩) hHeld ?_ ?_
  rotate_left
  ·rintro w' hs
   have xx:=pw_cell_below hs x3
   go_simp
   with_reducible rfl
  rotate_left
  ·simp only[Act.put,zq1,zq2,zq3,i64_w,i32_w]
   rfl
  refine fl_ [13,17,16311] ?_
  (refine pq_ (v:=?_) (a':=?_) HT_ rfl rfl (.inl ⟨by rfl,?_⟩) ?_ ?_;rotate_left;(focus intro w';go_simp;with_reducible rfl);rotate_left;(focus simp only[Act.put,zq1,zq2,zq3,i64_w,i32_w];rfl))
  refine fe_ ?_
  refine tw_ 3 14 16319 32695 (some 7) (some 18) HT_ rfl rfl rfl rfl (by kernel_rfl) (by decide) (by decide) (fun K hK=>?_) (fun K hK=>?_)
  ·refine Mn.alloc_step rfl (by go_simp;exact⟨rfl,rfl⟩) ?_
   have hb:=below_alloc (RowKit.Below.refl b0.heap.size b0) (.cells #[.int .u8 (a0_0 % 256)] 5)
   have hz3:=heap_alloc_new b0 (.cells #[.int .u8 (a0_0 % 256)] 5)
   have hle:=hHeld.size
   have hHeld:=below_alloc hHeld (.cells #[.int .u8 (a0_0 % 256)] 5)
   refine kn_ (a':=?_) hK hHeld ?_ fun hHeld=>?_
   rotate_left;(focus simp only[Act.put,zq1,zq2,zq3,i64_w,i32_w];rfl);clear hK K
   clear hb
   generalize b0.alloc (.cells #[.int .u8 (a0_0 % 256)] 5)=b1 at hHeld hz3 ⊢
   refine tw_ 6 14 16383 32703 (some 10) (some 18) HT_ rfl rfl rfl rfl (by kernel_rfl) (by decide) (by decide) (fun K hK=>?_) (fun K hK=>?_)
   ·refine goes_ Tryz.func140 (by kernel_rfl) rfl #[.slice (some ⟨b0.heap.size,0,none⟩) 1 1,.int .i64 a0_2] (by rfl) rfl rfl (by(try simp only[List.map_toArray,List.map_cons,List.map_nil]);first | done | rfl) ?_
    refine(four_calls (w0:=w1) (.slice (some ⟨b0.heap.size,0,none⟩) 1 1) [a0_0 % 256] a0_2 hHeld (u8_one hz3 hle) (Nat.le_of_ble_eq_true rfl)).mono ?_
    rintro e b2 ⟨v6,rfl,hv6,hb6,hk6⟩
    refine⟨_,rfl,?_⟩
    have hHeld:=hb6
    refine kn_ (a':=?_) hK hHeld ?_ fun hHeld=>?_
    rotate_left;(focus simp only[Act.put,zq1,zq2,zq3,i64_w,i32_w];rfl);clear hK K
    obtain⟨A1,c1,hA1⟩:=own_slice hv6
    rw[HL1.out] at hA1
    subst hA1
    clear hb6 hk6
    refine on_ 14 32767 (some 18) HT_ rfl rfl (by kernel_rfl) (by decide) (fun K hK=>?_)
    refine Mn.alloc_step rfl (by go_simp;exact⟨rfl,rfl⟩) ?_
    have hb:=below_alloc (RowKit.Below.refl b2.heap.size b2) (.cells #[.int .u8 (a0_3 / 256 % 256),.int .u8 (a0_3 % 256)] 5)
    have hv6:=pw_own_below hv6 hb
    have hz4:=heap_alloc_new b2 (.cells #[.int .u8 (a0_3 / 256 % 256),.int .u8 (a0_3 % 256)] 5)
    have hHeld:=below_alloc hHeld (.cells #[.int .u8 (a0_3 / 256 % 256),.int .u8 (a0_3 % 256)] 5)
    refine kn_ (a':=?_) hK hHeld ?_ fun hHeld=>?_
    rotate_left;(focus simp only[Act.put,zq1,zq2,zq3,i64_w,i32_w];rfl);clear hK K
    clear hb
    generalize b2.alloc (.cells #[.int .u8 (a0_3 / 256 % 256),.int .u8 (a0_3 % 256)] 5)=b3 at hHeld hz4 hv6 ⊢
    refine on_ 15 65535 (some 19) HT_ rfl rfl (by kernel_rfl) (by decide) (fun K hK=>?_)
    refine Kd.R_append_rows_step (Kd.int .u8) (w0:=b3) (W:=b3) w1.heap.size rfl (.tmp 10) (.tmp 18) 33 5 (.int .u8 0) 1 rfl Tryz.underlying33 info_u8 rfl (by decide) (by decide) (.slice A1 L1 c1) ([a0_0 % 256]++fourL a0_2) [a0_3 / 256 % 256,a0_3 % 256] (some ⟨b2.heap.size,0,none⟩) 2 2 (fun _=>True) (fun _=>False) rfl rfl (own_u8 hv6) (u8_two hz4) (fun x cs hk=>hk) (fun _ h=>h.elim) (fun _ _=>trivial) (RowKit.Below.refl _ _) hHeld.size HA1.out ?_
    intro v7 b4 hv7 hb4 hg4 hat4
    have hHg:=hHeld.grown hg4 hHeld.size (own_base hv6)
    have hHeld:=hHg
    refine kn_ (a':=?_) hK hHeld ?_ fun hHeld=>?_
    rotate_left;(focus simp only[Act.put,zq1,zq2,zq3,i64_w,i32_w];rfl);clear hK K
    refine fl_ [16,3,131071] ?_
    (refine pq_ (v:=?_) (a':=?_) HT_ rfl rfl (.inl ⟨by rfl,?_⟩) ?_ ?_;rotate_left;(focus intro w';go_simp;with_reducible rfl);rotate_left;(focus simp only[Act.put,zq1,zq2,zq3,i64_w,i32_w];rfl))
    refine fe_ ?_
    refine done_ (done_of HT_.out (by kernel_rfl)) ?_
    exact Norm.intro ⟨b0.heap.size,A1,c1,b2.heap.size,v7,rfl,hv7,hHeld⟩
   ·refine Mn.alloc_step rfl (by go_simp;exact⟨rfl,rfl⟩) ?_
    have hlt3:=Nat.ne_of_lt (blk_lt hz3)
    have hb:=below_alloc (RowKit.Below.refl b1.heap.size b1) (.cells #[.int .u8 (a0_3 / 256 % 256),.int .u8 (a0_3 % 256)] 5)
    have hz3:=(hb.block _ (blk_lt hz3)).trans hz3
    have hz4:=heap_alloc_new b1 (.cells #[.int .u8 (a0_3 / 256 % 256),.int .u8 (a0_3 % 256)] 5)
    have hHeld:=below_alloc hHeld (.cells #[.int .u8 (a0_3 / 256 % 256),.int .u8 (a0_3 % 256)] 5)
    refine kn_ (a':=?_) hK hHeld ?_ fun hHeld=>?_
    rotate_left;(focus simp only[Act.put,zq1,zq2,zq3,i64_w,i32_w];rfl);clear hK K
    clear hb
    generalize b1.alloc (.cells #[.int .u8 (a0_3 / 256 % 256),.int .u8 (a0_3 % 256)] 5)=b5 at hHeld hz4 hz3 ⊢
    refine on_ 6 32767 (some 10) HT_ rfl rfl (by kernel_rfl) (by decide) (fun K hK=>?_)
    refine goes_ Tryz.func140 (by kernel_rfl) rfl #[.slice (some ⟨b0.heap.size,0,none⟩) 1 1,.int .i64 a0_2] (by rfl) rfl rfl (by(try simp only[List.map_toArray,List.map_cons,List.map_nil]);first | done | rfl) ?_
    refine(four_calls (w0:=w1) (.slice (some ⟨b0.heap.size,0,none⟩) 1 1) [a0_0 % 256] a0_2 hHeld (u8_one hz3 hle) (Nat.le_of_ble_eq_true rfl)).mono ?_
    rintro e b6 ⟨v6,rfl,hv6,hb6,hk6⟩
    have hz4:=(hk6.block _ (blk_lt hz4) (fun e=>hlt3 (Option.some.inj e))).trans hz4
    refine⟨_,rfl,?_⟩
    have hHeld:=hb6
    refine kn_ (a':=?_) hK hHeld ?_ fun hHeld=>?_
    rotate_left;(focus simp only[Act.put,zq1,zq2,zq3,i64_w,i32_w];rfl);clear hK K
    obtain⟨A1,c1,hA1⟩:=own_slice hv6
    rw[HL1.out] at hA1
    subst hA1
    clear hb6 hk6
    refine on_ 15 65535 (some 19) HT_ rfl rfl (by kernel_rfl) (by decide) (fun K hK=>?_)
    refine Kd.R_append_rows_step (Kd.int .u8) (w0:=b6) (W:=b6) w1.heap.size rfl (.tmp 10) (.tmp 18) 33 5 (.int .u8 0) 1 rfl Tryz.underlying33 info_u8 rfl (by decide) (by decide) (.slice A1 L1 c1) ([a0_0 % 256]++fourL a0_2) [a0_3 / 256 % 256,a0_3 % 256] (some ⟨b1.heap.size,0,none⟩) 2 2 (fun _=>True) (fun _=>False) rfl rfl (own_u8 hv6) (u8_two hz4) (fun x cs hk=>hk) (fun _ h=>h.elim) (fun _ _=>trivial) (RowKit.Below.refl _ _) hHeld.size HA1.out ?_
    intro v7 b7 hv7 hb4 hg4 hat4
    have hHg:=hHeld.grown hg4 hHeld.size (own_base hv6)
    have hHeld:=hHg
    refine kn_ (a':=?_) hK hHeld ?_ fun hHeld=>?_
    rotate_left;(focus simp only[Act.put,zq1,zq2,zq3,i64_w,i32_w];rfl);clear hK K
    refine fl_ [16,3,131071] ?_
    (refine pq_ (v:=?_) (a':=?_) HT_ rfl rfl (.inl ⟨by rfl,?_⟩) ?_ ?_;rotate_left;(focus intro w';go_simp;with_reducible rfl);rotate_left;(focus simp only[Act.put,zq1,zq2,zq3,i64_w,i32_w];rfl))
    refine fe_ ?_
    refine done_ (done_of HT_.out (by kernel_rfl)) ?_
    exact Norm.intro ⟨b0.heap.size,A1,c1,b1.heap.size,v7,rfl,hv7,hHeld⟩
  ·refine Mn.alloc_step rfl (by go_simp;exact⟨rfl,rfl⟩) ?_
   have hb:=below_alloc (RowKit.Below.refl b0.heap.size b0) (.cells #[.int .u8 (a0_3 / 256 % 256),.int .u8 (a0_3 % 256)] 5)
   have hz4:=heap_alloc_new b0 (.cells #[.int .u8 (a0_3 / 256 % 256),.int .u8 (a0_3 % 256)] 5)
   have hHeld:=below_alloc hHeld (.cells #[.int .u8 (a0_3 / 256 % 256),.int .u8 (a0_3 % 256)] 5)
   refine kn_ (a':=?_) hK hHeld ?_ fun hHeld=>?_
   rotate_left;(focus simp only[Act.put,zq1,zq2,zq3,i64_w,i32_w];rfl);clear hK K
   clear hb
   generalize b0.alloc (.cells #[.int .u8 (a0_3 / 256 % 256),.int .u8 (a0_3 % 256)] 5)=b8 at hHeld hz4 ⊢
   refine on_ 3 32703 (some 7) HT_ rfl rfl (by kernel_rfl) (by decide) (fun K hK=>?_)
   refine Mn.alloc_step rfl (by go_simp;exact⟨rfl,rfl⟩) ?_
   have hlt3:=Nat.ne_of_gt (blk_lt hz4)
   have hb:=below_alloc (RowKit.Below.refl b8.heap.size b8) (.cells #[.int .u8 (a0_0 % 256)] 5)
   have hlt4:=blk_lt hz4
   have hz4:=(hb.block _ (blk_lt hz4)).trans hz4
   have hz3:=heap_alloc_new b8 (.cells #[.int .u8 (a0_0 % 256)] 5)
   have hle:=hHeld.size
   have hHeld:=below_alloc hHeld (.cells #[.int .u8 (a0_0 % 256)] 5)
   refine kn_ (a':=?_) hK hHeld ?_ fun hHeld=>?_
   rotate_left;(focus simp only[Act.put,zq1,zq2,zq3,i64_w,i32_w];rfl);clear hK K
   clear hb
   generalize b8.alloc (.cells #[.int .u8 (a0_0 % 256)] 5)=b9 at hHeld hz3 hz4 ⊢
   refine on_ 6 32767 (some 10) HT_ rfl rfl (by kernel_rfl) (by decide) (fun K hK=>?_)
   refine goes_ Tryz.func140 (by kernel_rfl) rfl #[.slice (some ⟨b8.heap.size,0,none⟩) 1 1,.int .i64 a0_2] (by rfl) rfl rfl (by(try simp only[List.map_toArray,List.map_cons,List.map_nil]);first | done | rfl) ?_
   refine(four_calls (w0:=w1) (.slice (some ⟨b8.heap.size,0,none⟩) 1 1) [a0_0 % 256] a0_2 hHeld (u8_one hz3 hle) (Nat.le_of_ble_eq_true rfl)).mono ?_
   rintro e b10 ⟨v6,rfl,hv6,hb6,hk6⟩
   have hz4:=(hk6.block _ (blk_lt hz4) (fun e=>hlt3 (Option.some.inj e))).trans hz4
   refine⟨_,rfl,?_⟩
   have hHeld:=hb6
   refine kn_ (a':=?_) hK hHeld ?_ fun hHeld=>?_
   rotate_left;(focus simp only[Act.put,zq1,zq2,zq3,i64_w,i32_w];rfl);clear hK K
   obtain⟨A1,c1,hA1⟩:=own_slice hv6
   rw[HL1.out] at hA1
   subst hA1
   clear hb6 hk6
   refine on_ 15 65535 (some 19) HT_ rfl rfl (by kernel_rfl) (by decide) (fun K hK=>?_)
   refine Kd.R_append_rows_step (Kd.int .u8) (w0:=b10) (W:=b10) w1.heap.size rfl (.tmp 10) (.tmp 18) 33 5 (.int .u8 0) 1 rfl Tryz.underlying33 info_u8 rfl (by decide) (by decide) (.slice A1 L1 c1) ([a0_0 % 256]++fourL a0_2) [a0_3 / 256 % 256,a0_3 % 256] (some ⟨b0.heap.size,0,none⟩) 2 2 (fun _=>True) (fun _=>False) rfl rfl (own_u8 hv6) (u8_two hz4) (fun x cs hk=>hk) (fun _ h=>h.elim) (fun _ _=>trivial) (RowKit.Below.refl _ _) hHeld.size HA1.out ?_
   intro v7 b11 hv7 hb4 hg4 hat4
   have hHg:=hHeld.grown hg4 hHeld.size (own_base hv6)
   have hHeld:=hHg
   refine kn_ (a':=?_) hK hHeld ?_ fun hHeld=>?_
   rotate_left;(focus simp only[Act.put,zq1,zq2,zq3,i64_w,i32_w];rfl);clear hK K
   refine fl_ [16,3,131071] ?_
   (refine pq_ (v:=?_) (a':=?_) HT_ rfl rfl (.inl ⟨by rfl,?_⟩) ?_ ?_;rotate_left;(focus intro w';go_simp;with_reducible rfl);rotate_left;(focus simp only[Act.put,zq1,zq2,zq3,i64_w,i32_w];rfl))
   refine fe_ ?_
   refine done_ (done_of HT_.out (by kernel_rfl)) ?_
   exact Norm.intro ⟨b8.heap.size,A1,c1,b0.heap.size,v7,rfl,hv7,hHeld⟩
 case mono=>
  rintro a' W ⟨sb,A1,c1,sb2,v3,rfl,hv,hbW⟩
  have HO:=ak (Kd.own_of_R hv)
  have HBW:=ak hbW
  have y1:W.cell? ⟨rb,1,none⟩=some (.string a0_1):=pw_cell_below hbW x1
  have HLN:=ak (show(([a0_0 % 256]++fourL a0_2)++[a0_3 / 256 % 256,a0_3 % 256]:List Int).length+a0_1.size≤140737488355328 by have:=HSZ.out;simp only[fourL,List.length_append,List.length_cons,List.length_nil];omega)
  generalize (([a0_0 % 256]++fourL a0_2)++[a0_3 / 256 % 256,a0_3 % 256]:List Int)=X at HO HLN HRR
  clear x0 x1 x2 x3 hv hbW
  go_wp2_with (at_builtin;refine print_append_str (w0:=w1) w1.heap.size rfl (.tmp 20) _ 33 9 5 rfl Tryz.underlying33 Tryz.underlying9 info_u8 v3 X a0_1 rfl rfl HO.out HBW.out HBW.out.size HLN.out ?_;intro v4 w4 ho4 hb4 hg4;have HO4:=ak ho4;have HB4:=ak hb4;clear ho4 hb4 hg4)
  go_ret
  rw[HRR.out]
  exact⟨_,rfl,Kd.R_lower (own_u8 HO4.out) HB.out.size,HB.out.trans (HB4.out.mono HB.out.size)⟩
end Go.Proofs.YteccdnejnbkbiaaGreat.Pt
end
section
section
namespace Go.Proofs.YteccdnejnbkbiaaGreat.Hn
open Go.RowKit Pt YteccdnejnbkbiaaGreatW.PrintWords Fr Ext

abbrev Hi:=S141
abbrev Fo:=S179
def keyL (s:ByteArray):List UInt8:=s.data.toList
def fineH (h:Hi):Bool:=decide (2≤h.f0∧h.f0≤4) && decide (1≤h.f1.size∧h.f1.size≤64) && decide (0≤h.f2∧h.f2≤1073741824) && decide (9≤h.f3∧h.f3≤8200)
def risesL:List Hi→Bool
 | a::b::l=>decide (keyL a.f1 < keyL b.f1) && risesL (b::l)
 | _=>true
def rightL (l:List Hi):Bool:=risesL l && l.all fineH
def four4 (n:Int):List Int:=[(n / 16777216) % 256,(n / 65536) % 256,(n / 256) % 256,n % 256]
def endL (fr:List Int) (many size:Int):List Int:=7::(four4 many++(four4 size++four4 (sumOf fr)))
def insH (h:Hi):List Hi→List Hi
 | []=>[h]
 | a::l=>if keyL h.f1 < keyL a.f1 then h::a::l else if keyL h.f1=keyL a.f1 then h::l else a::insH h l
def tellsF (x:Fo):Bool:=decide (2≤x.f2.f0∧x.f2.f0≤4)
def hintF (x:Fo):Hi:=⟨x.f2.f0,x.f2.f1,x.f0,x.f1⟩
def ofGo:List Fo→List Hi→List Hi
 | [],acc=>acc
 | x::l,acc=>ofGo l (if tellsF x then insH (hintF x) acc else acc)
def ofL (l:List Fo):List Hi:=ofGo l []
end Go.Proofs.YteccdnejnbkbiaaGreat.Hn
end

section
namespace Go.Proofs.YteccdnejnbkbiaaGreat.Hn
open Go.RowKit Pt YteccdnejnbkbiaaGreatW.PrintWords YteccdnejnbkbiaaGreatW.PrintMore Fr Ext

theorem four_calls (base:Nat) (v:Value) (l:List Int) (n:Int) (w:World) (hl:l.length < 140737488355000) (hbase:base≤w.heap.size) (ho:w.ownsRow base 5 1 v l.length (nums .u8 l)):
  Calls Tryz.prog 140 #[v,.int .i64 n] w fun e w'=>∃v',e=.returned v'∧w'.ownsRow base 5 1 v' (l++four4 n).length (nums .u8 (l++four4 n))∧w.grownBy w' v.ownBlock∧(v'.ownBlock=v.ownBlock∨∃b,v'.ownBlock=some b∧w.heap.size≤b):=by
 obtain⟨A,c,rfl,hri⟩:=own_reads ho
 have HO:=ak ho
 clear ho hri
 go_enter Tryz.func140,Tryz.ntmps140
 go_wp2_with (first
  | (at_builtin;refine print_append_row (w0:=w) base rfl _ _ 33 5 .u8 1 rfl Tryz.underlying33 info_u8 (by omega) (.slice A l.length c) l (four4 n) _ _ _ rfl rfl (pw_own_below HO.out (below_alloc (Below.refl _ _) _)) (lit_reads w 5 .u8 (four4 n) (by simp [four4])) ((below_alloc (Below.refl _ _) _).mono hbase) (Nat.le_trans hbase (by simp)) (by simp [four4];omega) ?_;intro v1 wz hv1 hbz hgz haz;have HV1:=ak hv1;clear hv1;have HGZ:=ak hgz;clear hgz;have HAZ:=ak haz;clear haz;clear hbz))
 go_ret
 refine⟨_,rfl,HV1.out,?_,?_⟩
 ·exact(grown_of_below (below_alloc (Below.refl _ _) _) _).trans HGZ.out
 ·rcases HAZ.out with h | ⟨b,h,hb⟩
  ·exact .inl h
  ·exact .inr ⟨b,h,Nat.le_trans (by simp) hb⟩

theorem end_calls (A:Option Addr) (c:Nat) (l:List Int) (m n:Int) (w:World) (hr:Kd.C (Kd.int .u8) w A l.length l):
  Calls Tryz.prog 88 #[.slice A l.length c,.int .i64 m,.int .i64 n] w fun e w'=>∃v',e=.returned v'∧w'.ownsRow w.heap.size 5 1 v' (endL l m n).length (nums .u8 (endL l m n))∧Below w.heap.size w w':=by
 have HR:=ak hr
 clear hr
 go_enter Tryz.func88,Tryz.ntmps88
 go_wp2_with (first
  | (go_at_call 139;refine(table_named _).mono ?_;rintro e w1 ⟨T,rfl,HT,hb1⟩;have HB1:=ak hb1;clear hb1)
  | (go_at_call 138;refine(of_named T HT A c l _ (Kd.C_below HR.out HB1.out)).mono ?_;rintro e w2 ⟨s,rfl,HS,hs0,hs1,hb2⟩;have HB2:=ak (below_then HB1.out HB1.out.size hb2);clear hb2;have HL:=ak (own_lit w2 w.heap.size 5 .u8 [7] HB2.out.size (by simp)))
  | (go_at_call 140;refine(four_calls w.heap.size v4 _ s w4 (by simp [four4]) HB4.out.size HV4.out).mono ?_;rintro e w5 ⟨v5,rfl,ho5,hg5,-⟩;have HB5:=ak (HB4.out.grown hg5 HB4.out.size (own_base HV4.out));have HV5:=ak ho5;clear ho5 hg5)
  | (go_at_call 140;refine(four_calls w.heap.size v3 _ n w3 (by simp [four4]) HB3.out.size HV3.out).mono ?_;rintro e w4 ⟨v4,rfl,ho4,hg4,-⟩;have HB4:=ak (HB3.out.grown hg4 HB3.out.size (own_base HV3.out));have HV4:=ak ho4;clear ho4 hg4)
  | (go_at_call 140;refine(four_calls w.heap.size _ [7] m _ (by simp) ((below_alloc HB2.out _).size) HL.out).mono ?_;rintro e w3 ⟨v3,rfl,ho3,hg3,-⟩;have HB3:=ak ((below_alloc HB2.out _).grown hg3 (below_alloc HB2.out _).size (own_base HL.out));have HV3:=ak ho3;clear ho3 hg3))
 go_ret
 refine⟨_,rfl,?_,HB5.out⟩
 have:=HV5.out
 rw[HS.out] at this
 exact this
end Go.Proofs.YteccdnejnbkbiaaGreat.Hn
end

section
namespace Go.Proofs.YteccdnejnbkbiaaGreat.Hn
open Go.RowKit Go.Shelf Go.Lib Go.Sort Pt YteccdnejnbkbiaaGreatW.PrintWords Fr Ext

def encH (x:Hi):List Value:=[.int .i64 x.f0,.string x.f1,.int .i64 x.f2,.int .i64 x.f3]
def cmpH (x y:Hi):Int:=compareBytes (keyL x.f1) (keyL y.f1)
theorem compareString_calls (a b:ByteArray) (w:World):
  Calls Tryz.prog 181 #[.string a,.string b] w fun e w'=>e=.returned (.int .i64 (compareBytes a.data.toList b.data.toList))∧w'=w:=by
 go_enter Tryz.func181,Tryz.ntmps181
 go_wp2
 rw[run_callFunc_extern Tryz.func205 (by kernel_rfl) (by kernel_rfl) (by kernel_rfl) (e:=Extern.BytealgCompare.compare) (by kernel_rfl),Lib.run_compareString]
 simp only[Result.andThen]
 rw[Oper.upon_value]
 go_wp2
 go_ret
 exact⟨rfl,rfl⟩
theorem compare_calls (a b:ByteArray) (w:World):
  Calls Tryz.prog 160 #[.string a,.string b] w fun e w'=>e=.returned (.int .i64 (compareBytes a.data.toList b.data.toList))∧w'=w:=by
 go_enter Tryz.func160,Tryz.ntmps160
 go_wp2_with (go_at_call 181;refine(compareString_calls _ _ _).mono ?_;rintro e w' ⟨rfl,rfl⟩)
 go_ret
 exact⟨rfl,rfl⟩
theorem byKey_calls (x y:Hi) (W:World):Calls Tryz.prog 133 #[.agg (encH x).toArray,.agg (encH y).toArray] W fun e w'=>e=.returned (.int .i64 (cmpH x y))∧∃q os',w'=grow (W.drewN q) os':=by
 have hcon:=fun W'=>compare_calls x.f1 y.f1 W'
 change Calls Tryz.prog 133 #[.agg #[.int .i64 x.f0,.string x.f1,.int .i64 x.f2,.int .i64 x.f3],.agg #[.int .i64 y.f0,.string y.f1,.int .i64 y.f2,.int .i64 y.f3]] W _
 change ∀W',Calls Tryz.prog 160 #[.string x.f1,.string y.f1] W' fun e w'=>e=.returned (.int .i64 (cmpH x y))∧w'=W' at hcon
 generalize cmpH x y=r at hcon ⊢
 go_enter Tryz.func133,Tryz.ntmps133
 go_wp2_with (go_at_call 160;refine(hcon _).mono ?_;rintro e w' ⟨rfl,rfl⟩)
 go_ret
 exact⟨rfl,0,_,by rw[alloc_eq_grow,alloc_eq_grow,grow_grow];rfl⟩
theorem below_grow {w0 w:World} (os:Array Obj) (h:RowKit.Below w0.heap.size w0 w):RowKit.Below w0.heap.size w0 (grow w os):=
 ⟨h.os,h.tape,h.output,Nat.le_trans h.size (by simp),fun k hk=>by
  rw[← h.block k hk]
  exact Array.getElem?_append_left (Nat.lt_of_lt_of_le hk h.size)⟩
theorem byKey_below (x y:Hi) (W:World):Calls Tryz.prog 133 #[.agg #[.int .i64 x.f0,.string x.f1,.int .i64 x.f2,.int .i64 x.f3],.agg #[.int .i64 y.f0,.string y.f1,.int .i64 y.f2,.int .i64 y.f3]] W fun e w'=>e=.returned (.int .i64 (cmpH x y))∧RowKit.Below W.heap.size W w':=by
 refine(byKey_calls x y W).mono ?_
 rintro e w' ⟨he,q,os,rfl⟩
 exact⟨he,below_grow os (pw_below_drewN (RowKit.Below.refl _ _) q)⟩
end Go.Proofs.YteccdnejnbkbiaaGreat.Hn
end

section
namespace Go.Proofs.YteccdnejnbkbiaaGreat.Hn
open Go.Shelf
def sortH_ren:Go.Shelf.Ren:=⟨fun | 6=>158 | 15=>152 | 14=>180 | 28=>175 | 29=>176 | 20=>197 | 21=>198 | 22=>199 | 23=>200 | 24=>201 | 25=>202 | 26=>203 | 27=>204 | 46=>211 | 47=>183 | 48=>184 | 49=>212 | 50=>213 | 57=>215 | n=>n,fun | 22=>48 | 24=>141 | 25=>186 | 3=>3 | 39=>149 | 0=>0 | 53=>195 | 55=>233 | 4=>4 | 46=>225 | 45=>224 | 50=>39 | 5=>5 | 9=>9 | 66=>238 | 70=>177 | 76=>254 | 77=>255 | n=>n,fun | n=>n⟩
theorem sortH:Go.Proofs.SlLaysF0.n6 Tryz.prog sortH_ren:={
 mixed:=by kernel_rfl
 f6:=⟨Tryz.f158.name,by decide,Tryz.func158.trans (congrArg some (by kernel_rfl))⟩
 f14:=⟨Tryz.f180.name,by decide,Tryz.func180.trans (congrArg some (by kernel_rfl))⟩
 f15:=Tryz.func152.trans (congrArg some (by kernel_rfl))
 f20:=⟨Tryz.f197.name,by decide,Tryz.func197.trans (congrArg some (by kernel_rfl))⟩
 f21:=⟨Tryz.f198.name,by decide,Tryz.func198.trans (congrArg some (by kernel_rfl))⟩
 f22:=⟨Tryz.f199.name,by decide,Tryz.func199.trans (congrArg some (by kernel_rfl))⟩
 f23:=⟨Tryz.f200.name,by decide,Tryz.func200.trans (congrArg some (by kernel_rfl))⟩
 f24:=⟨Tryz.f201.name,by decide,Tryz.func201.trans (congrArg some (by kernel_rfl))⟩
 f25:=⟨Tryz.f202.name,by decide,Tryz.func202.trans (congrArg some (by kernel_rfl))⟩
 f26:=⟨Tryz.f203.name,by decide,Tryz.func203.trans (congrArg some (by kernel_rfl))⟩
 f27:=⟨Tryz.f204.name,by decide,Tryz.func204.trans (congrArg some (by kernel_rfl))⟩
 f28:=Tryz.func175.trans (congrArg some (by kernel_rfl))
 f29:=Tryz.func176.trans (congrArg some (by kernel_rfl))
 f46:=⟨Tryz.f211.name,by decide,Tryz.func211.trans (congrArg some (by kernel_rfl))⟩
 f47:=Tryz.func183.trans (congrArg some (by kernel_rfl))
 f48:=Tryz.func184.trans (congrArg some (by kernel_rfl))
 f49:=⟨Tryz.f212.name,by decide,Tryz.func212.trans (congrArg some (by kernel_rfl))⟩
 f50:=⟨Tryz.f213.name,by decide,Tryz.func213.trans (congrArg some (by kernel_rfl))⟩
 f57:=⟨Tryz.f215.name,by decide,Tryz.func215.trans (congrArg some (by kernel_rfl))⟩
 t0:=Tryz.underlying0
 a0:=Tryz.isAgg0
 z0:=Tryz.sizeOf0
 v0:=Tryz.zeroValue0
 t3:=Tryz.underlying3
 a3:=Tryz.isAgg3
 z3:=Tryz.sizeOf3
 v3:=Tryz.zeroValue3
 t4:=Tryz.underlying4
 a4:=Tryz.isAgg4
 z4:=Tryz.sizeOf4
 v4:=Tryz.zeroValue4
 t5:=Tryz.underlying5
 a5:=Tryz.isAgg5
 z5:=Tryz.sizeOf5
 v5:=Tryz.zeroValue5
 t9:=Tryz.underlying9
 a9:=Tryz.isAgg9
 z9:=Tryz.sizeOf9
 v9:=Tryz.zeroValue9
 t22:=Tryz.underlying48
 a22:=Tryz.isAgg48
 z22:=Tryz.sizeOf48
 v22:=Tryz.zeroValue48
 t25:=Tryz.underlying186
 a25:=Tryz.isAgg186
 z25:=Tryz.sizeOf186
 v25:=Tryz.zeroValue186
 t39:=Tryz.underlying149
 a39:=Tryz.isAgg149
 z39:=Tryz.sizeOf149
 v39:=Tryz.zeroValue149
 t45:=Tryz.underlying224
 a45:=Tryz.isAgg224
 z45:=Tryz.sizeOf224
 v45:=Tryz.zeroValue224
 t46:=Tryz.underlying225
 a46:=Tryz.isAgg225
 z46:=Tryz.sizeOf225
 v46:=Tryz.zeroValue225
 t50:=Tryz.underlying39
 a50:=Tryz.isAgg39
 z50:=Tryz.sizeOf39
 v50:=Tryz.zeroValue39
 t53:=Tryz.underlying195
 a53:=Tryz.isAgg195
 z53:=Tryz.sizeOf195
 v53:=Tryz.zeroValue195
 t55:=Tryz.underlying233
 a55:=Tryz.isAgg233
 z55:=Tryz.sizeOf233
 v55:=Tryz.zeroValue233
 t66:=Tryz.underlying238
 a66:=Tryz.isAgg238
 z66:=Tryz.sizeOf238
 v66:=Tryz.zeroValue238
 t70:=Tryz.underlying177
 a70:=Tryz.isAgg177
 z70:=Tryz.sizeOf177
 v70:=Tryz.zeroValue177
 t76:=Tryz.underlying254
 a76:=Tryz.isAgg254
 z76:=Tryz.sizeOf254
 v76:=Tryz.zeroValue254
 t77:=Tryz.underlying255
 a77:=Tryz.isAgg255
 z77:=Tryz.sizeOf255
 v77:=Tryz.zeroValue255}
end Go.Proofs.YteccdnejnbkbiaaGreat.Hn
end

section
namespace Go.Proofs.YteccdnejnbkbiaaGreat.Pk
open Go.RowKit YteccdnejnbkbiaaGreatW.PrintWords YteccdnejnbkbiaaGreatW.PrintLast YteccdnejnbkbiaaGreatW.PrintMore
attribute [local go_sem] max2_int min2_int max_two min_two max_three min_three max_four min_four   -- for this text's walks alone



def errW:Option Int→Value
 | none=>.nilIface
 | some c=>.iface 0 (.int .i64 c)
theorem errW_none:errW none=.nilIface:=rfl
theorem errW_some (c:Int):errW (some c)=.iface 0 (.int .i64 c):=rfl

end Go.Proofs.YteccdnejnbkbiaaGreat.Pk
end

section
namespace Go.Proofs.YteccdnejnbkbiaaGreat.Pk
open Go.RowKit YteccdnejnbkbiaaGreatW.PrintWords YteccdnejnbkbiaaGreatW.PrintLast YteccdnejnbkbiaaGreatW.PrintMore
attribute [local go_sem] max2_int min2_int max_two min_two max_three min_three max_four min_four   -- for this text's walks alone

open Ext
def hint_within.f (a0:Int) (a1:Int) (a2:Int):Option (Bool):=if a0≥a1 then(some (decide (a0≤a2))) else(some false)
theorem hint_within.calls (a0:Int) (a1:Int) (a2:Int) (r:Bool) (w:World) (h:hint_within.f a0 a1 a2=some r):
  Calls Tryz.prog 84 #[.int .i64 a0,.int .i64 a1,.int .i64 a2] w fun e w'=>e=.returned (.bool r)∧Drawn0 w w':=by
 have H:(if a0≥a1 then(some (decide (a0≤a2))) else(some false))=some r:=h
 clear h
 by_cases c4:a0≥a1
 ·rw[if_pos c4] at H
  have c4b0:decide (a1≤a0)=true:=decide_eq_true c4
  clear c4
  obtain rfl:=Option.some.inj H
  go_enter Tryz.func84,Tryz.ntmps84
  go_wp2
  go_ret
  exact⟨by first | rfl | (simp;done) | (simp [*];done),by repeat (first | exact Drawn0.refl _ | apply Drawn0.step)⟩
 ·rw[if_neg c4] at H
  have c4b0:decide (a1≤a0)=false:=decide_eq_false c4
  clear c4
  obtain rfl:=Option.some.inj H
  go_enter Tryz.func84,Tryz.ntmps84
  go_wp2
  go_ret
  exact⟨by first | rfl | (simp;done) | (simp [*];done),by repeat (first | exact Drawn0.refl _ | apply Drawn0.step)⟩

def hint_tells.f (a0:Int):Option (Bool):=(hint_within.f a0 2 4).bind fun t101=>(some t101)
theorem hint_tells.calls (a0:Int) (r:Bool) (w:World) (h:hint_tells.f a0=some r):
  Calls Tryz.prog 130 #[.int .i64 a0] w fun e w'=>e=.returned (.bool r)∧Drawn0 w w':=by
 have H:((hint_within.f a0 2 4).bind fun t101=>(some t101))=some r:=h
 clear h
 replace H:=Option.bind_eq_some_iff.mp H
 obtain⟨t101,A20,H⟩:=H
 replace H:(some t101)=some r:=H
 have A2:=ak A20
 clear A20
 obtain rfl:=Option.some.inj H
 go_enter Tryz.func130,Tryz.ntmps130
 go_wp2_with (first | ((with_reducible refine gate_callee (f:=84) rfl ?_);refine goesL_ (some 4) rfl rfl Tryz.func84 (by kernel_rfl) rfl #[.int .i64 a0,.int .i64 2,.int .i64 4] rfl (by(try simp only[List.map_toArray,List.map_cons,List.map_nil]);first | done | rfl | (simp only[List.length_drop,List.length_take];rfl)) ?_;(with_reducible refine(hint_within.calls a0 2 4 t101 _ A2.out).mono ?_);rintro e w' ⟨rfl,⟨nd,rfl⟩⟩;refine⟨_,rfl,?_⟩))
 go_ret
 exact⟨by first | rfl | (simp;done) | (simp [*];done),by repeat (first | exact Drawn0.refl _ | apply Drawn0.step)⟩

def rec_within.f (a0:Int) (a1:Int) (a2:Int):Option (Bool):=if a0≥a1 then(some (decide (a0≤a2))) else(some false)
theorem rec_within.calls (a0:Int) (a1:Int) (a2:Int) (r:Bool) (w:World) (h:rec_within.f a0 a1 a2=some r):
  Calls Tryz.prog 93 #[.int .i64 a0,.int .i64 a1,.int .i64 a2] w fun e w'=>e=.returned (.bool r)∧Drawn0 w w':=by
 have H:(if a0≥a1 then(some (decide (a0≤a2))) else(some false))=some r:=h
 clear h
 by_cases c4:a0≥a1
 ·rw[if_pos c4] at H
  have c4b0:decide (a1≤a0)=true:=decide_eq_true c4
  clear c4
  obtain rfl:=Option.some.inj H
  go_enter Tryz.func93,Tryz.ntmps93
  go_wp2
  go_ret
  exact⟨by first | rfl | (simp;done) | (simp [*];done),by repeat (first | exact Drawn0.refl _ | apply Drawn0.step)⟩
 ·rw[if_neg c4] at H
  have c4b0:decide (a1≤a0)=false:=decide_eq_false c4
  clear c4
  obtain rfl:=Option.some.inj H
  go_enter Tryz.func93,Tryz.ntmps93
  go_wp2
  go_ret
  exact⟨by first | rfl | (simp;done) | (simp [*];done),by repeat (first | exact Drawn0.refl _ | apply Drawn0.step)⟩

def rec_Key.f (a0:ByteArray):Option (Bool):=(rec_within.f (a0.size:Int) 1 64).bind fun t102=>(some t102)
theorem rec_Key.calls (a0:ByteArray) (r:Bool) (w:World) (h:rec_Key.f a0=some r):
  Calls Tryz.prog 136 #[.string a0] w fun e w'=>e=.returned (.bool r)∧Drawn0 w w':=by
 have H:((rec_within.f (a0.size:Int) 1 64).bind fun t102=>(some t102))=some r:=h
 clear h
 replace H:=Option.bind_eq_some_iff.mp H
 obtain⟨t102,A20,H⟩:=H
 replace H:(some t102)=some r:=H
 have A2:=ak A20
 clear A20
 obtain rfl:=Option.some.inj H
 go_enter Tryz.func136,Tryz.ntmps136
 go_wp2_with (first | ((with_reducible refine gate_callee (f:=93) rfl ?_);refine goesL_ (some 5) rfl rfl Tryz.func93 (by kernel_rfl) rfl #[.int .i64 (a0.size:Int),.int .i64 1,.int .i64 64] rfl (by(try simp only[List.map_toArray,List.map_cons,List.map_nil]);first | done | rfl | (simp only[List.length_drop,List.length_take];rfl)) ?_;(with_reducible refine(rec_within.calls (a0.size:Int) 1 64 t102 _ A2.out).mono ?_);rintro e w' ⟨rfl,⟨nd,rfl⟩⟩;refine⟨_,rfl,?_⟩))
 go_ret
 exact⟨by first | rfl | (simp;done) | (simp [*];done),by repeat (first | exact Drawn0.refl _ | apply Drawn0.step)⟩

def hint_Right_1.f (a0_0:Int) (a0_1:ByteArray) (a0_2:Int) (a0_3:Int):Option (Bool):=(hint_tells.f a0_0).bind fun t104=>(if t104=true then((rec_Key.f a0_1).bind fun t105=>(if t105=true then((hint_within.f a0_2 0 1073741824).bind fun t106=>(if t106=true then((hint_within.f a0_3 9 8200).bind fun t107=>(some (!t107))) else(some true))) else(some true))) else(some true))
theorem hint_Right_1.calls (a0_0:Int) (a0_1:ByteArray) (a0_2:Int) (a0_3:Int) (r:Bool) (w:World) (h:hint_Right_1.f a0_0 a0_1 a0_2 a0_3=some r):
  Calls Tryz.prog 135 #[.agg #[.int .i64 a0_0,.string a0_1,.int .i64 a0_2,.int .i64 a0_3]] w fun e w'=>e=.returned (.bool r)∧Below w.heap.size w w':=by
 have hu141:=Tryz.underlying141
 have HB:=ak (Below.refl w.heap.size w)
 have H:((hint_tells.f a0_0).bind fun t104=>(if t104=true then((rec_Key.f a0_1).bind fun t105=>(if t105=true then((hint_within.f a0_2 0 1073741824).bind fun t106=>(if t106=true then((hint_within.f a0_3 9 8200).bind fun t107=>(some (!t107))) else(some true))) else(some true))) else(some true)))=some r:=h
 clear h
 replace H:=Option.bind_eq_some_iff.mp H
 obtain⟨t104,A20,H⟩:=H
 replace H:(if t104=true then((rec_Key.f a0_1).bind fun t105=>(if t105=true then((hint_within.f a0_2 0 1073741824).bind fun t106=>(if t106=true then((hint_within.f a0_3 9 8200).bind fun t107=>(some (!t107))) else(some true))) else(some true))) else(some true))=some r:=H
 have A2:=ak A20
 clear A20
 by_cases c3:t104=true
 ·subst c3
  have H1:((rec_Key.f a0_1).bind fun t105=>(if t105=true then((hint_within.f a0_2 0 1073741824).bind fun t106=>(if t106=true then((hint_within.f a0_3 9 8200).bind fun t107=>(some (!t107))) else(some true))) else(some true)))=some r:=by rw[if_pos rfl] at H;exact H
  clear H
  have H:=H1
  clear H1
  replace H:=Option.bind_eq_some_iff.mp H
  obtain⟨t105,A40,H⟩:=H
  replace H:(if t105=true then((hint_within.f a0_2 0 1073741824).bind fun t106=>(if t106=true then((hint_within.f a0_3 9 8200).bind fun t107=>(some (!t107))) else(some true))) else(some true))=some r:=H
  have A4:=ak A40
  clear A40
  by_cases c5:t105=true
  ·subst c5
   have H1:((hint_within.f a0_2 0 1073741824).bind fun t106=>(if t106=true then((hint_within.f a0_3 9 8200).bind fun t107=>(some (!t107))) else(some true)))=some r:=by rw[if_pos rfl] at H;exact H
   clear H
   have H:=H1
   clear H1
   replace H:=Option.bind_eq_some_iff.mp H
   obtain⟨t106,A60,H⟩:=H
   replace H:(if t106=true then((hint_within.f a0_3 9 8200).bind fun t107=>(some (!t107))) else(some true))=some r:=H
   have A6:=ak A60
   clear A60
   by_cases c7:t106=true
   ·subst c7
    have H1:((hint_within.f a0_3 9 8200).bind fun t107=>(some (!t107)))=some r:=by rw[if_pos rfl] at H;exact H
    clear H
    have H:=H1
    clear H1
    replace H:=Option.bind_eq_some_iff.mp H
    obtain⟨t107,A80,H⟩:=H
    replace H:(some (!t107))=some r:=H
    have A8:=ak A80
    clear A80
    obtain rfl:=Option.some.inj H
    go_enter Tryz.func135,Tryz.ntmps135
    go_wp2_with (first | ((with_reducible refine gate_dst (N:=1) rfl ?_);refine box_event ?hg (N:=1) ?hd (cs:=#[.int .i64 a0_0,.string a0_1,.int .i64 a0_2,.int .i64 a0_3]) (t:=141) ?hr ?_;(case hd=>rfl);(case hg=>rfl);(case hr=>first | (go_simp;done) | (go_simp;rfl));intro gb103 hg w9 hbox hb;have n0_:=ak (below_step (by repeat (first | (with_reducible first | exact HB.out | apply below_alloc | apply pw_below_drewN | apply below_drew1) | exact HB.out)) hb);have n1_:=ak (hbox);have n2_:=ak ((by rw[hg];exact(below_size (by repeat (first | (with_reducible first | exact HB.out | apply below_alloc | apply pw_below_drewN | apply below_drew1) | exact HB.out))):w.heap.size≤gb103));have n3_:=ak ((by rw[hg];exact(below_size (by repeat (first | (with_reducible first | exact HB.out | apply below_alloc | apply pw_below_drewN | apply below_drew1) | exact HB.out))):w.heap.size≤gb103));clear HB;have HB:=n0_;have BK103:=n1_;have GW103:=n2_;have GE103:=n3_;clear n0_ n1_ n2_ n3_;clear hb hbox hg;have hcz10_0:=bq BK103.out 0 (.int .i64 a0_0);have hcz10_1:=bq BK103.out 1 (.string a0_1);have hcz10_2:=bq BK103.out 2 (.int .i64 a0_2);have hcz10_3:=bq BK103.out 3 (.int .i64 a0_3);have hfz10_0:=blk_frozen BK103.out 0;have hfz10_1:=blk_frozen BK103.out 1;have hfz10_2:=blk_frozen BK103.out 2;have hfz10_3:=blk_frozen BK103.out 3) | ((with_reducible refine gate_callee (f:=130) rfl ?_);refine goesL_ (some 5) rfl rfl Tryz.func130 (by kernel_rfl) rfl #[.int .i64 a0_0] rfl (by(try simp only[List.map_toArray,List.map_cons,List.map_nil]);first | done | rfl | (simp only[List.length_drop,List.length_take];rfl)) ?_;(with_reducible refine(hint_tells.calls a0_0 true _ A2.out).mono ?_);rintro e w' ⟨rfl,⟨nd,rfl⟩⟩;refine⟨_,rfl,?_⟩) | (go_at_call 136;(with_reducible refine(rec_Key.calls a0_1 true _ A4.out).mono ?_);rintro e w' ⟨rfl,⟨nd,rfl⟩⟩) | (go_at_call 84;(with_reducible refine(hint_within.calls a0_2 0 1073741824 true _ A6.out).mono ?_);rintro e w' ⟨rfl,⟨nd,rfl⟩⟩) | (go_at_call 84;(with_reducible refine(hint_within.calls a0_3 9 8200 t107 _ A8.out).mono ?_);rintro e w' ⟨rfl,⟨nd,rfl⟩⟩))
    go_ret
    exact⟨by first | rfl | (simp [errW_none,errW_some] <;> rfl) | (simp [*,errW_none,errW_some] <;> rfl),by repeat (first | (with_reducible first | exact HB.out | apply below_alloc | apply pw_below_drewN | apply below_drew1 | refine below_set ?_ GE103.out) | exact HB.out)⟩
   ·replace c7:=Bool.eq_false_iff.mpr c7
    subst c7
    have H1:(some true)=some r:=by rw[if_neg (show ¬(false=true) by decide)] at H;exact H
    clear H
    have H:=H1
    clear H1
    obtain rfl:=Option.some.inj H
    go_enter Tryz.func135,Tryz.ntmps135
    go_wp2_with (first | ((with_reducible refine gate_dst (N:=1) rfl ?_);refine box_event ?hg (N:=1) ?hd (cs:=#[.int .i64 a0_0,.string a0_1,.int .i64 a0_2,.int .i64 a0_3]) (t:=141) ?hr ?_;(case hd=>rfl);(case hg=>rfl);(case hr=>first | (go_simp;done) | (go_simp;rfl));intro gb103 hg w11 hbox hb;have n0_:=ak (below_step (by repeat (first | (with_reducible first | exact HB.out | apply below_alloc | apply pw_below_drewN | apply below_drew1) | exact HB.out)) hb);have n1_:=ak (hbox);have n2_:=ak ((by rw[hg];exact(below_size (by repeat (first | (with_reducible first | exact HB.out | apply below_alloc | apply pw_below_drewN | apply below_drew1) | exact HB.out))):w.heap.size≤gb103));have n3_:=ak ((by rw[hg];exact(below_size (by repeat (first | (with_reducible first | exact HB.out | apply below_alloc | apply pw_below_drewN | apply below_drew1) | exact HB.out))):w.heap.size≤gb103));clear HB;have HB:=n0_;have BK103:=n1_;have GW103:=n2_;have GE103:=n3_;clear n0_ n1_ n2_ n3_;clear hb hbox hg;have hcz12_0:=bq BK103.out 0 (.int .i64 a0_0);have hcz12_1:=bq BK103.out 1 (.string a0_1);have hcz12_2:=bq BK103.out 2 (.int .i64 a0_2);have hcz12_3:=bq BK103.out 3 (.int .i64 a0_3);have hfz12_0:=blk_frozen BK103.out 0;have hfz12_1:=blk_frozen BK103.out 1;have hfz12_2:=blk_frozen BK103.out 2;have hfz12_3:=blk_frozen BK103.out 3) | ((with_reducible refine gate_callee (f:=130) rfl ?_);refine goesL_ (some 5) rfl rfl Tryz.func130 (by kernel_rfl) rfl #[.int .i64 a0_0] rfl (by(try simp only[List.map_toArray,List.map_cons,List.map_nil]);first | done | rfl | (simp only[List.length_drop,List.length_take];rfl)) ?_;(with_reducible refine(hint_tells.calls a0_0 true _ A2.out).mono ?_);rintro e w' ⟨rfl,⟨nd,rfl⟩⟩;refine⟨_,rfl,?_⟩) | (go_at_call 136;(with_reducible refine(rec_Key.calls a0_1 true _ A4.out).mono ?_);rintro e w' ⟨rfl,⟨nd,rfl⟩⟩) | (go_at_call 84;(with_reducible refine(hint_within.calls a0_2 0 1073741824 false _ A6.out).mono ?_);rintro e w' ⟨rfl,⟨nd,rfl⟩⟩))
    go_ret
    exact⟨by first | rfl | (simp [errW_none,errW_some] <;> rfl) | (simp [*,errW_none,errW_some] <;> rfl),by repeat (first | (with_reducible first | exact HB.out | apply below_alloc | apply pw_below_drewN | apply below_drew1 | refine below_set ?_ GE103.out) | exact HB.out)⟩
  ·replace c5:=Bool.eq_false_iff.mpr c5
   subst c5
   have H1:(some true)=some r:=by rw[if_neg (show ¬(false=true) by decide)] at H;exact H
   clear H
   have H:=H1
   clear H1
   obtain rfl:=Option.some.inj H
   go_enter Tryz.func135,Tryz.ntmps135
   go_wp2_with (first | ((with_reducible refine gate_dst (N:=1) rfl ?_);refine box_event ?hg (N:=1) ?hd (cs:=#[.int .i64 a0_0,.string a0_1,.int .i64 a0_2,.int .i64 a0_3]) (t:=141) ?hr ?_;(case hd=>rfl);(case hg=>rfl);(case hr=>first | (go_simp;done) | (go_simp;rfl));intro gb103 hg w13 hbox hb;have n0_:=ak (below_step (by repeat (first | (with_reducible first | exact HB.out | apply below_alloc | apply pw_below_drewN | apply below_drew1) | exact HB.out)) hb);have n1_:=ak (hbox);have n2_:=ak ((by rw[hg];exact(below_size (by repeat (first | (with_reducible first | exact HB.out | apply below_alloc | apply pw_below_drewN | apply below_drew1) | exact HB.out))):w.heap.size≤gb103));have n3_:=ak ((by rw[hg];exact(below_size (by repeat (first | (with_reducible first | exact HB.out | apply below_alloc | apply pw_below_drewN | apply below_drew1) | exact HB.out))):w.heap.size≤gb103));clear HB;have HB:=n0_;have BK103:=n1_;have GW103:=n2_;have GE103:=n3_;clear n0_ n1_ n2_ n3_;clear hb hbox hg;have hcz14_0:=bq BK103.out 0 (.int .i64 a0_0);have hcz14_1:=bq BK103.out 1 (.string a0_1);have hcz14_2:=bq BK103.out 2 (.int .i64 a0_2);have hcz14_3:=bq BK103.out 3 (.int .i64 a0_3);have hfz14_0:=blk_frozen BK103.out 0;have hfz14_1:=blk_frozen BK103.out 1;have hfz14_2:=blk_frozen BK103.out 2;have hfz14_3:=blk_frozen BK103.out 3) | ((with_reducible refine gate_callee (f:=130) rfl ?_);refine goesL_ (some 5) rfl rfl Tryz.func130 (by kernel_rfl) rfl #[.int .i64 a0_0] rfl (by(try simp only[List.map_toArray,List.map_cons,List.map_nil]);first | done | rfl | (simp only[List.length_drop,List.length_take];rfl)) ?_;(with_reducible refine(hint_tells.calls a0_0 true _ A2.out).mono ?_);rintro e w' ⟨rfl,⟨nd,rfl⟩⟩;refine⟨_,rfl,?_⟩) | (go_at_call 136;(with_reducible refine(rec_Key.calls a0_1 false _ A4.out).mono ?_);rintro e w' ⟨rfl,⟨nd,rfl⟩⟩))
   go_ret
   exact⟨by first | rfl | (simp [errW_none,errW_some] <;> rfl) | (simp [*,errW_none,errW_some] <;> rfl),by repeat (first | (with_reducible first | exact HB.out | apply below_alloc | apply pw_below_drewN | apply below_drew1 | refine below_set ?_ GE103.out) | exact HB.out)⟩
 ·replace c3:=Bool.eq_false_iff.mpr c3
  subst c3
  have H1:(some true)=some r:=by rw[if_neg (show ¬(false=true) by decide)] at H;exact H
  clear H
  have H:=H1
  clear H1
  obtain rfl:=Option.some.inj H
  go_enter Tryz.func135,Tryz.ntmps135
  go_wp2_with (first | ((with_reducible refine gate_dst (N:=1) rfl ?_);refine box_event ?hg (N:=1) ?hd (cs:=#[.int .i64 a0_0,.string a0_1,.int .i64 a0_2,.int .i64 a0_3]) (t:=141) ?hr ?_;(case hd=>rfl);(case hg=>rfl);(case hr=>first | (go_simp;done) | (go_simp;rfl));intro gb103 hg w15 hbox hb;have n0_:=ak (below_step (by repeat (first | (with_reducible first | exact HB.out | apply below_alloc | apply pw_below_drewN | apply below_drew1) | exact HB.out)) hb);have n1_:=ak (hbox);have n2_:=ak ((by rw[hg];exact(below_size (by repeat (first | (with_reducible first | exact HB.out | apply below_alloc | apply pw_below_drewN | apply below_drew1) | exact HB.out))):w.heap.size≤gb103));have n3_:=ak ((by rw[hg];exact(below_size (by repeat (first | (with_reducible first | exact HB.out | apply below_alloc | apply pw_below_drewN | apply below_drew1) | exact HB.out))):w.heap.size≤gb103));clear HB;have HB:=n0_;have BK103:=n1_;have GW103:=n2_;have GE103:=n3_;clear n0_ n1_ n2_ n3_;clear hb hbox hg;have hcz16_0:=bq BK103.out 0 (.int .i64 a0_0);have hcz16_1:=bq BK103.out 1 (.string a0_1);have hcz16_2:=bq BK103.out 2 (.int .i64 a0_2);have hcz16_3:=bq BK103.out 3 (.int .i64 a0_3);have hfz16_0:=blk_frozen BK103.out 0;have hfz16_1:=blk_frozen BK103.out 1;have hfz16_2:=blk_frozen BK103.out 2;have hfz16_3:=blk_frozen BK103.out 3) | ((with_reducible refine gate_callee (f:=130) rfl ?_);refine goesL_ (some 5) rfl rfl Tryz.func130 (by kernel_rfl) rfl #[.int .i64 a0_0] rfl (by(try simp only[List.map_toArray,List.map_cons,List.map_nil]);first | done | rfl | (simp only[List.length_drop,List.length_take];rfl)) ?_;(with_reducible refine(hint_tells.calls a0_0 false _ A2.out).mono ?_);rintro e w' ⟨rfl,⟨nd,rfl⟩⟩;refine⟨_,rfl,?_⟩))
  go_ret
  exact⟨by first | rfl | (simp [errW_none,errW_some] <;> rfl) | (simp [*,errW_none,errW_some] <;> rfl),by repeat (first | (with_reducible first | exact HB.out | apply below_alloc | apply pw_below_drewN | apply below_drew1 | refine below_set ?_ GE103.out) | exact HB.out)⟩

end Go.Proofs.YteccdnejnbkbiaaGreat.Pk
end

section
namespace Go.Proofs.YteccdnejnbkbiaaGreat.Hn
open Go.RowKit Go.Shelf Go.Lib Go.Sort Go.Proofs.YteccdnejnbkbiaaGreat.Pure Pt YteccdnejnbkbiaaGreatW.PrintWords YteccdnejnbkbiaaGreatW.PrintMore Fr Ext

theorem fine_calls (x:Hi) (w:World):Calls Tryz.prog 135 #[.agg #[.int .i64 x.f0,.string x.f1,.int .i64 x.f2,.int .i64 x.f3]] w fun e w'=>e=.returned (.bool (!fineH x))∧Below w.heap.size w w':=by
 refine Pk.hint_Right_1.calls x.f0 x.f1 x.f2 x.f3 (!fineH x) w ?_
 unfold Pk.hint_Right_1.f Pk.hint_tells.f Pk.rec_Key.f Pk.rec_within.f Pk.hint_within.f fineH
 by_cases h0:x.f0≥2
 ·by_cases h1:x.f0≤4
  ·by_cases h2:(x.f1.size:Int)≥1
   ·by_cases h3:(x.f1.size:Int)≤64
    ·by_cases h4:x.f2≥0
     ·by_cases h5:x.f2≤1073741824
      ·by_cases h6:x.f3≥9
       ·by_cases h7:x.f3≤8200
        ·have g1:1≤x.f1.size:=by omega
         have g2:x.f1.size≤64:=by omega
         simp [h0,h1,h2,h3,h4,h5,h6,h7,g1,g2]
        ·have g1:1≤x.f1.size:=by omega
         have g2:x.f1.size≤64:=by omega
         simp [h0,h1,h2,h3,h4,h5,h6,h7,g1,g2]
       ·have g1:1≤x.f1.size:=by omega
        have g2:x.f1.size≤64:=by omega
        simp [h0,h1,h2,h3,h4,h5,h6,g1,g2]
      ·simp [h0,h1,h2,h3,h4,h5]
     ·simp [h0,h1,h2,h3,h4]
    ·have g2:¬x.f1.size≤64:=by omega
     simp [h0,h1,h2,h3,g2]
   ·have g1:¬1≤x.f1.size:=by omega
    simp [h0,h1,h2,g1]
  ·simp [h0,h1]
 ·simp [h0]

theorem index_calls (A:Option Addr) (c:Nat) (l:List Hi) (w:World) (hr:Kd.C k141 w A l.length l):
  Calls Tryz.prog 162 #[.slice A l.length c,.func (.func 135) #[] #[]] w fun e w'=>∃r:Int,e=.returned (.int .i64 r)∧Aside0 (decide (r≥0)=!l.all fineH)∧Below w.heap.size w w':=by
 have HR:=ak hr
 have HM:=ak (Kd.C_max hr)
 clear hr
 go_enter Tryz.func162,Tryz.ntmps162
 go_wp2
 go_loopg [8] l.length (fun kq v8 wr=>∃k:Nat,v8=.int .i64 k∧Aside0 (k+kq=l.length)∧Aside0 ((l.take k).all fineH=true)∧Aside0 (Below w.heap.size w wr))
 case atStart=>exact⟨0,rfl,⟨by omega⟩,⟨rfl⟩,⟨Below.refl _ _⟩⟩
 case round=>
  obtain⟨k,rfl,HK,HA,HB⟩:=hrel
  cases gk with
  | zero=>
   have hk:decide ((k:Int) < (l.length:Int))=false:=decide_eq_false (by have:=HK.out;omega)
   have hk':decide (k < l.length)=false:=decide_eq_false (by have:=HK.out;omega)
   go_wp2
   go_ret
   refine⟨_,rfl,⟨?_⟩,HB.out⟩
   have e1:=HA.out
   rw[List.take_of_length_le (by have:=HK.out;omega)] at e1
   rw[e1]
   rfl
  | succ gk=>
   have hk0:k < l.length:=by have:=HK.out;omega
   have hk:decide ((k:Int) < (l.length:Int))=true:=decide_eq_true (by omega)
   have hk':decide (k < l.length)=true:=decide_eq_true hk0
   have hk1:(k < l.length)=True:=eq_true hk0
   obtain⟨ad,e0,x0,x1,x2,x3⟩:=at_T141 (Kd.C_below HR.out HB.out) (k:Int) (by omega) (by omega)
   cases e0
   rw[Int.toNat_natCast] at x0 x1 x2 x3
   obtain⟨x,hx⟩:∃x,rd_T141 l (k:Int)=x:=⟨_,rfl⟩
   rw[hx] at x0 x1 x2 x3
   have HX:=ak hx
   clear hx
   have htk:l.take (k+1)=l.take k++[x]:=by
    rw[List.take_add_one,List.getElem?_eq_getElem hk0]
    have:=HX.out
    unfold rd_T141 at this
    rw[Int.toNat_natCast,List.getD_eq_getElem?_getD,List.getElem?_eq_getElem hk0] at this
    rw[← this];rfl
   by_cases hf:fineH x=true
   ·have hb0:(!fineH x)=false:=by rw[hf];rfl
    have HF:=ak hf
    have HT:=ak htk
    clear hf htk
    have hcon:=fun W=>fine_calls x W
    rw[hb0] at hcon
    clear hb0
    go_wp2_with (go_at_call 135;refine(hcon _).mono ?_;rintro e w2 ⟨rfl,hb⟩;have HB2:=ak (below_then HB.out HB.out.size hb);clear hb)
    go_roundg gk
    case measure=>omega
    case rel=>exact⟨k+1,by rw[w64 _ (by omega) (by have:=HM.out;omega)];rfl,⟨by have:=HK.out;omega⟩,⟨by rw[HT.out,List.all_append,HA.out];simp [HF.out]⟩,HB2⟩
   ·have hb0:(!fineH x)=true:=by simp [hf]
    have HF:=ak hf
    have HT:=ak htk
    clear hf htk
    have hcon:=fun W=>fine_calls x W
    rw[hb0] at hcon
    clear hb0
    go_wp2_with (go_at_call 135;refine(hcon _).mono ?_;rintro e w2 ⟨rfl,hb⟩;have HB2:=ak (below_then HB.out HB.out.size hb);clear hb)
    go_ret
    refine⟨_,rfl,⟨?_⟩,HB2.out⟩
    have hall:l.all fineH=false:=by
     rw[← List.take_append_drop (k+1) l,List.all_append,HT.out,List.all_append]
     simp [HF.out]
    rw[hall]
    exact decide_eq_true (by omega)

theorem contains_calls (A:Option Addr) (c:Nat) (l:List Hi) (w:World) (hr:Kd.C k141 w A l.length l):
  Calls Tryz.prog 137 #[.slice A l.length c,.func (.func 135) #[] #[]] w fun e w'=>e=.returned (.bool (!l.all fineH))∧Below w.heap.size w w':=by
 have HR:=ak hr
 clear hr
 go_enter Tryz.func137,Tryz.ntmps137
 go_wp2_with (go_at_call 162;refine(index_calls A c l _ HR.out).mono ?_;rintro e w2 ⟨r,rfl,hd,hb⟩;have HB:=ak hb;clear hb)
 go_ret
 exact⟨by rw[← hd.out];simp,HB.out⟩
end Go.Proofs.YteccdnejnbkbiaaGreat.Hn
end

section
namespace Go.Proofs.YteccdnejnbkbiaaGreat.Hn
open Go.RowKit Go.Shelf Go.Lib Go.Sort Go.Proofs.YteccdnejnbkbiaaGreat.Pure Pt YteccdnejnbkbiaaGreatW.PrintWords YteccdnejnbkbiaaGreatW.PrintMore Fr Ext
attribute [local go_sem] max2_int min2_int max_two min_two max_three min_three max_four min_four

theorem compareBytes_lt:∀a b:List UInt8,compareBytes a b < 0↔a < b
 | [],[]=>by simp [compareBytes]
 | [],_::_=>by simp [compareBytes]
 | _::_,[]=>by simp [compareBytes]
 | x::a,y::b=>by
  have ih:=compareBytes_lt a b
  rw[compareBytes,List.cons_lt_cons_iff]
  by_cases h1:x < y
  ·simp [h1]
  ·by_cases h2:y < x
   ·have h3:x≠y:=by intro e;subst e;exact h1 h2
    simp [h1,h2,h3]
   ·have h3:x=y:=UInt8.le_antisymm (UInt8.not_lt.mp h2) (UInt8.not_lt.mp h1)
    subst h3
    simp only[h1,if_false,ih,false_or,true_and]
abbrev rdH (l:List Hi) (i:Int):Hi:=rd_T141 l i
def risesTo (l:List Hi) (k:Nat):Prop:=∀i:Nat,i < k→keyL (rdH l i).f1 < keyL (rdH l ((i:Int)+1)).f1
theorem rdH_at (l:List Hi) (i:Nat) (h:i < l.length):rdH l i=l[i]:=by
 unfold rdH rd_T141
 rw[Int.toNat_natCast,List.getD_eq_getElem?_getD,List.getElem?_eq_getElem h];rfl
theorem rises_iff:∀l:List Hi,risesL l=true↔∀i:Nat,∀h:i+1 < l.length,keyL (l[i]'(by omega)).f1 < keyL l[i+1].f1
 | []=>by simp [risesL]
 | [a]=>by simp [risesL]
 | a::b::l=>by
  rw[risesL,Bool.and_eq_true,decide_eq_true_iff,rises_iff (b::l)]
  constructor
  ·rintro ⟨h1,h2⟩ i hi
   rcases i with _ | i
   ·exact h1
   ·exact h2 i (by simpa using hi)
  ·intro h
   exact⟨h 0 (by simp),fun i hi=>h (i+1) (by simpa using hi)⟩
theorem rises_of (l:List Hi) (h:risesTo l (l.length - 1)):risesL l=true:=by
 rw[rises_iff]
 intro i hi
 have:=h i (by omega)
 rw[show(i:Int)+1=((i+1:Nat):Int) by omega,rdH_at l i (by omega),rdH_at l (i+1) hi] at this
 exact this
theorem rises_not (l:List Hi) (i:Nat) (hi:i+1 < l.length) (h:¬keyL (rdH l i).f1 < keyL (rdH l ((i:Int)+1)).f1):risesL l=false:=by
 rw[Bool.eq_false_iff]
 intro hr
 rw[rises_iff] at hr
 apply h
 rw[show(i:Int)+1=((i+1:Nat):Int) by omega,rdH_at l i (by omega),rdH_at l (i+1) hi]
 exact hr i hi

theorem right_calls (A:Option Addr) (c:Nat) (l:List Hi) (w:World) (hc:l.length≤c) (hr:Kd.C k141 w A l.length l):
  Calls Tryz.prog 86 #[.slice A l.length c] w fun e w'=>e=.returned (.bool (rightL l))∧Below w.heap.size w w':=by
 have HR:=ak hr
 have HM:=ak (Kd.C_max hr)
 obtain⟨i0,hi0,_,hsz,_⟩:=info_parts info141
 have hmin:(if(l.length:Int) < 1 then(l.length:Int) else 1)=((min 1 l.length:Nat):Int):=by split <;> omega
 obtain⟨m,hm⟩:∃m,min 1 l.length=m:=⟨_,rfl⟩
 rw[hm] at hmin
 have hmle:m≤l.length:=by omega
 have hcut:=cut_from (P:=Tryz.prog) 48 141 .i64 Tryz.underlying48 hi0 4 hsz A l.length c (m:Int) (by omega) (by omega)
 obtain⟨A1,hA1⟩:∃A1,A1=(if c=(m:Int).toNat then A else A.map (·.add ((m:Int).toNat *4))):=⟨_,rfl⟩
 rw[← hA1,Int.toNat_natCast] at hcut
 clear hA1 hr
 go_enter Tryz.func86,Tryz.ntmps86
 go_wp2
 clear hcut hi0 hsz hmin
 have HMM:=ak hm
 clear hm hc
 go_loopg [11] (l.length - m) (fun kq v11 wr=>∃k:Nat,v11=.int .i64 k∧Aside0 (k+kq=l.length - m)∧Aside0 (risesTo l k)∧Aside0 (Below w.heap.size w wr))
 case atStart=>exact⟨0,rfl,⟨by omega⟩,⟨fun i hi=>absurd hi (Nat.not_lt_zero _)⟩,⟨Below.refl _ _⟩⟩
 case round=>
  obtain⟨k,rfl,HK,HA,HB⟩:=hrel
  cases gk with
  | zero=>
   have hk:decide ((k:Int) < ((l.length - m:Nat):Int))=false:=decide_eq_false (by have:=HK.out;omega)
   have hk':decide (k < l.length - m)=false:=decide_eq_false (by have:=HK.out;omega)
   have HE:=ak (rises_of l (by have e1:=HK.out;have e2:=HMM.out;rw[show l.length - 1=k by omega];exact HA.out))
   go_wp2_with (go_at_call 137;refine(contains_calls A c l _ (Kd.C_below HR.out HB.out)).mono ?_;rintro e w2 ⟨rfl,hb⟩;have HB2:=ak (below_then HB.out HB.out.size hb);clear hb)
   go_ret
   exact⟨by rw[rightL,HE.out];simp,HB2.out⟩
  | succ gk=>
   have hk0:k+1 < l.length:=by have:=HK.out;have:=HMM.out;omega
   have hk:decide ((k:Int) < ((l.length - m:Nat):Int))=true:=decide_eq_true (by have:=HK.out;omega)
   have hk':decide (k < l.length - m)=true:=decide_eq_true (by have:=HK.out;omega)
   have hw:wrap64 ((k:Int)+1)=(k:Int)+1:=by rw[w64 _ (by omega) (by have:=HM.out;omega)]
   have hw2:IntKind.i64.wrap ((k:Int)+1)=(k:Int)+1:=by rw[IntWalk.i64_in _ (by have:=HM.out;omega)]
   have b0:(0:Int)≤(k:Int):=by omega
   have b1:(k:Int) < (l.length:Int):=by omega
   have b2:(0:Int)≤(k:Int)+1:=by omega
   have b3:(k:Int)+1 < (l.length:Int):=by omega
   have b4:((k:Int)+1).toNat=k+1:=by omega
   have hk1:(k < l.length)=True:=eq_true (by omega)
   have hk2:(k+1 < l.length)=True:=eq_true hk0
   obtain⟨ad,e0,x0,x1,x2,x3⟩:=at_T141 (Kd.C_below HR.out HB.out) (k:Int) (by omega) (by omega)
   cases e0
   obtain⟨ad',e0,y0,y1,y2,y3⟩:=at_T141 (Kd.C_below HR.out HB.out) ((k+1:Nat):Int) (by omega) (by omega)
   cases e0
   rw[Int.toNat_natCast] at x0 x1 x2 x3 y0 y1 y2 y3
   obtain⟨x,hx⟩:∃x,rd_T141 l (k:Int)=x:=⟨_,rfl⟩
   obtain⟨y,hy⟩:∃y,rd_T141 l ((k+1:Nat):Int)=y:=⟨_,rfl⟩
   rw[hx] at x0 x1 x2 x3
   rw[hy] at y0 y1 y2 y3
   have HX:=ak hx
   have HY:=ak hy
   clear hx hy
   obtain⟨r,hr⟩:∃r,cmpH x y=r:=⟨_,rfl⟩
   have hcon:=fun W=>byKey_below x y W
   rw[hr] at hcon
   have HC:=ak hcon
   have HRR:=ak hr
   clear hcon hr
   go_wp2
   have hlt:(ad.add (k*4)).block < wr.heap.size:=World.block_lt_of_cell? wr _ x0
   have hlt2:(ad.add ((k+1)*4)).block < wr.heap.size:=World.block_lt_of_cell? wr _ y0
   go_region_held3 (fun w'=>w'.cell? (ad.add (k*4))=some (.int .i64 x.f0)∧w'.cell? ⟨(ad.add (k*4)).block,(ad.add (k*4)).off+1,none⟩=some (.string x.f1)∧w'.cell? ⟨(ad.add (k*4)).block,(ad.add (k*4)).off+2,none⟩=some (.int .i64 x.f2)∧w'.cell? ⟨(ad.add (k*4)).block,(ad.add (k*4)).off+3,none⟩=some (.int .i64 x.f3)∧w'.cell? (ad.add ((k+1)*4))=some (.int .i64 y.f0)∧w'.cell? ⟨(ad.add ((k+1)*4)).block,(ad.add ((k+1)*4)).off+1,none⟩=some (.string y.f1)∧w'.cell? ⟨(ad.add ((k+1)*4)).block,(ad.add ((k+1)*4)).off+2,none⟩=some (.int .i64 y.f2)∧w'.cell? ⟨(ad.add ((k+1)*4)).block,(ad.add ((k+1)*4)).off+3,none⟩=some (.int .i64 y.f3))
    (first | go_keep | exact⟨(hb1.cell (p:=ad.add (k*4)) hlt).trans x0,(hb1.cell (p:=⟨(ad.add (k*4)).block,(ad.add (k*4)).off+1,none⟩) hlt).trans x1,(hb1.cell (p:=⟨(ad.add (k*4)).block,(ad.add (k*4)).off+2,none⟩) hlt).trans x2,(hb1.cell (p:=⟨(ad.add (k*4)).block,(ad.add (k*4)).off+3,none⟩) hlt).trans x3,(hb1.cell (p:=ad.add ((k+1)*4)) hlt2).trans y0,(hb1.cell (p:=⟨(ad.add ((k+1)*4)).block,(ad.add ((k+1)*4)).off+1,none⟩) hlt2).trans y1,(hb1.cell (p:=⟨(ad.add ((k+1)*4)).block,(ad.add ((k+1)*4)).off+2,none⟩) hlt2).trans y2,(hb1.cell (p:=⟨(ad.add ((k+1)*4)).block,(ad.add ((k+1)*4)).off+3,none⟩) hlt2).trans y3⟩)
    ((go_at_call 133;refine(HC.out _).mono ?_;rintro e w1 ⟨rfl,hb1⟩))
   have HB1:=ak (below_then HB.out HB.out.size (below_then (below_drew1 (Below.refl _ _)) (Nat.le_refl _) hb1))
   clear hb1 x0 x1 x2 x3 y0 y1 y2 y3 hlt hlt2 hk1 hk2 hk hk'
   obtain⟨bq,hbq⟩:∃b,decide (0≤r)=b:=⟨_,rfl⟩
   rw[hbq]
   have HN:=ak hbq
   clear hbq
   cases bq with
   | true=>
    go_wp2
    go_ret
    refine⟨?_,HB1.out⟩
    rw[rightL,rises_not l k hk0 ?_]
    ·rfl
    ·rw[show rdH l (k:Int)=x from HX.out,show rdH l ((k:Int)+1)=y from HY.out]
     intro hlt
     have:=(compareBytes_lt (keyL x.f1) (keyL y.f1)).mpr hlt
     have e1:compareBytes (keyL x.f1) (keyL y.f1)=r:=HRR.out
     have:=of_decide_eq_true HN.out
     omega
   | false=>
    go_wp2
    go_roundg gk
    case measure=>omega
    case rel=>
     refine⟨k+1,rfl,⟨by have:=HK.out;omega⟩,⟨fun i hi=>?_⟩,HB1⟩
     by_cases hik:i < k
     ·exact HA.out i hik
     ·obtain rfl:i=k:=by omega
      rw[show rdH l (i:Int)=x from HX.out,show rdH l ((i:Int)+1)=y from HY.out]
      have e1:compareBytes (keyL x.f1) (keyL y.f1)=r:=HRR.out
      have:=of_decide_eq_false HN.out
      exact(compareBytes_lt (keyL x.f1) (keyL y.f1)).mp (by omega)
end Go.Proofs.YteccdnejnbkbiaaGreat.Hn
end

section
namespace Go.Proofs.YteccdnejnbkbiaaGreat.Hn
open Go.RowKit Go.Shelf Go.Lib Go.Sort Go.Proofs.YteccdnejnbkbiaaGreat.Pure Pt YteccdnejnbkbiaaGreatW.PrintWords YteccdnejnbkbiaaGreatW.PrintMore Fr Ext

instance:Inhabited Hi:=⟨⟨0,ByteArray.empty,0,0⟩⟩
theorem ltH (x y:Hi):ltOf cmpH x y=decide (keyL x.f1 < keyL y.f1):=by
 unfold ltOf cmpH
 exact decide_eq_decide.mpr (compareBytes_lt _ _)
theorem swoH:SWO (ltOf cmpH) where
 irrefl x:=by rw[ltH];exact decide_eq_false (List.lt_irrefl _)
 trans x y z h1 h2:=by
  rw[ltH] at *
  exact decide_eq_true (List.lt_trans (of_decide_eq_true h1) (of_decide_eq_true h2))
 ntrans x y z h1 h2:=by
  rw[ltH] at *
  have h1:=of_decide_eq_false h1
  have h2:=of_decide_eq_false h2
  refine decide_eq_false fun h3=>?_
  exact absurd h3 (List.not_lt.mpr (List.le_trans (List.not_lt.mp h2) (List.not_lt.mp h1)))
theorem cmpLays (blk off size:Nat) (w:World):CmpLays Tryz.prog 133 #[] encH 4 cmpH blk off size w:=fun _ _ _ _ x y=>byKey_calls x y _
theorem sort_calls (blk off cap:Nat) (d:Array Hi) (w:World) (hH:HoldsK encH 4 w blk off d) (hblk:blk < w.heap.size) (hsz:d.size < 4611686018427387904):
  Calls Tryz.prog 158 #[.slice (some ⟨blk,off,none⟩) d.size cap,.func (.func 133) #[] #[]] w fun e w'=>e=.returned (.tuple #[])∧∃d' n os,PermIn 0 d.size d d'∧SortedIn (ltOf cmpH) 0 d.size d'∧w'=sortWorldK encH 4 w blk off n d' os:=by
 have eg:∀args w,(callFunc 133 args).run Tryz.prog w=.ok (.enter 133 args) w:=enters_of Tryz.func133 (by kernel_rfl) rfl
 have hcon:=AnyQ.slices_SortFunc sortH 4 Tryz.isAgg141 Tryz.sizeOf141 encH (fun _=>rfl) (fun x v hv=>by simp [encH] at hv;rcases hv with rfl | rfl | rfl | rfl <;> rfl) cmpH swoH 133 #[] blk off cap d w eg (cmpLays blk off d.size w) hH hblk hsz
 exact hcon
end Go.Proofs.YteccdnejnbkbiaaGreat.Hn
end

section
namespace Go.Proofs.YteccdnejnbkbiaaGreat.Hn
open Go.RowKit Go.Shelf Go.Lib Go.Sort Go.Proofs.YteccdnejnbkbiaaGreat.Pure Pt YteccdnejnbkbiaaGreatW.PrintWords YteccdnejnbkbiaaGreatW.PrintMore Fr Ext

abbrev RowH (w:World) (base:Nat) (ok:Nat→Prop) (v:Value) (l:List Hi):Prop:=Kd.R k141 141 w base ok v l
theorem enc_len (x:Hi):(encH x).length=4:=rfl
theorem flat_get (d:List Hi) (j i:Nat) (hj:j < d.length) (hi:i < 4):(flatK encH 4 d.toArray)[j*4+i]! =(encH d[j])[i]'(by rw[enc_len];exact hi):=by
 rw[get_flatK _ _ _ _ (by simp;omega),show(j*4+i) / 4=j by omega,show(j*4+i) % 4=i by omega]
 have e:(d.toArray)[j]! =d[j]:=by simp [hj]
 rw[e,getElem!_pos (encH d[j]) i (by rw[enc_len];exact hi)]
theorem row_cells {w:World} {base:Nat} {ok:Nat→Prop} {g cap:Nat} {l:List Hi} (h:RowH w base ok (.slice (some ⟨g,0,none⟩) l.length cap) l):
  ∃cur,w.heap[g]? =some (.cells cur 141 (0,0))∧base≤g∧l.length≤cap∧cap≤maxLen∧cur.size=cap*4∧∀j,∀hj:j < l.length,∀i,∀hi:i < 4,cur[j*4+i]? =some ((encH l[j])[i]'(by rw[enc_len];exact hi)):=by
 obtain⟨_,inner,⟨hlen,hown⟩,hr⟩:=h
 rcases hown with⟨h1,_⟩ | ⟨g',cap',cur,he,hb,hh,hn,hm,hs,ht⟩
 ·cases h1
 ·injection he with e1 e2 e3
  injection e1 with e1
  injection e1 with e1
  subst e1 e3
  refine⟨cur,hh,hb,hn,hm,hs,fun j hj i hi=>?_⟩
  have h2:=k141_openM (hr.2 j l[j] (List.getElem?_eq_getElem hj))
  change (inner.drop (j*4)).take 4=encH l[j] at h2
  have h3:((inner.drop (j*4)).take 4)[i]? =(encH l[j])[i]? :=by rw[h2]
  rw[List.getElem?_take_of_lt hi,List.getElem?_drop,List.getElem?_eq_getElem (l:=encH l[j]) (by rw[enc_len];exact hi)] at h3
  change cur.toList.take (l.length*4)=inner at ht
  rw[← ht,List.getElem?_take_of_lt (by omega),Array.getElem?_toList] at h3
  exact h3
theorem row_holds {w:World} {base:Nat} {ok:Nat→Prop} {g cap:Nat} {l:List Hi} (h:RowH w base ok (.slice (some ⟨g,0,none⟩) l.length cap) l):HoldsK encH 4 w g 0 l.toArray:=by
 obtain⟨cur,hh,_,_,_,_,hc⟩:=row_cells h
 intro j hj
 have hj':j < l.length*4:=by simpa using hj
 refine⟨?_,by simp [World.frozen?,hh]⟩
 have h1:=hc (j / 4) (by omega) (j % 4) (by omega)
 have h2:=flat_get l (j / 4) (j % 4) (by omega) (by omega)
 rw[show j / 4*4+j % 4=j by omega] at h1 h2
 simp only[World.cell?,hh,Nat.zero_add]
 simp only[Option.isSome_none,Bool.false_eq_true,if_false]
 rw[h1,h2]
 rfl
theorem row_sorted {w:World} {base:Nat} {ok:Nat→Prop} {g cap:Nat} {l:List Hi} (h:RowH w base ok (.slice (some ⟨g,0,none⟩) l.length cap) l) (d:List Hi) (hl:d.length=l.length) (n:Nat) (os:Array Obj):
  RowH (sortWorldK encH 4 w g 0 n d.toArray os) base ok (.slice (some ⟨g,0,none⟩) l.length cap) d∧w.grownBy (sortWorldK encH 4 w g 0 n d.toArray os) (some g):=by
 obtain⟨cur,hh,hb,hn,hm,hs,hc⟩:=row_cells h
 have hok:=h.1
 have hg:g < w.heap.size:=(Array.getElem?_eq_some_iff.1 hh).1
 have hfs:(flatK encH 4 d.toArray).size=d.length*4:=by simp
 have hheap:(sortWorldK encH 4 w g 0 n d.toArray os).heap[g]? =some (.cells (putCells id 0 (flatK encH 4 d.toArray) cur) 141 (0,0)):=by
  unfold sortWorldK putRowK
  rw[heap_grow_old _ _ (by simpa using hg)]
  simp [putRow,mapBlock,Sort.ahead,Array.getElem?_modify,hh,onCells]
 have hput:∀j,j < d.length*4→(putCells id 0 (flatK encH 4 d.toArray) cur)[j]? =some ((flatK encH 4 d.toArray)[j]!):=by
  intro j hj
  have hj2:j < (flatK encH 4 d.toArray).size:=by omega
  have hj3:j < cur.size:=by rw[hs];omega
  simp only[putCells]
  rw[Array.getElem?_mapIdx,Array.getElem?_eq_getElem hj3,Option.map_some,if_pos (by omega)]
  rfl
 constructor
 ·refine⟨hok,(putCells id 0 (flatK encH 4 d.toArray) cur).toList.take (d.length*4),⟨?_,.inr ⟨g,cap,_,by rw[hl],hb,hheap,by omega,hm,?_,rfl⟩⟩,?_,?_⟩
  ·have e2:(putCells id 0 (flatK encH 4 d.toArray) cur).toList.length=cap*4:=by simp [putCells,hs]
   rw[List.length_take,e2]
   show _=d.length*4
   omega
  ·show(putCells id 0 (flatK encH 4 d.toArray) cur).size=cap*4
   simp [putCells,hs]
  ·have e2:(putCells id 0 (flatK encH 4 d.toArray) cur).toList.length=cap*4:=by simp [putCells,hs]
   rw[List.length_take,e2]
   show _=d.length*4
   omega
  ·intro j p hj
   obtain⟨hj1,rfl⟩:=List.getElem?_eq_some_iff.1 hj
   have e:(((putCells id 0 (flatK encH 4 d.toArray) cur).toList.take (d.length*4)).drop (j*4)).take 4=encH d[j]:=by
    apply List.ext_getElem?
    intro i
    by_cases hi:i < 4
    ·rw[List.getElem?_take_of_lt hi,List.getElem?_drop,List.getElem?_take_of_lt (by omega),Array.getElem?_toList,hput _ (by omega),flat_get d j i hj1 hi,List.getElem?_eq_getElem (l:=encH d[j]) (by rw[enc_len];exact hi)]
    ·rw[List.getElem?_take_eq_none (by omega),List.getElem?_eq_none (by rw[enc_len];omega)]
   show k141.M _ _ _ d[j] ((((putCells id 0 (flatK encH 4 d.toArray) cur).toList.take (d.length*4)).drop (j*4)).take 4)
   rw[e]
   exact k141_mkM _ _ _ _
 ·refine⟨rfl,rfl,rfl,by simp [sortWorldK,putRowK,putRow,mapBlock,Sort.ahead],fun k hk hne=>?_⟩
  unfold sortWorldK putRowK
  rw[heap_grow_old _ _ (by simpa using hk)]
  have:g≠k:=fun e=>hne (by rw[e])
  simp [putRow,mapBlock,Sort.ahead,Array.getElem?_modify,this]
end Go.Proofs.YteccdnejnbkbiaaGreat.Hn
end

section
namespace Go.Proofs.YteccdnejnbkbiaaGreat.Hn
open Go.RowKit Go.Maps Go.Shelf Go.Lib Go.Sort Go.Proofs.YteccdnejnbkbiaaGreat.Pure Pt YteccdnejnbkbiaaGreatW.PrintWords YteccdnejnbkbiaaGreatW.PrintMore Fr Ext
attribute [local go_sem] Oper.semAt_some

abbrev valH (x:Hi):Value:=.agg #[.int .i64 x.f0,.string x.f1,.int .i64 x.f2,.int .i64 x.f3]
theorem valH_inj {x y:Hi} (h:valH x=valH y):x=y:=by
 cases x;cases y
 simpa [valH] using h
open Classical in
noncomputable def RH (v:Value):Option (DataW Hi×List MemPlace):=if h:∃x,v=valH x then some (.held h.choose,[]) else none
theorem RH_enc (x:Hi):RH (valH x)=some (.held x,[]):=by
 have h:∃y,valH x=valH y:=⟨x,rfl⟩
 unfold RH
 rw[dif_pos h,valH_inj h.choose_spec.symm]
theorem RH_inv {v:Value} {y:DataW Hi×List MemPlace} (h:RH v=some y):∃x:Hi,v=valH x∧y=(.held x,[]):=by
 unfold RH at h
 split at h
 ·rename_i hx
  exact⟨hx.choose,hx.choose_spec,(Option.some.inj h).symm⟩
 ·cases h
def ValAt (D0:DataW Hi) (p:List UInt8×Hi):Prop:=∀zd,D0.atKey (.string p.1) zd=.held p.2
def AllOf (D0:DataW Hi) (ps:List (List UInt8×Hi)):Prop:=(ps.map (·.1)).Nodup∧(∀x,x∈ps.map (·.1)↔has D0 (.string x)=true)∧∀p∈ps,ValAt D0 p

theorem values1_in (F:Fence) (n:Nat) (h8:F.fn 159) (hro:F.round=none) (hn:1≤n) (l Bm b nn:Nat) (D0:DataW Hi) (J:List Hi→World→Prop)
  (hY:∀pre x W,J pre W→pre.length < Maps.size D0→YieldAt F (n - 1) Tryz.prog l #[valH x] W fun e W'=>e=.returned (.bool true)∧J (pre++[x]) W'∧KeepsWalks W W')
  (W:World) (hJ:AbidesFrom W.heap.size J) (hm:W.cell? ⟨Bm,0,none⟩=some (.map (some b))) (hown:W.ownsMap Tryz.prog 9 RH b nn D0) (h0:J [] W):
  CallsIn F n Tryz.prog 159 #[.func (.yield l) #[] #[],.pointer (some ⟨Bm,0,none⟩)] W fun e W'=>(∃v,e=.returned v)∧
   (∃ps,AllOf D0 ps∧J (ps.map (·.2)) W'):=by
 refine callsIn_of_wp Tryz.func159 rfl h8 ?_ hro
 simp only[Tryz.ntmps159,List.size_toArray,List.length_cons,List.length_nil,Nat.reduceAdd,Nat.reduceSub,Array.replicate_succ,Array.replicate_zero,List.push_toArray,List.append_toArray,List.nil_append,List.cons_append]
 gi_wp2_with (first
  | (gi_at_range;refine wpListIn_range_own _ rfl _ 181 rfl 9 141 (string_keyed Tryz.underlying9) Tryz.underlying181 _ b nn _ rfl hown ?_;intro w0 hrg0 hg0 hs0)
  | gi_in)
 go_frame
 gi_loopw [4] (fun _ wr=>∃(left:Lit→Bool) (cnt:Nat) (ps:List (List UInt8×Hi)),wr.ranges Tryz.prog 9 RH b W.heap.size nn D0 left cnt∧ps.length+cnt≤Maps.size D0∧Collected D0 left (ps.map (·.1))∧(∀p∈ps,ValAt D0 p)∧J (ps.map (·.2)) wr)
  (fun _ wr=>wr.rangeLeft b W.heap.size)
 case atStart=>
  exact⟨_,_,[],hrg0,by simp,Collected.start D0,by simp,hJ [] W w0 none h0 hg0 (fun r e=>by cases e)⟩
 case round=>
  obtain⟨left,cnt,ps,hrg,hcs,hC,hV,hJs⟩:=hrel
  gi_wp2_with (first
   | (gi_at_next;refine wpListIn_next_ranges _ rfl _ rfl 9 (string_keyed Tryz.underlying9) RH encStr valH (fun key kl hk=>by obtain⟨x,hx,_⟩:=Maps.keyOf_str Tryz.underlying9 hk;exact⟨x,hx⟩) (fun v y hv=>by obtain⟨c,rfl,_⟩:=RH_inv hv;exact⟨c,rfl⟩) b W.heap.size nn _ _ _ rfl hrg ?_ ?_)
   | gi_in)
  ·intro hc0 hl0
   gi_wp2
   go_end0
   exact⟨⟨_,rfl⟩,ps,⟨hC.1,fun x=>by rw[hC.2 x,hl0];simp,hV⟩,hJs⟩
  ·intro x c kl yd yp w2 cnt2 hkey hlk hv hat hrg2 hlt hg2 hs2 hen
   obtain⟨x',ex,rfl,_⟩:=Maps.keyOf_str Tryz.underlying9 hkey
   obtain rfl:x=x':=encStr_inj ex
   obtain⟨c',ec,ez⟩:=RH_inv hv
   obtain rfl:c=c':=valH_inj ec
   obtain rfl:yd=.held c:=(Prod.mk.inj ez).1
   have hJ2:J (ps.map (·.2)) w2:=hJ _ wr w2 (some W.heap.size) hJs hg2 (fun r e=>by cases e;exact⟨Nat.le_refl _,hrg.iter_walk⟩)
   have hJ3:J (ps.map (·.2)) (w2.alloc (.cells #[.int .i64 c.f0,.string c.f1,.int .i64 c.f2,.int .i64 c.f3] 141)):=hJ _ w2 _ none hJ2 (World.grownBy_alloc w2 _ _) (fun r e=>by cases e)
   obtain⟨fn,tmps,assign,body,hy,hR⟩:=hY (ps.map (·.2)) c _ hJ3 (by simp;omega)
   clear hs2
   gi_wp2
   refine hR.mono ?_
   have hC2:Collected D0 (fun z=>left z && !z.sameKey (.string x)) ((ps++[(x,c)]).map (·.1)):=by simpa using hC.step hlk hat
   have hV2:∀p∈ps++[(x,c)],ValAt D0 p:=fun p hp=>(List.mem_append.1 hp).elim (hV p) (fun e=>by simp at e;subst e;exact hat)
   rintro e W3 ⟨rfl,hJ4,hk3⟩
   gi_wp2
   have hrg3:=(hrg2.alloc (.cells #[.int .i64 c.f0,.string c.f1,.int .i64 c.f2,.int .i64 c.f3] 141)).of_walks hk3
   go_roundw
   case rel=>exact⟨_,cnt2,ps++[(x,c)],hrg3,by simp;omega,hC2,hV2,by simpa using hJ4⟩
   case measure=>rw[hrg3.left_eq,hrg.left_eq];exact hlt
end Go.Proofs.YteccdnejnbkbiaaGreat.Hn
end
end
section
section
namespace Go.Proofs.YteccdnejnbkbiaaGreat.Hn
open Go.RowKit Go.Shelf Go.Proofs.YteccdnejnbkbiaaGreat.Pure Pt YteccdnejnbkbiaaGreatW.PrintWords YteccdnejnbkbiaaGreatW.PrintLast YteccdnejnbkbiaaGreatW.PrintMore Fr Ext Lw Sc
attribute [local go_sem] Oper.semAt_some

theorem append_inR {F:Fence} {n:Nat} {P:Program} {α:Type} {ops:Array Oper} {rest:List Oper} {o:Oper} {a:Act} {Q:Exit→Act→World→Prop} (d:Kd α) {w0 W:World} (base:Nat) (hgd:o.guard=none) (s x:Operand) (t e:TypeId) (z:Value) (bytes:Nat)
  (ho:o.op=.call {callee:=.builtin .append,args:=#[s,x],argTypes:=#[t,t]})
  (ht:P.underlying t=some (.slice e)) (hinfo:(P.info? e).map (fun i=>(i.zero,i.size,i.bytes))=some (some z,d.sz,bytes)) (hz:z.cells.size=d.sz) (hs0:0 < d.sz) (hb0:0 < bytes)
  (v:Value) (xs:List α) (p:α) (cs:List Value) (ok:Nat→Prop) (hs:a.eval s=v) (hx:a.eval x=.slice (some ⟨W.heap.size,0,none⟩) 1 1) (hp:d.M W base (fun _=>False) p cs) (hfresh:∀k,W.heap.size≤k→ok k)
  (HO:d.R e W base ok v xs) (HB:Below base w0 W) (hbase:base≤W.heap.size) (hl:(xs.length+1)*bytes≤140737488355328)
  (h:∀v1 w1,d.R e w1 base ok v1 (xs++[p])→Below base w0 w1→W.grownBy w1 v.ownBlock→wpListIn F n P ops Q rest (a.put o.dst v1) w1):
  wpListIn F n P ops Q (o::rest) a (W.alloc (.cells cs.toArray e)):=by
 obtain⟨h0,inner,hown,hr⟩:=HO
 obtain⟨i0,hi,hzz⟩:=Option.map_eq_some_iff.1 hinfo
 simp only[Prod.mk.injEq] at hzz
 obtain⟨hz0,hz1,hz2⟩:=hzz
 have hlen:xs.length+1≤140737488355328:=Nat.le_trans (Nat.le_mul_of_pos_right _ hb0) hl
 have hys:cs.length=d.sz:=d.K_len (d.K_of_M hp)
 obtain⟨v',w',hrun,r1,r2,_,r4⟩:=run_append_own_at (P:=P) (w:=W.alloc (.cells cs.toArray e)) base t o.type e i0 z d.sz bytes ht hi hz0 hz1 hz2 hz hs0 v xs.length inner (hown.alloc _) ⟨W.heap.size,0,none⟩ 1 1 cs (by rw[hys];simp)
  (by simpa using World.news_of_block (cs:=cs.toArray) (t:=e) (fr:=(0,0)) (heap_alloc_new W (.cells cs.toArray e))) (d.K_one (d.K_of_M hp)) (by simp only[maxLen];omega) hl (by simp;omega)
 have hg1:W.grownBy w' v.ownBlock:=World.grownBy.trans (World.grownBy_alloc W _ _) r2
 have hat:v'.ownBlock=v.ownBlock∨∃b,v'.ownBlock=some b∧W.heap.size≤b:=by
  rcases r4 with r4 | r4
  ·exact .inl r4
  ·exact .inr ⟨_,r4,by simp⟩
 have hB1:Below base w0 w':=(HB.alloc hbase _).grown r2 (by simp;omega) (own_base hown)
 have hR:d.R e w' base ok v' (xs++[p]):=Kd.R_appended h0 hr hp (fun _ hk=>hk.elim) hfresh r1 hg1 hat
 refine wpListIn_plain hgd fun K hK'=>?_
 unfold Oper.wpIn
 refine⟨?_,?_⟩
 ·simp [Oper.about,ho,resolve,Target.leads,Sem.run_pure]
 ·rw[Oper.semAt_plain F _ _ (by rw[ho];intro c hc';cases hc')]
  simp [execOp,ho,resolve,invoke,builtin,hs,hx,hrun,Result.andThen]
  exact hK' _ _ (h v' w' hR hB1 hg1)

structure JH (w:World) (ob D L:Nat) (rec:LoopState→Option Code→Loop) (pre:List Hi) (W:World):Prop where
 dd:W.heap[D]? =some (.deferred (some []))
 ll:W.heap[L]? =some (.loop (rec .ready none))
 oo:∃v,W.heap[ob]? =some (.cells #[v] 48 (0,0))∧RowH W w.heap.size (fun k=>L < k) v pre
 bb:Below w.heap.size w W
theorem JH.abides {w:World} {ob D L B:Nat} {rec:LoopState→Option Code→Loop} (hB:w.heap.size≤B):AbidesFrom B (JH w ob D L rec):=by
 rintro pre W W' row ⟨h1,h2,⟨v,h3,h4⟩,h5⟩ hg hr
 have key:∀(k:Nat) (o:Obj),W.heap[k]? =some o→o.isWalk=false→W'.heap[k]? =some o:=by
  intro k o hk ho
  refine(hg.block k (blk_lt' hk) (fun e=>?_)).trans hk
  obtain⟨_,o',ho',hw⟩:=hr k e.symm
  rw[hk] at ho'
  cases ho'
  rw[ho] at hw
  cases hw
 refine⟨key _ _ h1 rfl,key _ _ h2 rfl,⟨v,key _ _ h3 rfl,?_⟩,h5.grown hg h5.size (fun k e=>Nat.le_trans hB (hr k e).1)⟩
 refine Kd.R_mono (Kd.R_move (Kd.R_tight2 rfl h4) (fun k hk=>?_)) (fun k hk=>hk.2)
 obtain⟨inner,ho⟩:=Kd.R_own h4
 obtain⟨cells,hc⟩:=own_typed ho k hk.1.symm
 rw[hc]
 exact key _ _ hc rfl

theorem appendSeq_calls (Bm b nn:Nat) (D0:DataW Hi) (w:World) (hm:w.cell? ⟨Bm,0,none⟩=some (.map (some b))) (hown:w.ownsMap Tryz.prog 9 RH b nn D0) (hN:Maps.size D0≤1000000000):
  Calls Tryz.prog 179 #[.slice none 0 0,.func (.func 159) #[] #[.pointer (some ⟨Bm,0,none⟩)]] w fun e w'=>∃v ps,e=.returned v∧AllOf D0 ps∧RowH w' w.heap.size (fun _=>True) v (ps.map (·.2))∧Below w.heap.size w w':=by
 have hBm:Bm < w.heap.size:=World.block_lt_of_cell? w _ hm
 refine callsIn_wide.1 (callsIn_of_wp_marks (n:=3) Tryz.func179 rfl trivial ?_)
 refine wpIn_wide.2 ?_
 simp only[Tryz.ntmps179,List.size_toArray,List.length_cons,List.length_nil,Nat.reduceAdd,Nat.reduceSub,Array.replicate_succ,Array.replicate_zero,List.push_toArray,List.append_toArray,List.nil_append,List.cons_append]
 go_wp2
 have q0:=World.alloc_heap_new w (.cells #[.slice none 0 0] 48)
 have q4:(w.alloc (.cells #[.slice none 0 0] 48)).heap.size=w.heap.size+1:=by simp
 have q5:=below_alloc (Below.refl w.heap.size w) (.cells #[.slice none 0 0] 48)
 generalize w.alloc (.cells #[.slice none 0 0] 48)=W0 at q0 q4 q5 ⊢
 refine range_wide rfl (enters_of Tryz.func159 (by kernel_rfl) rfl) ?_
 intro fn rec hrec
 rw[q4]
 have HB1:Below w.heap.size w ((W0.alloc (.deferred (some []))).alloc (.loop (rec .ready none))):=below_alloc (below_alloc q5 _) _
 have HJ1:JH w w.heap.size (w.heap.size+1) (w.heap.size+2) rec [] ((W0.alloc (.deferred (some []))).alloc (.loop (rec .ready none))):=by
  have d1:=World.alloc_heap_new W0 (.deferred (some []))
  have d2:=World.alloc_heap_new (W0.alloc (.deferred (some []))) (.loop (rec .ready none))
  rw[World.size_alloc] at d2
  rw[q4] at d1 d2
  exact⟨(Below.heap_alloc _ _ _ (by simp <;> omega)).trans d1,d2,⟨_,(Below.heap_alloc _ _ _ (by simp <;> omega)).trans ((Below.heap_alloc _ _ _ (by omega)).trans q0),Kd.R_nil _ _ _ _ _⟩,HB1⟩
 have hsz1:((W0.alloc (.deferred (some []))).alloc (.loop (rec .ready none))).heap.size=w.heap.size+3:=by simp;omega
 generalize (W0.alloc (.deferred (some []))).alloc (.loop (rec .ready none))=W1 at HB1 HJ1 hsz1 ⊢
 clear q0 q4 q5
 have hown1:W1.ownsMap Tryz.prog 9 RH b nn D0:=by
  have hbl:=hown.lt
  obtain⟨es,clock,hb,Ft,hs,hD⟩:=hown
  exact⟨es,clock,(HB1.block b hbl).trans hb,Ft,hs,hD⟩
 refine(callsIn_wide.1 (values1_in Fence.wide 1 trivial rfl (Nat.le_refl 1) (w.heap.size+2) Bm b nn D0 (JH w w.heap.size (w.heap.size+1) (w.heap.size+2) rec) ?yy W1 (JH.abides (by omega)) ((HB1.cell (p:=⟨Bm,0,none⟩) hBm).trans hm) hown1 HJ1)).mono ?fin
 case yy=>
  rintro pre x W2 ⟨hd,hl,⟨v1,hv1,hS⟩,hbb⟩ hpre
  have hl':=hl
  rw[hrec] at hl
  refine yield_wide hl rfl ?_
  gi_wp2
  have hg3:=World.alloc_heap_new W2 (.cells #[.int .i64 x.f0,.string x.f1,.int .i64 x.f2,.int .i64 x.f3] 141)
  have hB3:=below_alloc (Below.refl W2.heap.size W2) (.cells #[.int .i64 x.f0,.string x.f1,.int .i64 x.f2,.int .i64 x.f3] 141)
  have hK3:=KeepsWalks.alloc W2 (.cells #[.int .i64 x.f0,.string x.f1,.int .i64 x.f2,.int .i64 x.f3] 141)
  have hsz:w.heap.size+2 < W2.heap.size:=blk_lt' hl'
  generalize hg0:W2.heap.size=g at hg3 hsz hB3 ⊢
  have hs3:(W2.alloc (.cells #[.int .i64 x.f0,.string x.f1,.int .i64 x.f2,.int .i64 x.f3] 141)).heap.size=g+1:=by simp [hg0]
  generalize W2.alloc (.cells #[.int .i64 x.f0,.string x.f1,.int .i64 x.f2,.int .i64 x.f3] 141)=W3 at hg3 hB3 hs3 hK3 ⊢
  rw[← hg0] at hB3
  have hl3:W3.heap[w.heap.size+2]? =some (.loop (rec .ready none)):=(hB3.block _ (blk_lt' hl')).trans hl'
  have hbr:(Instr.beginRound (w.heap.size+2)).run Tryz.prog W3=.ok () (W3.putObj (w.heap.size+2) (.loop (rec .busy none))):=by
   rw[hrec] at hl3
   rw[hrec]
   exact run_beginRound hl3 rfl
  refine⟨_,hbr,?_⟩
  have e0:∀i,i≠w.heap.size+2→(W3.putObj (w.heap.size+2) (.loop (rec .busy none))).heap[i]? =W3.heap[i]? :=fun i hi=>World.putObj_heap_other hi
  have e1:∀i,i < W2.heap.size→i≠w.heap.size+2→(W3.putObj (w.heap.size+2) (.loop (rec .busy none))).heap[i]? =W2.heap[i]? :=fun i hi hne=>(e0 i hne).trans (hB3.block i hi)
  have HL:=ak (show(W3.putObj (w.heap.size+2) (.loop (rec .busy none))).heap[w.heap.size+2]? =some (.loop (rec .busy none)) from World.putObj_heap_same (blk_lt' hl3))
  have HD:=ak ((e1 (w.heap.size+1) (by omega) (by omega)).trans hd)
  have HO:=ak ((e1 w.heap.size (by omega) (by omega)).trans hv1)
  have HX:=ak ((e0 g (by omega)).trans hg3)
  have HS:=ak (show RowH (W3.putObj (w.heap.size+2) (.loop (rec .busy none))) w.heap.size (fun k=>w.heap.size+2 < k) v1 pre from Kd.R_step hS (fun k hk hlt=>e1 k hlt (by omega)))
  have HSZ:=ak (show(W3.putObj (w.heap.size+2) (.loop (rec .busy none))).heap.size=g+1 by simp [hs3])
  have HBB:=ak ((below_then hbb hbb.size hB3).grown (grownBy_putObj' W3 (w.heap.size+2) (.loop (rec .busy none))) (by omega) (fun k e=>by cases e;omega))
  have HKK:=ak (hK3.trans (KeepsWalks.putObj (.loop (rec .busy none)) hl3 rfl))
  clear hl hd hv1 hS hbb hg3 hB3 hK3 hl3 hbr e0 e1 hs3 hl' hg0
  generalize W3.putObj (w.heap.size+2) (.loop (rec .busy none))=W4 at HL HD HO HX HS HSZ HBB HKK ⊢
  have o0:=(blk_cell HO.out 0).trans rfl
  have z0:=blk_frozen HO.out 0
  have x0:=(blk_cell HX.out 0).trans rfl
  have x1:=(blk_cell HX.out 1).trans rfl
  have x2:=(blk_cell HX.out 2).trans rfl
  have x3:=(blk_cell HX.out 3).trans rfl
  have hbyte:(pre.length+1)*40≤140737488355328:=by omega
  gi_wp2_with (gi_at_builtin;refine append_inR k141 (w0:=w) w.heap.size rfl (.tmp 8) (.tmp 10) 48 141 (.agg #[.int .i64 0,.string ⟨#[]⟩,.int .i64 0,.int .i64 0]) 40 rfl Tryz.underlying48 info141 rfl (by decide) (by omega) v1 pre x [.int .i64 x.f0,.string x.f1,.int .i64 x.f2,.int .i64 x.f3] (fun k=>w.heap.size+2 < k) rfl rfl ?aP ?aF ?aO ?aB ?aS ?aL ?_;(case aP=>exact k141_mkM _ _ _ x);(case aF=>exact(fun k hk=>by have:=HSZ.out;omega));(case aO=>exact HS.out);(case aB=>exact HBB.out);(case aS=>exact HBB.out.size);(case aL=>exact hbyte);intro v5 w5 hS5 hB5 hg5;obtain⟨A5,c5,rfl⟩:=Kd.R_slice hS5;have HS5:=ak hS5;have HB5:=ak hB5;have HG5:=ak hg5;clear hS5 hB5 hg5;have HO5:=ak (blk_grown HO.out HG5.out (fun e=>by have:=HS.out.1 _ e.symm;omega));have o5:=(blk_cell HO5.out 0).trans rfl;have z5:=blk_frozen HO5.out 0)
  have hS5:=HS5.out
  have hlen5:(pre++[x]).length=pre.length+1:=by simp
  rw[hlen5] at hS5
  have hw4:=HSZ.out
  have hv5:=HS.out.1
  have f5:∀i,i≤w.heap.size+2→w5.heap[i]? =W4.heap[i]? :=fun i hi=>HG5.out.block i (by omega) (fun e=>by have:=hv5 i e.symm;omega)
  have f6:∀i,i≤w.heap.size+2→i≠w.heap.size→(w5.setCell ⟨w.heap.size,0,none⟩ (.slice A5 (pre.length+1) c5)).heap[i]? =W4.heap[i]? :=fun i hi hne=>(Below.heap_setCell w5 _ _ i hne).trans (f5 i hi)
  have hO6:=blk_put (cs:=#[v1]) HO5.out 0 (.slice A5 (pre.length+1) c5) rfl
  have hS6:=Kd.R_far (p:=⟨w.heap.size,0,none⟩) (Kd.R_bound hS5) (fun k hk=>by have:=hk.1;simp only;omega) (.slice A5 (pre.length+1) c5)
  have hB6:=HB5.out.setCell (p:=⟨w.heap.size,0,none⟩) (Nat.le_refl _) (.slice A5 (pre.length+1) c5)
  have hK5:KeepsWalks W4 w5:=KeepsWalks.of_grownBy HG5.out (fun j o hj ho=>by
   obtain⟨inner,hown'⟩:=Kd.R_own HS.out
   obtain⟨cells,hc⟩:=own_typed hown' j hj
   rw[hc] at ho
   cases ho
   rfl)
  have hK6:=(HKK.out.trans hK5).trans (KeepsWalks.setCell w5 ⟨w.heap.size,0,none⟩ (.slice A5 (pre.length+1) c5))
  generalize w5.setCell ⟨w.heap.size,0,none⟩ (.slice A5 (pre.length+1) c5)=w6 at f6 hO6 hS6 hB6 hK6 ⊢
  have hl6:w6.heap[w.heap.size+2]? =some (.loop (rec .busy none)):=(f6 _ (by omega) (by omega)).trans HL.out
  have hend:(Instr.endRound (w.heap.size+2) none).run Tryz.prog w6=.ok (.bool true) (w6.putObj (w.heap.size+2) (.loop (rec .ready none))):=by
   rw[hrec] at hl6
   rw[hrec]
   exact run_endRound none hl6
  have e7:∀i,i≠w.heap.size+2→(w6.putObj (w.heap.size+2) (.loop (rec .ready none))).heap[i]? =w6.heap[i]? :=fun i hi=>World.putObj_heap_other hi
  refine⟨_,_,hend,rfl,⟨?_,?_,⟨_,(e7 _ (by omega)).trans hO6,?_⟩,?_⟩,?_⟩
  ·exact(e7 _ (by omega)).trans ((f6 _ (by omega) (by omega)).trans HD.out)
  ·exact World.putObj_heap_same (blk_lt' hl6)
  ·exact Kd.R_mono (Kd.R_step hS6 (fun k hk _=>e7 k (by have:=hk.1;omega))) (fun k hk=>hk.1)
  ·exact hB6.grown (grownBy_putObj' w6 (w.heap.size+2) (.loop (rec .ready none))) hB6.size (fun k e=>by cases e;omega)
  ·exact hK6.trans (KeepsWalks.putObj (.loop (rec .ready none)) hl6 rfl)
 case fin=>
  rintro e W' ⟨⟨v,rfl⟩,ps,hall,hJ⟩
  refine⟨⟨v,rfl⟩,.ready,none,by simp,hJ.ll,?_⟩
  obtain⟨hd,hl,⟨v1,hv1,hS⟩,hbb⟩:=hJ
  have e0:∀i,i≠w.heap.size+2→(W'.putObj (w.heap.size+2) (.loop (rec .exhausted none))).heap[i]? =W'.heap[i]? :=fun i hi=>World.putObj_heap_other hi
  have HS:=ak (show RowH (W'.putObj (w.heap.size+2) (.loop (rec .exhausted none))) w.heap.size (fun k=>w.heap.size+2 < k) v1 (ps.map (·.2)) from Kd.R_step hS (fun k hk _=>e0 k (by omega)))
  have HD:=ak ((e0 (w.heap.size+1) (by omega)).trans hd)
  have HO:=ak ((e0 w.heap.size (by omega)).trans hv1)
  have HB:=ak (hbb.grown (grownBy_putObj' W' (w.heap.size+2) (.loop (rec .exhausted none))) hbb.size (fun k e=>by cases e;omega))
  clear hd hl hv1 hS hbb e0
  generalize W'.putObj (w.heap.size+2) (.loop (rec .exhausted none))=W3 at HS HD HO HB ⊢
  have o0:=(blk_cell HO.out 0).trans rfl
  go_wp2
  refine⟨by simp,.inl ⟨_,_,rfl,run_takeDeferred HD.out,?_⟩⟩
  refine⟨_,results_single rfl (.tmp .nil),?_⟩
  refine⟨v1,ps,rfl,hall,?_,?_⟩
  ·exact Kd.R_mono (Kd.R_step HS.out (fun k hk _=>World.putObj_heap_other (by omega))) (fun _ _=>trivial)
  ·exact HB.out.grown (grownBy_putObj' W3 (w.heap.size+1) (.deferred none)) HB.out.size (fun k e=>by cases e;omega)

theorem collect_calls (Bm b nn:Nat) (D0:DataW Hi) (w:World) (hm:w.cell? ⟨Bm,0,none⟩=some (.map (some b))) (hown:w.ownsMap Tryz.prog 9 RH b nn D0) (hN:Maps.size D0≤1000000000):
  Calls Tryz.prog 157 #[.func (.func 159) #[] #[.pointer (some ⟨Bm,0,none⟩)]] w fun e w'=>∃v ps,e=.returned v∧AllOf D0 ps∧RowH w' w.heap.size (fun _=>True) v (ps.map (·.2))∧Below w.heap.size w w':=by
 go_enter Tryz.func157,Tryz.ntmps157
 go_wp2_with (go_at_call 179;refine(appendSeq_calls Bm b nn D0 _ hm hown hN).mono ?_;rintro e w' ⟨v,ps,rfl,ha,hR,hB⟩)
 go_ret
 exact⟨v,ps,rfl,ha,hR,hB⟩
end Go.Proofs.YteccdnejnbkbiaaGreat.Hn
end

section
namespace Go.Proofs.YteccdnejnbkbiaaGreat.Hn
open Go.RowKit Go.Shelf Go.Lib Go.Sort Go.Proofs.YteccdnejnbkbiaaGreat.Pure Pt YteccdnejnbkbiaaGreatW.PrintWords YteccdnejnbkbiaaGreatW.PrintLast YteccdnejnbkbiaaGreatW.PrintMore Fr Ext Lw Sc

theorem sort_none (w:World):
  Calls Tryz.prog 158 #[.slice none 0 0,.func (.func 133) #[] #[]] w fun e w'=>e=.returned (.tuple #[])∧w'=w:=by
 have hcon:=AnyF.slices_SortFunc_none sortH none 0 (.func (.func 133) #[] #[]) w
 exact hcon
theorem sortRow_calls (base:Nat) (v:Value) (l:List Hi) (w:World) (h:RowH w base (fun _=>True) v l) (hl:l.length≤1000000000):
  Calls Tryz.prog 158 #[v,.func (.func 133) #[] #[]] w fun e w'=>e=.returned (.tuple #[])∧∃d:List Hi,d.Perm l∧d.Pairwise (fun x y=>¬keyL y.f1 < keyL x.f1)∧RowH w' base (fun _=>True) v d∧w.grownBy w' v.ownBlock:=by
 obtain⟨inner,hlen,hown⟩:=Kd.R_own h
 rcases hown with⟨rfl,h0⟩ | ⟨g,cap,cur,rfl,hb,hh,hn,hm,hs,ht⟩
 ·obtain rfl:l=[]:=List.length_eq_zero_iff.1 h0
  refine(sort_none w).mono ?_
  rintro e w' ⟨rfl,rfl⟩
  exact⟨rfl,[],List.Perm.refl _,List.Pairwise.nil,h,⟨rfl,rfl,rfl,Nat.le_refl _,fun _ _ _=>rfl⟩⟩
 ·have hg:g < w.heap.size:=(Array.getElem?_eq_some_iff.1 hh).1
  have hcon:=sort_calls g 0 cap l.toArray w (row_holds h) hg (by simp;omega)
  rw[List.size_toArray] at hcon
  refine hcon.mono ?_
  rintro e w' ⟨rfl,d',n,os,⟨hps,_,hpp⟩,hsort,rfl⟩
  have hsz:d'.size=l.length:=by simpa using hps
  have hex:d'.extract 0 l.length=d':=by rw[← hsz];exact Array.extract_size
  have hex2:l.toArray.extract 0 l.length=l.toArray:=by simp
  rw[hex,hex2] at hpp
  obtain⟨h1,h2⟩:=row_sorted h d'.toList (by simpa using hsz) n os
  have e1:d'.toList.toArray=d':=by simp
  rw[e1] at h1 h2
  refine⟨rfl,d'.toList,by simpa using hpp,?_,h1,h2⟩
  rw[List.pairwise_iff_getElem]
  intro i j hi hj hij
  have hi':i < d'.size:=by simpa using hi
  have hj':j < d'.size:=by simpa using hj
  have h3:=hsort i j (Nat.zero_le _) hij (by omega)
  rw[ltH,getElem!_pos d' i hi',getElem!_pos d' j hj'] at h3
  simpa using of_decide_eq_false h3

theorem sorted_calls (Bm b nn:Nat) (D0:DataW Hi) (w:World) (hm:w.cell? ⟨Bm,0,none⟩=some (.map (some b))) (hown:w.ownsMap Tryz.prog 9 RH b nn D0) (hN:Maps.size D0≤1000000000) (hP:∀ps,AllOf D0 ps→ps.length≤1000000000):
  Calls Tryz.prog 131 #[.func (.func 159) #[] #[.pointer (some ⟨Bm,0,none⟩)],.func (.func 133) #[] #[]] w fun e w'=>∃v ps d,e=.returned v∧AllOf D0 ps∧d.Perm (ps.map (·.2))∧d.Pairwise (fun x y=>¬keyL y.f1 < keyL x.f1)∧RowH w' w.heap.size (fun _=>True) v d∧RowKit.Below w.heap.size w w':=by
 go_enter Tryz.func131,Tryz.ntmps131
 go_wp2_with (first
  | (go_at_call 157;refine(collect_calls Bm b nn D0 _ hm hown hN).mono ?_;rintro e w1 ⟨v,ps,rfl,ha,hR,hB⟩;have HA:=ak ha;have HR:=ak hR;have HB:=ak hB;clear ha hR hB)
  | (go_at_call 158;refine(sortRow_calls w.heap.size v (ps.map (·.2)) w1 HR.out (by rw[List.length_map];exact hP ps HA.out)).mono ?_;rintro e w2 ⟨rfl,d,hd,hs,hR2,hg⟩;have HD:=ak hd;have HS:=ak hs;have HR2:=ak hR2;have HG:=ak hg;clear hd hs hR2 hg))
 go_ret
 obtain⟨inner,ho⟩:=Kd.R_own HR.out
 exact⟨v,ps,d,rfl,HA.out,HD.out,HS.out,HR2.out,HB.out.grown HG.out HB.out.size (own_base ho)⟩
end Go.Proofs.YteccdnejnbkbiaaGreat.Hn
end

section
namespace Go.Proofs.YteccdnejnbkbiaaGreat.Hn
open Go.RowKit Go.Maps Go.Shelf Go.Lib Go.Proofs.YteccdnejnbkbiaaGreat.Pure Pt YteccdnejnbkbiaaGreatW.PrintWords Fr Ext

def putF (D:DataW Hi) (x:Fo):DataW Hi:=if tellsF x then D.put (.string (keyL x.f2.f1)) (.held (hintF x)) else D
def mapGo:List Fo→DataW Hi→DataW Hi
 | [],D=>D
 | x::l,D=>mapGo l (putF D x)
abbrev Rises (l:List Hi):Prop:=l.Pairwise fun a b=>keyL a.f1 < keyL b.f1
theorem lt_tri (a b:List UInt8):a < b∨a=b∨b < a:=by
 by_cases h1:a < b
 ·exact .inl h1
 ·by_cases h2:b < a
  ·exact .inr (.inr h2)
  ·exact .inr (.inl (List.le_antisymm (List.not_lt.mp h2) (List.not_lt.mp h1)))
theorem ins_mem (h:Hi):∀l:List Hi,Rises l→∀x,x∈insH h l↔x=h∨(x∈l∧keyL x.f1≠keyL h.f1)
 | [],_,x=>by simp [insH]
 | a::l,hr,x=>by
  have hr':=(List.pairwise_cons.1 hr).2
  have ha:=(List.pairwise_cons.1 hr).1
  unfold insH
  by_cases h1:keyL h.f1 < keyL a.f1
  ·rw[if_pos h1]
   have hne:∀y∈a::l,keyL y.f1≠keyL h.f1:=by
    intro y hy e
    rcases List.mem_cons.1 hy with rfl | hy
    ·rw[e] at h1;exact List.lt_irrefl _ h1
    ·have:=List.lt_trans h1 (ha y hy)
     rw[e] at this;exact List.lt_irrefl _ this
   constructor
   ·intro hx
    rcases List.mem_cons.1 hx with rfl | hx
    ·exact .inl rfl
    ·exact .inr ⟨hx,hne x hx⟩
   ·rintro (rfl | ⟨hx,_⟩)
    ·exact List.mem_cons_self
    ·exact List.mem_cons_of_mem _ hx
  ·rw[if_neg h1]
   by_cases h2:keyL h.f1=keyL a.f1
   ·rw[if_pos h2]
    have hne:∀y∈l,keyL y.f1≠keyL h.f1:=by
     intro y hy e
     have:=ha y hy
     rw[e,h2] at this;exact List.lt_irrefl _ this
    constructor
    ·intro hx
     rcases List.mem_cons.1 hx with rfl | hx
     ·exact .inl rfl
     ·exact .inr ⟨List.mem_cons_of_mem _ hx,hne x hx⟩
    ·rintro (rfl | ⟨hx,hk⟩)
     ·exact List.mem_cons_self
     ·rcases List.mem_cons.1 hx with rfl | hx
      ·exact absurd h2.symm hk
      ·exact List.mem_cons_of_mem _ hx
   ·rw[if_neg h2]
    have ih:=ins_mem h l hr' x
    constructor
    ·intro hx
     rcases List.mem_cons.1 hx with rfl | hx
     ·exact .inr ⟨List.mem_cons_self,fun e=>h2 e.symm⟩
     ·rcases ih.1 hx with rfl | ⟨h3,h4⟩
      ·exact .inl rfl
      ·exact .inr ⟨List.mem_cons_of_mem _ h3,h4⟩
    ·rintro (rfl | ⟨hx,hk⟩)
     ·exact List.mem_cons_of_mem _ (ih.2 (.inl rfl))
     ·rcases List.mem_cons.1 hx with rfl | hx
      ·exact List.mem_cons_self
      ·exact List.mem_cons_of_mem _ (ih.2 (.inr ⟨hx,hk⟩))
theorem ins_rises (h:Hi):∀l:List Hi,Rises l→Rises (insH h l)
 | [],_=>by simp [insH,Rises]
 | a::l,hr=>by
  have hr':=(List.pairwise_cons.1 hr).2
  have ha:=(List.pairwise_cons.1 hr).1
  unfold insH
  by_cases h1:keyL h.f1 < keyL a.f1
  ·rw[if_pos h1]
   refine List.pairwise_cons.2 ⟨fun y hy=>?_,hr⟩
   rcases List.mem_cons.1 hy with rfl | hy
   ·exact h1
   ·exact List.lt_trans h1 (ha y hy)
  ·rw[if_neg h1]
   by_cases h2:keyL h.f1=keyL a.f1
   ·rw[if_pos h2]
    exact List.pairwise_cons.2 ⟨fun y hy=>by rw[h2];exact ha y hy,hr'⟩
   ·rw[if_neg h2]
    refine List.pairwise_cons.2 ⟨fun y hy=>?_,ins_rises h l hr'⟩
    rcases (ins_mem h l hr' y).1 hy with rfl | ⟨hy,_⟩
    ·rcases lt_tri (keyL y.f1) (keyL a.f1) with h3 | h3 | h3
     ·exact absurd h3 h1
     ·exact absurd h3 h2
     ·exact h3
    ·exact ha y hy
theorem ins_len (h:Hi):∀l:List Hi,(insH h l).length≤l.length+1
 | []=>Nat.le_refl _
 | a::l=>by
  have:=ins_len h l
  unfold insH
  split
  ·simp
  ·split
   ·simp
   ·simp only[List.length_cons];omega
structure Ties (D:DataW Hi) (acc:List Hi):Prop where
 isMap:IsMap D
 rises:Rises acc
 has_:∀kb,has D (.string kb)=true↔∃h∈acc,keyL h.f1=kb
 at_:∀h∈acc,∀zd,D.atKey (.string (keyL h.f1)) zd=.held h
theorem Ties.empty:Ties (.map []) []:=⟨isMap_empty,List.Pairwise.nil,fun kb=>by simp [Go.Maps.has],fun h hh=>by cases hh⟩
theorem put_isMap {D:DataW Hi} (h:IsMap D) (k:Lit) (d:DataW Hi):IsMap (D.put k d):=by
 obtain⟨es,rfl⟩:=h
 exact⟨_,DataW.put_eq es k d⟩
theorem Ties.put {D:DataW Hi} {acc:List Hi} (t:Ties D acc) (h:Hi):Ties (D.put (.string (keyL h.f1)) (.held h)) (insH h acc):=by
 have hm:=ins_mem h acc t.rises
 refine⟨put_isMap t.isMap _ _,ins_rises h acc t.rises,fun kb=>?_,fun x hx zd=>?_⟩
 ·by_cases e:kb=keyL h.f1
  ·subst e
   rw[has_put_same t.isMap (show WideAt.IsKeyLit (.string (keyL h.f1)) from trivial)]
   exact⟨fun _=>⟨h,(hm h).2 (.inl rfl),rfl⟩,fun _=>rfl⟩
  ·rw[has_put_other (by intro e2;injection e2 with e2;exact e e2),t.has_]
   constructor
   ·rintro ⟨x,hx,hk⟩
    exact⟨x,(hm x).2 (.inr ⟨hx,by rw[hk];exact e⟩),hk⟩
   ·rintro ⟨x,hx,hk⟩
    rcases (hm x).1 hx with rfl | ⟨hx,_⟩
    ·exact absurd hk.symm e
    ·exact⟨x,hx,hk⟩
 ·rcases (hm x).1 hx with rfl | ⟨hx,hk⟩
  ·exact atKey_put_same t.isMap (show WideAt.IsKeyLit (.string (keyL x.f1)) from trivial) _ _
  ·rw[atKey_put_other (by intro e2;injection e2 with e2;exact hk e2)]
   exact t.at_ x hx zd
theorem ties_go (l:List Fo):∀(D:DataW Hi) (acc:List Hi),Ties D acc→Ties (mapGo l D) (ofGo l acc):=by
 induction l with
 | nil=>intro D acc t;exact t
 | cons x l ih=>
  intro D acc t
  simp only[mapGo,ofGo,putF]
  by_cases h:tellsF x=true
  ·rw[if_pos h,if_pos h]
   exact ih _ _ (t.put (hintF x))
  ·rw[if_neg h,if_neg h]
   exact ih _ _ t
theorem of_len (l:List Fo):∀acc,(ofGo l acc).length≤acc.length+l.length:=by
 induction l with
 | nil=>intro acc;exact Nat.le_refl _
 | cons x l ih=>
  intro acc
  simp only[ofGo]
  split
  ·have:=ih (insH (hintF x) acc);have:=ins_len (hintF x) acc;simp only[List.length_cons];omega
  ·have:=ih acc;simp only[List.length_cons];omega
theorem rises_inj {l:List Hi} (h:Rises l) {a b:Hi} (ha:a∈l) (hb:b∈l) (e:keyL a.f1=keyL b.f1):a=b:=by
 induction l with
 | nil=>cases ha
 | cons x l ih=>
  have h1:=(List.pairwise_cons.1 h).1
  have h2:=(List.pairwise_cons.1 h).2
  rcases List.mem_cons.1 ha with ea | ha'
  ·rcases List.mem_cons.1 hb with eb | hb'
   ·rw[ea,eb]
   ·have:=h1 b hb';rw[← ea,e] at this;exact absurd this (List.lt_irrefl _)
  ·rcases List.mem_cons.1 hb with eb | hb'
   ·have:=h1 a ha';rw[← eb,e] at this;exact absurd this (List.lt_irrefl _)
   ·exact ih h2 ha' hb'
theorem rises_nodup {l:List Hi} (h:Rises l):l.Nodup:=List.Pairwise.imp (fun hab e=>by rw[e] at hab;exact List.lt_irrefl _ hab) h
theorem all_mem {D:DataW Hi} {acc:List Hi} (t:Ties D acc) {ps:List (List UInt8×Hi)} (ha:AllOf D ps) {p:List UInt8×Hi} (hp:p∈ps):p.2∈acc∧keyL p.2.f1=p.1:=by
 obtain⟨h1,h2,h3⟩:=ha
 obtain⟨h,hh,hk⟩:=(t.has_ p.1).1 ((h2 p.1).1 (List.mem_map.2 ⟨p,hp,rfl⟩))
 have e1:=t.at_ h hh .nil
 have e2:=h3 p hp .nil
 rw[hk,e2] at e1
 injection e1 with e1
 rw[e1]
 exact⟨hh,hk⟩
theorem all_perm {D:DataW Hi} {acc:List Hi} (t:Ties D acc) {ps:List (List UInt8×Hi)} (ha:AllOf D ps):(ps.map (·.2)).Perm acc:=by
 have hn:(ps.map (·.2)).Nodup:=by
  have h1:=ha.1
  unfold List.Nodup at h1 ⊢
  rw[List.pairwise_map] at h1 ⊢
  refine List.Pairwise.imp_of_mem (fun {a b} hma hmb hab e=>hab ?_) h1
  rw[← (all_mem t ha hma).2,← (all_mem t ha hmb).2,e]
 rw[List.perm_ext_iff_of_nodup hn (rises_nodup t.rises)]
 intro x
 constructor
 ·intro hx
  obtain⟨p,hp,rfl⟩:=List.mem_map.1 hx
  exact(all_mem t ha hp).1
 ·intro hx
  obtain⟨p,hp,hk⟩:=List.mem_map.1 ((ha.2.1 (keyL x.f1)).2 ((t.has_ _).2 ⟨x,hx,rfl⟩))
  obtain⟨h1,h2⟩:=all_mem t ha hp
  exact List.mem_map.2 ⟨p,hp,rises_inj t.rises h1 hx (h2.trans hk)⟩
theorem sorted_is {D:DataW Hi} {acc:List Hi} (t:Ties D acc) {ps:List (List UInt8×Hi)} (ha:AllOf D ps) {d:List Hi} (hd:d.Perm (ps.map (·.2))) (hs:d.Pairwise fun x y=>¬keyL y.f1 < keyL x.f1):d=acc:=by
 have hp:=hd.trans (all_perm t ha)
 refine List.Perm.eq_of_pairwise (le:=fun x y:Hi=>¬keyL y.f1 < keyL x.f1) (fun a b hma hmb h1 h2=>?_) hs (List.Pairwise.imp (fun {a b} hab h=>List.lt_irrefl _ (List.lt_trans hab h)) t.rises) hp
 refine rises_inj t.rises (hp.mem_iff.1 hma) hmb ?_
 exact List.le_antisymm (List.not_lt.mp h1) (List.not_lt.mp h2)
end Go.Proofs.YteccdnejnbkbiaaGreat.Hn
end

section
namespace Go.Proofs.YteccdnejnbkbiaaGreat.Hn
open Go.RowKit Go.Maps Go.Shelf Go.Lib Go.Proofs.YteccdnejnbkbiaaGreat.Pure Pt YteccdnejnbkbiaaGreatW.PrintWords YteccdnejnbkbiaaGreatW.PrintLast YteccdnejnbkbiaaGreatW.PrintMore Fr Ext Lw Sc

theorem mapGo_snoc (l:List Fo) (x:Fo):∀D,mapGo (l++[x]) D=putF (mapGo l D) x:=by
 induction l with
 | nil=>intro D;rfl
 | cons y l ih=>intro D;simp only[List.cons_append,mapGo,ih]
theorem tells_f (x:Fo):Pk.hint_tells.f x.f2.f0=some (tellsF x):=by
 unfold Pk.hint_tells.f Pk.hint_within.f tellsF
 by_cases h0:x.f2.f0≥2
 ·by_cases h1:x.f2.f0≤4 <;> simp [h0,h1]
 ·simp [h0]

theorem owns_below {w w':World} {b n:Nat} {D:DataW Hi} (h:w.ownsMap Tryz.prog 9 RH b n D) (hb:RowKit.Below w.heap.size w w'):w'.ownsMap Tryz.prog 9 RH b n D:=by
 have hlt:=h.lt
 obtain⟨es,clock,h1,Ft,hs,hD⟩:=h
 exact⟨es,clock,(hb.block b hlt).trans h1,Ft,hs,hD⟩
theorem values_calls (b:Nat) (w:World):
  Calls Tryz.prog 132 #[.map (some b)] w fun e w'=>e=.returned (.func (.func 159) #[] #[.pointer (some ⟨w.heap.size,0,none⟩)])∧w'=w.alloc (.cells #[.map (some b)] 181):=by
 go_enter Tryz.func132,Tryz.ntmps132
 go_wp2
 go_ret
 exact⟨rfl,rfl⟩

theorem of_calls (A:Option Addr) (c:Nat) (l:List Fo) (w:World) (hl:l.length≤1000000000) (hk:∀x∈l,x.f2.f1.size≤maxLen) (hr:Kd.C k179 w A l.length l):
  Calls Tryz.prog 77 #[.slice A l.length c] w fun e w'=>∃v,e=.returned v∧RowH w' w.heap.size (fun _=>True) v (ofL l)∧RowKit.Below w.heap.size w w':=by
 have HR:=ak hr
 have HKK:=ak hk
 clear hr hk
 have hmm:=@run_makeMap Tryz.prog
 go_enter Tryz.func77,Tryz.ntmps77
 go_wp2
 have HM0:=ak (World.ownsMap_made w Tryz.prog 9 RH)
 have HB0:=ak (below_alloc (RowKit.Below.refl w.heap.size w) (.map #[] 0))
 go_loopg [9] l.length (fun kq v9 wr=>∃k:Nat,v9=.int .i64 k∧Aside0 (k+kq=l.length)∧Aside0 (wr.ownsMap Tryz.prog 9 RH w.heap.size k (mapGo (l.take k) (.map [])))∧Aside0 (RowKit.Below w.heap.size w wr))
 case atStart=>exact⟨0,rfl,⟨by omega⟩,HM0,HB0⟩
 case round=>
  clear HM0 HB0
  obtain⟨k,rfl,HK,HM,HB⟩:=hrel
  cases gk with
  | zero=>
   have hk:decide ((k:Int) < (l.length:Int))=false:=decide_eq_false (by have:=HK.out;omega)
   have hk':decide (k < l.length)=false:=decide_eq_false (by have:=HK.out;omega)
   have hkl:k=l.length:=by have:=HK.out;omega
   have HMM:=ak (show wr.ownsMap Tryz.prog 9 RH w.heap.size l.length (mapGo l (.map [])) by have:=HM.out;rw[hkl,List.take_of_length_le (Nat.le_refl _)] at this;exact this)
   have HT:=ak (ties_go l (.map []) [] Ties.empty)
   clear hkl
   go_wp2_with (first
    | (go_at_call 132;refine(values_calls _ _).mono ?_;rintro e w1 ⟨rfl,rfl⟩)
    | (go_at_call 131;go_loud (refine(sorted_calls wr.heap.size w.heap.size l.length (mapGo l (.map [])) _ ?cm1 ?co1 ?cs1 ?cp1).mono ?_;(case cm1=>exact(blk_cell (heap_alloc_new wr (.cells #[.map (some w.heap.size)] 181)) 0).trans rfl);(case co1=>exact HMM.out.alloc _);(case cs1=>exact Nat.le_trans HMM.out.size_le hl);(case cp1=>exact(fun ps ha=>by have h1:=(all_perm HT.out ha).length_eq;have h2:=of_len l [];rw[List.length_map] at h1;rw[List.length_nil] at h2;omega));rintro e w2 ⟨v,ps,d,rfl,ha,hd,hs,hR,hB⟩;have HE:=ak (sorted_is HT.out ha hd hs);have HR2:=ak hR;have HB2:=ak hB;clear ha hd hs hR hB)))
   go_ret
   refine⟨v,rfl,?_,below_then (below_alloc HB.out _) (below_alloc HB.out _).size HB2.out⟩
   have h1:=HR2.out
   rw[HE.out] at h1
   exact Kd.R_lower h1 (below_alloc HB.out _).size
  | succ gk=>
   have hk0:k < l.length:=by have:=HK.out;omega
   have hk:decide ((k:Int) < (l.length:Int))=true:=decide_eq_true (by omega)
   have hk':decide (k < l.length)=true:=decide_eq_true hk0
   have hk1:(k < l.length)=True:=eq_true hk0
   obtain⟨ad,A7,c7,A8,c8,e0,x0,x1,x2,x3,x4,x5,x6,x7,x8,_⟩:=at_T179 (Kd.C_below HR.out HB.out) (k:Int) (by omega) (by omega)
   cases e0
   rw[Int.toNat_natCast] at x0 x1 x2 x3 x4 x5 x6 x7 x8
   obtain⟨x,hx⟩:∃x,rd_T179 l (k:Int)=x:=⟨_,rfl⟩
   have hget:l[k]'hk0=x:=by
    unfold rd_T179 at hx
    rw[Int.toNat_natCast,List.getD_eq_getElem?_getD,List.getElem?_eq_getElem hk0] at hx
    exact hx
   have HST:=ak (show l.take (k+1)=l.take k++[x] by rw[List.take_add_one,List.getElem?_eq_getElem hk0,hget];rfl)
   have hsz:x.f2.f1.size≤maxLen:=HKK.out x (hget ▸ List.getElem_mem hk0)
   rw[hx] at x0 x1 x2 x3 x4 x5 x6 x7 x8
   clear hx hget
   go_upto_region 5 with(fail)
   have BK1:=ak (heap_alloc_new wr (.cells #[.int .i64 x.f0,.int .i64 x.f1,.int .i64 x.f2.f0,.string x.f2.f1,.int .i64 x.f2.f2,.int .i64 x.f2.f3,.int .i64 x.f2.f4,.slice A7 x.f2.f5.length c7,.slice A8 x.f2.f6.length c8] 179))
   have HM1:=ak (HM.out.alloc (.cells #[.int .i64 x.f0,.int .i64 x.f1,.int .i64 x.f2.f0,.string x.f2.f1,.int .i64 x.f2.f2,.int .i64 x.f2.f3,.int .i64 x.f2.f4,.slice A7 x.f2.f5.length c7,.slice A8 x.f2.f6.length c8] 179))
   have HB1:=ak (below_alloc HB.out (.cells #[.int .i64 x.f0,.int .i64 x.f1,.int .i64 x.f2.f0,.string x.f2.f1,.int .i64 x.f2.f2,.int .i64 x.f2.f3,.int .i64 x.f2.f4,.slice A7 x.f2.f5.length c7,.slice A8 x.f2.f6.length c8] 179))
   clear x0 x1 x2 x3 x4 x5 x6 x7 x8 HM HB
   generalize wr.alloc (.cells #[.int .i64 x.f0,.int .i64 x.f1,.int .i64 x.f2.f0,.string x.f2.f1,.int .i64 x.f2.f2,.int .i64 x.f2.f3,.int .i64 x.f2.f4,.slice A7 x.f2.f5.length c7,.slice A8 x.f2.f6.length c8] 179)=w1 at BK1 HM1 HB1 ⊢
   generalize wr.heap.size=g at BK1 ⊢
   have y0:=(blk_cell BK1.out 0).trans rfl
   have y1:=(blk_cell BK1.out 1).trans rfl
   have y2:=(blk_cell BK1.out 2).trans rfl
   have y3:=(blk_cell BK1.out 3).trans rfl
   cases hb:tellsF x with
   | false=>
    have hcon:=fun W=>Pk.hint_tells.calls x.f2.f0 false W ((tells_f x).trans (congrArg some hb))
    have HC:=ak hcon
    have HTF:=ak hb
    clear hcon hb
    go_wp2_with (go_at_call 130;refine(HC.out _).mono ?_;rintro e w2 ⟨rfl,⟨nd,rfl⟩⟩)
    go_roundg gk
    case measure=>omega
    case rel=>
     refine⟨k+1,by go_num,⟨by have:=HK.out;omega⟩,⟨?_⟩,⟨pw_below_drewN HB1.out nd⟩⟩
     rw[HST.out,mapGo_snoc,putF,HTF.out,if_neg (by decide)]
     exact owns_below (HM1.out.mono (Nat.le_succ k)) (pw_below_drewN (RowKit.Below.refl _ _) nd)
   | true=>
    have hcon:=fun W=>Pk.hint_tells.calls x.f2.f0 true W ((tells_f x).trans (congrArg some hb))
    have HC:=ak hcon
    have HTF:=ak hb
    clear hcon hb
    go_wp2_with (first
     | (go_at_call 130;refine(HC.out _).mono ?_;rintro e w2 ⟨rfl,⟨nd,rfl⟩⟩)
     | (at_mapUpdate;go_loud (refine wpList_mapUpdate_own _ rfl _ _ _ 181 rfl 9 141 (string_keyed Tryz.underlying9) Tryz.underlying181 RH w.heap.size k _ rfl (owns_below HM1.out (pw_below_drewN (RowKit.Below.refl _ _) nd)) (by unfold maxLen;omega) _ _ _ rfl rfl (Go.WideMaps.keyOf_string_mk Tryz.underlying9 hsz) _ [] (RH_enc (hintF x)) ?_;intro w3 hown3 hgrow3;have HM3:=ak hown3;have HB3:=ak ((pw_below_drewN HB1.out nd).grown hgrow3 (pw_below_drewN HB1.out nd).size (fun k e=>by cases e;exact Nat.le_refl _));clear hown3 hgrow3)))
    go_roundg gk
    case measure=>omega
    case rel=>
     refine⟨k+1,by go_num,⟨by have:=HK.out;omega⟩,⟨?_⟩,HB3⟩
     rw[HST.out,mapGo_snoc,putF,HTF.out,if_pos rfl]
     exact HM3.out
end Go.Proofs.YteccdnejnbkbiaaGreat.Hn
end

section
namespace Go.Proofs.YteccdnejnbkbiaaGreat.Ext
open Go.RowKit Pt YteccdnejnbkbiaaGreatW.PrintWords Fr Hn
def hint_Of.f (l:List Fo):Option (List Hi):=if l.length≤1000000000∧(l.all fun x=>decide (x.f2.f1.size≤maxLen))=true then some (ofL l) else none
def hint_Right.f (l:List Hi):Option Bool:=some (rightL l)
def hint_end.f (l:List Int) (a1 a2:Int):Option (List Int):=some (endL l a1 a2)
theorem hint_Of.calls (A0:Option Addr) (c0:Nat) (l0:List Fo) (r:List Hi) (w:World) (hr0:Kd.C k179 w A0 l0.length l0) (hc0:l0.length≤c0) (h:hint_Of.f l0=some r):
  Calls Tryz.prog 77 #[.slice A0 l0.length c0] w fun e w'=>∃v0_:Value,e=.returned v0_∧Kd.R k141 141 w' w.heap.size (fun _=>True) v0_ r∧Below w.heap.size w w':=by
 unfold hint_Of.f at h
 split at h
 case isFalse=>cases h
 case isTrue hh=>
  obtain rfl:=Option.some.inj h
  exact Hn.of_calls A0 c0 l0 w hh.1 (fun x hx=>of_decide_eq_true (List.all_eq_true.1 hh.2 x hx)) hr0
theorem hint_Right.calls (A0:Option Addr) (c0:Nat) (l0:List Hi) (r:Bool) (w:World) (hr0:Kd.C k141 w A0 l0.length l0) (hc0:l0.length≤c0) (h:hint_Right.f l0=some r):
  Calls Tryz.prog 86 #[.slice A0 l0.length c0] w fun e w'=>e=.returned (.bool r)∧Below w.heap.size w w':=by
 obtain rfl:=Option.some.inj h
 exact right_calls A0 c0 l0 w hc0 hr0
theorem hint_end.calls (A0:Option Addr) (c0:Nat) (l0:List Int) (a1 a2:Int) (r:List Int) (w:World) (hr0:Kd.C (Kd.int .u8) w A0 l0.length l0) (hc0:l0.length≤c0) (h:hint_end.f l0 a1 a2=some r):
  Calls Tryz.prog 88 #[.slice A0 l0.length c0,.int .i64 a1,.int .i64 a2] w fun e w'=>∃v0_:Value,e=.returned v0_∧Kd.R (Kd.int .u8) 5 w' w.heap.size (fun _=>True) v0_ r∧Below w.heap.size w w':=by
 obtain rfl:=Option.some.inj h
 refine(end_calls A0 c0 l0 a1 a2 w hr0).mono ?_
 rintro e w' ⟨v,rfl,ho,hb⟩
 exact⟨v,rfl,R_ints ho,hb⟩
end Go.Proofs.YteccdnejnbkbiaaGreat.Ext
end
end
section
namespace Go.Proofs.YteccdnejnbkbiaaGreat.Hn
open Go.RowKit Go.Maps Go.Shelf Go.Lib Go.Proofs.YteccdnejnbkbiaaGreat.Pure Pt YteccdnejnbkbiaaGreatW.PrintWords YteccdnejnbkbiaaGreatW.PrintLast YteccdnejnbkbiaaGreatW.PrintMore Fr Ext Lw Sc

abbrev It:=S139
abbrev kIt:=k139
def rdI (l:List It) (i:Nat):It:=rd_T139 l (i:Int)
theorem at_I {w:World} {A:Option Addr} {n:Nat} {xs:List It} (h:Kd.C kIt w A n xs) (i:Nat) (h1:i < n):∃ad B cB,A=some ad∧w.cell? (ad.add (i*3))=some (.int .i64 (rdI xs i).f0)∧w.cell? ⟨(ad.add (i*3)).block,(ad.add (i*3)).off+1,none⟩=some (.int .i64 (rdI xs i).f1)∧w.cell? ⟨(ad.add (i*3)).block,(ad.add (i*3)).off+2,none⟩=some (.slice B (rdI xs i).f2.length cB)∧(rdI xs i).f2.length≤cB∧Kd.C (Kd.int .u8) w B (rdI xs i).f2.length (rdI xs i).f2:=by
 obtain⟨ad,B,cB,e,h0,h1',h2,h3,h4⟩:=at_T139 h (i:Int) (by omega) (by omega)
 rw[Int.toNat_natCast] at h0 h1' h2
 exact⟨ad,B,cB,e,h0,h1',h2,h3,h4⟩
def hintsOf:List It→Option (List Hi)
 | []=>some []
 | x::l=>
  match hint_hint.f x.f2 with
  | some (a,b,c,d,true)=>(hintsOf l).map (⟨a,b,c,d⟩::·)
  | _=>none

theorem hints_append (a b:List It):hintsOf (a++b)=(hintsOf a).bind fun o=>(hintsOf b).map (o++·):=by
 induction a with
 | nil=>simp [hintsOf]
 | cons x a ih=>
  simp only[List.cons_append,hintsOf]
  split
  ·rw[ih]
   cases hintsOf a with
   | none=>rfl
   | some o=>
    simp only[Option.map_some,Option.bind_some,Option.map_map]
    rfl
  ·rfl
theorem hint_some (l:List Int) (hl:l.length≤9223372036854775807):∃a b c d e,hint_hint.f l=some (a,b,c,d,e):=by
 unfold hint_hint.f
 by_cases h:(l.length:Int)≤7
 ·rw[if_pos h];exact⟨_,_,_,_,_,rfl⟩
 ·rw[if_neg h,if_pos (by omega),if_pos (by omega),if_pos (by omega),if_pos (by omega),if_pos (by omega),if_pos (by omega),if_pos (by omega),if_pos (by omega)]
  exact⟨_,_,_,_,_,rfl⟩
theorem rdI_at (l:List It) (i:Nat) (h:i < l.length):l[i]=rdI l i:=by
 unfold rdI rd_T139
 rw[Int.toNat_natCast,List.getD_eq_getElem?_getD,List.getElem?_eq_getElem h];rfl
def getR (l:List Int) (a:Int) (r:List It×Int×Int×Int):Option (List Hi×Bool):=
 if r.2.2.2≠0∨r.2.1 > 0∨r.1.length=0∨¬(0≤a∧a≤1073741824) then some ([],false)
 else match hintsOf (r.1.take (r.1.length - 1)) with
  | none=>some ([],false)
  | some out=>
   if 0≤(rdI r.1 (r.1.length - 1)).f0∧(rdI r.1 (r.1.length - 1)).f0≤(l.length:Int) then
    some (if rightL out=true∧bytes_Equal.f (rdI r.1 (r.1.length - 1)).f2 (endL (l.take (rdI r.1 (r.1.length - 1)).f0.toNat) (out.length:Int) a)=some true then(out,true) else([],false))
   else none

def T14:Bool×List (List Nat×List Nat):=(true,[([],[]),([0],[0]),([1],[1]),([2,1],[2]),([3],[3]),([4,3],[3,4]),([3],[3]),([3],[3]),([7,3],[3,7]),([6,8,3],[3,6,8]),([3],[3]),([10,3],[3,10]),([3],[3]),([9,11,12,3,3],[3,9,11,12]),([5,13,13,3],[3,5,13]),([14,3],[3,14]),([3,15],[3,15])])
def B14:List Nat:=[0,1,3,7,15,31,15,15,143,463,15,1039,15,8143,16383,32767,65535]
theorem tab14:rtab .any (opsOf Tryz.f46 14)=T14:=by kernel_rfl
theorem bits14:waitsOk T14.2 B14=true:=by kernel_rfl
theorem get_calls (A:Option Addr) (c:Nat) (l:List Int) (a:Int) (w:World) (L:List It) (q1 q2 q3:Int) (ro:List Hi) (rb:Bool) (hc:l.length≤c) (hr:Kd.C (Kd.int .u8) w A l.length l) (hs:scan_All.f l=some (L,q1,q2,q3)) (hL:L.length≤1000000000) (hg:getR l a (L,q1,q2,q3)=some (ro,rb)):
  Calls Tryz.prog 46 #[.slice A l.length c,.int .i64 a] w fun e w'=>∃v,e=.returned (.tuple #[v,.bool rb])∧RowH w' w.heap.size (fun _=>True) v ro∧RowKit.Below w.heap.size w w':=by
 have HR:=ak hr
 have HC:=ak hc
 have HS:=ak hs
 have HG:=ak hg
 clear hr hs hg hc
 go_enter Tryz.func46,Tryz.ntmps46
 go_upto_region 2 with(go_at_call 83;refine(scan_All.calls A c l L q1 q2 q3 _ HR.out HC.out HS.out).mono ?_;rintro e w1 ⟨v1,rfl,hL1,hB1⟩;have HL1:=ak hL1;have HB1:=ak hB1;clear hL1 hB1;obtain⟨A1,c1,rfl⟩:=Kd.S_slice HL1.out)
 have HLn:=ak (Kd.S_reads' HL1.out).2.1
 by_cases h0:q3=0
 case neg=>
  have e0:(q3 !=0)=true:=bne_iff_ne.mpr h0
  have e1:(q3==0)=false:=beq_eq_false_iff_ne.mpr h0
  have HE:=ak h0
  clear h0
  go_wp2_with (fail)
  go_ret2
  have h:=HG.out
  rw[getR,if_pos (.inl HE.out)] at h
  simp only[Option.some.injEq,Prod.mk.injEq] at h
  obtain⟨rfl,rfl⟩:=h
  exact⟨_,rfl,Kd.R_nil _ _ _ _ _,HB1.out⟩
 subst h0
 by_cases h1:q1 > 0
 case pos=>
  have e0:decide (q1 > 0)=true:=decide_eq_true h1
  have e1:decide (0 < q1)=true:=decide_eq_true h1
  have e2:(0 < q1)=True:=eq_true h1
  have HE:=ak h1
  clear h1
  go_wp2_with (fail)
  go_ret2
  have h:=HG.out
  rw[getR,if_pos (.inr (.inl HE.out))] at h
  simp only[Option.some.injEq,Prod.mk.injEq] at h
  obtain⟨rfl,rfl⟩:=h
  exact⟨_,rfl,Kd.R_nil _ _ _ _ _,HB1.out⟩
 have e0:decide (0 < q1)=false:=decide_eq_false h1
 have e1:(0 < q1)=False:=eq_false h1
 have HE1:=ak h1
 clear h1
 by_cases h2:L.length=0
 case pos=>
  have e2:((L.length:Int)==0)=true:=beq_iff_eq.mpr (by omega)
  have e3:(L.length==0)=true:=beq_iff_eq.mpr h2
  have HE:=ak h2
  go_wp2_with (fail)
  go_ret2
  have h:=HG.out
  rw[getR,if_pos (.inr (.inr (.inl HE.out)))] at h
  simp only[Option.some.injEq,Prod.mk.injEq] at h
  obtain⟨rfl,rfl⟩:=h
  exact⟨_,rfl,Kd.R_nil _ _ _ _ _,HB1.out⟩
 obtain⟨n,hn⟩:∃n,L.length=n+1:=⟨L.length - 1,by omega⟩
 have HN:=ak hn
 rw[hn] at HL1 HLn hL ⊢
 clear hn h2
 have e2:(((n+1:Nat):Int)==0)=false:=beq_eq_false_iff_ne.mpr (by omega)
 have e3:((n:Int)+1==0)=false:=beq_eq_false_iff_ne.mpr (by omega)
 have e4:((n:Int)+1=0)=False:=eq_false (by omega)
 have hwi:hint_within.f a 0 1073741824=some (decide (0≤a∧a≤1073741824)):=by
  unfold hint_within.f
  by_cases g0:a≥0
  ·by_cases g1:a≤1073741824 <;> simp [g0,g1]
  ·simp [g0]
 obtain⟨bw,hbw⟩:∃b,decide (0≤a∧a≤1073741824)=b:=⟨_,rfl⟩
 rw[hbw] at hwi
 have HW:=ak hwi
 have HBW:=ak hbw
 clear hwi hbw
 cases bw with
 | false=>
  go_wp2_with (go_at_call 84;refine(hint_within.calls a 0 1073741824 false _ HW.out).mono ?_;rintro e w2 ⟨rfl,⟨nd,rfl⟩⟩)
  go_ret2
  have h:=HG.out
  rw[getR,if_pos (.inr (.inr (.inr (of_decide_eq_false HBW.out))))] at h
  simp only[Option.some.injEq,Prod.mk.injEq] at h
  obtain⟨rfl,rfl⟩:=h
  exact⟨_,rfl,Kd.R_nil _ _ _ _ _,pw_below_drewN HB1.out nd⟩
 | true=>
  obtain⟨i0,hi0,_,hsz,_⟩:=info_parts info139
  have hcut:=cut_to (P:=Tryz.prog) 134 139 .i64 Tryz.underlying134 hi0 A1 (n+1) c1 (n:Int) (by omega) (by omega) HLn.out
  rw[Int.toNat_natCast] at hcut
  have hG:getR l a (L,q1,q2,0)=(match hintsOf (L.take n) with | none=>some ([],false) | some out=>if 0≤(rdI L n).f0∧(rdI L n).f0≤(l.length:Int) then some (if rightL out=true∧bytes_Equal.f (rdI L n).f2 (endL (l.take (rdI L n).f0.toNat) (out.length:Int) a)=some true then(out,true) else([],false)) else none):=by
   rw[getR,if_neg (by rintro (h | h | h | h);exact h rfl;exact HE1.out h;(have h':L.length=0:=h;have:=HN.out;omega);exact h (of_decide_eq_true HBW.out))]
   simp only[HN.out,Nat.add_sub_cancel]
  have HG2:=ak (hG.symm.trans HG.out)
  clear hG HG
  have hb1:(n:Int)+1 - 1=(n:Int):=by omega
  go_wp2_with (go_at_call 84;refine(hint_within.calls a 0 1073741824 true _ HW.out).mono ?_;rintro e w2 ⟨rfl,⟨nd,rfl⟩⟩)
  have HB2:=ak (pw_below_drewN HB1.out nd)
  have HL2:=ak (Kd.S_drewN HL1.out nd)
  generalize w1.drewN nd=w2 at HB2 HL2 ⊢
  have HK0:=ak HN.out
  clear hcut hi0 hsz hb1 e2 e3 e4
  go_loopg [10,45] n (fun kq v10 v45 wr=>∃(k:Nat) (out:List Hi),v45=.int .i64 k∧Aside0 (k+kq=n)∧Aside0 (hintsOf (L.take k)=some out)∧Aside0 (out.length=k)∧Aside0 (RowH wr w2.heap.size (fun _=>True) v10 out)∧Aside0 (RowKit.Below w2.heap.size w2 wr))
  case atStart=>exact⟨0,[],rfl,⟨by omega⟩,⟨rfl⟩,⟨rfl⟩,⟨Kd.R_nil _ _ _ _ _⟩,⟨RowKit.Below.refl _ _⟩⟩
  case round=>
   obtain⟨k,out,rfl,HK,HH,HO,HRo,HBr⟩:=hrel
   cases gk with
   | zero=>
    obtain rfl:k=n:=by have:=HK.out;omega
    have hk:decide ((k:Int) < (k:Int))=false:=decide_eq_false (by omega)
    have HL3:=ak (Kd.S_below HL2.out HBr.out)
    obtain⟨ad,B,cB,e0,x0,x1,x2,hcB,hCB⟩:=at_I (Kd.S_reads' HL3.out).2.2 k (by have:=HN.out;omega)
    cases e0
    have HCB:=ak hCB
    have HcB:=ak hcB
    have h:=HG2.out
    rw[HH.out] at h
    generalize rdI L k=x at h HCB HcB x0 x1 x2
    obtain⟨hb0,h⟩:(0≤x.f0∧x.f0≤(l.length:Int))∧(if rightL out=true∧bytes_Equal.f x.f2 (endL (l.take x.f0.toNat) (out.length:Int) a)=some true then(out,true) else([],false))=(ro,rb):=by
     by_cases hq:0≤x.f0∧x.f0≤(l.length:Int)
     ·simp only[if_pos hq,Option.some.injEq] at h
      exact⟨hq,h⟩
     ·simp only[if_neg hq] at h
      cases h
    obtain⟨m,hm⟩:=Int.eq_ofNat_of_zero_le hb0.1
    rw[hm] at h hb0 x0
    rw[Int.toNat_natCast] at h
    have HG3:=ak h
    have hml:m≤l.length:=by omega
    clear h hb0 hcB hCB HG2
    obtain⟨Ao,co,rfl⟩:=Kd.R_slice HRo.out
    have HCO:=ak (Kd.R_reads' HRo.out)
    obtain⟨i1,hi1,hz0,hz1,hz2⟩:=info_parts info_u8
    have hcut:=cut_to (P:=Tryz.prog) 33 5 .i64 Tryz.underlying33 hi1 A l.length c (m:Int) (by omega) (by omega) HC.out
    rw[Int.toNat_natCast] at hcut
    clear hi1 hz0 hz1 hz2
    have hlm:(l.take m).length=m:=by rw[List.length_take];omega
    have HE:Aside0 (∀W,Kd.C (Kd.int .u8) W A (l.take m).length (l.take m)→Calls Tryz.prog 88 #[.slice A m c,.int .i64 (out.length:Int),.int .i64 a] W fun e w'=>∃v',e=.returned v'∧w'.ownsRow W.heap.size 5 1 v' (endL (l.take m) (out.length:Int) a).length (nums .u8 (endL (l.take m) (out.length:Int) a))∧RowKit.Below W.heap.size W w'):=⟨fun W h=>by
     have:=end_calls A c (l.take m) (out.length:Int) a W h
     rwa [hlm] at this⟩
    go_upto_region 14 with(fail)
    have hb3:=below_alloc (RowKit.Below.refl wr.heap.size wr) (.cells #[.int .i64 (m:Int),.int .i64 x.f1,.slice B x.f2.length cB] 139)
    have BK:=ak (heap_alloc_new wr (.cells #[.int .i64 (m:Int),.int .i64 x.f1,.slice B x.f2.length cB] 139))
    have HB3:=ak (below_then HBr.out HBr.out.size hb3)
    have HC3:=ak (Kd.C_below HCB.out hb3)
    have HR3:=ak (Kd.R_below HRo.out hb3)
    clear hb3 x0 x1 x2 HCB HRo HBr HL3 HCO
    generalize wr.alloc (.cells #[.int .i64 (m:Int),.int .i64 x.f1,.slice B x.f2.length cB] 139)=w3 at BK HB3 HC3 HR3 ⊢
    generalize wr.heap.size=g3 at BK ⊢
    have HA3:=ak (show Kd.C (Kd.int .u8) w3 A (l.take m).length (l.take m) from Kd.C_take (Kd.C_below HR.out (below_then HB2.out HB2.out.size HB3.out)) hml)
    have y0:=(blk_cell BK.out 0).trans rfl
    have y1:=(blk_cell BK.out 1).trans rfl
    have y2:=(blk_cell BK.out 2).trans rfl
    have hlt:g3 < w3.heap.size:=blk_lt BK.out
    obtain⟨bR,hbR⟩:∃b,rightL out=b:=⟨_,rfl⟩
    have hRc:=fun W h=>right_calls Ao co out W (Kd.R_reads' HR3.out).2.1 h
    rw[hbR] at hRc
    have HRC:=ak hRc
    have HBR:=ak hbR
    have HR4:=ak (Kd.R_reads' HR3.out).2.2
    clear hRc hbR
    cases bR with
    | false=>
     have n0_:=ak (blk_drew BK.out)
     have n1_:=ak (Kd.C_drew HC3.out)
     have n2_:=ak (Kd.C_drew HA3.out)
     have n3_:=ak (Kd.R_drew HR3.out)
     have n4_:=ak (below_drew1 HB3.out)
     clear BK HC3 HA3 HR3 HB3 HR4 y0 y1 y2 hlt
     have BK:=n0_
     have HC3:=n1_
     have HA3:=n2_
     have HR3:=n3_
     have HB3:=n4_
     clear n0_ n1_ n2_ n3_ n4_
     refine st_ 17 (S:=(fun w'=>w'.cell? ⟨g3,0,none⟩=some (.int .i64 (m:Int))∧w'.cell? ⟨g3,2,none⟩=some (.slice B x.f2.length cB))) (ds:=[]) (by kernel_rfl) rfl (by kernel_rfl) ⟨(blk_cell BK.out 0).trans rfl,(blk_cell BK.out 2).trans rfl⟩ (fun hHeld=>?_);refine with_tabW tab14 bits14 (fun HT_ HW_=>?_)
     generalize w3.drew=w4 at BK HC3 HA3 HR3 HB3 hHeld ⊢
     refine fl_ [0,68,1] ?_
     (refine pq_ (v:=?_) (a':=?_) HT_ rfl rfl (.inl ⟨by rfl,?_⟩) ?_ ?_;rotate_left;(focus intro w';go_simp;with_reducible rfl);rotate_left;(focus simp only[Act.put,zq1,zq2,zq3,i64_w,i32_w];rfl))
     refine fe_ ?_
     refine on_ 1 3 (some 69) HT_ rfl rfl (by kernel_rfl) (by decide) (fun K hK=>?_)
     refine goes_ Tryz.func86 (by kernel_rfl) rfl #[.slice Ao out.length co] (by rfl) rfl rfl (by(try simp only[List.map_toArray,List.map_cons,List.map_nil]);first | done | rfl) ?_
     refine(HRC.out _ (Kd.R_reads' HR3.out).2.2).mono ?_
     rintro e w5 ⟨rfl,hb⟩
     refine⟨_,rfl,?_⟩
     have n0_:=ak (blk_below (g:=g3) (o:=.cells #[.int .i64 (m:Int),.int .i64 x.f1,.slice B x.f2.length cB] 139 (0,0)) BK.out hb)
     have n1_:=ak (Kd.C_below HC3.out hb)
     have n2_:=ak (Kd.C_below HA3.out hb)
     have n3_:=ak (Kd.R_below HR3.out hb)
     have n4_:=ak (below_then HB3.out HB3.out.size hb)
     clear BK HC3 HA3 HR3 HB3
     have BK:=n0_
     have HC3:=n1_
     have HA3:=n2_
     have HR3:=n3_
     have HB3:=n4_
     clear n0_ n1_ n2_ n3_ n4_
     clear hb
     refine hK.out _ _ ⟨(blk_cell BK.out 0).trans rfl,(blk_cell BK.out 2).trans rfl⟩ (fun hHeld=>?_)
     clear hK K
     refine norm_ (a':=?_) ?_ ?_
     rotate_left
     ·show Act.put _ (some 69) _=_
      simp only[Act.put,zq1,zq2,zq3,i64_w,i32_w]
      rfl
     refine fl_ [2,70,7,3,71,15] ?_
     iterate 2 (refine pq_ (v:=?_) (a':=?_) HT_ rfl rfl (.inl ⟨by rfl,?_⟩) ?_ ?_;rotate_left;(focus intro w';go_simp;with_reducible rfl);rotate_left;(focus simp only[Act.put,zq1,zq2,zq3,i64_w,i32_w];rfl))
     refine fe_ ?_
     refine sk_ 4 31 (N:=72) (a':=?_) HT_ rfl rfl (by kernel_rfl) (fun _ _ _ h=>h) (Or.inr ⟨by rfl,rfl⟩) ?_ ?_
     rotate_left
     ·simp only[Act.put,zq1,zq2,zq3,i64_w,i32_w]
      rfl
     refine sk_ 5 63 (N:=73) (a':=?_) HT_ rfl rfl (by kernel_rfl) (fun _ _ _ h=>h) (Or.inr ⟨by rfl,rfl⟩) ?_ ?_
     rotate_left
     ·simp only[Act.put,zq1,zq2,zq3,i64_w,i32_w]
      rfl
     refine sk_ 6 127 (N:=74) (a':=?_) HT_ rfl rfl (by kernel_rfl) (fun _ _ _ h=>h) (Or.inr ⟨by rfl,rfl⟩) ?_ ?_
     rotate_left
     ·simp only[Act.put,zq1,zq2,zq3,i64_w,i32_w]
      rfl
     refine sk_ 7 255 (N:=75) (a':=?_) HT_ rfl rfl (by kernel_rfl) (fun _ _ _ h=>h) (Or.inr ⟨by rfl,rfl⟩) ?_ ?_
     rotate_left
     ·simp only[Act.put,zq1,zq2,zq3,i64_w,i32_w]
      rfl
     refine sk_ 8 511 (N:=76) (a':=?_) HT_ rfl rfl (by kernel_rfl) (fun _ _ _ h=>h) (Or.inr ⟨by rfl,rfl⟩) ?_ ?_
     rotate_left
     ·simp only[Act.put,zq1,zq2,zq3,i64_w,i32_w]
      rfl
     refine sk_ 9 1023 (N:=77) (a':=?_) HT_ rfl rfl (by kernel_rfl) (fun _ _ _ h=>h) (Or.inr ⟨by rfl,rfl⟩) ?_ ?_
     rotate_left
     ·simp only[Act.put,zq1,zq2,zq3,i64_w,i32_w]
      rfl
     refine sk_ 10 2047 (N:=78) (a':=?_) HT_ rfl rfl (by kernel_rfl) (fun _ _ _ h=>h) (Or.inr ⟨by rfl,rfl⟩) ?_ ?_
     rotate_left
     ·simp only[Act.put,zq1,zq2,zq3,i64_w,i32_w]
      rfl
     refine sk_ 11 4095 (N:=79) (a':=?_) HT_ rfl rfl (by kernel_rfl) (fun _ _ _ h=>h) (Or.inr ⟨by rfl,rfl⟩) ?_ ?_
     rotate_left
     ·simp only[Act.put,zq1,zq2,zq3,i64_w,i32_w]
      rfl
     refine sk_ 12 8191 (N:=80) (a':=?_) HT_ rfl rfl (by kernel_rfl) (fun _ _ _ h=>h) (Or.inr ⟨by rfl,rfl⟩) ?_ ?_
     rotate_left
     ·simp only[Act.put,zq1,zq2,zq3,i64_w,i32_w]
      rfl
     refine sk_ 13 16383 (N:=81) (a':=?_) HT_ rfl rfl (by kernel_rfl) (fun _ _ _ h=>h) (Or.inr ⟨by rfl,rfl⟩) ?_ ?_
     rotate_left
     ·simp only[Act.put,zq1,zq2,zq3,i64_w,i32_w]
      rfl
     refine sk_ 14 32767 (N:=82) (a':=?_) HT_ rfl rfl (by kernel_rfl) (fun _ _ _ h=>h) (Or.inr ⟨by rfl,rfl⟩) ?_ ?_
     rotate_left
     ·simp only[Act.put,zq1,zq2,zq3,i64_w,i32_w]
      rfl
     refine sk_ 15 65535 (N:=83) (a':=?_) HT_ rfl rfl (by kernel_rfl) (fun _ _ _ h=>h) (Or.inr ⟨by rfl,rfl⟩) ?_ ?_
     rotate_left
     ·simp only[Act.put,zq1,zq2,zq3,i64_w,i32_w]
      rfl
     refine fl_ [16,84,131071] ?_
     (refine pq_ (v:=?_) (a':=?_) HT_ rfl rfl (.inl ⟨by rfl,?_⟩) ?_ ?_;rotate_left;(focus intro w';go_simp;with_reducible rfl);rotate_left;(focus simp only[Act.put,zq1,zq2,zq3,i64_w,i32_w];rfl))
     refine fe_ ?_
     refine done_ (done_of HT_.out (by kernel_rfl)) ?_
     go_wp2
     go_ret2
     have h:=HG3.out
     rw[if_neg (by rintro ⟨h,_⟩;rw[HBR.out] at h;cases h)] at h
     simp only[Prod.mk.injEq] at h
     obtain⟨rfl,rfl⟩:=h
     exact⟨_,rfl,Kd.R_nil _ _ _ _ _,below_then HB2.out HB2.out.size HB3.out⟩
    | true=>
     obtain⟨bE,hbE⟩:∃b,bytes_Equal.f x.f2 (endL (l.take m) (out.length:Int) a)=some b:=⟨_,rfl⟩
     have HBE:=ak hbE
     clear hbE
     cases bE with
     | true=>
      have n0_:=ak (blk_drew BK.out)
      have n1_:=ak (Kd.C_drew HC3.out)
      have n2_:=ak (Kd.C_drew HA3.out)
      have n3_:=ak (Kd.R_drew HR3.out)
      have n4_:=ak (below_drew1 HB3.out)
      clear BK HC3 HA3 HR3 HB3 HR4 y0 y1 y2 hlt
      have BK:=n0_
      have HC3:=n1_
      have HA3:=n2_
      have HR3:=n3_
      have HB3:=n4_
      clear n0_ n1_ n2_ n3_ n4_
      refine st_ 17 (S:=(fun w'=>w'.cell? ⟨g3,0,none⟩=some (.int .i64 (m:Int))∧w'.cell? ⟨g3,2,none⟩=some (.slice B x.f2.length cB))) (ds:=[]) (by kernel_rfl) rfl (by kernel_rfl) ⟨(blk_cell BK.out 0).trans rfl,(blk_cell BK.out 2).trans rfl⟩ (fun hHeld=>?_);refine with_tabW tab14 bits14 (fun HT_ HW_=>?_)
      generalize w3.drew=w4 at BK HC3 HA3 HR3 HB3 hHeld ⊢
      refine fl_ [0,68,1] ?_
      (refine pq_ (v:=?_) (a':=?_) HT_ rfl rfl (.inl ⟨by rfl,?_⟩) ?_ ?_;rotate_left;(focus intro w';go_simp;with_reducible rfl);rotate_left;(focus simp only[Act.put,zq1,zq2,zq3,i64_w,i32_w];rfl))
      refine fe_ ?_
      refine on_ 1 3 (some 69) HT_ rfl rfl (by kernel_rfl) (by decide) (fun K hK=>?_)
      refine goes_ Tryz.func86 (by kernel_rfl) rfl #[.slice Ao out.length co] (by rfl) rfl rfl (by(try simp only[List.map_toArray,List.map_cons,List.map_nil]);first | done | rfl) ?_
      refine(HRC.out _ (Kd.R_reads' HR3.out).2.2).mono ?_
      rintro e w5 ⟨rfl,hb⟩
      refine⟨_,rfl,?_⟩
      have n0_:=ak (blk_below (g:=g3) (o:=.cells #[.int .i64 (m:Int),.int .i64 x.f1,.slice B x.f2.length cB] 139 (0,0)) BK.out hb)
      have n1_:=ak (Kd.C_below HC3.out hb)
      have n2_:=ak (Kd.C_below HA3.out hb)
      have n3_:=ak (Kd.R_below HR3.out hb)
      have n4_:=ak (below_then HB3.out HB3.out.size hb)
      clear BK HC3 HA3 HR3 HB3
      have BK:=n0_
      have HC3:=n1_
      have HA3:=n2_
      have HR3:=n3_
      have HB3:=n4_
      clear n0_ n1_ n2_ n3_ n4_
      clear hb
      refine hK.out _ _ ⟨(blk_cell BK.out 0).trans rfl,(blk_cell BK.out 2).trans rfl⟩ (fun hHeld=>?_)
      clear hK K
      refine norm_ (a':=?_) ?_ ?_
      rotate_left
      ·show Act.put _ (some 69) _=_
       simp only[Act.put,zq1,zq2,zq3,i64_w,i32_w]
       rfl
      refine fl_ [2,70,7,3,71,15,4,72,31,6,74,95,7,75,223,10,78,1247,11,79,3295,12,80,7391] ?_
      iterate 8 (refine pq_ (v:=?_) (a':=?_) HT_ rfl rfl (.inl ⟨by rfl,?_⟩) ?_ ?_;rotate_left;(focus intro w';go_simp;with_reducible rfl);rotate_left;(focus simp only[Act.put,zq1,zq2,zq3,i64_w,i32_w];rfl))
      refine fe_ ?_
      refine tk_ 5 7423 (N:=some 73) (v:=?_) (a':=?_) HT_ HW_ rfl rfl (.inl ⟨by rfl,?_⟩) hHeld ?_ ?_
      rotate_left
      ·rintro w' ⟨s0,s2⟩
       go_simp
       with_reducible rfl
      rotate_left
      ·simp only[Act.put,zq1,zq2,zq3,i64_w,i32_w]
       rfl
      refine tk_ 8 7679 (N:=some 76) (v:=?_) (a':=?_) HT_ HW_ rfl rfl (.inl ⟨by rfl,?_⟩) hHeld ?_ ?_
      rotate_left
      ·rintro w' ⟨s0,s2⟩
       go_simp
       with_reducible rfl
      rotate_left
      ·simp only[Act.put,zq1,zq2,zq3,i64_w,i32_w]
       rfl
      refine fl_ [9,77,8191] ?_
      (refine pq_ (v:=?_) (a':=?_) HT_ rfl rfl (.inl ⟨by rfl,?_⟩) ?_ ?_;rotate_left;(focus intro w';go_simp;with_reducible rfl);rotate_left;(focus simp only[Act.put,zq1,zq2,zq3,i64_w,i32_w];rfl))
      refine fe_ ?_
      refine on_ 13 16383 (some 81) HT_ rfl rfl (by kernel_rfl) (by decide) (fun K hK=>?_)
      refine goes_ Tryz.func88 (by kernel_rfl) rfl #[.slice A m c,.int .i64 (out.length:Int),.int .i64 a] (by rfl) rfl rfl (by(try simp only[List.map_toArray,List.map_cons,List.map_nil]);first | done | rfl) ?_
      refine(HE.out _ HA3.out).mono ?_
      rintro e w6 ⟨v6,rfl,ho,hb⟩
      obtain⟨A6,c6,rfl,hle6,hC6⟩:=Kd.R_reads (R_ints ho)
      refine⟨_,rfl,?_⟩
      have n0_:=ak (blk_below (g:=g3) (o:=.cells #[.int .i64 (m:Int),.int .i64 x.f1,.slice B x.f2.length cB] 139 (0,0)) BK.out hb)
      have n1_:=ak (Kd.C_below HC3.out hb)
      have n2_:=ak (Kd.C_below HA3.out hb)
      have n3_:=ak (Kd.R_below HR3.out hb)
      have n4_:=ak (below_then HB3.out HB3.out.size hb)
      clear BK HC3 HA3 HR3 HB3
      have BK:=n0_
      have HC3:=n1_
      have HA3:=n2_
      have HR3:=n3_
      have HB3:=n4_
      clear n0_ n1_ n2_ n3_ n4_
      have HC6:=ak hC6
      have HLE6:=ak hle6
      clear hb ho hC6 hle6
      refine hK.out _ _ ⟨(blk_cell BK.out 0).trans rfl,(blk_cell BK.out 2).trans rfl⟩ (fun hHeld=>?_)
      clear hK K
      refine norm_ (a':=?_) ?_ ?_
      rotate_left
      ·show Act.put _ (some 81) _=_
       simp only[Act.put,zq1,zq2,zq3,i64_w,i32_w]
       rfl
      refine on_ 14 32767 (some 82) HT_ rfl rfl (by kernel_rfl) (by decide) (fun K hK=>?_)
      refine goes_ Tryz.func87 (by kernel_rfl) rfl #[.slice B x.f2.length cB,.slice A6 (endL (l.take m) (out.length:Int) a).length c6] (by rfl) rfl rfl (by(try simp only[List.map_toArray,List.map_cons,List.map_nil]);first | done | rfl) ?_
      refine(bytes_Equal.calls B cB x.f2 A6 c6 (endL (l.take m) (out.length:Int) a) true _ HC3.out HcB.out HC6.out HLE6.out HBE.out).mono ?_
      rintro e w' ⟨rfl,⟨nd2,rfl⟩⟩
      refine⟨_,rfl,?_⟩
      have hb:=pw_below_drewN (RowKit.Below.refl w6.heap.size w6) nd2
      have n0_:=ak (blk_below (g:=g3) (o:=.cells #[.int .i64 (m:Int),.int .i64 x.f1,.slice B x.f2.length cB] 139 (0,0)) BK.out hb)
      have n1_:=ak (Kd.C_below HC3.out hb)
      have n2_:=ak (Kd.C_below HA3.out hb)
      have n3_:=ak (Kd.R_below HR3.out hb)
      have n4_:=ak (below_then HB3.out HB3.out.size hb)
      clear BK HC3 HA3 HR3 HB3
      have BK:=n0_
      have HC3:=n1_
      have HA3:=n2_
      have HR3:=n3_
      have HB3:=n4_
      clear n0_ n1_ n2_ n3_ n4_
      clear hb
      refine hK.out _ _ ⟨(blk_cell BK.out 0).trans rfl,(blk_cell BK.out 2).trans rfl⟩ (fun hHeld=>?_)
      clear hK K
      refine norm_ (a':=?_) ?_ ?_
      rotate_left
      ·show Act.put _ (some 82) _=_
       simp only[Act.put,zq1,zq2,zq3,i64_w,i32_w]
       rfl
      refine fl_ [15,83,65535,16,84,131071] ?_
      iterate 2 (refine pq_ (v:=?_) (a':=?_) HT_ rfl rfl (.inl ⟨by rfl,?_⟩) ?_ ?_;rotate_left;(focus intro w';go_simp;with_reducible rfl);rotate_left;(focus simp only[Act.put,zq1,zq2,zq3,i64_w,i32_w];rfl))
      refine fe_ ?_
      refine done_ (done_of HT_.out (by kernel_rfl)) ?_
      go_wp2
      go_ret2
      have h:=HG3.out
      rw[if_pos ⟨HBR.out,HBE.out⟩] at h
      simp only[Prod.mk.injEq] at h
      obtain⟨rfl,rfl⟩:=h
      exact⟨_,rfl,Kd.R_lower HR3.out HB2.out.size,below_then HB2.out HB2.out.size HB3.out⟩
     | false=>
      have n0_:=ak (blk_drew BK.out)
      have n1_:=ak (Kd.C_drew HC3.out)
      have n2_:=ak (Kd.C_drew HA3.out)
      have n3_:=ak (Kd.R_drew HR3.out)
      have n4_:=ak (below_drew1 HB3.out)
      clear BK HC3 HA3 HR3 HB3 HR4 y0 y1 y2 hlt
      have BK:=n0_
      have HC3:=n1_
      have HA3:=n2_
      have HR3:=n3_
      have HB3:=n4_
      clear n0_ n1_ n2_ n3_ n4_
      refine st_ 17 (S:=(fun w'=>w'.cell? ⟨g3,0,none⟩=some (.int .i64 (m:Int))∧w'.cell? ⟨g3,2,none⟩=some (.slice B x.f2.length cB))) (ds:=[]) (by kernel_rfl) rfl (by kernel_rfl) ⟨(blk_cell BK.out 0).trans rfl,(blk_cell BK.out 2).trans rfl⟩ (fun hHeld=>?_);refine with_tabW tab14 bits14 (fun HT_ HW_=>?_)
      generalize w3.drew=w4 at BK HC3 HA3 HR3 HB3 hHeld ⊢
      refine fl_ [0,68,1] ?_
      (refine pq_ (v:=?_) (a':=?_) HT_ rfl rfl (.inl ⟨by rfl,?_⟩) ?_ ?_;rotate_left;(focus intro w';go_simp;with_reducible rfl);rotate_left;(focus simp only[Act.put,zq1,zq2,zq3,i64_w,i32_w];rfl))
      refine fe_ ?_
      refine on_ 1 3 (some 69) HT_ rfl rfl (by kernel_rfl) (by decide) (fun K hK=>?_)
      refine goes_ Tryz.func86 (by kernel_rfl) rfl #[.slice Ao out.length co] (by rfl) rfl rfl (by(try simp only[List.map_toArray,List.map_cons,List.map_nil]);first | done | rfl) ?_
      refine(HRC.out _ (Kd.R_reads' HR3.out).2.2).mono ?_
      rintro e w5 ⟨rfl,hb⟩
      refine⟨_,rfl,?_⟩
      have n0_:=ak (blk_below (g:=g3) (o:=.cells #[.int .i64 (m:Int),.int .i64 x.f1,.slice B x.f2.length cB] 139 (0,0)) BK.out hb)
      have n1_:=ak (Kd.C_below HC3.out hb)
      have n2_:=ak (Kd.C_below HA3.out hb)
      have n3_:=ak (Kd.R_below HR3.out hb)
      have n4_:=ak (below_then HB3.out HB3.out.size hb)
      clear BK HC3 HA3 HR3 HB3
      have BK:=n0_
      have HC3:=n1_
      have HA3:=n2_
      have HR3:=n3_
      have HB3:=n4_
      clear n0_ n1_ n2_ n3_ n4_
      clear hb
      refine hK.out _ _ ⟨(blk_cell BK.out 0).trans rfl,(blk_cell BK.out 2).trans rfl⟩ (fun hHeld=>?_)
      clear hK K
      refine norm_ (a':=?_) ?_ ?_
      rotate_left
      ·show Act.put _ (some 69) _=_
       simp only[Act.put,zq1,zq2,zq3,i64_w,i32_w]
       rfl
      refine fl_ [2,70,7,3,71,15,4,72,31,6,74,95,7,75,223,10,78,1247,11,79,3295,12,80,7391] ?_
      iterate 8 (refine pq_ (v:=?_) (a':=?_) HT_ rfl rfl (.inl ⟨by rfl,?_⟩) ?_ ?_;rotate_left;(focus intro w';go_simp;with_reducible rfl);rotate_left;(focus simp only[Act.put,zq1,zq2,zq3,i64_w,i32_w];rfl))
      refine fe_ ?_
      refine tk_ 5 7423 (N:=some 73) (v:=?_) (a':=?_) HT_ HW_ rfl rfl (.inl ⟨by rfl,?_⟩) hHeld ?_ ?_
      rotate_left
      ·rintro w' ⟨s0,s2⟩
       go_simp
       with_reducible rfl
      rotate_left
      ·simp only[Act.put,zq1,zq2,zq3,i64_w,i32_w]
       rfl
      refine tk_ 8 7679 (N:=some 76) (v:=?_) (a':=?_) HT_ HW_ rfl rfl (.inl ⟨by rfl,?_⟩) hHeld ?_ ?_
      rotate_left
      ·rintro w' ⟨s0,s2⟩
       go_simp
       with_reducible rfl
      rotate_left
      ·simp only[Act.put,zq1,zq2,zq3,i64_w,i32_w]
       rfl
      refine fl_ [9,77,8191] ?_
      (refine pq_ (v:=?_) (a':=?_) HT_ rfl rfl (.inl ⟨by rfl,?_⟩) ?_ ?_;rotate_left;(focus intro w';go_simp;with_reducible rfl);rotate_left;(focus simp only[Act.put,zq1,zq2,zq3,i64_w,i32_w];rfl))
      refine fe_ ?_
      refine on_ 13 16383 (some 81) HT_ rfl rfl (by kernel_rfl) (by decide) (fun K hK=>?_)
      refine goes_ Tryz.func88 (by kernel_rfl) rfl #[.slice A m c,.int .i64 (out.length:Int),.int .i64 a] (by rfl) rfl rfl (by(try simp only[List.map_toArray,List.map_cons,List.map_nil]);first | done | rfl) ?_
      refine(HE.out _ HA3.out).mono ?_
      rintro e w6 ⟨v6,rfl,ho,hb⟩
      obtain⟨A6,c6,rfl,hle6,hC6⟩:=Kd.R_reads (R_ints ho)
      refine⟨_,rfl,?_⟩
      have n0_:=ak (blk_below (g:=g3) (o:=.cells #[.int .i64 (m:Int),.int .i64 x.f1,.slice B x.f2.length cB] 139 (0,0)) BK.out hb)
      have n1_:=ak (Kd.C_below HC3.out hb)
      have n2_:=ak (Kd.C_below HA3.out hb)
      have n3_:=ak (Kd.R_below HR3.out hb)
      have n4_:=ak (below_then HB3.out HB3.out.size hb)
      clear BK HC3 HA3 HR3 HB3
      have BK:=n0_
      have HC3:=n1_
      have HA3:=n2_
      have HR3:=n3_
      have HB3:=n4_
      clear n0_ n1_ n2_ n3_ n4_
      have HC6:=ak hC6
      have HLE6:=ak hle6
      clear hb ho hC6 hle6
      refine hK.out _ _ ⟨(blk_cell BK.out 0).trans rfl,(blk_cell BK.out 2).trans rfl⟩ (fun hHeld=>?_)
      clear hK K
      refine norm_ (a':=?_) ?_ ?_
      rotate_left
      ·show Act.put _ (some 81) _=_
       simp only[Act.put,zq1,zq2,zq3,i64_w,i32_w]
       rfl
      refine on_ 14 32767 (some 82) HT_ rfl rfl (by kernel_rfl) (by decide) (fun K hK=>?_)
      refine goes_ Tryz.func87 (by kernel_rfl) rfl #[.slice B x.f2.length cB,.slice A6 (endL (l.take m) (out.length:Int) a).length c6] (by rfl) rfl rfl (by(try simp only[List.map_toArray,List.map_cons,List.map_nil]);first | done | rfl) ?_
      refine(bytes_Equal.calls B cB x.f2 A6 c6 (endL (l.take m) (out.length:Int) a) false _ HC3.out HcB.out HC6.out HLE6.out HBE.out).mono ?_
      rintro e w' ⟨rfl,⟨nd2,rfl⟩⟩
      refine⟨_,rfl,?_⟩
      have hb:=pw_below_drewN (RowKit.Below.refl w6.heap.size w6) nd2
      have n0_:=ak (blk_below (g:=g3) (o:=.cells #[.int .i64 (m:Int),.int .i64 x.f1,.slice B x.f2.length cB] 139 (0,0)) BK.out hb)
      have n1_:=ak (Kd.C_below HC3.out hb)
      have n2_:=ak (Kd.C_below HA3.out hb)
      have n3_:=ak (Kd.R_below HR3.out hb)
      have n4_:=ak (below_then HB3.out HB3.out.size hb)
      clear BK HC3 HA3 HR3 HB3
      have BK:=n0_
      have HC3:=n1_
      have HA3:=n2_
      have HR3:=n3_
      have HB3:=n4_
      clear n0_ n1_ n2_ n3_ n4_
      clear hb
      refine hK.out _ _ ⟨(blk_cell BK.out 0).trans rfl,(blk_cell BK.out 2).trans rfl⟩ (fun hHeld=>?_)
      clear hK K
      refine norm_ (a':=?_) ?_ ?_
      rotate_left
      ·show Act.put _ (some 82) _=_
       simp only[Act.put,zq1,zq2,zq3,i64_w,i32_w]
       rfl
      refine fl_ [15,83,65535,16,84,131071] ?_
      iterate 2 (refine pq_ (v:=?_) (a':=?_) HT_ rfl rfl (.inl ⟨by rfl,?_⟩) ?_ ?_;rotate_left;(focus intro w';go_simp;with_reducible rfl);rotate_left;(focus simp only[Act.put,zq1,zq2,zq3,i64_w,i32_w];rfl))
      refine fe_ ?_
      refine done_ (done_of HT_.out (by kernel_rfl)) ?_
      go_wp2
      go_ret2
      have h:=HG3.out
      rw[if_neg (by rintro ⟨_,h⟩;rw[HBE.out] at h;cases h)] at h
      simp only[Prod.mk.injEq] at h
      obtain⟨rfl,rfl⟩:=h
      exact⟨_,rfl,Kd.R_nil _ _ _ _ _,below_then HB2.out HB2.out.size HB3.out⟩
   | succ gk=>
    have hk0:k < n:=by have:=HK.out;omega
    have hk:decide ((k:Int) < (n:Int))=true:=decide_eq_true (by omega)
    have hk':decide (k < n)=true:=decide_eq_true hk0
    have hk1:(k < n)=True:=eq_true hk0
    have HL3:=ak (Kd.S_below HL2.out HBr.out)
    obtain⟨ad,B,cB,e0,x0,x1,x2,hcB,hCB⟩:=at_I (Kd.S_reads' HL3.out).2.2 k (by have:=HN.out;omega)
    cases e0
    have HCB:=ak hCB
    have HcB:=ak hcB
    have HTK:=ak (show L.take (k+1)=L.take k++[rdI L k] by rw[List.take_add_one,List.getElem?_eq_getElem (by have:=HN.out;omega),rdI_at L k (by have:=HN.out;omega)];rfl)
    have HTN:=ak (show L.take n=L.take k++rdI L k::(L.take n).drop (k+1) by
     have h1:k < (L.take n).length:=by rw[List.length_take];have:=HN.out;omega
     have h2:=List.drop_eq_getElem_cons h1
     have h3:(L.take n)[k]=rdI L k:=by rw[List.getElem_take];exact rdI_at L k (by have:=HN.out;omega)
     have h4:(L.take n).take k=L.take k:=by rw[List.take_take,Nat.min_eq_left (by omega)]
     rw[h3] at h2
     rw[← h2,← h4,List.take_append_drop])
    generalize rdI L k=x at HTK HTN HCB HcB x0 x1 x2
    obtain⟨a1,a2,a3,a4,a5,hh⟩:=hint_some x.f2 (Kd.C_max HCB.out)
    have HF:=ak hh
    clear hh hcB hCB
    go_upto_region 8 with(fail)
    have hb3:=below_alloc (RowKit.Below.refl wr.heap.size wr) (.cells #[.int .i64 x.f0,.int .i64 x.f1,.slice B x.f2.length cB] 139)
    have BK:=ak (heap_alloc_new wr (.cells #[.int .i64 x.f0,.int .i64 x.f1,.slice B x.f2.length cB] 139))
    have HB3:=ak (below_then HBr.out HBr.out.size hb3)
    have HC3:=ak (Kd.C_below HCB.out hb3)
    have HR3:=ak (Kd.R_below HRo.out hb3)
    clear hb3 x0 x1 x2 HCB HRo HBr HL3
    generalize wr.alloc (.cells #[.int .i64 x.f0,.int .i64 x.f1,.slice B x.f2.length cB] 139)=w3 at BK HB3 HC3 HR3 ⊢
    generalize wr.heap.size=g3 at BK ⊢
    have y0:=(blk_cell BK.out 0).trans rfl
    have y1:=(blk_cell BK.out 1).trans rfl
    have y2:=(blk_cell BK.out 2).trans rfl
    cases a5 with
    | false=>
     go_wp2_with (go_at_call 85;refine(hint_hint.calls B cB x.f2 a1 a2 a3 a4 false _ HC3.out HcB.out HF.out).mono ?_;rintro e w4 ⟨rfl,hb4⟩;have HB4:=ak (below_then HB3.out HB3.out.size hb4);clear hb4)
     go_ret2
     have h:=HG2.out
     have hno:hintsOf (L.take n)=none:=by
      rw[HTN.out,hints_append,HH.out]
      simp only[hintsOf,HF.out,Option.bind_some,Option.map_none]
     rw[hno] at h
     simp only[Option.some.injEq,Prod.mk.injEq] at h
     obtain⟨rfl,rfl⟩:=h
     exact⟨_,rfl,Kd.R_nil _ _ _ _ _,below_then HB2.out HB2.out.size (below_alloc HB4.out _)⟩
    | true=>
     go_upto_region 11 with(go_at_call 85;refine(hint_hint.calls B cB x.f2 a1 a2 a3 a4 true _ HC3.out HcB.out HF.out).mono ?_;rintro e w4 ⟨rfl,hb4⟩;have HB4:=ak (below_then HB3.out HB3.out.size hb4);have HR4:=ak (Kd.R_below HR3.out hb4);clear hb4)
     have hb5:=below_alloc (RowKit.Below.refl w4.heap.size w4) (.cells #[.int .i64 a1,.string a2,.int .i64 a3,.int .i64 a4] 141)
     have BK5:=ak (heap_alloc_new w4 (.cells #[.int .i64 a1,.string a2,.int .i64 a3,.int .i64 a4] 141))
     have HB5:=ak (below_then HB4.out HB4.out.size hb5)
     have HR5:=ak (Kd.R_below HR4.out hb5)
     clear hb5 HB3 HC3 HR3 HB4 HR4 BK y0 y1 y2
     generalize w4.alloc (.cells #[.int .i64 a1,.string a2,.int .i64 a3,.int .i64 a4] 141)=w5 at BK5 HB5 HR5 ⊢
     generalize w4.heap.size=g5 at BK5 ⊢
     have z0:=(blk_cell BK5.out 0).trans rfl
     have z1:=(blk_cell BK5.out 1).trans rfl
     have z2:=(blk_cell BK5.out 2).trans rfl
     have z3:=(blk_cell BK5.out 3).trans rfl
     have hbyte:(out.length+1)*40≤140737488355328:=by have:=HO.out;omega
     have HBY:=ak hbyte
     clear hbyte
     go_wp2_with (at_builtin;refine Kd.R_append k141 (w0:=w2) w2.heap.size rfl (.tmp 57) (.tmp 59) 48 141 (.agg #[.int .i64 0,.string ⟨#[]⟩,.int .i64 0,.int .i64 0]) 40 rfl Tryz.underlying48 info141 rfl (by decide) (by omega) u10 out ⟨a1,a2,a3,a4⟩ [.int .i64 a1,.string a2,.int .i64 a3,.int .i64 a4] (fun _=>True) (fun _=>False) rfl rfl (k141_mkM _ _ _ ⟨a1,a2,a3,a4⟩) (fun _ h=>h.elim) (fun _ _=>trivial) HR5.out HB5.out HB5.out.size HBY.out ?_;intro v6 w6 hR6 hB6 hg6 _;have HR6:=ak hR6;have HB6:=ak hB6;clear hR6 hB6 hg6)
     go_roundg gk
     case measure=>omega
     case rel=>
      refine⟨k+1,out++[⟨a1,a2,a3,a4⟩],by go_num,⟨by have:=HK.out;omega⟩,⟨?_⟩,⟨by rw[List.length_append,HO.out];rfl⟩,HR6,HB6⟩
      rw[HTK.out,hints_append,HH.out]
      simp only[hintsOf,HF.out,Option.bind_some,Option.map_some]
end Go.Proofs.YteccdnejnbkbiaaGreat.Hn
namespace Go.Proofs.YteccdnejnbkbiaaGreat.Ext
open Go.RowKit Pt YteccdnejnbkbiaaGreatW.PrintWords Fr Hn
def hint_Get.f (l:List Int) (a:Int):Option (List Hi×Bool):=(scan_All.f l).bind fun r=>if r.1.length≤1000000000 then getR l a r else none
theorem hint_Get.calls (A0:Option Addr) (c0:Nat) (l0:List Int) (a1:Int) (r1:List Hi) (r2:Bool) (w:World) (hr0:Kd.C (Kd.int .u8) w A0 l0.length l0) (hc0:l0.length≤c0) (h:hint_Get.f l0 a1=some (r1,r2)):
  Calls Tryz.prog 46 #[.slice A0 l0.length c0,.int .i64 a1] w fun e w'=>∃v0_:Value,e=.returned (.tuple #[v0_,.bool r2])∧Kd.R k141 141 w' w.heap.size (fun _=>True) v0_ r1∧Below w.heap.size w w':=by
 unfold hint_Get.f at h
 cases hs:scan_All.f l0 with
 | none=>rw[hs] at h;cases h
 | some r=>
  obtain⟨L,q1,q2,q3⟩:=r
  rw[hs,Option.bind_some] at h
  by_cases hL:L.length≤1000000000
  ·rw[if_pos hL] at h
   exact get_calls A0 c0 l0 a1 w L q1 q2 q3 r1 r2 hc0 hr0 hs hL h
  ·rw[if_neg hL] at h
   cases h
end Go.Proofs.YteccdnejnbkbiaaGreat.Ext
end
section
section
namespace Go.Proofs.YteccdnejnbkbiaaGreat.Pure
open Go.RowKit Pt YteccdnejnbkbiaaGreatW.PrintWords YteccdnejnbkbiaaGreatW.PrintLast Fr Ext Sc

def cat:List (List Int)→List Int
 | []=>[]
 | x::g=>putL x++cat g
def its:Nat→List (List Int)→List Itm
 | _,[]=>[]
 | a,x::g=>if 1≤x.length∧x.length≤8192 then(a,x.length+8,x)::its (a+(x.length+8)) g else its a g
def tot:List (List Int)→Nat
 | []=>0
 | x::g=>x.length+tot g
theorem cat_len (g:List (List Int)):(cat g).length≤tot g+8*g.length:=by
 induction g with
 | nil=>exact Nat.le_refl _
 | cons x g ih=>
  have h:=put_len x
  have h2:sizeI x.length≤x.length+8:=by
   by_cases h1:1≤x.length∧x.length≤8192
   ·rw[sizeI_of _ (by omega) (by omega)];omega
   ·rw[sizeI_no _ (by omega)];omega
  simp only[cat,tot,List.length_append,List.length_cons]
  omega
def AllBytes (g:List (List Int)):Prop:=∀x∈g,IsBytes x
theorem AllBytes.tail {x:List Int} {g:List (List Int)} (h:AllBytes (x::g)):AllBytes g:=fun y hy=>h y (List.mem_cons_of_mem _ hy)
theorem cat_bytes (g:List (List Int)) (h:AllBytes g):IsBytes (cat g):=by
 induction g with
 | nil=>exact fun x hx=>by cases hx
 | cons x g ih=>exact(put_bytes x (h x List.mem_cons_self)).append (ih h.tail)
theorem cat_append (a b:List (List Int)):cat (a++b)=cat a++cat b:=by
 induction a with
 | nil=>rfl
 | cons x a ih=>simp only[List.cons_append,cat,ih,List.append_assoc]
theorem its_append (a b:List (List Int)):∀n,its n (a++b)=its n a++its (n+(cat a).length) b:=by
 induction a with
 | nil=>intro n;rfl
 | cons x a ih=>
  intro n
  simp only[List.cons_append,its,cat,List.length_append]
  split
  ·rename_i h
   rw[ih,put_yes x h.1 h.2,frame_len]
   simp only[List.cons_append,Nat.add_assoc]
  ·rename_i h
   rw[ih,put_no x (by omega)]
   simp
theorem scan_cat (l:List Int) (g:List (List Int)):∀(a:Nat) (rest:List Int) (I:List Itm) (B e:Nat) (f:Int),a≤l.length→l.drop a=cat g++rest→Scan l (a+(cat g).length) I B e f→Scan l a (its a g++I) B e f:=by
 induction g with
 | nil=>intro a rest I B e f ha hd h;exact h
 | cons x g ih=>
  intro a rest I B e f ha hd h
  simp only[cat,List.length_append] at hd h
  by_cases hg:1≤x.length∧x.length≤8192
  ·rw[put_yes x hg.1 hg.2,frame_len] at h
   rw[put_yes x hg.1 hg.2] at hd
   have hlen:=congrArg List.length hd
   simp only[List.length_drop,List.length_append,frame_len] at hlen
   simp only[its,if_pos hg,List.cons_append]
   refine Scan.take a (x.length+8) x _ B e f (by omega) (by omega) ?_ ?_
   ·rw[hd,List.append_assoc,first_frame x _ hg.1 hg.2];simp
   ·refine ih (a+(x.length+8)) rest I B e f (by omega) ?_ (by rw[show a+(x.length+8)+(cat g).length=a+(x.length+8+(cat g).length) by omega];exact h)
    rw[← List.drop_drop,hd,List.append_assoc,show x.length+8=(frameOf x).length from(frame_len x).symm,List.drop_left]
  ·rw[put_no x (by omega)] at h hd
   simp only[its,if_neg hg]
   exact ih a rest I B e f ha (by simpa using hd) (by simpa using h)
theorem scan_whole (g:List (List Int)):Scan (cat g) 0 (its 0 g) 0 (cat g).length 0:=by
 have:=scan_cat (cat g) g 0 [] [] 0 (cat g).length 0 (Nat.zero_le _) (by simp) (by rw[Nat.zero_add];exact .done _ rfl)
 simpa using this

theorem all_of (l:List Int) (hB:IsBytes l) (hm:l.length≤1000000000) {I:List Itm} {B e:Nat} {f:Int} (h:Scan l 0 I B e f):scan_All.f l=some (I.map toS,(B:Int),(e:Int),f):=by
 unfold scan_All.f
 rw[if_pos ⟨(bytesB_iff l).mpr hB,hm⟩,scan_go h _ _ _ (by omega)]
 simp
end Go.Proofs.YteccdnejnbkbiaaGreat.Pure
end

section
namespace Go.Proofs.YteccdnejnbkbiaaGreat.Hu
open Go.RowKit Pt YteccdnejnbkbiaaGreatW.PrintWords YteccdnejnbkbiaaGreatW.PrintLast Fr Ext Sc Hn Go.Proofs.YteccdnejnbkbiaaGreat.Pure

theorem bytesOf_bytes (s:ByteArray):IsBytes (bytesOf s):=by
 intro x hx
 obtain⟨b,_,rfl⟩:=List.mem_map.1 hx
 have:=b.toNat_lt
 omega
theorem str_bytesOf (s:ByteArray):strOfNums (bytesOf s)=s:=by
 have h:(strOfNums (bytesOf s)).data.toList=s.data.toList:=by
  rw[strOfNums_data,bytesOf,List.map_map]
  conv=>rhs;rw[← List.map_id s.data.toList]
  refine List.map_congr_left fun x hx=>?_
  simp
 exact congrArg ByteArray.mk (Array.toList_inj.mp h)
theorem four4_len (n:Int):(four4 n).length=4:=rfl
theorem four4_bytes (n:Int):IsBytes (four4 n):=by
 intro x hx
 simp only[four4,List.mem_cons,List.not_mem_nil,or_false] at hx
 omega
theorem four4_inj (a b:Int) (h0:0≤a) (h1:a < 4294967296) (g0:0≤b) (g1:b < 4294967296) (h:four4 a=four4 b):a=b:=by
 simp only[four4,List.cons.injEq,and_true] at h
 omega
def bodyL (h:Hi):List Int:=([h.f0 % 256]++four4 h.f2++[(h.f3 / 256) % 256,h.f3 % 256])++bytesOf h.f1
theorem bodyL_len (h:Hi):(bodyL h).length=7+h.f1.size:=by
 simp only[bodyL,List.length_append,four4_len,bytesOf_length,List.length_cons,List.length_nil]
theorem bodyL_bytes (h:Hi):IsBytes (bodyL h):=by
 refine((IsBytes.append (IsBytes.append ?_ (four4_bytes _)) ?_)).append (bytesOf_bytes _)
 ·intro x hx
  simp only[List.mem_cons,List.not_mem_nil,or_false] at hx
  omega
 ·intro x hx
  simp only[List.mem_cons,List.not_mem_nil,or_false] at hx
  omega
theorem body_f (h:Hi) (hs:h.f1.size≤1000000):hint_body.f h.f0 h.f1 h.f2 h.f3=some (bodyL h):=by
 unfold hint_body.f hint_four.f
 simp only[Option.bind_some,List.length_append,List.length_cons,List.length_nil]
 rw[if_pos (by omega)]
 simp only[Option.bind_some,List.length_append,List.length_cons,List.length_nil]
 rw[if_pos (by omega),if_pos (by omega)]
 rfl
theorem or_join (k:Nat) (a b:Int) (h0:0≤a) (hd:a % 2 ^ k=0) (g0:0≤b) (g1:b < 2 ^ k) (h1:a < 9223372036854775808) (h2:b < 9223372036854775808):Go.bits .or .i64 a b=a+b:=
 Go.bits_join .i64 63 (by decide) (fun n h h'=>by rw[IntWalk.i64_in] <;> omega) k a b h0 hd (by omega) g0 g1 (by omega)
def hintL (l:List Int):Hi:=⟨rd l 0,strOfNums (l.drop 7),rd l 1*16777216+rd l 2*65536+rd l 3*256+rd l 4,rd l 5*256+rd l 6⟩
theorem hint_f (l:List Int) (hB:IsBytes l) (hl:7 < l.length):hint_hint.f l=some ((hintL l).f0,(hintL l).f1,(hintL l).f2,(hintL l).f3,true):=by
 have r:∀i:Int,0≤i→i < 7→0≤rd l i∧rd l i < 256:=fun i hi0 hi=>hB _ (rd_mem l i (by omega) (by omega))
 have r0:=r 0 (by omega) (by omega)
 have r1:=r 1 (by omega) (by omega)
 have r2:=r 2 (by omega) (by omega)
 have r3:=r 3 (by omega) (by omega)
 have r4:=r 4 (by omega) (by omega)
 have r5:=r 5 (by omega) (by omega)
 have r6:=r 6 (by omega) (by omega)
 unfold hint_hint.f
 rw[if_neg (by omega),if_pos (by omega),if_pos (by omega),if_pos (by omega),if_pos (by omega),if_pos (by omega),if_pos (by omega),if_pos (by omega),if_pos (by omega)]
 rw[w64 (rd l 0) (by omega) (by omega),w64 (rd l 1) (by omega) (by omega),w64 (rd l 2) (by omega) (by omega),w64 (rd l 3) (by omega) (by omega),w64 (rd l 4) (by omega) (by omega),w64 (rd l 5) (by omega) (by omega),w64 (rd l 6) (by omega) (by omega),
  w64 (rd l 1*16777216) (by omega) (by omega),w64 (rd l 2*65536) (by omega) (by omega),w64 (rd l 3*256) (by omega) (by omega),w64 (rd l 5*256) (by omega) (by omega)]
 rw[or_join 24 (rd l 1*16777216) (rd l 2*65536) (by omega) (by omega) (by omega) (by omega) (by omega) (by omega)]
 rw[or_join 16 (rd l 1*16777216+rd l 2*65536) (rd l 3*256) (by omega) (by omega) (by omega) (by omega) (by omega) (by omega)]
 rw[or_join 8 (rd l 1*16777216+rd l 2*65536+rd l 3*256) (rd l 4) (by omega) (by omega) (by omega) (by omega) (by omega) (by omega)]
 rw[or_join 8 (rd l 5*256) (rd l 6) (by omega) (by omega) (by omega) (by omega) (by omega) (by omega)]
 rfl
theorem fine_iff (h:Hi):fineH h=true↔(2≤h.f0∧h.f0≤4)∧(1≤h.f1.size∧h.f1.size≤64)∧(0≤h.f2∧h.f2≤1073741824)∧(9≤h.f3∧h.f3≤8200):=by
 unfold fineH
 simp only[Bool.and_eq_true,decide_eq_true_eq,and_assoc]
theorem hint_body_back (h:Hi) (hf:fineH h=true):hintL (bodyL h)=h:=by
 obtain⟨h0,h1,h2,h3⟩:=(fine_iff h).1 hf
 obtain⟨a,k,b,c⟩:=h
 simp only at h0 h1 h2 h3
 have e:(bodyL ⟨a,k,b,c⟩).drop 7=bytesOf k:=by
  unfold bodyL
  exact List.drop_left' (by simp [four4])
 unfold hintL
 rw[e,str_bytesOf]
 have e0:rd (bodyL ⟨a,k,b,c⟩) 0=a % 256:=rfl
 have e1:rd (bodyL ⟨a,k,b,c⟩) 1=(b / 16777216) % 256:=rfl
 have e2:rd (bodyL ⟨a,k,b,c⟩) 2=(b / 65536) % 256:=rfl
 have e3:rd (bodyL ⟨a,k,b,c⟩) 3=(b / 256) % 256:=rfl
 have e4:rd (bodyL ⟨a,k,b,c⟩) 4=b % 256:=rfl
 have e5:rd (bodyL ⟨a,k,b,c⟩) 5=(c / 256) % 256:=rfl
 have e6:rd (bodyL ⟨a,k,b,c⟩) 6=c % 256:=rfl
 rw[e0,e1,e2,e3,e4,e5,e6]
 congr 1 <;> omega
def recs (l:List Hi):List (List Int):=l.map bodyL
theorem endL_len (fr:List Int) (a b:Int):(endL fr a b).length=13:=rfl
theorem endL_bytes (fr:List Int) (a b:Int):IsBytes (endL fr a b):=by
 intro x hx
 simp only[endL,List.mem_cons,List.mem_append] at hx
 rcases hx with rfl | h | h | h
 ·omega
 ·exact four4_bytes _ x h
 ·exact four4_bytes _ x h
 ·exact four4_bytes _ x h
def putH (l:List Hi) (size:Int):List Int:=cat (recs l)++putL (endL (cat (recs l)) (l.length:Int) size)
def putAll (l:List Hi) (size:Int):List Int:=if rightL l=true∧0≤size∧size≤1073741824 then putH l size else []
theorem right_fine {l:List Hi} (h:rightL l=true) {x:Hi} (hx:x∈l):fineH x=true:=by
 unfold rightL at h
 rw[Bool.and_eq_true] at h
 exact List.all_eq_true.1 h.2 x hx
theorem put_body (h:Hi) (hs:h.f1.size≤64):putL (bodyL h)=frameOf (bodyL h)∧(putL (bodyL h)).length=15+h.f1.size:=by
 have e:=bodyL_len h
 have p:=put_yes (bodyL h) (by omega) (by omega)
 refine⟨p,?_⟩
 rw[p,frame_len]
 omega
theorem put_end (fr:List Int) (a b:Int):putL (endL fr a b)=frameOf (endL fr a b)∧(putL (endL fr a b)).length=21:=by
 have e:=endL_len fr a b
 have p:=put_yes (endL fr a b) (by omega) (by omega)
 refine⟨p,?_⟩
 rw[p,frame_len]
 omega
theorem rdT_at (l:List Hi) (i:Nat) (h:i < l.length):rd_T141 l (i:Int)=l[i]:=by
 unfold rd_T141
 rw[Int.toNat_natCast,List.getD_eq_getElem?_getD,List.getElem?_eq_getElem h]
 rfl
theorem within_f (a:Int):hint_within.f a 0 1073741824=some (decide (0≤a∧a≤1073741824)):=by
 unfold hint_within.f
 by_cases h:a≥0
 ·rw[if_pos h]
  congr 1
  exact decide_eq_decide.2 ⟨fun h2=>⟨h,h2⟩,fun h2=>h2.2⟩
 ·rw[if_neg h,decide_eq_false (by omega)]
end Go.Proofs.YteccdnejnbkbiaaGreat.Hu
end

section
namespace Go.Proofs.YteccdnejnbkbiaaGreat.Hu
open Go.RowKit Pt YteccdnejnbkbiaaGreatW.PrintWords YteccdnejnbkbiaaGreatW.PrintLast Fr Ext Sc Hn Go.Proofs.YteccdnejnbkbiaaGreat.Pure

theorem equal_iff {a b:List Int} (ha:IsBytes a) (hb:IsBytes b):bytes_Equal.f a b=some true↔a=b:=by
 unfold bytes_Equal.f
 constructor
 ·intro h
  exact(str_iff ha hb).1 (of_decide_eq_true (by simpa using h))
 ·rintro rfl
  simp
theorem end_inj (fr:List Int) (n a b:Int) (h0:0≤a) (h1:a≤1073741824) (g0:0≤b) (g1:b≤1073741824) (h:endL fr n a=endL fr n b):a=b:=by
 simp only[endL,List.cons.injEq,true_and] at h
 have h2:=List.append_cancel_left h
 have h3:=List.append_inj_left h2 rfl
 exact four4_inj a b h0 (by omega) g0 (by omega) h3
theorem recs_len (l:List Hi) (hf:∀h∈l,fineH h=true):tot (recs l)≤71*l.length:=by
 induction l with
 | nil=>exact Nat.le_refl _
 | cons x l ih=>
  have h1:=ih (fun h hh=>hf h (List.mem_cons_of_mem _ hh))
  have h2:=((fine_iff x).1 (hf x List.mem_cons_self)).2.1.2
  have h3:=bodyL_len x
  simp only[recs,List.map_cons,tot,List.length_cons] at h1 ⊢
  omega
theorem its_recs (l:List Hi) (hf:∀h∈l,fineH h=true):∀a,hintsOf ((its a (recs l)).map toS)=some l∧(its a (recs l)).length=l.length:=by
 induction l with
 | nil=>intro a;exact⟨rfl,rfl⟩
 | cons x l ih=>
  intro a
  have hx:=hf x List.mem_cons_self
  have h2:=((fine_iff x).1 hx).2.1
  have h3:=bodyL_len x
  have h1:=ih (fun h hh=>hf h (List.mem_cons_of_mem _ hh)) (a+((bodyL x).length+8))
  have e:its a (recs (x::l))=(a,(bodyL x).length+8,bodyL x)::its (a+((bodyL x).length+8)) (recs l):=by
   simp only[recs,List.map_cons,its]
   rw[if_pos (by omega)]
  rw[e]
  refine⟨?_,by simp only[List.length_cons,h1.2]⟩
  simp only[List.map_cons,hintsOf,toS]
  rw[hint_f (bodyL x) (bodyL_bytes x) (by omega)]
  simp only[h1.1,Option.map_some,hint_body_back x hx]
theorem putH_cat (l:List Hi) (size:Int):putH l size=cat (recs l++[endL (cat (recs l)) (l.length:Int) size]):=by
 rw[cat_append]
 simp only[putH,cat,List.append_nil]
theorem recs_bytes (l:List Hi):AllBytes (recs l):=by
 intro x hx
 obtain⟨h,_,rfl⟩:=List.mem_map.1 hx
 exact bodyL_bytes h
theorem putH_bytes (l:List Hi) (size:Int):IsBytes (putH l size):=(cat_bytes _ (recs_bytes l)).append (put_bytes _ (endL_bytes _ _ _))
theorem putH_len (l:List Hi) (size:Int) (hr:rightL l=true):(putH l size).length≤79*l.length+21:=by
 have h1:=cat_len (recs l)
 have h2:=recs_len l (fun h hh=>right_fine hr hh)
 have h3:=(put_end (cat (recs l)) (l.length:Int) size).2
 have h4:(recs l).length=l.length:=List.length_map _
 simp only[putH,List.length_append]
 omega
theorem getR_last (l:List Int) (a:Int) (J:List Itm) (x:Itm) (e:Int) (ha:0≤a∧a≤1073741824) (hx:x.1≤l.length):
  getR l a (List.map toS (J++[x]),0,e,0)=match hintsOf (J.map toS) with
   | none=>some ([],false)
   | some out=>some (if rightL out=true∧bytes_Equal.f x.2.2 (endL (l.take x.1) (out.length:Int) a)=some true then(out,true) else([],false)):=by
 have hlen2:(List.map toS (J++[x])).length=J.length+1:=by simp
 have hlast:rdI (List.map toS (J++[x])) (J.length+1 - 1)=toS x:=by
  rw[← rdI_at _ _ (by rw[hlen2];omega)]
  simp
 have htake:(List.map toS (J++[x])).take (J.length+1 - 1)=List.map toS J:=by
  rw[List.map_append,List.take_left' (by rw[List.length_map];omega)]
 unfold getR
 simp only[hlen2]
 rw[hlast,htake,if_neg (by
  rintro (h | h | h | h)
  ·exact h rfl
  ·exact absurd h (by decide)
  ·omega
  ·exact h ha)]
 cases hintsOf (J.map toS) with
 | none=>rfl
 | some out=>
  have hc:0≤(toS x).f0∧(toS x).f0≤(l.length:Int):=⟨Int.natCast_nonneg _,Int.ofNat_le.2 hx⟩
  have ht:(toS x).f0.toNat=x.1:=Int.toNat_natCast _
  show(if 0≤(toS x).f0∧(toS x).f0≤(l.length:Int) then _ else _)=_
  rw[if_pos hc,ht]
  rfl
theorem getR_no (l:List Int) (a:Int) (r:List It×Int×Int×Int) (h:r.2.2.2≠0∨r.2.1 > 0∨r.1.length=0∨¬(0≤a∧a≤1073741824)):getR l a r=some ([],false):=by
 unfold getR
 rw[if_pos h]
theorem get_put (l:List Hi) (size o:Int) (hr:rightL l=true) (h0:0≤size) (h1:size≤1073741824) (hm:l.length≤1000000):
  hint_Get.f (putH l size) o=some (if o=size then(l,true) else([],false)):=by
 have hf:∀h∈l,fineH h=true:=fun h hh=>right_fine hr hh
 have hl:=putH_len l size hr
 have hsc:=scan_whole (recs l++[endL (cat (recs l)) (l.length:Int) size])
 rw[← putH_cat,its_append] at hsc
 have e1:its (0+(cat (recs l)).length) [endL (cat (recs l)) (l.length:Int) size]=[((cat (recs l)).length,21,endL (cat (recs l)) (l.length:Int) size)]:=by
  simp only[its,endL_len,Nat.zero_add]
  rfl
 rw[e1] at hsc
 have hall:=all_of _ (putH_bytes l size) (by omega) hsc
 obtain⟨i1,i2⟩:=its_recs l hf 0
 unfold hint_Get.f
 rw[hall,Option.bind_some]
 have hlen:(List.map toS (its 0 (recs l)++[((cat (recs l)).length,21,endL (cat (recs l)) (l.length:Int) size)])).length=l.length+1:=by
  rw[List.length_map,List.length_append,i2];rfl
 rw[if_pos (by show(List.map toS _).length≤_;rw[hlen];omega)]
 have hcl:(cat (recs l)).length≤(putH l size).length:=by simp only[putH,List.length_append];omega
 have htk:(putH l size).take (cat (recs l)).length=cat (recs l):=by unfold putH;exact List.take_left' rfl
 by_cases ho:0≤o∧o≤1073741824
 ·have:=getR_last (putH l size) o (its 0 (recs l)) ((cat (recs l)).length,21,endL (cat (recs l)) (l.length:Int) size) (((putH l size).length:Nat):Int) ho hcl
  rw[i1] at this
  refine this.trans ?_
  simp only[htk]
  by_cases h:o=size
  ·subst h
   rw[if_pos ⟨hr,(equal_iff (endL_bytes _ _ _) (endL_bytes _ _ _)).2 rfl⟩,if_pos rfl]
  ·rw[if_neg (fun hh=>h (end_inj _ _ _ _ h0 h1 ho.1 ho.2 ((equal_iff (endL_bytes _ _ _) (endL_bytes _ _ _)).1 hh.2)).symm),if_neg h]
 ·rw[getR_no _ _ _ (Or.inr (Or.inr (Or.inr ho))),if_neg (by rintro rfl;exact ho ⟨h0,h1⟩)]

end Go.Proofs.YteccdnejnbkbiaaGreat.Hu
end

section
namespace Go.Proofs.YteccdnejnbkbiaaGreat.HrA
open Go.ChangeShapes Go.WideShapes Go.RowKit Go.Deep YteccdnejnbkbiaaGreatW.PrintWords Fr Go.Proofs.YteccdnejnbkbiaaGreat.Pure Pt Hn

section
variable {H:Type} {enc:TypeId×Value→H} {P:Program} {W:World} {base:Nat} {held:Bool}
def Opens {α:Type} (enc:TypeId×Value→H) (P:Program) (W:World) (base:Nat) (held:Bool) (t:TypeId) (k:Kd α) (Q:α→Prop):Prop:=
 ∀(fuel:Nat) (cs:List Value) (x:DataW H×List MemPlace),DataW.trod enc P W base (fun _=>true) held fuel t cs=some x→∃a,k.K W a cs∧Q a
theorem exists_list {α:Type} {p:Nat→α→Prop}:∀(n:Nat),(∀i,i < n→∃a,p i a)→∃l:List α,l.length=n∧∀i a,l[i]? =some a→p i a
 | 0,_=>⟨[],rfl,fun i a h=>by simp at h⟩
 | n+1,h=>by
  obtain⟨l,hl,hp⟩:=exists_list n (fun i hi=>h i (by omega))
  obtain⟨a,ha⟩:=h n (by omega)
  refine⟨l++[a],by simp [hl],fun i b hb=>?_⟩
  by_cases hi:i < l.length
  ·rw[List.getElem?_append_left hi] at hb
   exact hp i b hb
  ·rw[List.getElem?_append_right (by omega)] at hb
   by_cases h1:i - l.length=0
   ·rw[h1] at hb
    have:i=n:=by omega
    subst this
    cases hb
    exact ha
   ·rw[List.getElem?_eq_none (by simp;omega)] at hb
    cases hb
theorem opens_int {t:TypeId} {k:IntKind} (ht:P.underlying t=some (.int k)):Opens enc P W base held t (Kd.int k) (fun z=>(Lit.int k z).wf=true):=by
 intro fuel cs x h
 obtain⟨n,rfl,_,hw⟩:=DataW.trod_int ht h
 exact⟨n,rfl,hw⟩
theorem opens_string {t:TypeId} (ht:P.underlying t=some .string):Opens enc P W base held t Kd.string (fun z=>z.size≤maxLen):=by
 intro fuel cs x h
 obtain⟨n,rfl,_,hw⟩:=DataW.trod_string ht h
 exact⟨n,rfl,hw⟩
theorem opens_row {α:Type} {t e:TypeId} {k:Kd α} {Q:α→Prop} (ht:P.underlying t=some (.slice e)) (ce:P.cellsOf e=k.sz) (he:Opens enc P W base held e k Q)
  {fuel:Nat} {a:Option Addr} {len cap:Nat} {x:DataW H×List MemPlace} (h:DataW.trod enc P W base (fun _=>true) held fuel t [.slice a len cap]=some x):
  ∃l:List α,l.length=len∧len≤cap∧cap≤maxLen∧k.C W a len l∧∀y∈l,Q y:=by
 rcases open_slice ht h with⟨hcs,_⟩ | ⟨b,l,c,m,n,D,Pl,hcs,_,hl,hm,hmm,_,hx⟩
 ·simp at hcs
  obtain⟨rfl,rfl,rfl⟩:=hcs
  exact⟨[],rfl,Nat.le_refl _,Nat.zero_le _,⟨rfl,Nat.zero_le _,fun h=>absurd h (by omega)⟩,fun l hl=>by cases hl⟩
 ·simp at hcs
  obtain⟨rfl,rfl,rfl⟩:=hcs
  have hlm:len≤m:=by rw[hmm];split <;> omega
  obtain⟨L,hL,hp⟩:=exists_list (p:=fun i y=>(∃cs',cs'.length=k.sz∧k.K W y cs'∧∀j u,cs'[j]? =some u→W.cell? (b.add (i*k.sz+j))=some u)∧Q y) len (fun i hi=>by
   obtain⟨cs',h1,h2⟩:=hx i (by omega)
   rw[ce] at h1
   obtain⟨_,hlen,hcell⟩:=World.cells?_some h1
   obtain⟨y,hK,hQ⟩:=he _ _ _ h2
   refine⟨y,⟨cs',k.K_len hK,hK,fun j u hj=>?_⟩,hQ⟩
   have hj2:=(List.getElem?_eq_some_iff.1 hj).1
   have:=hcell j (by omega)
   rw[Deep.add_add] at this
   rw[this,hj])
  refine⟨L,hL,hl,hm,⟨hL,?_,fun _=>⟨b,rfl,fun j p hj=>(hp j p hj).1⟩⟩,fun y hy=>?_⟩
  ·have:maxLen=9223372036854775807:=rfl
   omega
  ·obtain⟨i,hi,rfl⟩:=List.getElem_of_mem hy
   exact(hp i _ (List.getElem?_eq_getElem hi)).2
theorem opens_slice {α:Type} {t e:TypeId} {k:Kd α} {Q:α→Prop} (ht:P.underlying t=some (.slice e)) (ce:P.cellsOf e=k.sz) (he:Opens enc P W base held e k Q) (z:Nat):
  Opens enc P W base held t (Kd.slice z k) (fun l=>∀y∈l,Q y):=by
 intro fuel cs x h
 have h':=h
 rcases open_slice ht h with⟨hcs,_⟩ | ⟨b,l,c,m,n,D,Pl,hcs,_⟩
 ·subst hcs
  obtain⟨l,h1,h2,h3,h4,h5⟩:=opens_row ht ce he h'
  exact⟨l,⟨_,_,by rw[h1],by rw[h1];exact h2,by rw[h1];exact h4⟩,h5⟩
 ·subst hcs
  obtain⟨l,h1,h2,h3,h4,h5⟩:=opens_row ht ce he h'
  exact⟨l,⟨_,_,by rw[h1],by rw[h1];exact h2,by rw[h1];exact h4⟩,h5⟩
end
theorem of3 {α:Type} {l:List α} (h:l.length=3):∃a b c,l=[a,b,c]:=by
 match l,h with
 | [a,b,c],_=>exact⟨_,_,_,rfl⟩
theorem of7 {α:Type} {l:List α} (h:l.length=7):∃a b c d e f g,l=[a,b,c,d,e,f,g]:=by
 match l,h with
 | [a,b,c,d,e,f,g],_=>exact⟨_,_,_,_,_,_,_,rfl⟩
def OkLoc (h:S95):Prop:=(Lit.int .i64 h.f0).wf=true∧(Lit.int .i64 h.f1).wf=true∧(Lit.int .i64 h.f2).wf=true
def OkRec (r:S35):Prop:=(Lit.int .i64 r.f0).wf=true∧r.f1.size≤maxLen∧(Lit.int .i64 r.f2).wf=true∧(Lit.int .i64 r.f3).wf=true∧(Lit.int .i64 r.f4).wf=true∧(∀y∈r.f5,OkLoc y)∧∀y∈r.f6,(Lit.int .u8 y).wf=true
section
variable {H:Type} {enc:TypeId×Value→H} {W:World} {base:Nat} {held:Bool}
theorem opens_loc:Opens enc Tryz.prog W base held 95 k95 OkLoc:=by
 intro fuel cs x h
 obtain⟨xs,n,_,_,hl,hxl,hf⟩:=DataW.trod_struct Tryz.underlying95 h
 have hl:cs.length=3:=by rw[hl];kernel_rfl
 obtain⟨y0,y1,y2,rfl⟩:=of3 hxl
 obtain⟨v0,v1,v2,rfl⟩:=of3 hl
 have ho:=hl
 have g0:=hf 0 _ rfl
 have g1:=hf 1 _ rfl
 have g2:=hf 2 _ rfl
 have ci:Tryz.prog.cellsOf 3=1:=by kernel_rfl
 simp [ci] at g0 g1 g2
 obtain⟨a0,k0,q0⟩:=opens_int Tryz.underlying3 _ _ _ g0
 obtain⟨a2,k2,q2⟩:=opens_int Tryz.underlying3 _ _ _ g1
 obtain⟨a3,k3,q3⟩:=opens_int Tryz.underlying3 _ _ _ g2
 cases k0;cases k2;cases k3
 exact⟨⟨a0,a2,a3⟩,k95_mk _ _,q0,q2,q3⟩
theorem opens_rec:Opens enc Tryz.prog W base held 35 k35 OkRec:=by
 intro fuel cs x h
 obtain⟨xs,n,_,_,hl,hxl,hf⟩:=DataW.trod_struct Tryz.underlying35 h
 have hl:cs.length=7:=by rw[hl];kernel_rfl
 obtain⟨y0,y1,y2,y3,y4,y5,y6,rfl⟩:=of7 hxl
 obtain⟨v0,v1,v2,v3,v4,v5,v6,rfl⟩:=of7 hl
 have ho:=hl
 have g0:=hf 0 _ rfl
 have g1:=hf 1 _ rfl
 have g2:=hf 2 _ rfl
 have g3:=hf 3 _ rfl
 have g4:=hf 4 _ rfl
 have g5:=hf 5 _ rfl
 have g6:=hf 6 _ rfl
 have ci:Tryz.prog.cellsOf 3=1:=by kernel_rfl
 have cs':Tryz.prog.cellsOf 9=1:=by kernel_rfl
 have c64:Tryz.prog.cellsOf 2=1:=by kernel_rfl
 have cl:Tryz.prog.cellsOf 32=1:=by kernel_rfl
 have cb:Tryz.prog.cellsOf 33=1:=by kernel_rfl
 simp [ci,cs',cl,cb,c64] at g0 g1 g2 g3 g4 g5 g6
 obtain⟨a0,k0,q0⟩:=opens_int Tryz.underlying3 _ _ _ g0
 obtain⟨a1,k1,q1⟩:=opens_string Tryz.underlying9 _ _ _ g1
 obtain⟨a2,k2,q2⟩:=opens_int Tryz.underlying2 _ _ _ g2
 obtain⟨a3,k3,q3⟩:=opens_int Tryz.underlying3 _ _ _ g3
 obtain⟨a4,k4,q4⟩:=opens_int Tryz.underlying3 _ _ _ g4
 obtain⟨a5,⟨A5,c5,e5,l5,K5⟩,q5⟩:=opens_slice Tryz.underlying32 (by kernel_rfl) opens_loc 95 _ _ _ g5
 obtain⟨a6,⟨A6,c6,e6,l6,K6⟩,q6⟩:=opens_slice Tryz.underlying33 (by kernel_rfl) (opens_int Tryz.underlying5) 5 _ _ _ g6
 cases k0;cases k1;cases k2;cases k3;cases k4;cases e5;cases e6
 exact⟨⟨a0,a1,a2,a3,a4,a5,a6⟩,k35_mk _ ⟨a0,a1,a2,a3,a4,a5,a6⟩ l5 K5 l6 K6,q0,q1,q2,q3,q4,q5,q6⟩
end
end Go.Proofs.YteccdnejnbkbiaaGreat.HrA
end
end
section
namespace Go.Proofs.YteccdnejnbkbiaaGreat.Lg
open Go.RowKit Go.Maps Fr Ext Go.Proofs.YteccdnejnbkbiaaGreat.Nm Dk Mn YteccdnejnbkbiaaGreatW.PrintWords YteccdnejnbkbiaaGreatW.PrintLast YteccdnejnbkbiaaGreatW.PrintMore
open Sg (segN segN_le segN_ascii)
open Rc (Re Lo zeroR recC)

variable {w w' w1:World} {B l g N:Nat} {M M':DiskM} {F F' G:Nat→Prop} {S S':LogS}
def hc1T:Bool×List (List Nat×List Nat):=(true,[([],[]),([0],[0]),([1],[1]),([2],[2]),([],[]),([4],[4]),([3,5,5],[3,5]),([6,6,0,1,2,3,4,5,6],[6])])
def hc1B:List Nat:=[0,1,3,7,0,16,63,127]
theorem hc1tab:rtab .any (opsOf Tryz.f78 1)=hc1T:=by kernel_rfl
theorem hc1bits:waitsOk hc1T.2 hc1B=true:=by kernel_rfl
def hs1T:Bool×List (List Nat×List Nat):=(true,[([],[]),([0],[0]),([1],[1]),([2],[2]),([],[]),([4],[4]),([3,5,5],[3,5]),([6,6,0,1,2,3,4,5,6],[6])])
def hs1B:List Nat:=[0,1,3,7,0,16,63,127]
theorem hs1tab:rtab .any (opsOf Tryz.f80 1)=hs1T:=by kernel_rfl
theorem hs1bits:waitsOk hs1T.2 hs1B=true:=by kernel_rfl
def ha1T:Bool×List (List Nat×List Nat):=(true,[([],[]),([0],[0]),([1],[1]),([2],[2]),([],[]),([4],[4]),([],[]),([3,5,6,5],[3,5,6]),([7,7,0,1,2,3,4,5,6,7],[7])])
def ha1B:List Nat:=[0,1,3,7,0,16,0,127,255]
theorem ha1tab:rtab .any (opsOf Tryz.f79 1)=ha1T:=by kernel_rfl
theorem ha1bits:waitsOk ha1T.2 ha1B=true:=by kernel_rfl
theorem hcreate_calls (lb nb:Nat) (n:Int) (hd:DiskAt w B g N M F) (hN:N < 1000000000000) (h:LogO w B l g F S) (x0:w.cell? ⟨lb,0,none⟩=some (ptr l)) (x1:w.cell? ⟨nb,0,none⟩=some (.int .i64 n)):
  Calls Tryz.prog 78 #[.pointer (some ⟨lb,0,none⟩),.pointer (some ⟨nb,0,none⟩)] w fun e w'=>e=.returned (.int .i64 (createM M (hintN n)).2)∧Turned w w' B g (N+1) F (createM M (hintN n)).1:=by
 obtain⟨⟨A,c,h1,h2,h3⟩,hs,ha⟩:=h
 have x2:=bq h1 0 (ptr g)
 have HC:=ak (fun W (hW:RowKit.Below w.heap.size w W)=>(hd.below hW).create? (hintN n) (hintN_le n) hN)
 clear h1 h2 h3 hs ha hd hN
 go_enter Tryz.func78,Tryz.ntmps78
 go_upto_region 1 with(fail)
 refine st_ 8 (S:=(fun w'=>RowKit.Below w.heap.size w w')) (ds:=[6]) (by kernel_rfl) rfl (by kernel_rfl) (RowKit.Below.refl _ _).drew (fun hHeld=>?_);refine with_tabW hc1tab hc1bits (fun HT_ HW_=>?_)
 generalize w.drew=w1 at hHeld ⊢
 refine tk_ 0 1 (N:=some 3) (v:=?_) (a':=?_) HT_ HW_ rfl rfl (.inl ⟨by rfl,?_⟩) hHeld ?_ ?_
 rotate_left
 ·rintro w' hs
  have xx:=pw_cell_below hs x0
  go_simp
  with_reducible rfl
 rotate_left
 ·simp only[Act.put,zq1,zq2,zq3,i64_w,i32_w]
  rfl
 refine fl_ [1,4,3,2,5,7] ?_
 iterate 2 (refine pq_ (v:=?_) (a':=?_) HT_ rfl rfl (.inl ⟨by rfl,?_⟩) ?_ ?_;rotate_left;(focus intro w';go_simp;with_reducible rfl);rotate_left;(focus simp only[Act.put,zq1,zq2,zq3,i64_w,i32_w];rfl))
 refine fe_ ?_
 refine tk_ 3 15 (N:=some 6) (v:=?_) (a':=?_) HT_ HW_ rfl rfl (.inl ⟨by rfl,?_⟩) hHeld ?_ ?_
 rotate_left
 ·rintro w' hs
  have xx:=pw_cell_below hs x2
  go_simp
  with_reducible rfl
 rotate_left
 ·simp only[Act.put,zq1,zq2,zq3,i64_w,i32_w]
  rfl
 refine tk_ 4 31 (N:=some 7) (v:=?_) (a':=?_) HT_ HW_ rfl rfl (.inl ⟨by rfl,?_⟩) hHeld ?_ ?_
 rotate_left
 ·rintro w' hs
  have xx:=pw_cell_below hs x1
  go_simp
  with_reducible rfl
 rotate_left
 ·simp only[Act.put,zq1,zq2,zq3,i64_w,i32_w]
  rfl
 refine on_ 5 63 (some 8) HT_ rfl rfl (by kernel_rfl) (by decide) (fun K hK=>?_)
 refine goes_ Tryz.func37 (by kernel_rfl) rfl #[.int .i64 n] (by rfl) rfl rfl (by(try simp only[List.map_toArray,List.map_cons,List.map_nil]);first | done | rfl) ?_
 refine(hints_calls n _).mono ?_
 rintro e w2 ⟨rfl,hb⟩
 refine⟨_,rfl,?_⟩
 have hHeld:=hHeld.trans (hb.mono hHeld.size)
 refine kn_ (a':=?_) hK hHeld ?_ fun hHeld=>?_
 rotate_left;(focus simp only[Act.put,zq1,zq2,zq3,i64_w,i32_w];rfl);clear hK K
 clear hb
 refine la_ 6 127 (some 9) HT_ rfl rfl (by kernel_rfl) (by decide) (fun K hK=>?_)
 refine goes_ Tryz.func64 (by kernel_rfl) rfl #[.pointer (some ⟨g,0,none⟩),.string (hintN n)] (by rfl) rfl rfl (by(try simp only[List.map_toArray,List.map_cons,List.map_nil]);first | done | rfl) ?_
 refine(HC.out w2 hHeld).mono ?_
 rintro e w3 ⟨rfl,h3⟩
 refine⟨_,rfl,?_⟩
 refine hK.out _ _ ?_
 clear hK K
 refine norm_ (a':=?_) ?_ ?_
 rotate_left
 ·show Act.put _ (some 9) _=_
  simp only[Act.put,zq1,zq2,zq3,i64_w,i32_w]
  rfl
 refine fl_ [7,2,255] ?_
 (refine pq_ (v:=?_) (a':=?_) HT_ rfl rfl (.inl ⟨by rfl,?_⟩) ?_ ?_;rotate_left;(focus intro w';go_simp;with_reducible rfl);rotate_left;(focus simp only[Act.put,zq1,zq2,zq3,i64_w,i32_w];rfl))
 refine fe_ ?_
 have H3:=ak (Turned.after (Keeps.of_below hHeld) h3)
 clear hHeld h3
 refine done_ (done_of HT_.out (by kernel_rfl)) ?_
 go_wp2
 go_ret
 exact⟨rfl,H3.out⟩
theorem hsync_calls (lb nb:Nat) (n:Int) (hd:DiskAt w B g N M F) (h:LogO w B l g F S) (x0:w.cell? ⟨lb,0,none⟩=some (ptr l)) (x1:w.cell? ⟨nb,0,none⟩=some (.int .i64 n)):
  Calls Tryz.prog 80 #[.pointer (some ⟨lb,0,none⟩),.pointer (some ⟨nb,0,none⟩)] w fun e w'=>e=.returned (.int .i64 (syncM M (hintN n)).2)∧Turned w w' B g N F (syncM M (hintN n)).1:=by
 obtain⟨⟨A,c,h1,h2,h3⟩,hs,ha⟩:=h
 have x2:=bq h1 0 (ptr g)
 have HC:=ak (fun W (hW:RowKit.Below w.heap.size w W)=>(hd.below hW).sync? (hintN n) (hintN_le n))
 clear h1 h2 h3 hs ha hd
 go_enter Tryz.func80,Tryz.ntmps80
 go_upto_region 1 with(fail)
 refine st_ 8 (S:=(fun w'=>RowKit.Below w.heap.size w w')) (ds:=[6]) (by kernel_rfl) rfl (by kernel_rfl) (RowKit.Below.refl _ _).drew (fun hHeld=>?_);refine with_tabW hs1tab hs1bits (fun HT_ HW_=>?_)
 generalize w.drew=w1 at hHeld ⊢
 refine tk_ 0 1 (N:=some 3) (v:=?_) (a':=?_) HT_ HW_ rfl rfl (.inl ⟨by rfl,?_⟩) hHeld ?_ ?_
 rotate_left
 ·rintro w' hs
  have xx:=pw_cell_below hs x0
  go_simp
  with_reducible rfl
 rotate_left
 ·simp only[Act.put,zq1,zq2,zq3,i64_w,i32_w]
  rfl
 refine fl_ [1,4,3,2,5,7] ?_
 iterate 2 (refine pq_ (v:=?_) (a':=?_) HT_ rfl rfl (.inl ⟨by rfl,?_⟩) ?_ ?_;rotate_left;(focus intro w';go_simp;with_reducible rfl);rotate_left;(focus simp only[Act.put,zq1,zq2,zq3,i64_w,i32_w];rfl))
 refine fe_ ?_
 refine tk_ 3 15 (N:=some 6) (v:=?_) (a':=?_) HT_ HW_ rfl rfl (.inl ⟨by rfl,?_⟩) hHeld ?_ ?_
 rotate_left
 ·rintro w' hs
  have xx:=pw_cell_below hs x2
  go_simp
  with_reducible rfl
 rotate_left
 ·simp only[Act.put,zq1,zq2,zq3,i64_w,i32_w]
  rfl
 refine tk_ 4 31 (N:=some 7) (v:=?_) (a':=?_) HT_ HW_ rfl rfl (.inl ⟨by rfl,?_⟩) hHeld ?_ ?_
 rotate_left
 ·rintro w' hs
  have xx:=pw_cell_below hs x1
  go_simp
  with_reducible rfl
 rotate_left
 ·simp only[Act.put,zq1,zq2,zq3,i64_w,i32_w]
  rfl
 refine on_ 5 63 (some 8) HT_ rfl rfl (by kernel_rfl) (by decide) (fun K hK=>?_)
 refine goes_ Tryz.func37 (by kernel_rfl) rfl #[.int .i64 n] (by rfl) rfl rfl (by(try simp only[List.map_toArray,List.map_cons,List.map_nil]);first | done | rfl) ?_
 refine(hints_calls n _).mono ?_
 rintro e w2 ⟨rfl,hb⟩
 refine⟨_,rfl,?_⟩
 have hHeld:=hHeld.trans (hb.mono hHeld.size)
 refine kn_ (a':=?_) hK hHeld ?_ fun hHeld=>?_
 rotate_left;(focus simp only[Act.put,zq1,zq2,zq3,i64_w,i32_w];rfl);clear hK K
 clear hb
 refine la_ 6 127 (some 9) HT_ rfl rfl (by kernel_rfl) (by decide) (fun K hK=>?_)
 refine goes_ Tryz.func68 (by kernel_rfl) rfl #[.pointer (some ⟨g,0,none⟩),.string (hintN n)] (by rfl) rfl rfl (by(try simp only[List.map_toArray,List.map_cons,List.map_nil]);first | done | rfl) ?_
 refine(HC.out w2 hHeld).mono ?_
 rintro e w3 ⟨rfl,h3⟩
 refine⟨_,rfl,?_⟩
 refine hK.out _ _ ?_
 clear hK K
 refine norm_ (a':=?_) ?_ ?_
 rotate_left
 ·show Act.put _ (some 9) _=_
  simp only[Act.put,zq1,zq2,zq3,i64_w,i32_w]
  rfl
 refine fl_ [7,2,255] ?_
 (refine pq_ (v:=?_) (a':=?_) HT_ rfl rfl (.inl ⟨by rfl,?_⟩) ?_ ?_;rotate_left;(focus intro w';go_simp;with_reducible rfl);rotate_left;(focus simp only[Act.put,zq1,zq2,zq3,i64_w,i32_w];rfl))
 refine fe_ ?_
 have H3:=ak (Turned.after (Keeps.of_below hHeld) h3)
 clear hHeld h3
 refine done_ (done_of HT_.out (by kernel_rfl)) ?_
 go_wp2
 go_ret
 exact⟨rfl,H3.out⟩
theorem happend_calls (lb nb bb:Nat) (n:Int) (bs:List Int) (A6:Option Addr) (c6:Nat) (hd:DiskAt w B g N M F) (hM:Fit M) (h:LogO w B l g F S) (x0:w.cell? ⟨lb,0,none⟩=some (ptr l)) (x1:w.cell? ⟨nb,0,none⟩=some (.int .i64 n)) (x3:w.cell? ⟨bb,0,none⟩=some (.slice A6 bs.length c6))
  (hl:bs.length≤1000000000) (hbs:∀W,Keeps F w W→Kd.C (Kd.int .u8) W A6 bs.length bs):
  Calls Tryz.prog 79 #[.pointer (some ⟨lb,0,none⟩),.pointer (some ⟨nb,0,none⟩),.pointer (some ⟨bb,0,none⟩)] w fun e w'=>e=.returned (.int .i64 (appendM M (hintN n) bs).2)∧Turned w w' B g N F (appendM M (hintN n) bs).1:=by
 obtain⟨⟨A,c,h1,h2,h3⟩,hs,ha⟩:=h
 have x2:=bq h1 0 (ptr g)
 have HC:=ak (fun W (hW:RowKit.Below w.heap.size w W)=>(hd.below hW).append? (hintN n) A6 c6 bs (hintN_le n) hM.len hl (fun W' hW'=>hbs W' ((Keeps.of_below hW).trans hW')))
 clear h1 h2 h3 hs ha hd hM hl hbs
 go_enter Tryz.func79,Tryz.ntmps79
 go_upto_region 1 with(fail)
 refine st_ 9 (S:=(fun w'=>RowKit.Below w.heap.size w w')) (ds:=[7]) (by kernel_rfl) rfl (by kernel_rfl) (RowKit.Below.refl _ _).drew (fun hHeld=>?_);refine with_tabW ha1tab ha1bits (fun HT_ HW_=>?_)
 generalize w.drew=w1 at hHeld ⊢
 refine tk_ 0 1 (N:=some 4) (v:=?_) (a':=?_) HT_ HW_ rfl rfl (.inl ⟨by rfl,?_⟩) hHeld ?_ ?_
 rotate_left
 ·rintro w' hs
  have xx:=pw_cell_below hs x0
  go_simp
  with_reducible rfl
 rotate_left
 ·simp only[Act.put,zq1,zq2,zq3,i64_w,i32_w]
  rfl
 refine fl_ [1,5,3,2,6,7] ?_
 iterate 2 (refine pq_ (v:=?_) (a':=?_) HT_ rfl rfl (.inl ⟨by rfl,?_⟩) ?_ ?_;rotate_left;(focus intro w';go_simp;with_reducible rfl);rotate_left;(focus simp only[Act.put,zq1,zq2,zq3,i64_w,i32_w];rfl))
 refine fe_ ?_
 refine tk_ 3 15 (N:=some 7) (v:=?_) (a':=?_) HT_ HW_ rfl rfl (.inl ⟨by rfl,?_⟩) hHeld ?_ ?_
 rotate_left
 ·rintro w' hs
  have xx:=pw_cell_below hs x2
  go_simp
  with_reducible rfl
 rotate_left
 ·simp only[Act.put,zq1,zq2,zq3,i64_w,i32_w]
  rfl
 refine tk_ 4 31 (N:=some 8) (v:=?_) (a':=?_) HT_ HW_ rfl rfl (.inl ⟨by rfl,?_⟩) hHeld ?_ ?_
 rotate_left
 ·rintro w' hs
  have xx:=pw_cell_below hs x1
  go_simp
  with_reducible rfl
 rotate_left
 ·simp only[Act.put,zq1,zq2,zq3,i64_w,i32_w]
  rfl
 refine tk_ 6 95 (N:=some 10) (v:=?_) (a':=?_) HT_ HW_ rfl rfl (.inl ⟨by rfl,?_⟩) hHeld ?_ ?_
 rotate_left
 ·rintro w' hs
  have xx:=pw_cell_below hs x3
  go_simp
  with_reducible rfl
 rotate_left
 ·simp only[Act.put,zq1,zq2,zq3,i64_w,i32_w]
  rfl
 refine on_ 5 127 (some 9) HT_ rfl rfl (by kernel_rfl) (by decide) (fun K hK=>?_)
 refine goes_ Tryz.func37 (by kernel_rfl) rfl #[.int .i64 n] (by rfl) rfl rfl (by(try simp only[List.map_toArray,List.map_cons,List.map_nil]);first | done | rfl) ?_
 refine(hints_calls n _).mono ?_
 rintro e w2 ⟨rfl,hb⟩
 refine⟨_,rfl,?_⟩
 have hHeld:=hHeld.trans (hb.mono hHeld.size)
 refine kn_ (a':=?_) hK hHeld ?_ fun hHeld=>?_
 rotate_left;(focus simp only[Act.put,zq1,zq2,zq3,i64_w,i32_w];rfl);clear hK K
 clear hb
 refine la_ 7 255 (some 11) HT_ rfl rfl (by kernel_rfl) (by decide) (fun K hK=>?_)
 refine goes_ Tryz.func56 (by kernel_rfl) rfl #[.pointer (some ⟨g,0,none⟩),.string (hintN n),.slice A6 bs.length c6] (by rfl) rfl rfl (by(try simp only[List.map_toArray,List.map_cons,List.map_nil]);first | done | rfl) ?_
 refine(HC.out w2 hHeld).mono ?_
 rintro e w3 ⟨rfl,h3⟩
 refine⟨_,rfl,?_⟩
 refine hK.out _ _ ?_
 clear hK K
 refine norm_ (a':=?_) ?_ ?_
 rotate_left
 ·show Act.put _ (some 11) _=_
  simp only[Act.put,zq1,zq2,zq3,i64_w,i32_w]
  rfl
 refine fl_ [8,3,511] ?_
 (refine pq_ (v:=?_) (a':=?_) HT_ rfl rfl (.inl ⟨by rfl,?_⟩) ?_ ?_;rotate_left;(focus intro w';go_simp;with_reducible rfl);rotate_left;(focus simp only[Act.put,zq1,zq2,zq3,i64_w,i32_w];rfl))
 refine fe_ ?_
 have H3:=ak (Turned.after (Keeps.of_below hHeld) h3)
 clear hHeld h3
 refine done_ (done_of HT_.out (by kernel_rfl)) ?_
 go_wp2
 go_ret
 exact⟨rfl,H3.out⟩
end Go.Proofs.YteccdnejnbkbiaaGreat.Lg
end
section
namespace Go.Proofs.YteccdnejnbkbiaaGreat.Lg
open Go.RowKit Go.Maps Fr Ext Go.Proofs.YteccdnejnbkbiaaGreat.Nm Dk Mn YteccdnejnbkbiaaGreatW.PrintWords YteccdnejnbkbiaaGreatW.PrintLast YteccdnejnbkbiaaGreatW.PrintMore
open Sg (segN segN_le segN_ascii It Fo foundsL foundOf allSM)
open Rc (Re Lo zeroR recC Norm Norm.intro Norm.elim)
variable {w w' w1:World} {B l g N:Nat} {M M':DiskM} {F F' G:Nat→Prop} {S S':LogS}
theorem got_key {bs:List Int} (h:(Rc.getM bs).2=true):(Rc.getM bs).1.f1.size≤64:=by
 cases bs with
 | nil=>cases h
 | cons n y=>
  have e0:Rc.getM (n::y)=if Rc.isKind n=true then(if(Rc.ofM {zeroR with f0:=n} y).1=true then(if Rc.rightM (Rc.ofM {zeroR with f0:=n} y).2=true then((Rc.ofM {zeroR with f0:=n} y).2,true) else(zeroR,false)) else(zeroR,false)) else(zeroR,false):=rfl
  rw[e0] at h ⊢
  by_cases hk:Rc.isKind n=true
  case neg=>rw[if_neg hk] at h;cases h
  rw[if_pos hk] at h ⊢
  by_cases ho:(Rc.ofM {zeroR with f0:=n} y).1=true
  case neg=>rw[if_neg ho] at h;cases h
  rw[if_pos ho] at h ⊢
  by_cases hr:Rc.rightM (Rc.ofM {zeroR with f0:=n} y).2=true
  case neg=>rw[if_neg hr] at h;cases h
  rw[if_pos hr]
  show(Rc.ofM {zeroR with f0:=n} y).2.f1.size≤64
  have hb:=Rc.right_bounds hr
  rcases Rc.isKind_cases hk with e | e | e | e
  ·subst e
   show(0:Nat)≤64
   omega
  ·rw[Rc.ofM2 (R:={zeroR with f0:=n}) e] at hb ⊢
   exact(hb.2.2.1 (by rw[(Rc.rootOfM_f0 _ _).1];exact e)).1
  ·rw[Rc.ofM3 (R:={zeroR with f0:=n}) e] at hb ⊢
   exact(hb.2.2.2.1 e).1
  ·rw[Rc.ofM4 (R:={zeroR with f0:=n}) e] at hb ⊢
   exact hb.2.2.2.2 e
theorem founds_keys {l:List It}:∀x∈foundsL l,x.f2.f1.size≤64:=by
 intro x hx
 obtain⟨y,_,hy⟩:=List.mem_filterMap.1 hx
 unfold foundOf at hy
 split at hy
 ·rename_i h
  obtain rfl:=Option.some.inj hy
  exact got_key h
 ·cases hy
theorem scan_nine (l:List Int) (hB:IsBytes l):∀(k a b:Nat) (pre:List Pure.Itm),9*pre.length≤a→a≤l.length→9*(Pure.scanGo k l a b pre).1.length≤l.length
 | 0,a,b,pre,h1,h2=>by simp only[Pure.scanGo];omega
 | k+1,a,b,pre,h1,h2=>by
  obtain⟨xs,kk,e,hf,hk⟩:=Pure.first_kinds (l.drop a) (hB.drop a)
  unfold Pure.scanGo
  rw[hf]
  split
  ·rename_i hlt
   rcases hk with⟨rfl,rfl,_⟩ | ⟨m,rfl,h9,hm,h⟩
   ·rw[if_pos rfl];show 9*pre.length≤l.length;omega
   ·rw[List.length_drop] at hm
    rw[if_neg (by show ¬((m:Int)=0);omega)]
    split
    ·refine scan_nine l hB k _ b _ ?_ ?_
     ·rw[List.length_append,List.length_singleton];simp only[Int.toNat_natCast];omega
     ·simp only[Int.toNat_natCast];omega
    ·refine scan_nine l hB k _ (b+1) pre ?_ ?_
     ·simp only[Int.toNat_natCast];omega
     ·simp only[Int.toNat_natCast];omega
  ·show 9*pre.length≤l.length
   omega
theorem ins_len (x:Pt.S141):∀l,(Hn.insH x l).length≤l.length+1
 | []=>by simp [Hn.insH]
 | a::l=>by
  have:=ins_len x l
  unfold Hn.insH
  split
  ·simp
  split
  ·simp
  ·simp only[List.length_cons];omega
theorem ofGo_len:∀(f:List Fo) (acc:List Pt.S141),(Hn.ofGo f acc).length≤f.length+acc.length
 | [],acc=>by simp [Hn.ofGo]
 | x::f,acc=>by
  have h:=ofGo_len f (if Hn.tellsF x=true then Hn.insH (Hn.hintF x) acc else acc)
  have h2:(if Hn.tellsF x=true then Hn.insH (Hn.hintF x) acc else acc).length≤acc.length+1:=by
   split
   ·exact ins_len _ _
   ·omega
  unfold Hn.ofGo
  simp only[List.length_cons]
  omega
theorem all_founds (hM:Fit M) (n:Int):9*(allSM M n).1.length≤67108864∧∀x∈(allSM M n).1,x.f2.f1.size≤64:=by
 unfold allSM
 split
 ·split
  ·have h0:=readM_fit hM (segN n) 0 (sizeM M (segN n))
   have h1:=scan_nine _ h0.1 ((readM M (segN n) 0 (sizeM M (segN n))).1.length+1) 0 0 [] (by simp) (Nat.zero_le _)
   have h3:=Sg.founds_le (Sg.itemsM (readM M (segN n) 0 (sizeM M (segN n))).1).tail
   rw[List.length_tail] at h3
   have h4:(Sg.itemsM (readM M (segN n) 0 (sizeM M (segN n))).1).length=(Pure.scanGo ((readM M (segN n) 0 (sizeM M (segN n))).1.length+1) (readM M (segN n) 0 (sizeM M (segN n))).1 0 0 []).1.length:=List.length_map _
   exact⟨by show 9*(foundsL _).length≤_;omega,founds_keys⟩
  ·exact⟨by simp,fun x hx=>by cases hx⟩
 ·exact⟨by simp,fun x hx=>by cases hx⟩
def hintB (M:DiskM) (n:Int):List Int:=Hu.putAll (Hn.ofL (allSM M n).1) (sizeM M (segN n))
def hintSteps (n:Int) (bs:List Int):List (DiskM→DiskM×Int):=[fun M=>createM M (hintN n),fun M=>appendM M (hintN n) bs,fun M=>syncM M (hintN n)]
def hintM (M:DiskM) (n:Int):DiskM:=(turnsM (hintSteps n (hintB M n)) M).1
theorem putAll_bytes (l:List Pt.S141) (a:Int):IsBytes (Hu.putAll l a):=by
 unfold Hu.putAll
 split
 ·exact Hu.putH_bytes _ _
 ·intro x hx;cases hx
theorem putAll_len (l:List Pt.S141) (a:Int):(Hu.putAll l a).length≤79*l.length+21:=by
 unfold Hu.putAll
 split
 ·rename_i h
  exact Hu.putH_len l a h.1
 ·simp
theorem hintB_fit (hM:Fit M) (n:Int):IsBytes (hintB M n)∧(hintB M n).length≤1000000000:=by
 refine⟨putAll_bytes _ _,?_⟩
 have h1:=putAll_len (Hn.ofL (allSM M n).1) (sizeM M (segN n))
 have h2:=ofGo_len (allSM M n).1 []
 have h3:=(all_founds hM n).1
 unfold hintB
 have h4:(Hn.ofL (allSM M n).1).length≤(allSM M n).1.length:=h2
 omega
theorem hintSteps_fit (n:Int) (bs:List Int) (hB:IsBytes bs):∀f∈hintSteps n bs,∀M,Fit M→Fit (f M).1:=by
 intro f hf M hM
 simp only[hintSteps,List.mem_cons,List.not_mem_nil,or_false] at hf
 rcases hf with rfl | rfl | rfl
 ·exact hM.create _ (hintN_ascii n)
 ·exact hM.append _ _ hB
 ·exact hM.sync _
theorem hintM_fit (hM:Fit M) (n:Int):Fit (hintM M n):=turnsM_fit _ (hintSteps_fit n _ (hintB_fit hM n).1) M hM
end Go.Proofs.YteccdnejnbkbiaaGreat.Lg
end
section
namespace Go.Proofs.YteccdnejnbkbiaaGreat.Qd
open Go.RowKit Go.Shelf Go.Maps Go.Sort Go.WideShapes Fr Ext Go.Proofs.YteccdnejnbkbiaaGreat.Nm Dk Mn YteccdnejnbkbiaaGreatW.PrintWords YteccdnejnbkbiaaGreatW.PrintLast YteccdnejnbkbiaaGreatW.PrintMore
open Sg (segN segN_le segN_ascii)
open Lg

theorem strOfNums_list (l:List Int):(strOfNums l).data.toList=l.map fun n=>UInt8.ofNat n.toNat:=by simp [strOfNums]
theorem numL_digs:∀k n acc,numL ((digs k n).map fun d=>UInt8.ofNat d) acc=some (acc*10 ^ k+n % 10 ^ k)
 | 0,n,acc=>by simp [digs,numL,Nat.mod_one]
 | k+1,n,acc=>by
  have hd:n / 10 ^ k % 10 < 10:=Nat.mod_lt _ (by decide)
  have e1:(UInt8.ofNat (48+n / 10 ^ k % 10)).toNat=48+n / 10 ^ k % 10:=by
   rw[UInt8.toNat_ofNat']
   omega
  have e2:n % 10 ^ (k+1)=n % 10 ^ k+10 ^ k*(n / 10 ^ k % 10):=by rw[Nat.pow_succ,Nat.mod_mul]
  have e3:(10* acc+n / 10 ^ k % 10)*10 ^ k+n % 10 ^ k=acc*10 ^ (k+1)+n % 10 ^ (k+1):=by
   rw[e2,Nat.pow_succ,Nat.add_mul,Nat.mul_comm (n / 10 ^ k % 10) (10 ^ k),Nat.mul_comm 10 acc,Nat.mul_assoc,Nat.mul_comm 10 (10 ^ k)]
   omega
  simp only[digs,List.map_cons]
  rw[numL_cons,e1,if_pos (by omega),show 48+n / 10 ^ k % 10 - 48=n / 10 ^ k % 10 from by omega,numL_digs k n,e3]
theorem parse_num (c:Nat) (n:Int) (h0:0≤n) (h1:n≤99999999):∃l,(strOfNums (nameL c n.toNat)).data.toList=UInt8.ofNat c::l∧numberM l=some n.toNat∧l.isEmpty=false:=by
 refine⟨(digs 8 n.toNat).map fun d=>UInt8.ofNat d,?_,?_,?_⟩
 ·rw[strOfNums_list]
  simp [nameL]
 ·unfold numberM
  rw[if_pos (by simp [digs_length]),numL_digs,Nat.zero_mul,Nat.zero_add,Nat.mod_eq_of_lt (by omega)]
 ·simp [digs]
theorem parseL_cons (c:UInt8) (l:List UInt8):parseL (c::l)=(if(c==109 && l.isEmpty)=true then(3,0,true) else if(c==116 && l.isEmpty)=true then(4,0,true) else if(numberM l).isSome=true then(if(c==115)=true then(1,((numberM l).getD 0:Nat),true) else if(c==104)=true then(2,((numberM l).getD 0:Nat),true) else(0,0,false)) else(0,0,false):Int×Int×Bool):=rfl
theorem segN_eq {n:Int} (h0:0≤n) (h1:n≤99999999):segN n=strOfNums (nameL 115 n.toNat):=by
 unfold segN nameOf
 rw[if_neg (by omega),if_neg (by omega),if_pos rfl]
theorem hintN_eq {n:Int} (h0:0≤n) (h1:n≤99999999):hintN n=strOfNums (nameL 104 n.toNat):=by
 unfold hintN nameOf
 rw[if_neg (by omega),if_neg (by omega),if_neg (by decide),if_pos rfl]
theorem parse_seg {n:Int} (h0:0≤n) (h1:n≤99999999):parseM (segN n)=(1,n,true):=by
 obtain⟨l,e1,e2,e3⟩:=parse_num 115 n h0 h1
 unfold parseM
 rw[segN_eq h0 h1,e1]
 rw[parseL_cons,e2,e3]
 simp only[Bool.and_false,Option.isSome_some,Option.getD_some]
 rw[show(UInt8.ofNat 115==115)=true from rfl]
 simp
 omega
theorem parse_hint {n:Int} (h0:0≤n) (h1:n≤99999999):parseM (hintN n)=(2,n,true):=by
 obtain⟨l,e1,e2,e3⟩:=parse_num 104 n h0 h1
 unfold parseM
 rw[hintN_eq h0 h1,e1]
 rw[parseL_cons,e2,e3]
 simp only[Bool.and_false,Option.isSome_some,Option.getD_some]
 rw[show(UInt8.ofNat 104==115)=false from rfl,show(UInt8.ofNat 104==104)=true from rfl]
 simp
 omega
theorem parse_man:parseM manN=(3,0,true):=rfl
theorem parse_temp:parseM tempN=(4,0,true):=rfl
theorem segN_inj {n k:Int} (h0:0≤n) (h1:n≤99999999) (k0:0≤k) (k1:k≤99999999):segN n=segN k↔n=k:=by
 constructor
 ·intro e
  have:=congrArg parseM e
  rw[parse_seg h0 h1,parse_seg k0 k1] at this
  exact(Prod.mk.inj (Prod.mk.inj this).2).1
 ·intro e;rw[e]
theorem hintN_inj {n k:Int} (h0:0≤n) (h1:n≤99999999) (k0:0≤k) (k1:k≤99999999):hintN n=hintN k↔n=k:=by
 constructor
 ·intro e
  have:=congrArg parseM e
  rw[parse_hint h0 h1,parse_hint k0 k1] at this
  exact(Prod.mk.inj (Prod.mk.inj this).2).1
 ·intro e;rw[e]
theorem kind_ne {s t:ByteArray} {a b:Int×Int×Bool} (hs:parseM s=a) (ht:parseM t=b) (h:a.1≠b.1):s≠t:=fun e=>h (by rw[← hs,← ht,e])
theorem seg_hint {n k:Int} (h0:0≤n) (h1:n≤99999999) (k0:0≤k) (k1:k≤99999999):segN n≠hintN k:=kind_ne (parse_seg h0 h1) (parse_hint k0 k1) (show(1:Int)≠2 by decide)
theorem seg_man {n:Int} (h0:0≤n) (h1:n≤99999999):segN n≠manN:=kind_ne (parse_seg h0 h1) parse_man (show(1:Int)≠3 by decide)
theorem seg_temp {n:Int} (h0:0≤n) (h1:n≤99999999):segN n≠tempN:=kind_ne (parse_seg h0 h1) parse_temp (show(1:Int)≠4 by decide)
theorem hint_man {n:Int} (h0:0≤n) (h1:n≤99999999):hintN n≠manN:=kind_ne (parse_hint h0 h1) parse_man (show(2:Int)≠3 by decide)
theorem hint_temp {n:Int} (h0:0≤n) (h1:n≤99999999):hintN n≠tempN:=kind_ne (parse_hint h0 h1) parse_temp (show(2:Int)≠4 by decide)
theorem man_temp:manN≠tempN:=kind_ne parse_man parse_temp (by decide)
theorem num_size (c n:Nat):(strOfNums (nameL c n)).size=9:=by
 show(strOfNums (nameL c n)).data.size=9
 rw[← Array.length_toList,strOfNums_list,List.length_map]
 simp [nameL,digs_length]
theorem seg_size {n:Int} (h0:0≤n) (h1:n≤99999999):(segN n).size=9:=by rw[segN_eq h0 h1];exact num_size _ _
theorem seg_right {n:Int} (h0:0≤n) (h1:n≤99999999):rightN (segN n)=true:=by unfold rightN;rw[seg_size h0 h1];rfl
theorem hint_right {n:Int} (h0:0≤n) (h1:n≤99999999):rightN (hintN n)=true:=by unfold rightN;rw[hintN_eq h0 h1,num_size];rfl
theorem man_right:rightN manN=true:=rfl
theorem temp_right:rightN tempN=true:=rfl
theorem man_ascii:Ascii manN:=Sg.nameOf_ascii _ _
theorem temp_ascii:Ascii tempN:=Sg.nameOf_ascii _ _
end Go.Proofs.YteccdnejnbkbiaaGreat.Qd
end
section
namespace Go.Proofs.YteccdnejnbkbiaaGreat.La
open Go.RowKit Go.Maps Fr Ext Pt YteccdnejnbkbiaaGreatW.PrintWords YteccdnejnbkbiaaGreatW.PrintLast YteccdnejnbkbiaaGreatW.PrintMore
open Rc (Re Lo putM toM rightM isKind numB locB locsB rootB)
theorem bytes_app {a b:List Int} (ha:IsBytes a) (hb:IsBytes b):IsBytes (a++b):=fun x hx=>(List.mem_append.1 hx).elim (ha x) (hb x)
theorem numB_bytes (n:Int) (k:Nat):IsBytes (numB n k):=by
 intro x hx
 obtain⟨i,_,rfl⟩:=List.mem_map.1 hx
 exact⟨Int.emod_nonneg _ (by decide),Int.emod_lt_of_pos _ (by decide)⟩
theorem bytesOf_isBytes (s:ByteArray):IsBytes (bytesOf s):=by
 intro x hx
 obtain⟨b,_,rfl⟩:=List.mem_map.1 hx
 have:=b.toNat_lt
 constructor <;> omega
theorem locsB_bytes (ls:List Lo):IsBytes (locsB ls):=by
 intro x hx
 unfold locsB at hx
 obtain⟨l,hl,hx⟩:=List.mem_flatten.1 hx
 obtain⟨y,_,rfl⟩:=List.mem_map.1 hl
 have h:IsBytes (locB y):=by
  unfold locB
  first
   | exact bytes_app (bytes_app (numB_bytes _ _) (numB_bytes _ _)) (numB_bytes _ _)
   | exact bytes_app (numB_bytes _ _) (bytes_app (numB_bytes _ _) (numB_bytes _ _))
 exact h x hx
theorem putM_isBytes (R:Re) (h6:IsBytes R.f6):IsBytes (putM R):=by
 unfold putM
 split
 next h=>
  have hk:isKind R.f0=true:=(Rc.right_bounds h).1
  have h0:0≤R.f0∧R.f0 < 256:=by
   simp only[isKind,Bool.and_eq_true,decide_eq_true_eq] at hk
   omega
  have ht:IsBytes (toM R):=by
   unfold toM
   split
   ·exact bytes_app (bytes_app (numB_bytes _ _) (numB_bytes _ _)) h6
   split
   ·refine bytes_app ?_ (locsB_bytes _)
    unfold rootB
    exact bytes_app (bytes_app (bytes_app (bytes_app (numB_bytes _ _) (bytesOf_isBytes _)) (numB_bytes _ _)) (numB_bytes _ _)) (numB_bytes _ _)
   split
   ·exact bytes_app (bytes_app (numB_bytes _ _) (bytesOf_isBytes _)) h6
   ·exact bytesOf_isBytes _
  intro x hx
  rcases List.mem_cons.1 hx with rfl | hx
  ·exact h0
  ·exact ht x hx
 ·intro x hx
  cases hx
end Go.Proofs.YteccdnejnbkbiaaGreat.La
end
section
namespace Go.Proofs.YteccdnejnbkbiaaGreat.Rc
open Go.RowKit Go.Maps Go.WideShapes Fr Ext Pt YteccdnejnbkbiaaGreatW.PrintWords YteccdnejnbkbiaaGreatW.PrintLast YteccdnejnbkbiaaGreatW.PrintMore

theorem numB_succ (n:Int) (s:Nat):numB n (s+1)=n / 2 ^ (8*s) % 256::numB n s:=by
 unfold numB
 rw[List.range_succ_eq_map,List.map_cons,List.map_map]
 congr 1
 refine List.map_congr_left fun i _=>?_
 rw[Function.comp_apply,show 8*(s+1 - 1 - (i+1))=8*(s - 1 - i) from by omega]
theorem fold_num (k:Nat):∀(s:Nat) (a:Int),(numB (k:Int) s).foldl (fun n c=>n*256+c) a=a*256 ^ s+((k % 256 ^ s:Nat):Int)
 | 0,a=>by simp [numB,Nat.mod_one]
 | s+1,a=>by
  rw[numB_succ,List.foldl_cons,fold_num k s]
  have e1:(2:Nat) ^ (8*s)=256 ^ s:=by rw[Nat.pow_mul]
  have e2:k % 256 ^ (s+1)=k % 256 ^ s+256 ^ s*(k / 256 ^ s % 256):=by rw[Nat.pow_succ,Nat.mod_mul]
  have e3:((k:Int) / 2 ^ (8*s) % 256)=((k / 256 ^ s % 256:Nat):Int):=by
   rw[← e1,show((2:Int) ^ (8*s))=((2 ^ (8*s):Nat):Int) by rw[Int.natCast_pow];rfl,Int.natCast_emod,Int.natCast_ediv]
   rfl
  rw[e2,e3]
  generalize k / 256 ^ s % 256=d
  generalize k % 256 ^ s=q
  have e4:((256:Int) ^ s)=((256 ^ s:Nat):Int):=by rw[Int.natCast_pow];rfl
  have e5:((256:Int) ^ (s+1))=((256 ^ s:Nat):Int)*256:=by rw[Int.pow_succ,e4]
  rw[e5,e4]
  generalize 256 ^ s=p
  push_cast
  rw[Int.add_mul,Int.mul_assoc,Int.mul_comm (256:Int) p,Int.mul_comm (d:Int) p]
  omega
theorem beN_numB {n:Int} (s:Nat) (h0:0≤n) (h1:n < ((256 ^ s:Nat):Int)):beN (numB n s)=n:=by
 obtain⟨k,rfl⟩:=Int.eq_ofNat_of_zero_le h0
 unfold beN
 rw[fold_num,Int.zero_mul,Nat.mod_eq_of_lt (by exact_mod_cast h1)]
 omega
theorem numP_numB {n:Int} (s:Nat) (r:List Int) (h0:0≤n) (h1:n < ((256 ^ s:Nat):Int)):numP (numB n s++r) s=(n,r):=by
 unfold numP
 have hl:=numB_length n s
 rw[if_neg (by rw[List.length_append];omega),List.take_left' hl,List.drop_left' hl,beN_numB s h0 h1]
theorem str_bytes (s:ByteArray):strOfNums (bytesOf s)=s:=by
 have h:(strOfNums (bytesOf s)).data.toList=s.data.toList:=by
  simp only[strOfNums,bytesOf,List.map_map]
  conv=>rhs;rw[← List.map_id s.data.toList]
  refine List.map_congr_left fun b _=>?_
  rw[Function.comp_apply,Int.toNat_natCast,UInt8.ofNat_toNat]
  rfl
 exact bytes_inj h
theorem keyed_put (s:ByteArray) (r:List Int) (h:s.size≤64):keyedP (numB (s.size:Int) 1++bytesOf s++r)=(s,true,r):=by
 have e:numP (numB (s.size:Int) 1++bytesOf s++r) 1=((s.size:Int),bytesOf s++r):=by
  rw[List.append_assoc]
  exact numP_numB 1 _ (by omega) (by show(s.size:Int) < 256;omega)
 have e2:(max (s.size:Int) 0).toNat=s.size:=by omega
 have hl:=bytesOf_length s
 unfold keyedP
 rw[e]
 dsimp only
 rw[e2,if_neg (by rw[List.length_append];omega),List.take_left' hl,List.drop_left' hl,str_bytes]
theorem locs_fine:∀(l:List Lo) (a:Int) (s:Int),locsM l a=some s→∀x∈l,locFine x=true
 | [],_,_,_,x,hx=>by cases hx
 | y::l,a,s,h,x,hx=>by
  rw[locsM_cons] at h
  split at h
  ·rename_i hy
   rcases List.mem_cons.1 hx with rfl | hx
   ·exact hy
   ·exact locs_fine l _ s h x hx
  ·cases h
theorem locFine_iff {l:Lo} (h:locFine l=true):0≤l.f0∧l.f0≤99999999∧0≤l.f1∧l.f1≤1073741824∧1≤l.f2∧l.f2≤4096:=by
 unfold locFine withinB at h
 simp only[Bool.and_eq_true,decide_eq_true_eq] at h
 omega
theorem rootLoop_put:∀(l ls:List Lo),(∀x∈l,locFine x=true)→rootLoop l.length (locsB l) ls=(true,ls++l,[])
 | [],ls,_=>by simp [rootLoop,locsB]
 | x::l,ls,h=>by
  obtain⟨h1,h2,h3,h4,h5,h6⟩:=locFine_iff (h x (by simp))
  have e:locsB (x::l)=numB x.f0 4++(numB x.f1 4++(numB x.f2 2++locsB l)):=by
   simp [locsB,locB,List.append_assoc]
  have e1:numP (locsB (x::l)) 4=(x.f0,numB x.f1 4++(numB x.f2 2++locsB l)):=by rw[e];exact numP_numB 4 _ h1 (by show x.f0 < 4294967296;omega)
  have e2:numP (numB x.f1 4++(numB x.f2 2++locsB l)) 4=(x.f1,numB x.f2 2++locsB l):=numP_numB 4 _ h3 (by show x.f1 < 4294967296;omega)
  have e3:numP (numB x.f2 2++locsB l) 2=(x.f2,locsB l):=numP_numB 2 _ (by omega) (by show x.f2 < 65536;omega)
  rw[List.length_cons,rootLoop_succ,e1]
  dsimp only
  rw[e2]
  dsimp only
  rw[e3]
  dsimp only
  rw[if_neg (by omega),rootLoop_put l _ (fun y hy=>h y (by simp [hy])),List.append_assoc]
  rfl
theorem ba_beq {s t:ByteArray} (h:(s==t)=true):s=t:=by
 have h':(s.data==t.data)=true:=h
 exact bytes_inj (by rw[eq_of_beq h'])
theorem len_nil {α:Type} {l:List α} (h:(l.length==([]:List α).length)=true):l=[]:=List.eq_nil_of_length_eq_zero (by simpa using h)
theorem get_put {R:Re} (h:rightM R=true):getM (putM R)=(R,true):=by
 have hp:putM R=R.f0::toM R:=by unfold putM;rw[if_pos h]
 have h':=h
 unfold rightM at h
 simp only[Bool.and_eq_true] at h
 obtain⟨hk,h2,h3,h4⟩:=h
 have h20:0≤R.f2∧R.f2≤1099511627776:=by
  unfold withinB at h2
  simpa only[Bool.and_eq_true,decide_eq_true_eq] using h2
 have hof:(ofM {zeroR with f0:=R.f0} (toM R))=(true,R):=by
  obtain⟨f0,f1,f2,f3,f4,f5,f6⟩:=R
  dsimp only at *
  unfold bareM at h3
  simp only[Bool.and_eq_true] at h3
  obtain⟨b1,b2,b3,b4,b5,b6⟩:=h3
  unfold fineM at h4
  dsimp only at h4
  unfold ofM toM
  dsimp only
  by_cases k1:f0=1
  ·subst k1
   rw[if_pos rfl] at h4 ⊢
   rw[if_pos rfl]
   simp only[hasM,if_pos] at b1 b4 b5
   obtain rfl:=ba_beq b1
   obtain rfl:=eq_of_beq b4
   obtain rfl:=len_nil b5
   unfold pieceFineM withinB at h4
   simp only[Bool.and_eq_true,decide_eq_true_eq] at h4
   have e1:numP (numB f2 6++numB f3 2++f6) 6=(f2,numB f3 2++f6):=by rw[List.append_assoc];exact numP_numB 6 _ h20.1 (by show f2 < 281474976710656;omega)
   have e2:numP (numB f3 2++f6) 2=(f3,f6):=numP_numB 2 _ h4.1.1 (by show f3 < 65536;omega)
   unfold pieceOfM zeroR
   rw[e1]
   dsimp only
   rw[e2]
   dsimp only
   rw[decide_eq_true h4.1.1]
  rw[if_neg k1] at h4 ⊢
  rw[if_neg k1]
  by_cases k2:f0=2
  ·subst k2
   rw[if_pos rfl] at h4 ⊢
   rw[if_pos rfl]
   simp only[hasM,if_neg (show ¬(2:Int)=1 by decide),if_pos] at b1 b3 b6
   obtain rfl:=eq_of_beq b3
   obtain rfl:=len_nil b6
   unfold rootFineM at h4
   dsimp only at h4
   cases hl:locsM f5 0 with
   | none=>rw[hl] at h4;cases h4
   | some s=>
    rw[hl] at h4
    dsimp only at h4
    simp only[Bool.and_eq_true,decide_eq_true_eq] at h4
    obtain⟨hkb,hn,hs,hw⟩:=h4
    obtain rfl:=eq_of_beq hs
    unfold keyB withinB at hkb
    unfold withinB at hw
    simp only[Bool.and_eq_true,decide_eq_true_eq] at hkb hw
    have hlf:=locs_fine f5 0 s hl
    have e0:keyedP (rootB ⟨2,f1,f2,0,s,f5,[]⟩++locsB f5)=(f1,true,numB f2 6++(numB s 3++(numB (f5.length:Int) 2++locsB f5))):=by
     have:=keyed_put f1 (numB f2 6++(numB s 3++(numB (f5.length:Int) 2++locsB f5))) (by omega)
     simpa only[rootB,List.append_assoc] using this
    have e1:numP (numB f2 6++(numB s 3++(numB (f5.length:Int) 2++locsB f5))) 6=(f2,numB s 3++(numB (f5.length:Int) 2++locsB f5)):=numP_numB 6 _ h20.1 (by show f2 < 281474976710656;omega)
    have e2:numP (numB s 3++(numB (f5.length:Int) 2++locsB f5)) 3=(s,numB (f5.length:Int) 2++locsB f5):=numP_numB 3 _ (by omega) (by show s < 16777216;omega)
    have e3:numP (numB (f5.length:Int) 2++locsB f5) 2=((f5.length:Int),locsB f5):=numP_numB 2 _ (by omega) (by show(f5.length:Int) < 65536;omega)
    have e4:=rootLoop_put f5 [] hlf
    unfold rootOfM
    rw[e0]
    dsimp only
    rw[if_pos rfl]
    unfold rootTail
    dsimp only
    rw[e1]
    dsimp only
    rw[e2]
    dsimp only
    rw[e3]
    dsimp only
    rw[show(max (f5.length:Int) 0).toNat=f5.length from by omega,e4,decide_eq_true (show(0:Int)≤(f5.length:Int) from by omega)]
    rfl
  rw[if_neg k2] at h4 ⊢
  rw[if_neg k2]
  by_cases k3:f0=3
  ·subst k3
   rw[if_pos rfl] at h4 ⊢
   rw[if_pos rfl]
   simp only[hasM,if_neg (show ¬(3:Int)=1 by decide),if_neg (show ¬(3:Int)=2 by decide),if_pos] at b2 b3 b4 b5
   obtain rfl:=eq_of_beq b2
   obtain rfl:=eq_of_beq b3
   obtain rfl:=eq_of_beq b4
   obtain rfl:=len_nil b5
   unfold inlineFineM keyB withinB at h4
   simp only[Bool.and_eq_true,decide_eq_true_eq] at h4
   have e0:=keyed_put f1 f6 (by omega)
   unfold inlineOfM
   rw[e0]
   rfl
  ·rw[if_neg k3] at h4 ⊢
   rw[if_neg k3]
   simp only[hasM,if_neg k1,if_neg k2,if_neg k3] at b2 b3 b4 b5 b6
   obtain rfl:=eq_of_beq b2
   obtain rfl:=eq_of_beq b3
   obtain rfl:=eq_of_beq b4
   obtain rfl:=len_nil b5
   obtain rfl:=len_nil b6
   unfold tombOfM zeroR
   rw[str_bytes]
 rw[hp]
 show(if isKind R.f0=true then(if(ofM {zeroR with f0:=R.f0} (toM R)).1=true then(if rightM (ofM {zeroR with f0:=R.f0} (toM R)).2=true then((ofM {zeroR with f0:=R.f0} (toM R)).2,true) else(zeroR,false)) else(zeroR,false)) else(zeroR,false))=(R,true)
 rw[if_pos hk,hof]
 dsimp only
 rw[if_pos rfl,if_pos h']
theorem put_len (R:Re):(putM R).length≤5300:=by
 unfold putM
 split
 ·rename_i h
  obtain⟨hk,h1,h2,h3,h4⟩:=right_bounds h
  simp only[List.length_cons]
  unfold toM
  rcases isKind_cases hk with e | e | e | e
  ·have:=h1 e
   rw[if_pos e]
   simp only[List.length_append,numB_length]
   omega
  ·have:=h2 e
   rw[if_neg (by omega),if_pos e,List.length_append,rootB_length,locsB_length]
   omega
  ·have:=h3 e
   rw[if_neg (by omega),if_neg (by omega),if_pos e]
   simp only[List.length_append,numB_length,bytesOf_length]
   omega
  ·have:=h4 e
   rw[if_neg (by omega),if_neg (by omega),if_neg (by omega),bytesOf_length]
   omega
 ·simp
theorem put_nil {R:Re}:(putM R).length=0↔rightM R=false:=by
 unfold putM
 split
 ·rename_i h
  simp [h]
 ·rename_i h
  simp [h]
end Go.Proofs.YteccdnejnbkbiaaGreat.Rc
end
section
namespace Go.Proofs.YteccdnejnbkbiaaGreat.Hu
open Go.RowKit Go.Maps Pt Fr Ext Hn Go.Proofs.YteccdnejnbkbiaaGreat.Pure Dk YteccdnejnbkbiaaGreatW.PrintWords YteccdnejnbkbiaaGreatW.PrintLast YteccdnejnbkbiaaGreatW.PrintMore
open Mn (own_u8)
theorem recs_take (l:List Hi) (k:Nat) (h:k < l.length):cat (recs (l.take (k+1)))=cat (recs (l.take k))++putL (bodyL l[k]):=by
 rw[List.take_succ_eq_append_getElem h]
 simp only[recs,List.map_append,List.map_cons,List.map_nil]
 rw[cat_append]
 simp [cat]
theorem recs_lens (l:List Hi) (hs:∀h∈l,h.f1.size≤64):(cat (recs l)).length≤79*l.length:=by
 induction l with
 | nil=>exact Nat.le_refl _
 | cons h l ih=>
  have h1:=(put_body h (hs h (by simp))).2
  have h2:=ih (fun x hx=>hs x (by simp [hx]))
  have h3:=hs h (by simp)
  simp only[recs,List.map_cons,cat,List.length_append,List.length_cons] at h2 ⊢
  omega
theorem put_calls (A:Option Addr) (c:Nat) (l:List Hi) (size:Int) (w:World) (hr:Kd.C k141 w A l.length l) (hc:l.length≤c) (hm:l.length≤1000000000):
  Calls Tryz.prog 76 #[.slice A l.length c,.int .i64 size] w fun e w'=>∃v,e=.returned v∧Kd.R (Kd.int .u8) 5 w' w.heap.size (fun _=>True) v (putAll l size)∧Below w.heap.size w w':=by
 have HR:=ak hr
 have HM:=ak hm
 have HRI:=ak (fun W (hW:Below w.heap.size w W)=>hint_Right.calls A c l (rightL l) W (Kd.C_below hr hW) hc rfl)
 have HWI:=ak (fun W=>hint_within.calls size 0 1073741824 (decide (0≤size∧size≤1073741824)) W (within_f size))
 have hdef:putAll l size=if rightL l=true∧0≤size∧size≤1073741824 then putH l size else []:=rfl
 have hfin:rightL l=true→∀h∈l,h.f1.size≤64:=fun hr h hh=>((fine_iff h).1 (right_fine hr hh)).2.1.2
 clear hr hm
 generalize rightL l=b1 at HRI hdef hfin
 obtain⟨b2,hb2⟩:∃b,decide (0≤size∧size≤1073741824)=b:=⟨_,rfl⟩
 rw[hb2] at HWI
 have HDEF:=ak hdef
 have HB2:=ak hb2
 have HFIN:=ak hfin
 clear hdef hb2 hfin
 go_enter Tryz.func76,Tryz.ntmps76
 cases b1 with
 | false=>
  go_wp2_with (go_at_call 86;(with_reducible refine(HRI.out _ ?hw).mono ?_);(case hw=>repeat (first | exact Below.refl _ _ | apply pw_below_drewN | apply below_drew1));rintro e w1 ⟨rfl,hb⟩;have HB:=ak hb;clear hb)
  go_ret
  rw[HDEF.out,if_neg (fun h=>by cases h.1)]
  exact⟨_,rfl,Kd.R_nil _ _ _ _ _,HB.out⟩
 | true=>
 cases b2 with
 | false=>
  go_wp2_with (first
   | (go_at_call 86;(with_reducible refine(HRI.out _ ?hw).mono ?_);(case hw=>repeat (first | exact Below.refl _ _ | apply pw_below_drewN | apply below_drew1));rintro e w1 ⟨rfl,hb⟩;have HB:=ak hb;clear hb)
   | (go_at_call 84;(with_reducible refine(HWI.out _).mono ?_);rintro e w2 ⟨rfl,⟨nd,rfl⟩⟩;have HD:=ak (pw_below_drewN HB.out nd)))
  go_ret
  rw[HDEF.out,if_neg (fun h=>of_decide_eq_false HB2.out h.2)]
  exact⟨_,rfl,Kd.R_nil _ _ _ _ _,HD.out⟩
 | true=>
 go_upto_region 3 with(first
   | (go_at_call 86;(with_reducible refine(HRI.out _ ?hw).mono ?_);(case hw=>repeat (first | exact Below.refl _ _ | apply pw_below_drewN | apply below_drew1));rintro e w1 ⟨rfl,hb⟩;have HB:=ak hb;clear hb)
   | (go_at_call 84;(with_reducible refine(HWI.out _).mono ?_);rintro e w2 ⟨rfl,⟨nd,rfl⟩⟩;have HD:=ak (pw_below_drewN HB.out nd)))
 have hd2:=HDEF.out
 rw[if_pos ⟨by trivial,of_decide_eq_true HB2.out⟩] at hd2
 have HDEF2:=ak hd2
 have HF2:=ak (HFIN.out (by trivial))
 clear hd2 HDEF HRI HWI HFIN HB2
 go_wp2
 go_loopg [5,18] l.length (fun kq v5 v18 wr=>∃(k:Nat),v18=.int .i64 k∧Aside0 (k+kq=l.length)∧Aside0 (wr.ownsRow w.heap.size 5 1 v5 (cat (recs (l.take k))).length (nums .u8 (cat (recs (l.take k)))))∧Aside0 (Below w.heap.size w wr))
 case atStart=>exact⟨0,rfl,⟨by omega⟩,⟨Kd.own_of_R (Kd.R_nil (Kd.int .u8) _ _ _ (fun _=>True))⟩,HD⟩
 case round=>
  obtain⟨k,rfl,HK,HO1,HB1⟩:=hrel
  clear HD
  have HLE:=ak (recs_lens (l.take k) (fun h hh=>HF2.out h (List.mem_of_mem_take hh)))
  cases gk with
  | zero=>
   obtain rfl:k=l.length:=by have:=HK.out;omega
   have d1:decide ((l.length:Int) < (l.length:Int))=false:=decide_eq_false (by omega)
   have d2:decide (l.length < l.length)=false:=decide_eq_false (by omega)
   rw[List.take_length] at HO1 HLE
   have hpe:=(put_end (cat (recs l)) (l.length:Int) size).2
   have HFIT:=ak (show((cat (recs l)).length+(putL (endL (cat (recs l)) (l.length:Int) size)).length)*1≤140737488355328 by have h1:=HM.out;have h2:=HLE.out;omega)
   have hfin:putAll l size=cat (recs l)++putL (endL (cat (recs l)) (l.length:Int) size):=HDEF2.out
   have HFINAL:=ak hfin
   clear hpe hfin HDEF2
   generalize cat (recs l)=X at HO1 HFIT HFINAL
   obtain⟨Y,hY⟩:∃Y,endL X (l.length:Int) size=Y:=⟨_,rfl⟩
   have HE:=ak (show hint_end.f X (l.length:Int) size=some Y by rw[← hY];rfl)
   rw[hY] at HFIT HFINAL
   obtain⟨A1,c1,hv1⟩:=own_slice HO1.out
   subst hv1
   clear hY
   go_wp2_with (first
    | (go_at_call 88;(with_reducible refine(hint_end.calls A1 c1 X (l.length:Int) size Y _ (Kd.R_reads' (own_u8 HO1.out)).2.2 (Kd.R_reads' (own_u8 HO1.out)).2.1 HE.out).mono ?_);rintro e w2 ⟨v2,rfl,hr2,hb2⟩;obtain⟨A2,c2,hv2⟩:=Kd.R_slice hr2;subst hv2;have HO2:=ak (pw_own_below HO1.out hb2);have HR2:=ak (Kd.R_reads' hr2).2;have HB2:=ak (HB1.out.trans (hb2.mono HB1.out.size));clear hr2 hb2)
    | (go_at_call 55;(with_reducible refine(frame_Put.calls A2 c2 Y (putL Y) _ HR2.out.2 HR2.out.1 rfl).mono ?_);rintro e w3 ⟨v3,rfl,hr3,hb3⟩;obtain⟨A3,c3,hv3⟩:=Kd.R_slice hr3;subst hv3;have HO3:=ak (pw_own_below HO2.out hb3);have HR3:=ak (ints_of_C (Kd.R_reads' hr3).2.2);have HB3:=ak (HB2.out.trans (hb3.mono HB2.out.size));clear hr3 hb3)
    | (at_builtin;refine print_append_row (w0:=w) w.heap.size rfl _ _ 33 5 .u8 1 rfl Tryz.underlying33 info_u8 (by omega) _ X (putL Y) A3 (putL Y).length c3 rfl rfl HO3.out HR3.out HB3.out HB3.out.size HFIT.out ?_;intro v4 w4 ho4 hb4 hg4 ha4;have HO4:=ak ho4;have HB4:=ak hb4;clear ho4 hb4 hg4 ha4))
   go_ret
   rw[HFINAL.out]
   exact⟨_,rfl,own_u8 HO4.out,HB4.out⟩
  | succ gk=>
   have hk0:k < l.length:=by have:=HK.out;omega
   have d1:decide ((k:Int) < (l.length:Int))=true:=decide_eq_true (by omega)
   have d2:decide (k < l.length)=true:=decide_eq_true hk0
   have d3:decide (0≤(k:Int))=true:=decide_eq_true (by omega)
   obtain⟨ad,e1,z0,z1,z2,z3⟩:=at_T141 HR.out (k:Int) (by omega) (by omega)
   cases e1
   replace z0:=(HB1.out.cell (World.block_lt_of_cell? w _ z0)).trans z0
   replace z1:=(HB1.out.cell (World.block_lt_of_cell? w _ z1)).trans z1
   replace z2:=(HB1.out.cell (World.block_lt_of_cell? w _ z2)).trans z2
   replace z3:=(HB1.out.cell (World.block_lt_of_cell? w _ z3)).trans z3
   rw[rdT_at l k hk0,Int.toNat_natCast] at z0 z1 z2 z3
   have HT:=ak (recs_take l k hk0)
   have hsz:=HF2.out _ (List.getElem_mem hk0)
   have HBO:=ak (body_f l[k] (by omega))
   have HFIT:=ak (show((cat (recs (l.take k))).length+(putL (bodyL l[k])).length)*1≤140737488355328 by have h1:=HM.out;have h2:=HLE.out;have h3:=(put_body l[k] hsz).2;rw[List.length_take] at h2;omega)
   clear hsz
   generalize cat (recs (l.take k))=X at HO1 HFIT HT
   generalize bodyL l[k]=Y at HFIT HT HBO
   generalize l[k]=h at z0 z1 z2 z3 HBO
   obtain⟨f0,f1,f2,f3⟩:=h
   simp only at z0 z1 z2 z3
   have HBA:=ak (below_alloc (Below.refl wr.heap.size wr) (.cells #[.int .i64 f0,.string f1,.int .i64 f2,.int .i64 f3] 141))
   have hz7:=heap_alloc_new wr (.cells #[.int .i64 f0,.string f1,.int .i64 f2,.int .i64 f3] 141)
   have x0:(wr.alloc (.cells #[.int .i64 f0,.string f1,.int .i64 f2,.int .i64 f3] 141)).cell? ⟨wr.heap.size,0,none⟩=some (.int .i64 f0):=(blk_cell hz7 0).trans rfl
   have x1:(wr.alloc (.cells #[.int .i64 f0,.string f1,.int .i64 f2,.int .i64 f3] 141)).cell? ⟨wr.heap.size,1,none⟩=some (.string f1):=(blk_cell hz7 1).trans rfl
   have x2:(wr.alloc (.cells #[.int .i64 f0,.string f1,.int .i64 f2,.int .i64 f3] 141)).cell? ⟨wr.heap.size,2,none⟩=some (.int .i64 f2):=(blk_cell hz7 2).trans rfl
   have x3:(wr.alloc (.cells #[.int .i64 f0,.string f1,.int .i64 f2,.int .i64 f3] 141)).cell? ⟨wr.heap.size,3,none⟩=some (.int .i64 f3):=(blk_cell hz7 3).trans rfl
   have HO1A:=ak (pw_own_below HO1.out HBA.out)
   have HB1A:=ak (HB1.out.trans (HBA.out.mono HB1.out.size))
   clear hz7 HBA HO1 HB1
   go_upto_region 7 with(fail)
   generalize wr.alloc (.cells #[.int .i64 f0,.string f1,.int .i64 f2,.int .i64 f3] 141)=W at x0 x1 x2 x3 HO1A HB1A ⊢
   clear z0 z1 z2 z3
   go_wp2_with (first
    | (go_at_call 129;(with_reducible refine(hint_body.calls f0 f1 f2 f3 Y _ HBO.out).mono ?_);rintro e w2 ⟨v2,rfl,hr2,hb2⟩;obtain⟨A2,c2,hv2⟩:=Kd.R_slice hr2;subst hv2;have HO2:=ak (pw_own_below HO1A.out hb2);have HR2:=ak (Kd.R_reads' hr2).2;have HB2:=ak (HB1A.out.trans (hb2.mono HB1A.out.size));clear hr2 hb2)
    | (go_at_call 55;(with_reducible refine(frame_Put.calls A2 c2 Y (putL Y) _ HR2.out.2 HR2.out.1 rfl).mono ?_);rintro e w3 ⟨v3,rfl,hr3,hb3⟩;obtain⟨A3,c3,hv3⟩:=Kd.R_slice hr3;subst hv3;have HO3:=ak (pw_own_below HO2.out hb3);have HR3:=ak (ints_of_C (Kd.R_reads' hr3).2.2);have HB3:=ak (HB2.out.trans (hb3.mono HB2.out.size));clear hr3 hb3)
    | (at_builtin;refine print_append_row (w0:=w) w.heap.size rfl _ _ 33 5 .u8 1 rfl Tryz.underlying33 info_u8 (by omega) _ X (putL Y) A3 (putL Y).length c3 rfl rfl HO3.out HR3.out HB3.out HB3.out.size HFIT.out ?_;intro v4 w4 ho4 hb4 hg4 ha4;have HO4:=ak ho4;have HB4:=ak hb4;clear ho4 hb4 hg4 ha4))
   go_roundg gk
   case measure=>omega
   case rel=>exact⟨k+1,by rw[w64 _ (by omega) (by have:=HM.out;omega)];rfl,⟨by have:=HK.out;omega⟩,⟨by rw[HT.out];exact HO4.out⟩,HB4⟩
end Go.Proofs.YteccdnejnbkbiaaGreat.Hu
end
