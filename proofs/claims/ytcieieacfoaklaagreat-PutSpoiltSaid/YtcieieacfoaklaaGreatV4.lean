/- Texts of this claim, joined. -/
import Derived.Test.YtcieieacfoaklaaGreatV0
import Derived.Test.YtcieieacfoaklaaGreatV3
import Derived.Test.YtcieieacfoaklaaGreatV1
import Derived.Test.YtcieieacfoaklaaGreatV2
import Derived.Lib.Bytealg
import Derived.Shelf.GgSortFunc.InsertionK
import Derived.Shelf.SlSortCmp.WholeK
import Derived.Test.YtcieieacfoaklaaGreatProg
import Derived.Below
import Derived.Deep.Draws
import Derived.Deep.AppendLies
import Derived.Maps.AppendAt
import Derived.OwnWalk
import Derived.Laws.BytesArg
import Derived.Laws.MakeOwn
import Derived.Laws.OwnMore
import Derived.Deep.OwnRows
import Derived.Tactics
import Derived.Lib.ConvBytes
import Derived.Laws.Slices
import Derived.WalkKit
import Derived.KernelRfl
import Derived.RowKit3
import Derived.Deep.LoopGhost
import Derived.Deep.QuietTactic
import Derived.BigQuiet
import Derived.WideLaws
import Derived.Deep.DeepCutAuto
import Derived.Deep.CutBlock
import Derived.Deep.RegionHeld3
import Derived.Laws.Rows
import Derived.Lib.AppendStr
import Derived.ArgAppend
import Derived.Laws.IdiomCopy
import Derived.OrdersHeld
import Derived.Laws.BitsLemmas
import Derived.RowKit
import Derived.Shelf.SlSortCmp.NoneTotal
import Derived.Shelf.SlIter.AllValuesS
import Derived.Deep.Slices
import Derived.Test.YtcieieacfoaklaaGreatRows
set_option linter.unusedVariables false
set_option linter.unusedSimpArgs false
set_option maxRecDepth 100000
set_option maxHeartbeats 8000000
namespace Go.Proofs.YtcieieacfoaklaaGreat
open Go.RowKit YtcieieacfoaklaaGreatW.PrintWords YtcieieacfoaklaaGreatW.PrintLast YtcieieacfoaklaaGreatW.PrintMore
section
namespace Sg
open Go.Maps Fr Ext Go.Proofs.YtcieieacfoaklaaGreat.Nm Dk Mn
open Rc (Norm Norm.intro Norm.elim cell_lt recC Re Lo zeroR)
open Sc (toS)
open Go.Proofs.YtcieieacfoaklaaGreat.Pure (scanGo Itm)
attribute [local go_sem] Oper.semAt_some

def itemsM (bs:List Int):List It:=(scanGo (bs.length+1) bs 0 0 []).1.map toS
def badS (bs:List Int):Nat:=(scanGo (bs.length+1) bs 0 0 []).2.1
def headOk (L:List It) (n:Int):Bool:=match L with | []=>false | x::_=>(x.f0==0) && (x.f2==firstB n)
def allSM (M:DiskM) (n:Int):List Fo×Int×Int:=
 if(readM M (segN n) 0 (sizeM M (segN n))).2=0 then
  if headOk (itemsM (readM M (segN n) 0 (sizeM M (segN n))).1) n=true then
   (foundsL (itemsM (readM M (segN n) 0 (sizeM M (segN n))).1).tail,((badS (readM M (segN n) 0 (sizeM M (segN n))).1+badL (itemsM (readM M (segN n) 0 (sizeM M (segN n))).1).tail:Nat):Int),0)
  else([],0,22)
 else([],0,(readM M (segN n) 0 (sizeM M (segN n))).2)
theorem scan_le:∀(k:Nat) (l:List Int) (a b:Nat) (pre:List Itm),(scanGo k l a b pre).1.length≤pre.length+k∧(scanGo k l a b pre).2.1≤b+k
 | 0,l,a,b,pre=>by simp [scanGo]
 | k+1,l,a,b,pre=>by
  unfold scanGo
  split
  ·split
   ·exact⟨Nat.le_add_right _ _,Nat.le_add_right _ _⟩
   split
   ·have h:=scan_le k l (a+(firstL (l.drop a)).2.1.toNat) b (pre++[(a,(firstL (l.drop a)).2.1.toNat,(firstL (l.drop a)).1)])
    rw[List.length_append,List.length_singleton] at h
    exact⟨by omega,by omega⟩
   ·have h:=scan_le k l (a+(firstL (l.drop a)).2.1.toNat) (b+1) pre
    exact⟨by omega,by omega⟩
  ·exact⟨Nat.le_add_right _ _,Nat.le_add_right _ _⟩
theorem scan_all {p:Itm→Prop} (l:List Int) (hB:IsBytes l) (hp:∀a n x,IsBytes x→x.length≤8192→p (a,n,x)):∀(k a b:Nat) (pre:List Itm),(∀y∈pre,p y)→∀y∈(scanGo k l a b pre).1,p y
 | 0,a,b,pre,h=>h
 | k+1,a,b,pre,h=>by
  unfold scanGo
  split
  ·split
   ·exact h
   split
   ·refine scan_all l hB hp k _ b _ (fun y hy=>?_)
    rcases List.mem_append.1 hy with hy | hy
    ·exact h y hy
    ·rw[List.mem_singleton.1 hy]
     obtain⟨h1,h2,_⟩:=first_facts (l:=l.drop a) (hB.drop a) (x:=(firstL (l.drop a)).1) (n:=(firstL (l.drop a)).2.1) (f:=(firstL (l.drop a)).2.2) rfl
     exact hp _ _ _ h1 h2
   ·exact scan_all l hB hp k _ (b+1) pre h
  ·exact h
theorem items_bytes {bs:List Int} (hB:IsBytes bs):∀x∈itemsM bs,IsBytes x.f2∧x.f2.length≤8192:=by
 intro x hx
 obtain⟨y,hy,rfl⟩:=List.mem_map.1 hx
 exact scan_all (p:=fun y=>IsBytes (toS y).f2∧(toS y).f2.length≤8192) bs hB (fun a n x h1 h2=>⟨h1,h2⟩) _ 0 0 [] (fun y hy=>by cases hy) y hy
theorem items_le (bs:List Int):(itemsM bs).length≤bs.length+1:=by
 have h:=(scan_le (bs.length+1) bs 0 0 []).1
 unfold itemsM
 rw[List.length_map]
 simpa using h
theorem badS_le (bs:List Int):badS bs≤bs.length+1:=by
 have h:=(scan_le (bs.length+1) bs 0 0 []).2
 unfold badS
 omega
theorem str_beq {a b:List Int} (ha:IsBytes a) (hb:IsBytes b):((strOfNums a).toList==(strOfNums b).toList)=(a==b):=by
 rw[Go.ByteArray.toList_eq,Go.ByteArray.toList_eq]
 apply Bool.eq_iff_iff.mpr
 rw[beq_iff_eq,beq_iff_eq]
 constructor
 ·intro h
  have h2:strOfNums a=strOfNums b:=congrArg ByteArray.mk (Array.toList_inj.mp h)
  rw[← bytesOf_str a ha,← bytesOf_str b hb,h2]
 ·intro h;rw[h]
theorem item_cut (ad:Addr) (c n:Nat) (hn:1≤n):∃A7:Option Addr,(∀W:World,(Instr.slice 196 (.slice (some ad) n c) (some (.int .i64 1)) none none).run Tryz.prog W=.ok (.slice A7 (n - 1) (c - 1)) W)∧∀(w:World) (xs:List It),xs.length=n→n≤c→Kd.C Pt.k200 w (some ad) xs.length xs→Kd.C Pt.k200 w A7 (xs.drop 1).length (xs.drop 1):=by
 obtain⟨i,hi,hz⟩:=Option.map_eq_some_iff.1 Pt.info200
 simp only[Prod.mk.injEq] at hz
 refine⟨if c=1 then some ad else(some ad).map (·.add (1*3)),fun W=>?_,fun w xs hl hc h=>?_⟩
 ·have hel:Tryz.prog.elem 196=200:=by simp [Program.elem,Tryz.underlying196]
  have hu:Tryz.prog.underlying 196=some (.slice (Tryz.prog.elem 196)):=by rw[hel];exact Tryz.underlying196
  rw[run_slice_l W 196 (some ad) n c hu .i64 1 (by decide) (by omega),hel]
  simp [sizeOf,typeInfo,hi,hz.2.1,sliced,Result.andThen]
 ·exact Kd.C_drop h (by omega) (by rw[hl];exact hc)
theorem three_blocks (w:World) (o1 o2 o3:Obj):(((w.alloc o1).alloc o2).alloc o3).heap[w.heap.size]? =some o1∧(((w.alloc o1).alloc o2).alloc o3).heap[w.heap.size+1]? =some o2∧(((w.alloc o1).alloc o2).alloc o3).heap[w.heap.size+2]? =some o3∧(((w.alloc o1).alloc o2).alloc o3).heap.size=w.heap.size+3∧RowKit.Below w.heap.size w (((w.alloc o1).alloc o2).alloc o3):=by
 obtain⟨h1,h2,h3⟩:=two_blocks w o1 o2
 have s2:((w.alloc o1).alloc o2).heap.size=w.heap.size+2:=by simp
 have h4:=heap_alloc_new ((w.alloc o1).alloc o2) o3
 rw[s2] at h4
 exact⟨(heap_alloc_old _ _ (by rw[s2];omega)).trans h1,(heap_alloc_old _ _ (by rw[s2];omega)).trans h2,h4,by simp,below_alloc h3 _⟩
structure JF (base ob D L:Nat) (rec:LoopState→Option Code→Loop) (pre:List Fo) (N:Nat) (W:World):Prop where
 dd:W.heap[D]? =some (.deferred (some []))
 ll:W.heap[L]? =some (.loop (rec .ready none))
 nn:L < N
 oo:∃v,W.heap[ob]? =some (.cells #[v] 172 (0,0))∧Kd.S Pt.k206 206 W base (fun k=>L < k∧k < N) v pre
variable {w:World} {B g N:Nat} {M:DiskM} {F:Nat→Prop}
def al2T:Bool×List (List Nat×List Nat):=(true,[([],[]),([0],[0]),([],[]),([2],[2]),([],[]),([4],[4]),([1,3,5,5],[1,3,5]),([6],[6]),([7],[7]),([7],[7]),([8,6,0,1,2,3,4,5,6,7,8],[8]),([9,10,0,1,2,3,4,5,6,7,8,9,10],[9])])
def al2B:List Nat:=[0,1,0,4,0,16,63,127,255,255,511,2047]
theorem al2tab:rtab .any (opsOf Tryz.f115 2)=al2T:=by kernel_rfl
theorem al2bits:waitsOk al2T.2 al2B=true:=by kernel_rfl
def al6T:Bool×List (List Nat×List Nat):=(true,[([],[]),([0],[0]),([1],[1]),([2],[2]),([3],[3]),([4,3],[3,4]),([5,3],[3,5]),([6,3],[3,6]),([7,3],[3,7]),([3,8],[3,8]),([9,3],[9]),([10],[10]),([11,10],[10,11]),([12,10],[10,12]),([13,10],[10,13]),([14,10],[10,14]),([10],[10]),([16,10,10],[10,16]),([15,17,10],[10,15,17]),([10,18],[10,18])])
def al6B:List Nat:=[0,1,3,7,15,31,63,127,255,511,1023,2047,4095,8191,16383,32767,2047,67583,262143,524287]
theorem al6tab:rtab .any (opsOf Tryz.f115 6)=al6T:=by kernel_rfl
theorem al6bits:waitsOk al6T.2 al6B=true:=by kernel_rfl
def AllE (w w':World) (e:Ending) (r:List Fo×Int×Int):Prop:=
 ∃v,e=.returned (.tuple #[v,.int .i64 r.2.1,.int .i64 r.2.2])∧Kd.S Pt.k206 206 w' w.heap.size (fun _=>True) v r.1∧RowKit.Below w.heap.size w w'
theorem allS_calls (hd:DiskAt w B g N M F) (hM:Fit M) (n:Int):Calls Tryz.prog 115 #[ptr g,.int .i64 n] w fun e w'=>AllE w w' e (allSM M n):=by
 have HREAD:=ak (fun W (hW:RowKit.Below w.heap.size w W)=>(hd.below hW).read? (segN n) 0 (sizeM M (segN n)) (segN_le n) hM.len)
 have HSIZE:=ak (fun W (hW:RowKit.Below w.heap.size w W)=>Sg.size_calls (hd.below hW) (segN n) n (segN_le n))
 have hfb:=readM_fit hM (segN n) 0 (sizeM M (segN n))
 have hdef:allSM M n=if(readM M (segN n) 0 (sizeM M (segN n))).2=0 then if headOk (itemsM (readM M (segN n) 0 (sizeM M (segN n))).1) n=true then(foundsL (itemsM (readM M (segN n) 0 (sizeM M (segN n))).1).tail,((badS (readM M (segN n) 0 (sizeM M (segN n))).1+badL (itemsM (readM M (segN n) 0 (sizeM M (segN n))).1).tail:Nat):Int),0) else([],0,22) else([],0,(readM M (segN n) 0 (sizeM M (segN n))).2):=rfl
 generalize sizeM M (segN n)=sz at HREAD HSIZE hfb hdef
 generalize readM M (segN n) 0 sz=rm at HREAD hfb hdef
 obtain⟨bs,er⟩:=rm
 dsimp only at hfb hdef
 generalize allSM M n=AM at hdef ⊢
 have HDEF:=ak hdef
 have HFB:=ak hfb
 clear hd hM hfb hdef
 refine callsIn_wide.1 (callsIn_of_wp_marks (n:=3) Tryz.func115 rfl trivial ?_)
 refine wpIn_wide.2 ?_
 simp only[Tryz.ntmps115,List.size_toArray,List.length_cons,List.length_nil,Nat.reduceAdd,Nat.reduceSub,Array.replicate_succ,Array.replicate_zero,List.push_toArray,List.append_toArray,List.nil_append,List.cons_append]
 go_upto_region 2 with(go_at_call 55;(with_reducible refine(Sg.of_calls _ _ _).mono ?_);rintro e w1 ⟨rfl,hb1⟩;have HB1:=ak hb1;clear hb1)
 obtain⟨s,hs⟩:∃s,segN n=s:=⟨_,rfl⟩
 rw[hs] at HREAD HSIZE ⊢
 clear hs
 have hz:=heap_alloc_new w1 (.cells #[ptr g,.string s,.int .i64 n] 132)
 have hb2:=below_alloc (RowKit.Below.refl w1.heap.size w1) (.cells #[ptr g,.string s,.int .i64 n] 132)
 have HB2:=ak (HB1.out.trans (hb2.mono HB1.out.size))
 generalize w1.alloc (.cells #[ptr g,.string s,.int .i64 n] 132)=w2 at hz hb2 HB2 ⊢
 obtain⟨sb,hsb⟩:∃sb,w1.heap.size=sb:=⟨_,rfl⟩
 rw[hsb] at hz ⊢
 have HZ2:=ak hz
 clear hz hb2 hsb
 refine Code.wp_mono (Q:=Norm fun a' W=>∃(A3:Option Addr) (c3:Nat),a'={tmps:=#[ptr g,.int .i64 n,undef,undef,.slice none 0 0,.int .i64 0,.int .i64 0,.pointer (some ⟨sb,0,none⟩),.slice A3 bs.length c3,.int .i64 er,undef,undef,undef,undef,undef,undef,ptr g,.int .i64 n,.agg (segC g s n),.tuple #[.slice A3 bs.length c3,.int .i64 er],.pointer (some ⟨sb,0,none⟩),ptr g,.pointer (some ⟨sb,1,none⟩),.string s,.agg #[ptr g,.string s,.int .i64 n],.int .i64 sz,.tuple #[.slice A3 bs.length c3,.int .i64 er],.slice A3 bs.length c3,.int .i64 er,undef,undef,undef,undef,undef,undef,undef,undef,undef,undef,undef,undef,undef,undef,undef,undef,undef,undef,undef,undef,undef,undef,undef,undef,undef,undef,undef,undef,undef,undef,undef,undef,undef,undef,undef,undef,undef,undef,undef,undef],defers:=[]}∧(bs.length≤c3∧Kd.C (Kd.int .u8) W A3 bs.length bs)∧W.heap[sb]? =some (.cells #[ptr g,.string s,.int .i64 n] 132 (0,0))∧RowKit.Below w.heap.size w W) (Norm.elim ?mono) ?reg
 case reg=>
  refine st_ 12 (S:=(fun w'=>w'.heap[sb]? =some (.cells #[ptr g,.string s,.int .i64 n] 132 (0,0))∧RowKit.Below w2.heap.size w2 w')) (ds:=[]) (by kernel_rfl) rfl (by kernel_rfl) ⟨blk_drew HZ2.out,(RowKit.Below.refl _ _).drew⟩ (fun hHeld=>?_);refine with_tabW al2tab al2bits (fun HT_ HW_=>?_)
  generalize w2.drew=v0 at hHeld ⊢
  refine fl_ [0,20,1,2,22,5] ?_
  iterate 2 refine pz_ HT_ ?_
  refine fe_ ?_
  refine tk_ 1 7 (N:=some 21) (v:=?_) (a':=?_) HT_ HW_ rfl rfl (.inl ⟨by rfl,?_⟩) hHeld ?_ ?_
  rotate_left
  ·rintro w' hs
   have xx0:=bq hs.1 0 (ptr g)
   have xx1:=bq hs.1 1 (.string s)
   have xx2:=bq hs.1 2 (.int .i64 n)
   go_simp
   with_reducible rfl
  rotate_left
  ·simp only[Act.put,zq1,zq2,zq3,i64_w,i32_w]
   rfl
  refine tk_ 3 15 (N:=some 23) (v:=?_) (a':=?_) HT_ HW_ rfl rfl (.inl ⟨by rfl,?_⟩) hHeld ?_ ?_
  rotate_left
  ·rintro w' hs
   have xx0:=bq hs.1 0 (ptr g)
   have xx1:=bq hs.1 1 (.string s)
   have xx2:=bq hs.1 2 (.int .i64 n)
   go_simp
   with_reducible rfl
  rotate_left
  ·simp only[Act.put,zq1,zq2,zq3,i64_w,i32_w]
   rfl
  refine tk_ 4 31 (N:=some 24) (v:=?_) (a':=?_) HT_ HW_ rfl rfl (.inl ⟨by rfl,?_⟩) hHeld ?_ ?_
  rotate_left
  ·rintro w' hs
   have xx0:=bq hs.1 0 (ptr g)
   have xx1:=bq hs.1 1 (.string s)
   have xx2:=bq hs.1 2 (.int .i64 n)
   go_simp
   with_reducible rfl
  rotate_left
  ·simp only[Act.put,zq1,zq2,zq3,i64_w,i32_w]
   rfl
  refine on_ 5 63 (some 25) HT_ rfl rfl (by kernel_rfl) (by decide) (fun K hK=>?_)
  refine goes_ Tryz.func56 (by kernel_rfl) rfl #[.agg #[ptr g,.string s,.int .i64 n]] (by rfl) rfl rfl (by(try simp only[List.map_toArray,List.map_cons,List.map_nil]);first | done | rfl) ?_
  refine(HSIZE.out _ (HB2.out.trans (hHeld.2.mono HB2.out.size))).mono ?_
  rintro e v1 ⟨rfl,hb⟩
  refine⟨_,rfl,?_⟩
  have hHeld:=(⟨(hb.block _ (blk_lt hHeld.1)).trans hHeld.1,hHeld.2.trans (hb.mono hHeld.2.size)⟩:_∧RowKit.Below w2.heap.size w2 _)
  refine kz_ hK hHeld fun hHeld=>?_;clear hK K
  clear hb
  refine on_ 6 127 (some 26) HT_ rfl rfl (by kernel_rfl) (by decide) (fun K hK=>?_)
  refine goes_ Tryz.func50 (by kernel_rfl) rfl #[.pointer (some ⟨g,0,none⟩),.string s,.int .i64 0,.int .i64 sz] (by rfl) rfl rfl (by(try simp only[List.map_toArray,List.map_cons,List.map_nil]);first | done | rfl) ?_
  refine(HREAD.out _ (HB2.out.trans (hHeld.2.mono HB2.out.size))).mono ?_
  rintro e w3 ⟨v3,rfl,hv3,hb⟩
  refine⟨_,rfl,?_⟩
  have hHeld:=(⟨(hb.block _ (blk_lt hHeld.1)).trans hHeld.1,hHeld.2.trans (hb.mono hHeld.2.size)⟩:_∧RowKit.Below w2.heap.size w2 _)
  refine kz_ hK hHeld fun hHeld=>?_;clear hK K
  obtain⟨A3,c3,hA3⟩:=Kd.R_slice hv3
  subst hA3
  refine fl_ [7,19,255,8,27,511,9,28,1023,10,8,2047,11,9,4095] ?_
  iterate 5 refine pz_ HT_ ?_
  refine fe_ ?_
  refine dz_ HT_ ?_
  exact Norm.intro ⟨A3,c3,rfl,(Kd.R_reads' hv3).2,hHeld.1,HB2.out.trans (hHeld.2.mono HB2.out.size)⟩
 case mono=>
  rintro a' w3 ⟨A3,c3,rfl,hv3,hz3,hb3⟩
  have HV3:=ak hv3
  have HZ3:=ak hz3
  have HB3:=ak hb3
  clear hv3 hz3 hb3
  by_cases he:er=0
  case neg=>
   have d1:(er !=0)=true:=bne_iff_ne.mpr he
   have HE:=ak he
   clear he
   go_wp2
   refine⟨_,results_list (rs:=[.tmp 4,.tmp 5,.tmp 6]) rfl (by simp) (.tmp (.tmp (.tmp .nil))),?_⟩
   rw[HDEF.out,if_neg HE.out]
   exact⟨_,rfl,Kd.S_nil _ _ _ _ _,HB3.out⟩
  subst he
  have hdef:=HDEF.out
  rw[if_pos rfl] at hdef
  have HDEF2:=ak hdef
  clear hdef HDEF
  have hscan:Calls Tryz.prog 143 #[.slice A3 bs.length c3] w3 fun e w'=>∃v,∃q1 q2:Int,e=.returned (.tuple #[v,.int .i64 (badS bs:Int),.int .i64 q1,.int .i64 q2])∧Kd.S Pt.k200 200 w' w3.heap.size (fun _=>True) v (itemsM bs)∧RowKit.Below w3.heap.size w3 w':=
   (Sc.all_calls A3 c3 bs w3 (bs.length+1) _ HFB.out.1 HV3.out.1 (by have:=HFB.out.2;omega) HV3.out.2 (Nat.lt_succ_self _) rfl).mono (by
    intro e w' h
    obtain⟨v,h1,h2,h3⟩:=h
    exact⟨v,_,_,h1,h2,h3⟩)
  have HSC:=ak hscan
  have HIL:=ak (items_le bs)
  have HIB:=ak (items_bytes HFB.out.1)
  have HBS:=ak (badS_le bs)
  generalize itemsM bs=L at HSC HDEF2 HIL HIB
  generalize badS bs=bd at HSC HDEF2 HBS
  clear hscan
  go_upto_region 6 with(go_at_call 143;(with_reducible refine HSC.out.mono ?_);rintro e w4 ⟨v4,q1,q2,rfl,hv4,hb4⟩;obtain⟨A4,c4,hA4⟩:=Kd.S_slice hv4;subst hA4;have HV4:=ak hv4;have HZ4:=ak ((hb4.block _ (blk_lt HZ3.out)).trans HZ3.out);have HB4:=ak (HB3.out.trans (hb4.mono HB3.out.size));have HLE4:=ak HB3.out.size;clear hv4 hb4)
  have hn5:=heap_alloc_new w4 (.cells #[.int .i64 (bd:Int)] 3)
  have hb5:=below_alloc (RowKit.Below.refl w4.heap.size w4) (.cells #[.int .i64 (bd:Int)] 3)
  have HZ5:=ak ((hb5.block _ (blk_lt HZ4.out)).trans HZ4.out)
  have HV5:=ak (Kd.S_below HV4.out hb5)
  have HB5:=ak (HB4.out.trans (hb5.mono HB4.out.size))
  generalize w4.alloc (.cells #[.int .i64 (bd:Int)] 3)=w5 at hn5 hb5 HZ5 HV5 HB5 ⊢
  obtain⟨bb,hbb⟩:∃bb,w4.heap.size=bb:=⟨_,rfl⟩
  rw[hbb] at hn5 ⊢
  have HBB:=ak hn5
  have HB45:=ak hb5
  have HBL:=ak (show w.heap.size≤bb by rw[← hbb];exact HB4.out.size)
  have HBE:=ak hbb
  obtain⟨hcap,hCL⟩:L.length≤c4∧Kd.C Pt.k200 w5 A4 L.length L:=by
   obtain⟨A',c',e1,e2,e3⟩:=Kd.S_reads HV5.out
   injection e1 with e4 e5 e6
   subst e4 e6
   exact⟨e2,e3⟩
  have HCAP:=ak hcap
  have HCL:=ak hCL
  clear hn5 hb5 hbb hcap hCL
  cases L with
  | nil=>
   have e0:(([]:List It).length)=0:=rfl
   rw[e0]
   go_upto_region 6 with(fail)
   refine Code.wp_mono (Q:=Norm fun a' W=>a'={tmps:=#[ptr g,.int .i64 n,undef,undef,.slice none 0 0,.int .i64 0,.int .i64 0,.pointer (some ⟨sb,0,none⟩),.slice A3 bs.length c3,.int .i64 0,.slice A4 0 c4,.pointer (some ⟨bb,0,none⟩),.int .i64 q1,.int .i64 q2,undef,undef,ptr g,.int .i64 n,.agg (segC g s n),.tuple #[.slice A3 bs.length c3,.int .i64 0],.pointer (some ⟨sb,0,none⟩),ptr g,.pointer (some ⟨sb,1,none⟩),.string s,.agg #[ptr g,.string s,.int .i64 n],.int .i64 sz,.tuple #[.slice A3 bs.length c3,.int .i64 0],.slice A3 bs.length c3,.int .i64 0,.int .i64 0,.bool false,undef,.tuple #[.slice A4 0 c4,.int .i64 bd,.int .i64 q1,.int .i64 q2],.slice A3 bs.length c3,.tuple #[.slice A4 0 c4,.int .i64 bd,.int .i64 q1,.int .i64 q2],.slice A4 0 c4,.int .i64 bd,.int .i64 q1,.int .i64 q2,.slice A4 0 c4,.int .i64 0,.bool true,.bool true,undef,undef,undef,undef,undef,.bool true,.bool true,undef,undef,undef,undef,undef,undef,undef,undef,.bool true,undef,undef,undef,undef,undef,undef,undef,undef,undef,undef],defers:=[]}∧RowKit.Below w5.heap.size w5 W) (Norm.elim ?mono) ?reg
   case reg=>
    refine st_ 20 (S:=(fun w'=>RowKit.Below w5.heap.size w5 w')) (ds:=[]) (by kernel_rfl) rfl (by kernel_rfl) (RowKit.Below.refl _ _).drew (fun hHeld=>?_);refine with_tabW al6tab al6bits (fun HT_ HW_=>?_)
    generalize w5.drew=v5 at hHeld ⊢
    refine fl_ [0,39,1,1,40,3,2,41,7,3,42,15] ?_
    iterate 4 refine pz_ HT_ ?_
    refine fe_ ?_
    refine sk_ 4 31 (N:=43) (a':=?_) HT_ rfl rfl (by kernel_rfl) (fun _ _ _ h=>h) (Or.inr ⟨by rfl,rfl⟩) ?_ ?_
    rotate_left
    ·simp only[Act.put,zq1,zq2,zq3,i64_w,i32_w]
     rfl
    refine sk_ 5 63 (N:=44) (a':=?_) HT_ rfl rfl (by kernel_rfl) (fun _ _ _ h=>h) (Or.inr ⟨by rfl,rfl⟩) ?_ ?_
    rotate_left
    ·simp only[Act.put,zq1,zq2,zq3,i64_w,i32_w]
     rfl
    refine sk_ 6 127 (N:=45) (a':=?_) HT_ rfl rfl (by kernel_rfl) (fun _ _ _ h=>h) (Or.inr ⟨by rfl,rfl⟩) ?_ ?_
    rotate_left
    ·simp only[Act.put,zq1,zq2,zq3,i64_w,i32_w]
     rfl
    refine sk_ 7 255 (N:=46) (a':=?_) HT_ rfl rfl (by kernel_rfl) (fun _ _ _ h=>h) (Or.inr ⟨by rfl,rfl⟩) ?_ ?_
    rotate_left
    ·simp only[Act.put,zq1,zq2,zq3,i64_w,i32_w]
     rfl
    refine sk_ 8 511 (N:=47) (a':=?_) HT_ rfl rfl (by kernel_rfl) (fun _ _ _ h=>h) (Or.inr ⟨by rfl,rfl⟩) ?_ ?_
    rotate_left
    ·simp only[Act.put,zq1,zq2,zq3,i64_w,i32_w]
     rfl
    refine fl_ [9,48,1023,10,49,2047] ?_
    iterate 2 refine pz_ HT_ ?_
    refine fe_ ?_
    refine sk_ 11 4095 (N:=50) (a':=?_) HT_ rfl rfl (by kernel_rfl) (fun _ _ _ h=>h) (Or.inr ⟨by rfl,rfl⟩) ?_ ?_
    rotate_left
    ·simp only[Act.put,zq1,zq2,zq3,i64_w,i32_w]
     rfl
    refine sk_ 12 8191 (N:=51) (a':=?_) HT_ rfl rfl (by kernel_rfl) (fun _ _ _ h=>h) (Or.inr ⟨by rfl,rfl⟩) ?_ ?_
    rotate_left
    ·simp only[Act.put,zq1,zq2,zq3,i64_w,i32_w]
     rfl
    refine sk_ 13 16383 (N:=52) (a':=?_) HT_ rfl rfl (by kernel_rfl) (fun _ _ _ h=>h) (Or.inr ⟨by rfl,rfl⟩) ?_ ?_
    rotate_left
    ·simp only[Act.put,zq1,zq2,zq3,i64_w,i32_w]
     rfl
    refine sk_ 14 32767 (N:=53) (a':=?_) HT_ rfl rfl (by kernel_rfl) (fun _ _ _ h=>h) (Or.inr ⟨by rfl,rfl⟩) ?_ ?_
    rotate_left
    ·simp only[Act.put,zq1,zq2,zq3,i64_w,i32_w]
     rfl
    refine sk_ 15 65535 (N:=54) (a':=?_) HT_ rfl rfl (by kernel_rfl) (fun _ _ _ h=>h) (Or.inr ⟨by rfl,rfl⟩) ?_ ?_
    rotate_left
    ·simp only[Act.put,zq1,zq2,zq3,i64_w,i32_w]
     rfl
    refine sk_ 16 131071 (N:=55) (a':=?_) HT_ rfl rfl (by kernel_rfl) (fun _ _ _ h=>h) (Or.inr ⟨by rfl,rfl⟩) ?_ ?_
    rotate_left
    ·simp only[Act.put,zq1,zq2,zq3,i64_w,i32_w]
     rfl
    refine sk_ 17 262143 (N:=56) (a':=?_) HT_ rfl rfl (by kernel_rfl) (fun _ _ _ h=>h) (Or.inr ⟨by rfl,rfl⟩) ?_ ?_
    rotate_left
    ·simp only[Act.put,zq1,zq2,zq3,i64_w,i32_w]
     rfl
    refine sk_ 18 524287 (N:=57) (a':=?_) HT_ rfl rfl (by kernel_rfl) (fun _ _ _ h=>h) (Or.inr ⟨by rfl,rfl⟩) ?_ ?_
    rotate_left
    ·simp only[Act.put,zq1,zq2,zq3,i64_w,i32_w]
     rfl
    refine fl_ [19,58,1048575] ?_
    refine pz_ HT_ ?_
    refine fe_ ?_
    refine dz_ HT_ ?_
    exact Norm.intro ⟨rfl,hHeld⟩
   case mono=>
    rintro a' w6 ⟨rfl,hb6⟩
    go_wp2
    refine⟨_,results_list (rs:=[.tmp 4,.tmp 5,.tmp 6]) rfl (by simp) (.tmp (.tmp (.tmp .nil))),?_⟩
    rw[HDEF2.out,if_neg (by simp [headOk])]
    exact⟨_,rfl,Kd.S_nil _ _ _ _ _,HB5.out.trans (hb6.mono HB5.out.size)⟩
  | cons x l=>
   obtain⟨ad,A2,c2,e1,y0,y1,y2,hlc,hC2⟩:=Pt.at_T200 HCL.out (0:Int) (by omega) (by simp only[List.length_cons];omega)
   have hrd:Pt.rd_T200 (x::l) (0:Int)=x:=rfl
   rw[hrd] at y0 y1 y2 hlc hC2
   have y0:w5.cell? ad=some (.int .i64 x.f0):=y0
   have y2:w5.cell? ⟨ad.block,ad.off+2,none⟩=some (.slice A2 x.f2.length c2):=y2
   subst e1
   have hL0:(((x::l).length:Int)==0)=false:=beq_eq_false_iff_ne.2 (by simp only[List.length_cons];omega)
   have hL1:(0:Int) < ((x::l).length:Int):=by simp only[List.length_cons];omega
   obtain⟨N1,hN1⟩:∃N1,(x::l).length=N1:=⟨_,rfl⟩
   rw[hN1] at hL0 hL1 HCAP HCL HIL HV5 ⊢
   have HN1:=ak hN1
   have hL2:(N1==0)=false:=beq_eq_false_iff_ne.2 (by omega)
   have hL3:0 < N1:=by omega
   have HC2:=ak hC2
   clear y1 hrd hN1 hlc hC2
   by_cases hx:x.f0=0
   case neg=>
    have d1:(x.f0 !=0)=true:=bne_iff_ne.mpr hx
    have hh:headOk (x::l) n=false:=by simp [headOk,hx]
    have HH:=ak hh
    clear hh hx
    go_upto_region 6 with(fail)
    refine Code.wp_mono (Q:=Norm fun a' W=>a'={tmps:=#[ptr g,.int .i64 n,undef,undef,.slice none 0 0,.int .i64 0,.int .i64 0,.pointer (some ⟨sb,0,none⟩),.slice A3 bs.length c3,.int .i64 0,.slice (some ad) N1 c4,.pointer (some ⟨bb,0,none⟩),.int .i64 q1,.int .i64 q2,undef,undef,ptr g,.int .i64 n,.agg (segC g s n),.tuple #[.slice A3 bs.length c3,.int .i64 0],.pointer (some ⟨sb,0,none⟩),ptr g,.pointer (some ⟨sb,1,none⟩),.string s,.agg #[ptr g,.string s,.int .i64 n],.int .i64 sz,.tuple #[.slice A3 bs.length c3,.int .i64 0],.slice A3 bs.length c3,.int .i64 0,.int .i64 0,.bool false,undef,.tuple #[.slice (some ad) N1 c4,.int .i64 bd,.int .i64 q1,.int .i64 q2],.slice A3 bs.length c3,.tuple #[.slice (some ad) N1 c4,.int .i64 bd,.int .i64 q1,.int .i64 q2],.slice (some ad) N1 c4,.int .i64 bd,.int .i64 q1,.int .i64 q2,.slice (some ad) N1 c4,.int .i64 N1,.bool false,.bool false,.slice (some ad) N1 c4,.pointer (some ad),.pointer (some ad),.int .i64 x.f0,.bool true,.bool true,.bool true,undef,undef,undef,undef,undef,undef,undef,undef,.bool true,undef,undef,undef,undef,undef,undef,undef,undef,undef,undef],defers:=[]}∧RowKit.Below w5.heap.size w5 W) (Norm.elim ?mono) ?reg
    case reg=>
     refine st_ 20 (S:=(fun w'=>RowKit.Below w5.heap.size w5 w')) (ds:=[]) (by kernel_rfl) rfl (by kernel_rfl) (RowKit.Below.refl _ _).drew (fun hHeld=>?_);refine with_tabW al6tab al6bits (fun HT_ HW_=>?_)
     generalize w5.drew=v5 at hHeld ⊢
     refine fl_ [0,39,1,1,40,3,2,41,7,3,42,15,4,43,31,5,44,63,6,45,127] ?_
     iterate 7 refine pz_ HT_ ?_
     refine fe_ ?_
     refine tk_ 7 255 (N:=some 46) (v:=?_) (a':=?_) HT_ HW_ rfl rfl (.inl ⟨by rfl,?_⟩) hHeld ?_ ?_
     rotate_left
     ·rintro w' hs
      have xx:=pw_cell_below hs y0
      go_simp
      with_reducible rfl
     rotate_left
     ·simp only[Act.put,zq1,zq2,zq3,i64_w,i32_w]
      rfl
     refine fl_ [8,47,511,9,48,1023,10,49,2047] ?_
     iterate 3 refine pz_ HT_ ?_
     refine fe_ ?_
     refine sk_ 11 4095 (N:=50) (a':=?_) HT_ rfl rfl (by kernel_rfl) (fun _ _ _ h=>h) (Or.inr ⟨by rfl,rfl⟩) ?_ ?_
     rotate_left
     ·simp only[Act.put,zq1,zq2,zq3,i64_w,i32_w]
      rfl
     refine sk_ 12 8191 (N:=51) (a':=?_) HT_ rfl rfl (by kernel_rfl) (fun _ _ _ h=>h) (Or.inr ⟨by rfl,rfl⟩) ?_ ?_
     rotate_left
     ·simp only[Act.put,zq1,zq2,zq3,i64_w,i32_w]
      rfl
     refine sk_ 13 16383 (N:=52) (a':=?_) HT_ rfl rfl (by kernel_rfl) (fun _ _ _ h=>h) (Or.inr ⟨by rfl,rfl⟩) ?_ ?_
     rotate_left
     ·simp only[Act.put,zq1,zq2,zq3,i64_w,i32_w]
      rfl
     refine sk_ 14 32767 (N:=53) (a':=?_) HT_ rfl rfl (by kernel_rfl) (fun _ _ _ h=>h) (Or.inr ⟨by rfl,rfl⟩) ?_ ?_
     rotate_left
     ·simp only[Act.put,zq1,zq2,zq3,i64_w,i32_w]
      rfl
     refine sk_ 15 65535 (N:=54) (a':=?_) HT_ rfl rfl (by kernel_rfl) (fun _ _ _ h=>h) (Or.inr ⟨by rfl,rfl⟩) ?_ ?_
     rotate_left
     ·simp only[Act.put,zq1,zq2,zq3,i64_w,i32_w]
      rfl
     refine sk_ 16 131071 (N:=55) (a':=?_) HT_ rfl rfl (by kernel_rfl) (fun _ _ _ h=>h) (Or.inr ⟨by rfl,rfl⟩) ?_ ?_
     rotate_left
     ·simp only[Act.put,zq1,zq2,zq3,i64_w,i32_w]
      rfl
     refine sk_ 17 262143 (N:=56) (a':=?_) HT_ rfl rfl (by kernel_rfl) (fun _ _ _ h=>h) (Or.inr ⟨by rfl,rfl⟩) ?_ ?_
     rotate_left
     ·simp only[Act.put,zq1,zq2,zq3,i64_w,i32_w]
      rfl
     refine sk_ 18 524287 (N:=57) (a':=?_) HT_ rfl rfl (by kernel_rfl) (fun _ _ _ h=>h) (Or.inr ⟨by rfl,rfl⟩) ?_ ?_
     rotate_left
     ·simp only[Act.put,zq1,zq2,zq3,i64_w,i32_w]
      rfl
     refine fl_ [19,58,1048575] ?_
     refine pz_ HT_ ?_
     refine fe_ ?_
     refine dz_ HT_ ?_
     exact Norm.intro ⟨rfl,hHeld⟩
    case mono=>
     rintro a' w6 ⟨rfl,hb6⟩
     go_wp2
     refine⟨_,results_list (rs:=[.tmp 4,.tmp 5,.tmp 6]) rfl (by simp) (.tmp (.tmp (.tmp .nil))),?_⟩
     rw[HDEF2.out,HH.out,if_neg (by decide)]
     exact⟨_,rfl,Kd.S_nil _ _ _ _ _,HB5.out.trans (hb6.mono HB5.out.size)⟩
   have d1:(x.f0 !=0)=false:=by rw[hx];rfl
   have hz5:=HZ5.out
   have s0:=bq hz5 0 (ptr g)
   have s1:=bq hz5 1 (.string s)
   have s2:=bq hz5 2 (.int .i64 n)
   obtain⟨b,hb⟩:∃b,(x.f2==firstB n)=b:=⟨_,rfl⟩
   have hbe:((strOfNums x.f2).toList==(strOfNums (firstB n)).toList)=b:=by rw[str_beq (HIB.out x (by simp)).1 (firstB_bytes n)];exact hb
   have hbn:((strOfNums x.f2).toList !=(strOfNums (firstB n)).toList)=!b:=by rw[bne,hbe]
   have hh:headOk (x::l) n=b:=by simp [headOk,hx,hb]
   have HH:=ak hh
   clear hh hx hb hz5
   cases b with
   | false=>
    go_upto_region 6 with(fail)
    refine Code.wp_mono (Q:=Norm fun a' W=>a'={tmps:=#[ptr g,.int .i64 n,undef,undef,.slice none 0 0,.int .i64 0,.int .i64 0,.pointer (some ⟨sb,0,none⟩),.slice A3 bs.length c3,.int .i64 0,.slice (some ad) N1 c4,.pointer (some ⟨bb,0,none⟩),.int .i64 q1,.int .i64 q2,undef,undef,ptr g,.int .i64 n,.agg (segC g s n),.tuple #[.slice A3 bs.length c3,.int .i64 0],.pointer (some ⟨sb,0,none⟩),ptr g,.pointer (some ⟨sb,1,none⟩),.string s,.agg #[ptr g,.string s,.int .i64 n],.int .i64 sz,.tuple #[.slice A3 bs.length c3,.int .i64 0],.slice A3 bs.length c3,.int .i64 0,.int .i64 0,.bool false,undef,.tuple #[.slice (some ad) N1 c4,.int .i64 bd,.int .i64 q1,.int .i64 q2],.slice A3 bs.length c3,.tuple #[.slice (some ad) N1 c4,.int .i64 bd,.int .i64 q1,.int .i64 q2],.slice (some ad) N1 c4,.int .i64 bd,.int .i64 q1,.int .i64 q2,.slice (some ad) N1 c4,.int .i64 N1,.bool false,.bool false,.slice (some ad) N1 c4,.pointer (some ad),.pointer (some ad),.int .i64 x.f0,.bool false,.bool false,.bool false,.slice (some ad) N1 c4,.pointer (some ad),.pointer (some ⟨ad.block,ad.off+2,none⟩),.slice A2 x.f2.length c2,.string (strOfNums x.f2),.agg #[ptr g,.string s,.int .i64 n],.string (strOfNums (firstB n)),.bool true,.bool true,undef,undef,undef,undef,undef,undef,undef,undef,undef,undef],defers:=[]}∧RowKit.Below w5.heap.size w5 W) (Norm.elim ?mono) ?reg
    case reg=>
     refine st_ 20 (S:=(fun w'=>RowKit.Below w5.heap.size w5 w')) (ds:=[]) (by kernel_rfl) rfl (by kernel_rfl) (RowKit.Below.refl _ _).drew (fun hHeld=>?_);refine with_tabW al6tab al6bits (fun HT_ HW_=>?_)
     generalize w5.drew=v5 at hHeld ⊢
     refine fl_ [0,39,1,1,40,3,2,41,7,3,42,15,4,43,31,5,44,63,6,45,127] ?_
     iterate 7 refine pz_ HT_ ?_
     refine fe_ ?_
     refine tk_ 7 255 (N:=some 46) (v:=?_) (a':=?_) HT_ HW_ rfl rfl (.inl ⟨by rfl,?_⟩) hHeld ?_ ?_
     rotate_left
     ·rintro w' hs
      have xx:=pw_cell_below hs y0
      go_simp
      with_reducible rfl
     rotate_left
     ·simp only[Act.put,zq1,zq2,zq3,i64_w,i32_w]
      rfl
     refine fl_ [8,47,511,9,48,1023,10,49,2047,11,50,4095,12,51,8191,13,52,16383] ?_
     iterate 6 refine pz_ HT_ ?_
     refine fe_ ?_
     refine tk_ 14 32767 (N:=some 53) (v:=?_) (a':=?_) HT_ HW_ rfl rfl (.inl ⟨by rfl,?_⟩) hHeld ?_ ?_
     rotate_left
     ·rintro w' hs
      have xx:=pw_cell_below hs y2
      go_simp
      with_reducible rfl
     rotate_left
     ·simp only[Act.put,zq1,zq2,zq3,i64_w,i32_w]
      rfl
     refine tk_ 15 65535 (N:=some 54) (v:=?_) (a':=?_) HT_ HW_ rfl rfl (.inl ⟨by rfl,?_⟩) hHeld ?_ ?_
     rotate_left
     ·rintro w' hs
      have hcv:(convert 35 9 (.slice A2 x.f2.length c2)).run Tryz.prog w'=.ok (.string (strOfNums x.f2)) w':=Kd.C_string Tryz.underlying35 Tryz.underlying5 Tryz.underlying9 (Kd.C_below HC2.out hs)
      go_simp
      with_reducible rfl
     rotate_left
     ·simp only[Act.put,zq1,zq2,zq3,i64_w,i32_w]
      rfl
     refine tk_ 16 131071 (N:=some 55) (v:=?_) (a':=?_) HT_ HW_ rfl rfl (.inl ⟨by rfl,?_⟩) hHeld ?_ ?_
     rotate_left
     ·rintro w' hs
      have x0':=pw_cell_below hs s0
      have x1':=pw_cell_below hs s1
      have x2':=pw_cell_below hs s2
      go_simp
      with_reducible rfl
     rotate_left
     ·simp only[Act.put,zq1,zq2,zq3,i64_w,i32_w]
      rfl
     refine on_ 17 262143 (some 56) HT_ rfl rfl (by kernel_rfl) (by decide) (fun K hK=>?_)
     refine goes_ Tryz.func104 (by kernel_rfl) rfl #[.agg #[ptr g,.string s,.int .i64 n]] (by rfl) rfl rfl (by(try simp only[List.map_toArray,List.map_cons,List.map_nil]);first | done | rfl) ?_
     refine(Sg.first_calls g s n _).mono ?_
     rintro e v6 ⟨rfl,hb⟩
     refine⟨_,rfl,?_⟩
     have hHeld:=hHeld.trans (hb.mono hHeld.size)
     refine kz_ hK hHeld fun hHeld=>?_;clear hK K
     refine fl_ [18,57,524287,19,58,1048575] ?_
     iterate 2 refine pz_ HT_ ?_
     refine fe_ ?_
     refine dz_ HT_ ?_
     exact Norm.intro ⟨rfl,hHeld⟩
    case mono=>
     rintro a' w6 ⟨rfl,hb6⟩
     go_wp2
     refine⟨_,results_list (rs:=[.tmp 4,.tmp 5,.tmp 6]) rfl (by simp) (.tmp (.tmp (.tmp .nil))),?_⟩
     rw[HDEF2.out,HH.out,if_neg (by decide)]
     exact⟨_,rfl,Kd.S_nil _ _ _ _ _,HB5.out.trans (hb6.mono HB5.out.size)⟩
   | true=>
    go_upto_region 6 with(fail)
    refine Code.wp_mono (Q:=Norm fun a' W=>a'={tmps:=#[ptr g,.int .i64 n,undef,undef,.slice none 0 0,.int .i64 0,.int .i64 0,.pointer (some ⟨sb,0,none⟩),.slice A3 bs.length c3,.int .i64 0,.slice (some ad) N1 c4,.pointer (some ⟨bb,0,none⟩),.int .i64 q1,.int .i64 q2,undef,undef,ptr g,.int .i64 n,.agg (segC g s n),.tuple #[.slice A3 bs.length c3,.int .i64 0],.pointer (some ⟨sb,0,none⟩),ptr g,.pointer (some ⟨sb,1,none⟩),.string s,.agg #[ptr g,.string s,.int .i64 n],.int .i64 sz,.tuple #[.slice A3 bs.length c3,.int .i64 0],.slice A3 bs.length c3,.int .i64 0,.int .i64 0,.bool false,undef,.tuple #[.slice (some ad) N1 c4,.int .i64 bd,.int .i64 q1,.int .i64 q2],.slice A3 bs.length c3,.tuple #[.slice (some ad) N1 c4,.int .i64 bd,.int .i64 q1,.int .i64 q2],.slice (some ad) N1 c4,.int .i64 bd,.int .i64 q1,.int .i64 q2,.slice (some ad) N1 c4,.int .i64 N1,.bool false,.bool false,.slice (some ad) N1 c4,.pointer (some ad),.pointer (some ad),.int .i64 x.f0,.bool false,.bool false,.bool false,.slice (some ad) N1 c4,.pointer (some ad),.pointer (some ⟨ad.block,ad.off+2,none⟩),.slice A2 x.f2.length c2,.string (strOfNums x.f2),.agg #[ptr g,.string s,.int .i64 n],.string (strOfNums (firstB n)),.bool false,.bool false,undef,undef,undef,undef,undef,undef,undef,undef,undef,undef],defers:=[]}∧RowKit.Below w5.heap.size w5 W) (Norm.elim ?mono) ?reg
    case reg=>
     refine st_ 20 (S:=(fun w'=>RowKit.Below w5.heap.size w5 w')) (ds:=[]) (by kernel_rfl) rfl (by kernel_rfl) (RowKit.Below.refl _ _).drew (fun hHeld=>?_);refine with_tabW al6tab al6bits (fun HT_ HW_=>?_)
     generalize w5.drew=v5 at hHeld ⊢
     refine fl_ [0,39,1,1,40,3,2,41,7,3,42,15,4,43,31,5,44,63,6,45,127] ?_
     iterate 7 refine pz_ HT_ ?_
     refine fe_ ?_
     refine tk_ 7 255 (N:=some 46) (v:=?_) (a':=?_) HT_ HW_ rfl rfl (.inl ⟨by rfl,?_⟩) hHeld ?_ ?_
     rotate_left
     ·rintro w' hs
      have xx:=pw_cell_below hs y0
      go_simp
      with_reducible rfl
     rotate_left
     ·simp only[Act.put,zq1,zq2,zq3,i64_w,i32_w]
      rfl
     refine fl_ [8,47,511,9,48,1023,10,49,2047,11,50,4095,12,51,8191,13,52,16383] ?_
     iterate 6 refine pz_ HT_ ?_
     refine fe_ ?_
     refine tk_ 14 32767 (N:=some 53) (v:=?_) (a':=?_) HT_ HW_ rfl rfl (.inl ⟨by rfl,?_⟩) hHeld ?_ ?_
     rotate_left
     ·rintro w' hs
      have xx:=pw_cell_below hs y2
      go_simp
      with_reducible rfl
     rotate_left
     ·simp only[Act.put,zq1,zq2,zq3,i64_w,i32_w]
      rfl
     refine tk_ 15 65535 (N:=some 54) (v:=?_) (a':=?_) HT_ HW_ rfl rfl (.inl ⟨by rfl,?_⟩) hHeld ?_ ?_
     rotate_left
     ·rintro w' hs
      have hcv:(convert 35 9 (.slice A2 x.f2.length c2)).run Tryz.prog w'=.ok (.string (strOfNums x.f2)) w':=Kd.C_string Tryz.underlying35 Tryz.underlying5 Tryz.underlying9 (Kd.C_below HC2.out hs)
      go_simp
      with_reducible rfl
     rotate_left
     ·simp only[Act.put,zq1,zq2,zq3,i64_w,i32_w]
      rfl
     refine tk_ 16 131071 (N:=some 55) (v:=?_) (a':=?_) HT_ HW_ rfl rfl (.inl ⟨by rfl,?_⟩) hHeld ?_ ?_
     rotate_left
     ·rintro w' hs
      have x0':=pw_cell_below hs s0
      have x1':=pw_cell_below hs s1
      have x2':=pw_cell_below hs s2
      go_simp
      with_reducible rfl
     rotate_left
     ·simp only[Act.put,zq1,zq2,zq3,i64_w,i32_w]
      rfl
     refine on_ 17 262143 (some 56) HT_ rfl rfl (by kernel_rfl) (by decide) (fun K hK=>?_)
     refine goes_ Tryz.func104 (by kernel_rfl) rfl #[.agg #[ptr g,.string s,.int .i64 n]] (by rfl) rfl rfl (by(try simp only[List.map_toArray,List.map_cons,List.map_nil]);first | done | rfl) ?_
     refine(Sg.first_calls g s n _).mono ?_
     rintro e v6 ⟨rfl,hb⟩
     refine⟨_,rfl,?_⟩
     have hHeld:=hHeld.trans (hb.mono hHeld.size)
     refine kz_ hK hHeld fun hHeld=>?_;clear hK K
     refine fl_ [18,57,524287,19,58,1048575] ?_
     iterate 2 refine pz_ HT_ ?_
     refine fe_ ?_
     refine dz_ HT_ ?_
     exact Norm.intro ⟨rfl,hHeld⟩
    case mono=>
     rintro a' w6 ⟨rfl,hb6⟩
     obtain⟨A7,hsl,hc7⟩:=item_cut ad c4 N1 (by omega)
     have HB6:=ak (HB5.out.trans (hb6.mono HB5.out.size))
     have HBB6:=ak ((hb6.block _ (blk_lt HBB.out)).trans HBB.out)
     have hC4:Kd.C Pt.k200 w4 A7 l.length l:=by
      have h:=HV4.out
      obtain⟨A',c',e1,e2,e3⟩:=Kd.S_reads h
      injection e1 with e4 e5 e6
      subst e4 e6
      exact hc7 w4 (x::l) HN1.out (by rw[← HN1.out];exact e2) e3
     have hll:N1 - 1=l.length:=by have:=HN1.out;simp only[List.length_cons] at this;omega
     have HC4:=ak hC4
     have HLL:=ak (show l.length≤67108865 by have:=HIL.out;have:=HFB.out.2;omega)
     have HTB:=ak (fun y (hy:y∈l)=>(⟨(HIB.out y (by simp [hy])).1,Nat.le_trans (HIB.out y (by simp [hy])).2 (by decide)⟩:IsBytes y.f2∧y.f2.length≤1000000000))
     have HDEF3:=ak (show AM=(foundsL l,((bd+badL l:Nat):Int),0) by rw[HDEF2.out,HH.out,if_pos rfl];rfl)
     have HB46:=ak (HB45.out.trans (hb6.mono HB45.out.size))
     clear hc7 hC4 y0 y2 s0 s1 s2 hbe hbn d1 HDEF2 HH
     rw[hll] at hsl
     go_wp2_with (go_at_call 144;(with_reducible refine(records_calls A7 l.length (c4 - 1) bb _).mono ?_);rintro e w7 ⟨rfl,rfl⟩)
     obtain⟨q0,q1',q2',q3,q4⟩:=three_blocks w6 (.cells #[.slice none 0 0] 172) (.cells #[.slice A7 l.length (c4 - 1)] 196) (.cells #[.pointer (some ⟨bb,0,none⟩)] 204)
     generalize ((w6.alloc (.cells #[.slice none 0 0] 172)).alloc (.cells #[.slice A7 l.length (c4 - 1)] 196)).alloc (.cells #[.pointer (some ⟨bb,0,none⟩)] 204)=W0 at q0 q1' q2' q3 q4 ⊢
     have HBW0:=HB6.out.trans (q4.mono HB6.out.size)
     have HH0:Hr w4 W0 bb (w6.heap.size+1) (w6.heap.size+2) A7 l.length (c4 - 1) bd:=⟨(q4.block _ (blk_lt HBB6.out)).trans HBB6.out,q1',q2',HB46.out.trans (q4.mono HB46.out.size)⟩
     have hob:bb < w6.heap.size:=blk_lt HBB6.out
     have hwo:w.heap.size≤w6.heap.size:=HB6.out.size
     obtain⟨ob,hobe⟩:∃ob,w6.heap.size=ob:=⟨_,rfl⟩
     rw[hobe] at q0 q1' q2' q3 HH0 hob hwo ⊢
     have HBE2:=HBE.out
     clear q1' q2' q4 hsl hb6 HBB6 HB46 hobe
     refine Sc.range_wide rfl (enters_of Tryz.func165 (by kernel_rfl) rfl) ?_
     intro fn rec hrec
     rw[q3]
     have HH1:Hr w4 ((W0.alloc (.deferred (some []))).alloc (.loop (rec .ready none))) bb (ob+1) (ob+2) A7 l.length (c4 - 1) bd:=(HH0.below (below_alloc (RowKit.Below.refl _ _) _)).below (below_alloc (RowKit.Below.refl _ _) _)
     have HBW1:=ak (below_alloc (below_alloc HBW0 (.deferred (some []))) (.loop (rec .ready none)))
     have HJ1:JF w.heap.size ob (ob+3) (ob+4) rec [] (ob+5) ((W0.alloc (.deferred (some []))).alloc (.loop (rec .ready none))):=by
      have d1:=World.alloc_heap_new W0 (.deferred (some []))
      have d2:=World.alloc_heap_new (W0.alloc (.deferred (some []))) (.loop (rec .ready none))
      rw[World.size_alloc] at d2
      rw[q3] at d1 d2
      exact⟨(Below.heap_alloc _ _ _ (by simp <;> omega)).trans d1,d2,by omega,_,(Below.heap_alloc _ _ _ (by simp <;> omega)).trans ((Below.heap_alloc _ _ _ (by omega)).trans q0),Kd.S_nil _ _ _ _ _⟩
     have hsz1:((W0.alloc (.deferred (some []))).alloc (.loop (rec .ready none))).heap.size=ob+5:=by simp;omega
     generalize (W0.alloc (.deferred (some []))).alloc (.loop (rec .ready none))=W1 at HH1 HJ1 hsz1 HBW1 ⊢
     clear q0 q3 HH0 HBW0
     refine(records1_calls w4 (ob+4) A7 (c4 - 1) l bb (ob+1) (ob+2) (by omega) (by omega) (Nat.le_of_eq HBE2) (fun pre N W=>JF w.heap.size ob (ob+3) (ob+4) rec pre N W∧RowKit.Below w.heap.size w W) W1 (ob+5) bd HC4.out (by have:=HLL.out;omega) HTB.out (by have:=HBS.out;have:=HFB.out.2;omega) ?j1 ?j2 ?yy ⟨HJ1,HBW1.out⟩ (Nat.le_of_eq hsz1.symm) HH1).mono ?fin
     case j1=>
      rintro pre N W W' ⟨⟨h1,h2,hn,v,h3,h4⟩,h5⟩ hN hb
      exact⟨⟨(hb.block _ (blk_lt h1)).trans h1,(hb.block _ (blk_lt h2)).trans h2,hn,v,(hb.block _ (blk_lt h3)).trans h3,Kd.S_below h4 hb⟩,h5.trans (hb.mono h5.size)⟩
     case j2=>
      rintro pre N W p u hp ⟨⟨h1,h2,hn,v,h3,h4⟩,h5⟩
      exact⟨⟨(Below.heap_setCell _ _ _ _ (by omega)).trans h1,(Below.heap_setCell _ _ _ _ (by omega)).trans h2,hn,v,blk_far h3 (by omega) _,Kd.S_far h4 (fun k hk=>by omega) _⟩,h5.setCell (by have:=HBL.out;omega) _⟩
     case yy=>
      try clear HREAD;try clear HSIZE;try clear HSC;try clear HV3;try clear HV4;try clear HV5;try clear HCL;try clear HCAP;try clear HIL;try clear HIB;try clear HN1;try clear hL0;try clear hL1;try clear hL2;try clear hL3;try clear HC2;try clear HZ2;try clear HZ3;try clear HZ4;try clear HZ5;try clear HB1;try clear HB2;try clear HB3;try clear HB4;try clear HB5;try clear HB6;try clear HDEF3;try clear HBB;try clear HB45;try clear hll;try clear HTB;try clear HC4;try clear HFB;try clear HBS;try clear HH1;try clear HJ1;try clear hsz1;try clear HBW1;try clear HLE4;try clear HBL
      rintro pre N' bad x1 R1 A51 c51 A61 c61 W2 ⟨⟨hd,hl,hn,v1,hv1,hS⟩,hBJ⟩ hN hH hpre hL5 hY6
      have hl':=hl
      rw[hrec] at hl
      refine Sc.yield_wide hl rfl ?_
      have hcells:(Value.agg #[.int .i64 0,.int .i64 0,.int .i64 0,.string ⟨#[]⟩,.int .i64 0,.int .i64 0,.int .i64 0,.slice none 0 0,.slice none 0 0]).cells=#[.int .i64 0,.int .i64 0,.int .i64 0,.string ⟨#[]⟩,.int .i64 0,.int .i64 0,.int .i64 0,.slice none 0 0,.slice none 0 0]:=rfl
      gi_wp2
      have hg3:=World.alloc_heap_new W2 (.cells #[.int .i64 x1.f0,.int .i64 x1.f1,.int .i64 R1.f0,.string R1.f1,.int .i64 R1.f2,.int .i64 R1.f3,.int .i64 R1.f4,.slice A51 R1.f5.length c51,.slice A61 R1.f6.length c61] 206)
      have hB3:=below_alloc (RowKit.Below.refl W2.heap.size W2) (.cells #[.int .i64 x1.f0,.int .i64 x1.f1,.int .i64 R1.f0,.string R1.f1,.int .i64 R1.f2,.int .i64 R1.f3,.int .i64 R1.f4,.slice A51 R1.f5.length c51,.slice A61 R1.f6.length c61] 206)
      have hsz:ob+4 < W2.heap.size:=blk_lt hl'
      generalize hg0:W2.heap.size=gg at hg3 hsz hN hB3 ⊢
      have hs3:(W2.alloc (.cells #[.int .i64 x1.f0,.int .i64 x1.f1,.int .i64 R1.f0,.string R1.f1,.int .i64 R1.f2,.int .i64 R1.f3,.int .i64 R1.f4,.slice A51 R1.f5.length c51,.slice A61 R1.f6.length c61] 206)).heap.size=gg+1:=by simp [hg0]
      generalize W2.alloc (.cells #[.int .i64 x1.f0,.int .i64 x1.f1,.int .i64 R1.f0,.string R1.f1,.int .i64 R1.f2,.int .i64 R1.f3,.int .i64 R1.f4,.slice A51 R1.f5.length c51,.slice A61 R1.f6.length c61] 206)=W3 at hg3 hB3 hs3 ⊢
      rw[← hg0] at hB3
      have hl3:W3.heap[ob+4]? =some (.loop (rec .ready none)):=(hB3.block _ (blk_lt hl')).trans hl'
      have hbr:(Instr.beginRound (ob+4)).run Tryz.prog W3=.ok () (W3.putObj (ob+4) (.loop (rec .busy none))):=by
       rw[hrec] at hl3
       rw[hrec]
       exact run_beginRound hl3 rfl
      refine⟨_,hbr,?_⟩
      have e0:∀i,i≠ob+4→(W3.putObj (ob+4) (.loop (rec .busy none))).heap[i]? =W3.heap[i]? :=fun i hi=>World.putObj_heap_other hi
      have e1:∀i,i < W2.heap.size→i≠ob+4→(W3.putObj (ob+4) (.loop (rec .busy none))).heap[i]? =W2.heap[i]? :=fun i hi hne=>(e0 i hne).trans (hB3.block i hi)
      have HL:=ak (show(W3.putObj (ob+4) (.loop (rec .busy none))).heap[ob+4]? =some (.loop (rec .busy none)) from World.putObj_heap_same (blk_lt hl3))
      have HD:=ak ((e1 (ob+3) (by omega) (by omega)).trans hd)
      have HO:=ak ((e1 ob (by omega) (by omega)).trans hv1)
      have HX:=ak ((e0 gg (by omega)).trans hg3)
      have HS:=ak (show Kd.S Pt.k206 206 (W3.putObj (ob+4) (.loop (rec .busy none))) w.heap.size (fun k=>ob+4 < k∧k < N') v1 pre from Kd.S_step hS (fun k hk hlt=>e1 k hlt (by omega)))
      have HL5:=ak (show Kd.R Pt.k57 57 (W3.putObj (ob+4) (.loop (rec .busy none))) N' (fun k=>some k=(Value.slice A51 R1.f5.length c51).ownBlock) (.slice A51 R1.f5.length c51) R1.f5 from Kd.R_move (Kd.R_tight rfl hL5) (fun k hk=>e1 k (Kd.R_lt hL5 k hk.symm) (by have:=Kd.R_base hL5 k hk.symm;omega)))
      have HY6:=ak (show Kd.R (Kd.int .u8) 5 (W3.putObj (ob+4) (.loop (rec .busy none))) N' (fun k=>some k=(Value.slice A61 R1.f6.length c61).ownBlock) (.slice A61 R1.f6.length c61) R1.f6 from Kd.R_move (Kd.R_tight rfl hY6) (fun k hk=>e1 k (Kd.R_lt hY6 k hk.symm) (by have:=Kd.R_base hY6 k hk.symm;omega)))
      have HSZ:=ak (show(W3.putObj (ob+4) (.loop (rec .busy none))).heap.size=gg+1 by simp [hs3])
      have HBW:=ak ((hBJ.trans (hB3.mono hBJ.size)).grown (grownBy_putObj' W3 (ob+4) (.loop (rec .busy none))) (by rw[hs3];omega) (fun k e=>by cases e;omega))
      have HHd:Aside0 (Hr w4 (W3.putObj (ob+4) (.loop (rec .busy none))) bb (ob+1) (ob+2) A7 l.length (c4 - 1) bad):=
       ⟨⟨(e1 _ (by omega) (by omega)).trans hH.st,(e1 _ (by omega) (by omega)).trans hH.x1,(e1 _ (by omega) (by omega)).trans hH.x2,(hH.bel.trans (hB3.mono hH.bel.size)).grown (grownBy_putObj' W3 (ob+4) (.loop (rec .busy none))) (by rw[hs3];omega) (fun k e=>by cases e;omega)⟩⟩
      clear hl hd hv1 hS hH hg3 hB3 hl3 hbr e0 e1 hs3 hl' hg0 hL5 hY6 hBJ
      generalize W3.putObj (ob+4) (.loop (rec .busy none))=W4 at HL HD HO HX HS HL5 HY6 HSZ HHd HBW ⊢
      have o0:=(blk_cell HO.out 0).trans rfl
      have z0:=blk_frozen HO.out 0
      have x0:=(blk_cell HX.out 0).trans rfl
      have x1':=(blk_cell HX.out 1).trans rfl
      have x2:=(blk_cell HX.out 2).trans rfl
      have x3:=(blk_cell HX.out 3).trans rfl
      have x4:=(blk_cell HX.out 4).trans rfl
      have x5:=(blk_cell HX.out 5).trans rfl
      have x6:=(blk_cell HX.out 6).trans rfl
      have x7:=(blk_cell HX.out 7).trans rfl
      have x8:=(blk_cell HX.out 8).trans rfl
      obtain⟨Sv,hSv⟩:∃f,Aside0 (∀k,v1.ownBlock=some k→ob+4 < k∧k < N'):=⟨(),⟨(Kd.S_R HS.out).1⟩⟩
      have hbyte:(pre.length+1)*112≤140737488355328:=by have:=HLL.out;omega
      have HBYTE:=ak hbyte
      have HLE0:=ak (show w.heap.size≤ob from hwo)
      gi_wp2_with (gi_at_builtin;refine Sc.append_in Pt.k206 (w0:=w) w.heap.size rfl (.tmp 63) (.tmp 65) 172 206 (.agg #[.int .i64 0,.int .i64 0,.int .i64 0,.string ⟨#[]⟩,.int .i64 0,.int .i64 0,.int .i64 0,.slice none 0 0,.slice none 0 0]) 112 rfl Tryz.underlying172 Pt.info206 rfl (by decide) (by omega) v1 pre (⟨x1.f0,x1.f1,R1⟩:Fo) [.int .i64 x1.f0,.int .i64 x1.f1,.int .i64 R1.f0,.string R1.f1,.int .i64 R1.f2,.int .i64 R1.f3,.int .i64 R1.f4,.slice A51 R1.f5.length c51,.slice A61 R1.f6.length c61] (fun k=>ob+4 < k) (fun k=>some k=(Value.slice A51 R1.f5.length c51).ownBlock∨some k=(Value.slice A61 R1.f6.length c61).ownBlock) rfl rfl ?aP ?aK ?aF ?aO ?aB ?aS ?aL ?_;(case aP=>exact Pt.k206_mkM _ _ _ (⟨x1.f0,x1.f1,R1⟩:Fo) (Kd.R_lower (Kd.R_mono HL5.out (fun k hk=>.inl hk)) (by have:=HLE0.out;omega)) (Kd.R_lower (Kd.R_mono HY6.out (fun k hk=>.inr hk)) (by have:=HLE0.out;omega)));(case aK=>exact(fun k hk=>⟨by rcases hk with hk | hk <;> first | (have:=Kd.R_base HL5.out k hk.symm;omega) | (have:=Kd.R_base HY6.out k hk.symm;omega),fun e=>by have:=hSv.out k e.symm;rcases hk with hk | hk <;> first | (have:=Kd.R_base HL5.out k hk.symm;omega) | (have:=Kd.R_base HY6.out k hk.symm;omega)⟩));(case aF=>exact(fun k hk=>by have:=HSZ.out;omega));(case aO=>exact Kd.S_mono HS.out (fun k hk=>⟨hk.1,fun e=>by rcases e with e | e <;> first | (have:=Kd.R_base HL5.out k e.symm;omega) | (have:=Kd.R_base HY6.out k e.symm;omega)⟩));(case aB=>exact HBW.out);(case aS=>exact HBW.out.size);(case aL=>exact HBYTE.out);intro v5 w5' hS5 hB5 hg5;obtain⟨A5',c5',rfl⟩:=Kd.S_slice hS5;have HS5:=ak hS5;have HB5':=ak hB5;have HG5:=ak hg5;clear hS5 hB5 hg5;have HO5:=ak (blk_grown HO.out HG5.out (fun e=>by have:=hSv.out _ e.symm;omega));have o5:=(blk_cell HO5.out 0).trans rfl;have z5:=blk_frozen HO5.out 0)
      have hS5:=HS5.out
      have hlen5:(pre++[(⟨x1.f0,x1.f1,R1⟩:Fo)]).length=pre.length+1:=by simp
      rw[hlen5] at hS5
      have hw4:=HSZ.out
      have f5:∀i,i≤ob+4→w5'.heap[i]? =W4.heap[i]? :=fun i hi=>HG5.out.block i (by omega) (fun e=>by have:=hSv.out i e.symm;omega)
      have f6:∀i,i≤ob+4→i≠ob→(w5'.setCell ⟨ob,0,none⟩ (.slice A5' (pre.length+1) c5')).heap[i]? =W4.heap[i]? :=fun i hi hne=>(Below.heap_setCell w5' _ _ i hne).trans (f5 i hi)
      have hz5:W4.heap.size≤w5'.heap.size:=HG5.out.size
      have hO6:=blk_put (cs:=#[v1]) HO5.out 0 (.slice A5' (pre.length+1) c5') rfl
      have hS6:=Kd.S_far (p:=⟨ob,0,none⟩) (Kd.S_bound hS5) (fun k hk=>by have:=hk.1;simp only;omega) (.slice A5' (pre.length+1) c5')
      have hB6:=HB5'.out.setCell (p:=⟨ob,0,none⟩) HLE0.out (.slice A5' (pre.length+1) c5')
      have hB46:=(HHd.out.bel.grown HG5.out HHd.out.bel.size (fun k e=>by have:=hSv.out k e;omega)).setCell (p:=⟨ob,0,none⟩) (show w4.heap.size≤ob by omega) (.slice A5' (pre.length+1) c5')
      have hz6:w5'.heap.size≤(w5'.setCell ⟨ob,0,none⟩ (.slice A5' (pre.length+1) c5')).heap.size:=(KeepsWalks.setCell _ _ _).size
      generalize w5'.setCell ⟨ob,0,none⟩ (.slice A5' (pre.length+1) c5')=w6' at f6 hO6 hS6 hB6 hz6 hB46 ⊢
      have hl6:w6'.heap[ob+4]? =some (.loop (rec .busy none)):=(f6 _ (by omega) (by omega)).trans HL.out
      have hend:(Instr.endRound (ob+4) none).run Tryz.prog w6'=.ok (.bool true) (w6'.putObj (ob+4) (.loop (rec .ready none))):=by
       rw[hrec] at hl6
       rw[hrec]
       exact run_endRound none hl6
      have e7:∀i,i≠ob+4→(w6'.putObj (ob+4) (.loop (rec .ready none))).heap[i]? =w6'.heap[i]? :=fun i hi=>World.putObj_heap_other hi
      have hz7:(w6'.putObj (ob+4) (.loop (rec .ready none))).heap.size=w6'.heap.size:=by simp
      refine⟨_,_,hend,rfl,⟨_,Nat.le_refl _,?_,?_⟩,?_⟩
      ·refine⟨(e7 _ (by omega)).trans ((f6 _ (by omega) (by omega)).trans HD.out),World.putObj_heap_same (blk_lt hl6),by omega,_,(e7 _ (by omega)).trans hO6,?_⟩
       exact Kd.S_mono (Kd.S_step hS6 (fun k hk _=>e7 k (by have:=hk.1;omega))) (fun k hk=>⟨hk.1,by have:=hk.2.2.1;omega⟩)
      ·exact hB6.grown (grownBy_putObj' w6' (ob+4) (.loop (rec .ready none))) hB6.size (fun k e=>by cases e;omega)
      ·have hh:=HHd.out
       exact⟨(e7 _ (by omega)).trans ((f6 _ (by omega) (by omega)).trans hh.st),(e7 _ (by omega)).trans ((f6 _ (by omega) (by omega)).trans hh.x1),(e7 _ (by omega)).trans ((f6 _ (by omega) (by omega)).trans hh.x2),hB46.grown (grownBy_putObj' w6' (ob+4) (.loop (rec .ready none))) hB46.size (fun k e=>by cases e;omega)⟩
     case fin=>
      rintro e W' ⟨⟨v,rfl⟩,N,hN,⟨hJ,hBJ⟩,hH⟩
      refine⟨⟨v,rfl⟩,.ready,none,by simp,hJ.ll,?_⟩
      obtain⟨hd,hl,hn,v1,hv1,hS⟩:=hJ
      have e0:∀i,i≠ob+4→(W'.putObj (ob+4) (.loop (rec .exhausted none))).heap[i]? =W'.heap[i]? :=fun i hi=>World.putObj_heap_other hi
      have HS:=ak (show Kd.S Pt.k206 206 (W'.putObj (ob+4) (.loop (rec .exhausted none))) w.heap.size (fun k=>ob+4 < k∧k < N) v1 (foundsL l) from Kd.S_step hS (fun k hk _=>e0 k (by omega)))
      have HD:=ak ((e0 (ob+3) (by omega)).trans hd)
      have HO:=ak ((e0 ob (by omega)).trans hv1)
      have HST:=ak ((e0 bb (by omega)).trans hH.st)
      have HB:=ak (hBJ.grown (grownBy_putObj' W' (ob+4) (.loop (rec .exhausted none))) hBJ.size (fun k e=>by cases e;omega))
      clear hd hl hv1 hS hH e0 hBJ
      generalize W'.putObj (ob+4) (.loop (rec .exhausted none))=W3 at HS HD HO HST HB ⊢
      have s0:=(blk_cell HST.out 0).trans rfl
      have o0:=(blk_cell HO.out 0).trans rfl
      go_wp2
      go_quiet (fail)
      go_wp2
      have HD2:=ak (blk_drewN HD.out nq)
      have HS2:=ak (Kd.S_drewN HS.out nq)
      have HB2':=ak (HB.out.trans (pw_below_drewN (RowKit.Below.refl _ _) nq))
      clear HS HD HO HST HB s0 o0
      generalize W3.drewN nq=W4 at HD2 HS2 HB2' ⊢
      refine⟨by simp,.inl ⟨_,_,rfl,run_takeDeferred HD2.out,?_⟩⟩
      refine⟨_,results_list (rs:=[.tmp 4,.tmp 5,.tmp 6]) rfl (by simp) (.tmp (.tmp (.tmp .nil))),?_⟩
      rw[HDEF3.out]
      refine⟨v1,rfl,?_,?_⟩
      ·exact Kd.S_mono (Kd.S_step HS2.out (fun k hk _=>World.putObj_heap_other (by omega))) (fun _ _=>trivial)
      ·exact HB2'.out.grown (grownBy_putObj' W4 (ob+3) (.deferred none)) HB2'.out.size (fun k e=>by cases e;omega)
end Sg
end
section
namespace Lg
open Go.Maps Fr Ext Go.Proofs.YtcieieacfoaklaaGreat.Nm Dk Mn
open Sg (segN segN_le segN_ascii)
open Rc (Re Lo zeroR recC)

structure LogS where
 limit:Int
 man:ManM
 last:Int
abbrev logC (g:Nat) (S:LogS) (A:Option Addr) (c:Nat):Array Value:=#[ptr g,.int .i64 S.limit,.slice A S.man.segs.length c,.int .i64 S.man.next,.int .i64 S.last]
structure LogO (w:World) (B l g:Nat) (F:Nat→Prop) (S:LogS):Prop where
 blk:∃A c,w.heap[l]? =some (.cells (logC g S A c) 82 (0,0))∧Kd.R (Kd.int .i64) 3 w B (fun _=>True) (.slice A S.man.segs.length c) S.man.segs∧∀k,(Value.slice A S.man.segs.length c).ownBlock=some k→¬F k
 self:¬F l
 above:B≤l
variable {w w' w1:World} {B l g N:Nat} {M M':DiskM} {F F' G:Nat→Prop} {S S':LogS}
theorem LogO.lt (h:LogO w B l g F S):l < w.heap.size:=by
 obtain⟨A,c,h1,_⟩:=h.blk
 exact blk_lt h1
theorem LogO.keep (h:LogO w B l g F S) (hk:Keeps F w w') (hF:∀k,F' k→F k∨w.heap.size≤k):LogO w' B l g F' S:=by
 have hl:=h.lt
 obtain⟨⟨A,c,h1,h2,h3⟩,hs,ha⟩:=h
 refine⟨⟨A,c,hk.obj h1 hs,row_keep h2 hk h3,fun k hk' hf=>?_⟩,fun hf=>?_,ha⟩
 ·rcases hF k hf with hf | hf
  ·exact h3 k hk' hf
  ·have:=Kd.R_lt h2 k hk'
   omega
 ·rcases hF l hf with hf | hf
  ·exact hs hf
  ·omega
theorem LogO.below (h:LogO w B l g F S) (hb:RowKit.Below w.heap.size w w'):LogO w' B l g F S:=h.keep (Keeps.of_below hb) (fun _ h=>.inl h)
theorem LogO.turned (h:LogO w B l g F S) (ht:Turned w w' B g N F M'):∃F',DiskAt w' B g N M' F'∧(∀k,F k→F' k)∧(∀k,F' k→F k∨w.heap.size≤k)∧Keeps F w w'∧LogO w' B l g F' S:=by
 obtain⟨F',h1,h2,h3,h4⟩:=ht
 exact⟨F',h1,h2,h3,h4,h.keep h4 h3⟩
def LTurned (w w':World) (B l g N:Nat) (F:Nat→Prop) (M':DiskM) (S':LogS):Prop:=
 ∃F',DiskAt w' B g N M' F'∧(∀k,F k→F' k)∧(∀k,F' k→F k∨w.heap.size≤k)∧LogO w' B l g F' S'∧Keeps (fun k=>F k∨k=l) w w'
theorem LTurned.of_turned (h:LogO w B l g F S) (ht:Turned w w' B g N F M'):LTurned w w' B l g N F M' S:=by
 obtain⟨F',h1,h2,h3,h4,h5⟩:=h.turned ht
 exact⟨F',h1,h2,h3,h5,h4.mono (fun k hk=>.inl hk)⟩
theorem LTurned.mono {N':Nat} (h:LTurned w w' B l g N F M' S') (hN:N≤N'):LTurned w w' B l g N' F M' S':=by
 obtain⟨F',h1,h2⟩:=h
 exact⟨F',h1.mono hN,h2⟩
theorem LTurned.after (hb:RowKit.Below w.heap.size w w1) (h:LTurned w1 w' B l g N F M' S'):LTurned w w' B l g N F M' S':=by
 obtain⟨F',h1,h2,h3,h4,h5⟩:=h
 exact⟨F',h1,h2,fun k hk=>(h3 k hk).imp id (fun h=>Nat.le_trans hb.size h),h4,(Keeps.of_below hb).trans h5⟩
theorem LTurned.glue {w2:World} {N2:Nat} {F1:Nat→Prop} (h2:∀k,F k→F1 k) (h3:∀k,F1 k→F k∨w.heap.size≤k) (h4:Keeps (fun k=>F k∨k=l) w w1) (ht:LTurned w1 w2 B l g N2 F1 M' S'):LTurned w w2 B l g N2 F M' S':=by
 obtain⟨F2,k1,k2,k3,k4,k5⟩:=ht
 refine⟨F2,k1,fun k hk=>k2 k (h2 k hk),fun k hk=>?_,k4,⟨k5.os.trans h4.os,k5.tape.trans h4.tape,k5.output.trans h4.output,Nat.le_trans h4.size k5.size,fun k hk hf=>?_⟩⟩
 ·rcases k3 k hk with hk | hk
  ·exact h3 k hk
  ·exact .inr (Nat.le_trans h4.size hk)
 ·have hF1:¬(F1 k∨k=l):=fun h=>by
   rcases h with h | h
   ·rcases h3 k h with h | h
    ·exact hf (.inl h)
    ·omega
   ·exact hf (.inr h)
  exact(k5.block k (Nat.lt_of_lt_of_le hk h4.size) hF1).trans (h4.block k hk hf)
def hintN (n:Int):ByteArray:=nameOf 2 n
theorem hintN_le (n:Int):(hintN n).size≤maxLen:=nameOf_le _ _
theorem hintN_ascii (n:Int):Ascii (hintN n):=Sg.nameOf_ascii _ _
theorem file_calls (n:Int) (w:World):Calls Tryz.prog 99 #[.int .i64 n] w fun e w'=>e=.returned (.string (segN n))∧RowKit.Below w.heap.size w w':=by
 go_enter Tryz.func99,Tryz.ntmps99
 go_wp2_with (go_at_call 47;(with_reducible refine(Nm.of_calls _ _ _).mono ?_);rintro e w1 ⟨rfl,hb⟩)
 go_ret
 exact⟨rfl,hb⟩
theorem hints_calls (n:Int) (w:World):Calls Tryz.prog 119 #[.int .i64 n] w fun e w'=>e=.returned (.string (hintN n))∧RowKit.Below w.heap.size w w':=by
 go_enter Tryz.func119,Tryz.ntmps119
 go_wp2_with (go_at_call 47;(with_reducible refine(Nm.of_calls _ _ _).mono ?_);rintro e w1 ⟨rfl,hb⟩)
 go_ret
 exact⟨rfl,hb⟩
theorem segs_calls (h:LogO w B l g F S) (hl:S.man.segs.length≤1000000):Calls Tryz.prog 59 #[ptr l] w fun e w'=>∃v,e=.returned v∧Kd.R (Kd.int .i64) 3 w' w.heap.size (fun _=>True) v S.man.segs∧RowKit.Below w.heap.size w w':=by
 obtain⟨⟨A,c,h1,h2,h3⟩,hs,ha⟩:=h
 have x2:=bq h1 2 (.slice A S.man.segs.length c)
 have HCL:=ak (Sh.clone_own (Kd.own_of_R h2) (by omega))
 clear h1 h2 h3 hs ha
 go_enter Tryz.func59,Tryz.ntmps59
 go_wp2_with (go_at_call 102;(with_reducible refine HCL.out.mono ?_);rintro e w1 ⟨v,rfl,ho,hb⟩)
 go_ret
 exact⟨_,rfl,R_ints ho,hb⟩
def logSync (M:DiskM) (S:LogS):DiskM×Int:=if S.last < 0 then(M,0) else syncM M (segN S.last)
theorem sync_calls (hd:DiskAt w B g N M F) (h:LogO w B l g F S):Calls Tryz.prog 57 #[ptr l] w fun e w'=>e=.returned (.int .i64 (logSync M S).2)∧Turned w w' B g N F (logSync M S).1:=by
 obtain⟨⟨A,c,h1,h2,h3⟩,hs,ha⟩:=h
 have x0:=bq h1 0 (ptr g)
 have x4:=bq h1 4 (.int .i64 S.last)
 have HD:=ak hd
 unfold logSync
 clear h1 h2 h3 hs ha hd
 by_cases hn:S.last < 0
 ·have d1:decide (S.last < 0)=true:=decide_eq_true hn
  rw[if_pos hn]
  clear hn
  go_enter Tryz.func57,Tryz.ntmps57
  go_wp2
  go_ret
  exact⟨rfl,Turned.refl HD.out⟩
 ·have d1:decide (S.last < 0)=false:=decide_eq_false hn
  rw[if_neg hn]
  clear hn
  have HSY:=ak (fun W (hW:RowKit.Below w.heap.size w W)=>(HD.out.below hW).sync? (segN S.last) (segN_le _))
  go_enter Tryz.func57,Tryz.ntmps57
  go_upto_region 3 with(fail)
  go_region_with (first
   | (go_at_call 98;(with_reducible refine(HSY.out _ HB1.out).mono ?_);rintro e w2 ⟨rfl,h2⟩;have H2:=ak h2;clear h2)
   | (go_at_call 99;(with_reducible refine(file_calls _ _).mono ?_);rintro e w1 ⟨rfl,hb⟩;have HB1:=ak ((RowKit.Below.refl w.heap.size w).drew.trans hb);have y0:=pw_cell_below HB1.out x0;clear hb))
  all_goals
   try go_wp2
   go_ret
   exact⟨rfl,Turned.after (Keeps.of_below HB1.out) H2.out⟩
end Lg
end
section
namespace Pu
open Go.Maps Fr Ext Pt Dk
open Rc (Re Lo withinB keyB)
structure Cfg where
 piece:Int
 small:Int
 max:Int
 limit:Int
 handles:Int
def rightC (c:Cfg):Bool:=withinB c.piece 1 4096 && (withinB c.small 0 4096 && (withinB c.max 0 (min 65536 (512*c.piece)) && (withinB c.limit 64 1073741824 && withinB c.handles 1 1024)))
structure Wr where
 key:ByteArray
 id:Int
 c:Cfg
 all:Int
 left:List Int
 held:List Int
 size:Int
 pieces:List Lo
 spoilt:Bool
 done:Bool
def wr0 (key:ByteArray) (id:Int) (c:Cfg):Wr:=⟨key,id,c,0,[],[],0,[],false,false⟩
def newW (key:ByteArray) (id:Int) (c:Cfg):Option Wr:=if rightC c=true∧keyB key=true∧withinB id 0 1099511627776=true then some (wr0 key id c) else none
def stateM (p:Wr):Int:=if p.done=true then 3 else if p.spoilt=true then 181 else 0
end Pu
end
section
namespace Pw
open Go.Shelf Fr Ext Dk Pu Ct Lg
open Rc (Re Lo withinB keyB zeroR recC)
theorem withinI_calls (n a b:Int) (w:World):Calls Tryz.prog 43 #[.int .i64 n,.int .i64 a,.int .i64 b] w fun e w'=>e=.returned (.bool (withinB n a b))∧w'=w:=by
 unfold withinB
 by_cases h1:a≤n
 ·have d1:decide (n≥a)=true:=decide_eq_true h1
  rw[decide_eq_true h1]
  by_cases h2:n≤b
  ·have d2:decide (n≤b)=true:=decide_eq_true h2
   rw[decide_eq_true h2]
   clear h1 h2
   go_enter Tryz.func43,Tryz.ntmps43
   go_wp2
   go_ret
   exact⟨rfl,rfl⟩
  ·have d2:decide (n≤b)=false:=decide_eq_false h2
   rw[decide_eq_false h2]
   clear h1 h2
   go_enter Tryz.func43,Tryz.ntmps43
   go_wp2
   go_ret
   exact⟨rfl,rfl⟩
 ·have d1:decide (n≥a)=false:=decide_eq_false h1
  rw[decide_eq_false h1]
  clear h1
  go_enter Tryz.func43,Tryz.ntmps43
  go_wp2
  go_ret
  exact⟨rfl,rfl⟩
theorem withinJ_calls (n a b:Int) (w:World):Calls Tryz.prog 29 #[.int .i64 n,.int .i64 a,.int .i64 b] w fun e w'=>e=.returned (.bool (withinB n a b))∧w'=w:=by
 unfold withinB
 by_cases h1:a≤n
 ·have d1:decide (n≥a)=true:=decide_eq_true h1
  rw[decide_eq_true h1]
  by_cases h2:n≤b
  ·have d2:decide (n≤b)=true:=decide_eq_true h2
   rw[decide_eq_true h2]
   clear h1 h2
   go_enter Tryz.func29,Tryz.ntmps29
   go_wp2
   go_ret
   exact⟨rfl,rfl⟩
  ·have d2:decide (n≤b)=false:=decide_eq_false h2
   rw[decide_eq_false h2]
   clear h1 h2
   go_enter Tryz.func29,Tryz.ntmps29
   go_wp2
   go_ret
   exact⟨rfl,rfl⟩
 ·have d1:decide (n≥a)=false:=decide_eq_false h1
  rw[decide_eq_false h1]
  clear h1
  go_enter Tryz.func29,Tryz.ntmps29
  go_wp2
  go_ret
  exact⟨rfl,rfl⟩
abbrev cfgV (c:Cfg):Array Value:=#[.int .i64 c.piece,.int .i64 c.small,.int .i64 c.max,.int .i64 c.limit,.int .i64 c.handles]
theorem right_calls (c:Cfg) (w:World):Calls Tryz.prog 18 #[.agg (cfgV c)] w fun e w'=>e=.returned (.bool (rightC c))∧RowKit.Below w.heap.size w w':=by
 have hz:=heap_alloc_new w (.cells (cfgV c) 23)
 have hb1:=below_alloc (RowKit.Below.refl w.heap.size w) (.cells (cfgV c) 23)
 unfold rightC
 obtain⟨b1,hb1'⟩:∃b,withinB c.piece 1 4096=b:=⟨_,rfl⟩
 obtain⟨b2,hb2'⟩:∃b,withinB c.small 0 4096=b:=⟨_,rfl⟩
 obtain⟨b3,hb3'⟩:∃b,withinB c.max 0 (min 65536 (512*c.piece))=b:=⟨_,rfl⟩
 obtain⟨b4,hb4'⟩:∃b,withinB c.limit 64 1073741824=b:=⟨_,rfl⟩
 obtain⟨b5,hb5'⟩:∃b,withinB c.handles 1 1024=b:=⟨_,rfl⟩
 have W1:=ak (fun W=>by have h:=withinI_calls c.piece 1 4096 W;rw[hb1'] at h;exact h)
 have W2:=ak (fun W=>by have h:=withinI_calls c.small 0 4096 W;rw[hb2'] at h;exact h)
 have W3:=ak (fun W=>by have h:=withinI_calls c.max 0 (min 65536 (512*c.piece)) W;rw[hb3'] at h;exact h)
 have W4:=ak (fun W=>by have h:=withinI_calls c.limit 64 1073741824 W;rw[hb4'] at h;exact h)
 have W5:=ak (fun W=>by have h:=withinI_calls c.handles 1 1024 W;rw[hb5'] at h;exact h)
 rw[hb1',hb2',hb3',hb4',hb5']
 have hm:b1=true→wrap64 (512*c.piece)=512*c.piece:=by
  intro e
  rw[e] at hb1'
  simp only[withinB,Bool.and_eq_true,decide_eq_true_eq] at hb1'
  unfold wrap64
  omega
 have HM:=ak hm
 clear hb1' hb2' hb3' hb4' hb5' hm
 go_enter Tryz.func18,Tryz.ntmps18
 go_upto_region 1 with(fail)
 generalize w.alloc (.cells (cfgV c) 23)=w1 at hz hb1 ⊢
 have HZ:=ak hz
 have HB1:=ak hb1
 have x0:=(blk_cell hz 0).trans rfl
 have x1:=(blk_cell hz 1).trans rfl
 have x2:=(blk_cell hz 2).trans rfl
 have x3:=(blk_cell hz 3).trans rfl
 have x4:=(blk_cell hz 4).trans rfl
 clear hz hb1
 cases b1 with
 | false=>
  go_wp2_with (go_at_call 43;(with_reducible refine(W1.out _).mono ?_);rintro e w2 ⟨rfl,rfl⟩)
  go_ret
  exact⟨rfl,HB1.out⟩
 | true=>
 have hm:=HM.out rfl
 cases b2 with
 | false=>
  go_wp2_with (go_at_call 43;(with_reducible first | refine(W1.out _).mono ?_ | refine(W2.out _).mono ?_);rintro e w2 ⟨rfl,rfl⟩)
  go_ret
  exact⟨rfl,HB1.out⟩
 | true=>
 cases b3 with
 | false=>
  go_wp2_with (go_at_call 43;(with_reducible first | refine(W1.out _).mono ?_ | refine(W2.out _).mono ?_ | refine(W3.out _).mono ?_);rintro e w2 ⟨rfl,rfl⟩)
  go_ret
  exact⟨rfl,HB1.out⟩
 | true=>
 cases b4 with
 | false=>
  go_wp2_with (go_at_call 43;(with_reducible first | refine(W1.out _).mono ?_ | refine(W2.out _).mono ?_ | refine(W3.out _).mono ?_ | refine(W4.out _).mono ?_);rintro e w2 ⟨rfl,rfl⟩)
  go_ret
  exact⟨rfl,HB1.out⟩
 | true=>
 go_wp2_with (go_at_call 43;(with_reducible first | refine(W1.out _).mono ?_ | refine(W2.out _).mono ?_ | refine(W3.out _).mono ?_ | refine(W4.out _).mono ?_ | refine(W5.out _).mono ?_);rintro e w2 ⟨rfl,rfl⟩)
 go_ret
 exact⟨rfl,HB1.out⟩
abbrev wrC (cb l:Nat) (p:Wr) (hv pv:Value):Array Value:=#[ptr cb,ptr l,.string p.key,.int .i64 p.id,.int .i64 p.c.piece,.int .i64 p.c.small,.int .i64 p.c.max,.int .i64 p.c.limit,.int .i64 p.c.handles,hv,.int .i64 p.size,pv,.bool p.spoilt,.bool p.done]
structure WrO (w:World) (B wb cb l:Nat) (X:Nat→Prop) (p:Wr) (hv pv:Value) (A:Option Addr) (c:Nat):Prop where
 blk:w.heap[wb]? =some (.cells (wrC cb l p hv pv) 88 (0,0))
 held:Kd.R (Kd.int .u8) 5 w B (fun _=>True) hv p.held
 rows:Kd.R Pt.k57 57 w B (fun _=>True) pv p.pieces
 heldX:∀k,hv.ownBlock=some k→¬X k
 rowsX:∀k,pv.ownBlock=some k→¬X k
 cut:CutO w cb p.c.piece p.all A c p.left
 cutX:∀a,A=some a→B≤a.block∧a.block < w.heap.size∧¬X a.block∧a.block≠wb∧a.block≠cb∧hv.ownBlock≠some a.block∧pv.ownBlock≠some a.block
 self:¬X wb
 cself:¬X cb
 above:B≤wb
 cabove:B≤cb
variable {w w' w1:World} {B wb cb l c:Nat} {X X':Nat→Prop} {p:Wr} {hv pv:Value} {A:Option Addr}
theorem rowK {α:Type} {d:Kd α} {e base:Nat} {ok F:Nat→Prop} {w W:World} {v:Value} {xs:List α} (hE:d.E=[]) (hr:d.R e w base ok v xs) (hW:Keeps F w W) (hn:∀j,v.ownBlock=some j→¬F j):d.R e W base ok v xs:=
 Kd.R_mono (ok:=fun j=>ok j∧some j=v.ownBlock) (Kd.R_move (Kd.R_mono (Kd.R_tight hE hr) (fun j hj=>⟨hr.1 j hj.symm,hj⟩)) (fun j hj=>hW.block j (Kd.R_lt hr j hj.2.symm) (hn j hj.2.symm))) (fun j hj=>hj.1)
theorem WrO.keep (h:WrO w B wb cb l X p hv pv A c) (hk:Keeps X w w') (hX:∀k,X' k→X k∨w.heap.size≤k):WrO w' B wb cb l X' p hv pv A c:=by
 have hw:=blk_lt h.blk
 have hc:=blk_lt h.cut.st
 have no:∀k,k < w.heap.size→¬X k→¬X' k:=fun k h1 h2 h3=>by
  rcases hX k h3 with h4 | h4
  ·exact h2 h4
  ·omega
 refine⟨hk.obj h.blk h.self,rowK rfl h.held hk h.heldX,rowK rfl h.rows hk h.rowsX,fun k e=>no k (Kd.R_lt h.held k e) (h.heldX k e),fun k e=>no k (Kd.R_lt h.rows k e) (h.rowsX k e),⟨hk.obj h.cut.st h.cself,C_blk h.cut.rd (fun a e=>hk.block _ (h.cutX a e).2.1 (h.cutX a e).2.2.1),h.cut.cap⟩,fun a e=>?_,no _ hw h.self,no _ hc h.cself,h.above,h.cabove⟩
 obtain⟨h1,h2,h3,h4,h5,h6,h7⟩:=h.cutX a e
 exact⟨h1,Nat.lt_of_lt_of_le h2 hk.size,no _ h2 h3,h4,h5,h6,h7⟩
theorem WrO.below (h:WrO w B wb cb l X p hv pv A c) (hb:RowKit.Below w.heap.size w w'):WrO w' B wb cb l X p hv pv A c:=h.keep (Keeps.of_below hb) (fun _ h=>.inl h)
theorem WrO.lt (h:WrO w B wb cb l X p hv pv A c):wb < w.heap.size:=blk_lt h.blk
theorem WrO.cne (h:WrO w B wb cb l X p hv pv A c):cb≠wb:=fun e=>by
 have h1:=h.cut.st
 rw[e,h.blk] at h1
 injection h1 with h1
 injection h1 with _ ht
 exact absurd ht (by decide)
theorem WrO.store (h:WrO w B wb cb l X p hv pv A c) (i:Nat) (v:Value) {q:Wr} (hi:(wrC cb l p hv pv).setIfInBounds i v=wrC cb l q hv pv) (e1:q.held=p.held) (e2:q.pieces=p.pieces) (e3:q.c=p.c) (e4:q.all=p.all) (e5:q.left=p.left):WrO (w.setCell ⟨wb,i,none⟩ v) B wb cb l X q hv pv A c:=by
 have hcn:=h.cne
 refine⟨?_,?_,?_,h.heldX,h.rowsX,⟨?_,?_,?_⟩,fun a e=>?_,h.self,h.cself,h.above,h.cabove⟩
 ·have:=blk_put (cs:=wrC cb l p hv pv) h.blk i v (by rfl)
  rwa [hi] at this
 ·rw[e1];exact Kd.R_mono (Kd.R_far (p:=⟨wb,i,none⟩) (Kd.R_types h.held h.blk (by decide)) (fun k hk=>hk.2) _) (fun _ _=>trivial)
 ·rw[e2];exact Kd.R_mono (Kd.R_far (p:=⟨wb,i,none⟩) (Kd.R_types h.rows h.blk (by decide)) (fun k hk=>hk.2) _) (fun _ _=>trivial)
 ·rw[e3,e4,e5];exact blk_far h.cut.st hcn _
 ·rw[e5];exact C_blk h.cut.rd (fun a e=>Below.heap_setCell _ _ _ _ (h.cutX a e).2.2.2.1)
 ·rw[e5];exact h.cut.cap
 ·have:=h.cutX a e
  exact⟨this.1,Nat.lt_of_lt_of_le this.2.1 (KeepsWalks.setCell _ _ _).size,this.2.2⟩
theorem size_calls (h:WrO w B wb cb l X p hv pv A c):Calls Tryz.prog 17 #[ptr wb] w fun e w'=>e=.returned (.int .i64 p.size)∧w'=w:=by
 have hb:=h.blk
 have x:=bq hb 10 (.int .i64 p.size)
 clear hb h
 go_enter Tryz.func17,Tryz.ntmps17
 go_wp2
 go_ret
 exact⟨rfl,rfl⟩
theorem spoilt_calls (h:WrO w B wb cb l X p hv pv A c):Calls Tryz.prog 22 #[ptr wb] w fun e w'=>e=.returned (.bool p.spoilt)∧w'=w:=by
 have hb:=h.blk
 have x:=bq hb 12 (.bool p.spoilt)
 clear hb h
 go_enter Tryz.func22,Tryz.ntmps22
 go_wp2
 go_ret
 exact⟨rfl,rfl⟩
theorem state_calls (h:WrO w B wb cb l X p hv pv A c):Calls Tryz.prog 36 #[ptr wb] w fun e w'=>e=.returned (.int .i64 (stateM p))∧w'=w:=by
 have hb:=h.blk
 have x:=bq hb 12 (.bool p.spoilt)
 have y:=bq hb 13 (.bool p.done)
 clear hb h
 unfold stateM
 generalize p.spoilt=b1 at *
 generalize p.done=b2 at *
 cases b2 <;> cases b1 <;> (go_enter Tryz.func36,Tryz.ntmps36;go_wp2;go_ret;exact⟨rfl,rfl⟩)
theorem left_calls {k all:Int} {A:Option Addr} {c:Nat} {ls:List Int} (h:CutO w cb k all A c ls):Calls Tryz.prog 70 #[ptr cb] w fun e w'=>e=.returned (.int .i64 ls.length)∧w'=w:=by
 have x:=bq h.st 2 (.slice A ls.length c)
 clear h
 go_enter Tryz.func70,Tryz.ntmps70
 go_wp2
 go_ret
 exact⟨rfl,rfl⟩
theorem rest_calls {k all:Int} {A:Option Addr} {c:Nat} {ls:List Int} (h:CutO w cb k all A c ls):Calls Tryz.prog 71 #[ptr cb] w fun e w'=>e=.returned (.slice A ls.length c)∧w'=w.setCell ⟨cb,2,none⟩ (.slice none 0 0):=by
 have x:=bq h.st 2 (.slice A ls.length c)
 have z:=blk_frozen h.st 2
 clear h
 go_enter Tryz.func71,Tryz.ntmps71
 go_wp2
 go_ret
 exact⟨rfl,rfl⟩
theorem cnew_calls (k:Int) (w:World) (h1:1≤k) (h2:k≤4096):Calls Tryz.prog 30 #[.int .i64 k] w fun e w'=>e=.returned (ptr w.heap.size)∧w'=w.alloc (.cells #[.int .i64 k,.int .i64 0,.slice none 0 0] 117):=by
 have d1:decide (k < 1)=false:=decide_eq_false (by omega)
 have d2:decide (k > 4096)=false:=decide_eq_false (by omega)
 clear h1 h2
 go_enter Tryz.func30,Tryz.ntmps30
 go_wp2
 go_ret
 exact⟨rfl,rfl⟩
end Pw
end
section
namespace Pw
open Go.Shelf Fr Ext Dk Pu Ct Lg
open Rc (Re Lo withinB keyB zeroR recC)
theorem newW_of {key:ByteArray} {id:Int} {c:Cfg} (h1:rightC c=true) (h2:keyB key=true) (h3:withinB id 0 1099511627776=true):newW key id c=some (wr0 key id c):=if_pos ⟨h1,h2,h3⟩
theorem new_none (l:Nat) (key:ByteArray) (id:Int) (c:Cfg) (w:World) (h:newW key id c=none):Calls Tryz.prog 12 #[ptr l,.string key,.int .i64 id,.agg (cfgV c)] w fun e w'=>e=.returned (.pointer none)∧RowKit.Below w.heap.size w w':=by
 have hz:=heap_alloc_new w (.cells (cfgV c) 23)
 have hb1:=below_alloc (RowKit.Below.refl w.heap.size w) (.cells (cfgV c) 23)
 have W1:=ak (fun W=>right_calls c W)
 have W2:=ak (fun W=>Rc.key_calls key W)
 have W3:=ak (fun W=>withinJ_calls id 0 1099511627776 W)
 have hn:rightC c=true→keyB key=true→withinB id 0 1099511627776=true→False:=fun h1 h2 h3=>by rw[newW_of h1 h2 h3] at h;cases h
 clear h
 generalize rightC c=b1 at W1 hn
 generalize keyB key=b2 at W2 hn
 generalize withinB id 0 1099511627776=b3 at W3 hn
 have HB1:=ak hb1
 clear hb1
 go_enter Tryz.func12,Tryz.ntmps12
 go_upto_region 1 with(fail)
 generalize w.alloc (.cells (cfgV c) 23)=w1 at hz HB1 ⊢
 have x0:=(blk_cell hz 0).trans rfl
 have x1:=(blk_cell hz 1).trans rfl
 have x2:=(blk_cell hz 2).trans rfl
 have x3:=(blk_cell hz 3).trans rfl
 have x4:=(blk_cell hz 4).trans rfl
 clear hz
 cases b1 with
 | false=>
  go_wp2_with (go_at_call 18;(with_reducible refine(W1.out _).mono ?_);rintro e w2 ⟨rfl,h2⟩;have H2:=ak h2;clear h2)
  go_ret
  exact⟨rfl,HB1.out.trans (H2.out.mono HB1.out.size)⟩
 | true=>
 cases b2 with
 | false=>
  go_wp2_with (first | (go_at_call 18;(with_reducible refine(W1.out _).mono ?_);rintro e w2 ⟨rfl,h2⟩;have H2:=ak h2;clear h2) | (go_at_call 28;(with_reducible refine(W2.out _).mono ?_);rintro e w3 ⟨rfl,rfl⟩))
  go_ret
  exact⟨rfl,HB1.out.trans (H2.out.mono HB1.out.size)⟩
 | true=>
 cases b3 with
 | true=>exact(hn rfl rfl rfl).elim
 | false=>
 go_wp2_with (first | (go_at_call 18;(with_reducible refine(W1.out _).mono ?_);rintro e w2 ⟨rfl,h2⟩;have H2:=ak h2;clear h2) | (go_at_call 28;(with_reducible refine(W2.out _).mono ?_);rintro e w3 ⟨rfl,rfl⟩) | (go_at_call 29;(with_reducible refine(W3.out _).mono ?_);rintro e w4 ⟨rfl,rfl⟩))
 go_ret
 exact⟨rfl,HB1.out.trans (H2.out.mono HB1.out.size)⟩
theorem new_some (l:Nat) (key:ByteArray) (id:Int) (c:Cfg) (w:World) (h1:rightC c=true) (h2:keyB key=true) (h3:withinB id 0 1099511627776=true):Calls Tryz.prog 12 #[ptr l,.string key,.int .i64 id,.agg (cfgV c)] w fun e w'=>∃wb cb,e=.returned (ptr wb)∧RowKit.Below w.heap.size w w'∧w.heap.size≤wb∧w.heap.size≤cb∧w'.heap[wb]? =some (.cells (wrC cb l (wr0 key id c) (.slice none 0 0) (.slice none 0 0)) 88 (0,0))∧w'.heap[cb]? =some (.cells #[.int .i64 c.piece,.int .i64 0,.slice none 0 0] 117 (0,0)):=by
 have hz:=heap_alloc_new w (.cells (cfgV c) 23)
 have hb1:=below_alloc (RowKit.Below.refl w.heap.size w) (.cells (cfgV c) 23)
 have hp:1≤c.piece∧c.piece≤4096:=by
  unfold rightC at h1
  have:=(Bool.and_eq_true _ _ ▸ h1).1
  simp only[withinB,Bool.and_eq_true,decide_eq_true_eq] at this
  exact this
 have W1:=ak (fun W=>by have h:=right_calls c W;rw[h1] at h;exact h)
 have W2:=ak (fun W=>by have h:=Rc.key_calls key W;rw[h2] at h;exact h)
 have W3:=ak (fun W=>by have h:=withinJ_calls id 0 1099511627776 W;rw[h3] at h;exact h)
 have W4:=ak (fun W=>cnew_calls c.piece W hp.1 hp.2)
 clear h1 h2 h3 hp
 have HB1:=ak hb1
 clear hb1
 go_enter Tryz.func12,Tryz.ntmps12
 go_upto_region 1 with(fail)
 generalize hw1:w.alloc (.cells (cfgV c) 23)=w1 at hz HB1 ⊢
 clear hw1
 have HZ:=ak hz
 have x0:=(blk_cell hz 0).trans rfl
 have x1:=(blk_cell hz 1).trans rfl
 have x2:=(blk_cell hz 2).trans rfl
 have x3:=(blk_cell hz 3).trans rfl
 have x4:=(blk_cell hz 4).trans rfl
 clear hz
 go_upto_region 3 with(first | (go_at_call 18;(with_reducible refine(W1.out _).mono ?_);rintro e w2 ⟨rfl,h2⟩;have H2:=ak h2;clear h2) | (go_at_call 28;(with_reducible refine(W2.out _).mono ?_);rintro e w3 ⟨rfl,rfl⟩) | (go_at_call 29;(with_reducible refine(W3.out _).mono ?_);rintro e w4 ⟨rfl,rfl⟩))
 have HZ4:=ak ((H2.out.block _ (blk_lt HZ.out)).trans HZ.out)
 have HB4:=ak (HB1.out.trans (H2.out.mono HB1.out.size))
 clear x0 x1 x2 x3 x4 HZ HB1 H2 W1 W2 W3
 have x0:=bq HZ4.out 0 (.int .i64 c.piece)
 have x1:=bq HZ4.out 1 (.int .i64 c.small)
 have x2:=bq HZ4.out 2 (.int .i64 c.max)
 have x3:=bq HZ4.out 3 (.int .i64 c.limit)
 have x4:=bq HZ4.out 4 (.int .i64 c.handles)
 go_region_held3 (fun w'=>w'.cell? ⟨w.heap.size,0,none⟩=some (.int .i64 c.piece)∧w'.cell? ⟨w.heap.size,1,none⟩=some (.int .i64 c.small)∧w'.cell? ⟨w.heap.size,2,none⟩=some (.int .i64 c.max)∧w'.cell? ⟨w.heap.size,3,none⟩=some (.int .i64 c.limit)∧w'.cell? ⟨w.heap.size,4,none⟩=some (.int .i64 c.handles))
  (first | go_keep | fail)
  ((go_at_call 30;(with_reducible refine(W4.out _).mono ?_);rintro e w5 ⟨rfl,rfl⟩))
 all_goals
  go_wp2
  go_ret
  have a1:=heap_alloc_new w4 (.cells #[.int .i64 c.piece,.int .i64 0,.slice none 0 0] 117)
  have a2:=heap_alloc_new (w4.alloc (.cells #[.int .i64 c.piece,.int .i64 0,.slice none 0 0] 117)) (.cells (wrC w4.heap.size l (wr0 key id c) (.slice none 0 0) (.slice none 0 0)) 88)
  rw[World.size_alloc] at a2
  exact⟨w4.heap.size+1,w4.heap.size,rfl,HB4.out.trans ((below_drew1 (below_alloc (below_alloc (RowKit.Below.refl w4.heap.size w4) _) _)).mono HB4.out.size),Nat.le_trans HB4.out.size (Nat.le_succ _),HB4.out.size,a2,blk_alloc a1 _⟩
theorem WrO.new {w:World} {B wb cb l:Nat} {X:Nat→Prop} {key:ByteArray} {id:Int} {c:Cfg} (h1:w.heap[wb]? =some (.cells (wrC cb l (wr0 key id c) (.slice none 0 0) (.slice none 0 0)) 88 (0,0))) (h2:w.heap[cb]? =some (.cells #[.int .i64 c.piece,.int .i64 0,.slice none 0 0] 117 (0,0))) (hX1:¬X wb) (hX2:¬X cb) (ha:B≤wb) (hb:B≤cb):WrO w B wb cb l X (wr0 key id c) (.slice none 0 0) (.slice none 0 0) none 0:=
 ⟨h1,Kd.R_nil ..,Kd.R_nil ..,fun k e=>by simp [Value.ownBlock] at e,fun k e=>by simp [Value.ownBlock] at e,⟨h2,Kd.C_nil _ _,Nat.le_refl _⟩,fun a e=>(by cases e),hX1,hX2,ha,hb⟩
end Pw
end
section
namespace Lg
open Go.Maps Fr Ext Go.Proofs.YtcieieacfoaklaaGreat.Nm Dk Mn
open Sg (segN segN_le segN_ascii)
open Rc (Re Lo zeroR recC)

variable {w w' w1:World} {B l g N:Nat} {M M':DiskM} {F F' G:Nat→Prop} {S S':LogS}
def namesM (M:DiskM):List ByteArray:=(listM M).map fun x=>⟨x.toArray⟩
theorem names_mem {s:ByteArray} (h:s∈namesM M):s.data.toList∈strKeys M.D:=by
 obtain⟨x,hx,rfl⟩:=List.mem_map.1 h
 exact(Sh.isort_perm _ _).mem_iff.1 hx
theorem names_fit (hM:Fit M):∀s∈namesM M,Ascii s∧s.size≤1000000:=by
 intro s hs
 have h:=hM.name (hM.mem.1 (names_mem hs))
 exact⟨h.1,Nat.le_trans h.2 (by decide)⟩
theorem names_length:(namesM M).length=(listM M).length:=List.length_map _
theorem names_le (hM:Fit M):(namesM M).length≤4096:=by
 rw[names_length]
 unfold listM
 rw[(Sh.isort_perm _ _).length_eq,strKeys_length]
 exact hM.size
theorem names_row {base:Nat} {v:Value} (h:w.ownsRow base 9 1 v (listM M).length ((listM M).map encStr)):Kd.R Kd.string 9 w base (fun _=>True) v (namesM M):=by
 refine Kd.R_of_own ?_ (fun _ _=>trivial)
 rw[names_length]
 have e:encs Value.string (namesM M)=(listM M).map encStr:=by simp [encs,namesM,encStr]
 rw[e]
 exact h
def nextM (M:DiskM) (S:LogS):Int:=match (segsL (namesM M)).getLast? with | none=>S.man.next | some z=>max S.man.next (wrap64 (z+1))
theorem segs_length (L:List ByteArray):(segsL L).length≤L.length:=by
 have h1:=Sh.compact_length (Sh.sortL (segL L))
 rw[Sh.sortL_length] at h1
 exact Nat.le_trans h1 (segL_length L)
theorem next_calls (hd:DiskAt w B g N M F) (hM:Fit M) (h:LogO w B l g F S):Calls Tryz.prog 58 #[ptr l] w fun e w'=>e=.returned (.int .i64 (nextM M S))∧RowKit.Below w.heap.size w w':=by
 obtain⟨⟨A,c,h1,h2,h3⟩,hs,ha⟩:=h
 have x0:=bq h1 0 (ptr g)
 have HBK:=ak h1
 have HLI:=ak (hd.list? (Nat.le_trans hM.size (by decide)))
 have HNF:=ak (names_fit hM)
 have HNL:=ak (names_le hM)
 have hnx:nextM M S=match (segsL (namesM M)).getLast? with | none=>S.man.next | some z=>max S.man.next (wrap64 (z+1)):=rfl
 have HSL:=ak (segs_length (namesM M))
 have HSG:=ak (fun W (A:Option Addr) (c:Nat) (hr:Kd.C Kd.string W A (namesM M).length (namesM M)) (hc:(namesM M).length≤c)=>segments_calls A c (namesM M) W hr hc (by have:=HNL.out;omega) HNF.out)
 generalize segsL (namesM M)=t at hnx HSG HSL
 have HNX:=ak hnx
 clear h1 h2 h3 hs ha hd hM hnx
 go_enter Tryz.func58,Tryz.ntmps58
 go_upto_region 2 with(first
  | (go_at_call 100;(with_reducible refine(HSG.out _ _ _ HR1.out.2 HR1.out.1).mono ?_);rintro e w2 ⟨v2,rfl,ho2,hb2⟩;obtain⟨A2,c2,hv2⟩:=own_slice ho2;subst hv2;have HO2:=ak (Kd.R_reads' (R_ints ho2)).2.2;have HB2:=ak (HB1.out.trans (hb2.mono HB1.out.size));clear ho2 hb2)
  | (go_at_call 101;(with_reducible refine HLI.out.mono ?_);rintro e w1 ⟨v1,rfl,ho1,hb1⟩;have hr1:=names_row ho1;obtain⟨A1,c1,hv1⟩:=Kd.R_slice hr1;subst hv1;have HR1:=ak (Kd.R_reads' hr1).2;have HB1:=ak hb1;clear ho1 hr1 hb1))
 have x3:w2.cell? ⟨l,3,none⟩=some (.int .i64 S.man.next):=pw_cell_below HB2.out ((blk_cell HBK.out 3).trans rfl)
 rcases List.eq_nil_or_concat t with ht | ⟨p,z,ht⟩
 ·subst ht
  have e0:(([]:List Int).length)=0:=rfl
  rw[e0]
  have hn:=HNX.out
  have HN2:=ak (show nextM M S=S.man.next from hn)
  clear hn HNX
  go_wp2
  go_ret
  exact⟨by rw[HN2.out];rfl,HB2.out⟩
 ·have hn:=HNX.out
  rw[ht,List.concat_eq_append,List.getLast?_append] at hn
  have HN2:=ak (show nextM M S=max S.man.next (wrap64 (z+1)) from hn)
  have hlen:t.length=p.length+1:=by rw[ht];simp
  obtain⟨ad,e1,y0⟩:=Kd.at_int HO2.out (p.length:Int) (by omega) (by omega)
  subst e1
  have hz:rd t (p.length:Int)=z:=by rw[rd_nat t p.length (by omega)];simp [ht]
  rw[hz,Int.toNat_natCast] at y0
  have HL2:=ak hlen
  rw[hlen]
  generalize hk:p.length=k at y0 HL2 ⊢
  have hkl:k≤4096:=by have h1:=HSL.out;have h2:=HNL.out;have h3:=HL2.out;omega
  have d0:(((k+1:Nat):Int)==0)=false:=beq_eq_false_iff_ne.2 (by omega)
  have d1:((k+1:Nat)==0)=false:=beq_eq_false_iff_ne.2 (by omega)
  have d2:((k:Int)+1==0)=false:=beq_eq_false_iff_ne.2 (by omega)
  have e1:wrap64 ((k:Int)+1 - 1)=(k:Int):=by unfold wrap64;omega
  have e2:wrap64 (((k+1:Nat):Int) - 1)=(k:Int):=by unfold wrap64;omega
  have e3:(k:Int)+1 - 1=(k:Int):=by omega
  have e4:IntKind.i64.wrap (k:Int)=(k:Int):=by rw[i64_w];unfold wrap64;omega
  have m1:k < k+1:=by omega
  have m2:(k:Int) < (k:Int)+1:=by omega
  clear hn HNX hlen hz ht hk
  go_wp2
  repeat (go_quiet (fail);try go_wp2)
  go_ret
  exact⟨by rw[HN2.out];rfl,HB2.out.trans (pw_below_drewN (RowKit.Below.refl _ _) _ |>.mono HB2.out.size)⟩
def getLM (M:DiskM) (S:LogS) (n at_:Int):Re×Int:=if S.man.segs.contains n=true then Sg.getSM M n at_ else(zeroR,3)
theorem getL_calls (hd:DiskAt w B g N M F) (hM:Fit M) (h:LogO w B l g F S) (n at_:Int):Calls Tryz.prog 26 #[ptr l,.int .i64 n,.int .i64 at_] w fun e w'=>Sg.GotE w w' e (getLM M S n at_).1 (getLM M S n at_).2:=by
 obtain⟨⟨A,c,h1,h2,h3⟩,hs,ha⟩:=h
 have HCO:=ak (fun W (hW:RowKit.Below w.heap.size w W)=>Sh.contains_own n (Kd.own_of_R (Kd.R_below h2 hW)))
 have HGE:=ak (fun W (hW:RowKit.Below w.heap.size w W)=>Sg.get_calls (hd.below hW) hM n at_)
 have HBK:=ak h1
 have hdef:getLM M S n at_=if S.man.segs.contains n=true then Sg.getSM M n at_ else(zeroR,3):=rfl
 generalize getLM M S n at_=GM at hdef ⊢
 obtain⟨b,hb⟩:∃b,S.man.segs.contains n=b:=⟨_,rfl⟩
 rw[hb] at hdef HCO
 have HDEF:=ak hdef
 have hz:=heap_alloc_new w (.cells #[.int .i64 0,.string ⟨#[]⟩,.int .i64 0,.int .i64 0,.int .i64 0,.slice none 0 0,.slice none 0 0] 38)
 have hb1:=below_alloc (RowKit.Below.refl w.heap.size w) (.cells #[.int .i64 0,.string ⟨#[]⟩,.int .i64 0,.int .i64 0,.int .i64 0,.slice none 0 0,.slice none 0 0] 38)
 clear h1 h2 h3 hs ha hd hM hdef hb
 go_enter Tryz.func26,Tryz.ntmps26
 go_upto_region 1 with(fail)
 generalize w.alloc (.cells #[.int .i64 0,.string ⟨#[]⟩,.int .i64 0,.int .i64 0,.int .i64 0,.slice none 0 0,.slice none 0 0] 38)=w1 at hz hb1 ⊢
 obtain⟨rc,hrc⟩:∃rc,w.heap.size=rc:=⟨_,rfl⟩
 rw[hrc] at hz ⊢
 have HRC:=ak hrc
 have HZ1:=ak hz
 have HB1:=ak hb1
 have x2:w1.cell? ⟨l,2,none⟩=some (.slice A S.man.segs.length c):=pw_cell_below hb1 ((blk_cell HBK.out 2).trans rfl)
 have x0:w1.cell? ⟨l,0,none⟩=some (ptr g):=pw_cell_below hb1 ((blk_cell HBK.out 0).trans rfl)
 have k0:=bq hz 0 (.int .i64 0)
 have k1:=bq hz 1 (.string ⟨#[]⟩)
 have k2:=bq hz 2 (.int .i64 0)
 have k3:=bq hz 3 (.int .i64 0)
 have k4:=bq hz 4 (.int .i64 0)
 have k5:=bq hz 5 (.slice none 0 0)
 have k6:=bq hz 6 (.slice none 0 0)
 have g0:=blk_frozen hz 0
 have g1:=blk_frozen hz 1
 have g2:=blk_frozen hz 2
 have g3:=blk_frozen hz 3
 have g4:=blk_frozen hz 4
 have g5:=blk_frozen hz 5
 have g6:=blk_frozen hz 6
 clear hz hb1 hrc
 cases b with
 | false=>
  go_wp2_with (go_at_call 45;(with_reducible refine(HCO.out _ HB1.out).mono ?_);rintro e w2 ⟨rfl,hw⟩;obtain rfl:=hw.symm)
  obtain⟨W',p1,p2,p3⟩:=Sg.zero_end HRC.out HZ1.out HB1.out
  rw[← p1]
  refine bodyPost_ret (results_ct rfl _ _ rc 38 (recC zeroR none 0 none 0) (0,0) _ rfl p2 Tryz.underlying38 rfl (by kernel_rfl)) rfl ?_
  rw[HDEF.out,if_neg (by decide)]
  exact⟨none,0,none,0,rfl,Kd.R_nil _ _ _ _ _,Kd.R_nil _ _ _ _ _,p3⟩
 | true=>
  go_upto_region 3 with(go_at_call 45;(with_reducible refine(HCO.out _ HB1.out).mono ?_);rintro e w2 ⟨rfl,hw⟩;obtain rfl:=hw.symm)
  have hG:=HGE.out w1 HB1.out
  have hdef:=HDEF.out
  rw[if_pos (by trivial)] at hdef
  generalize Sg.getSM M n at_=gm at hG hdef
  obtain⟨R,er⟩:=gm
  have HG:=ak hG
  have HDEF2:=ak hdef
  clear hG hdef HDEF k0 k1 k2 k3 k4 k5 k6 g0 g1 g2 g3 g4 g5 g6
  go_wp2_with (go_at_call 46;(with_reducible refine HG.out.mono ?_);rintro e w3 ⟨A5,c5,A6,c6,rfl,hl3,hy3,hb3⟩;have hz3:=(hb3.block _ (blk_lt HZ1.out)).trans HZ1.out;have HZ3:=ak hz3;have HL3:=ak (Kd.R_lower hl3 HB1.out.size);have HY3:=ak (Kd.R_lower hy3 HB1.out.size);have HB3:=ak (HB1.out.trans (hb3.mono HB1.out.size));have k0:=bq hz3 0 (.int .i64 0);have k1:=bq hz3 1 (.string ⟨#[]⟩);have k2:=bq hz3 2 (.int .i64 0);have k3:=bq hz3 3 (.int .i64 0);have k4:=bq hz3 4 (.int .i64 0);have k5:=bq hz3 5 (.slice none 0 0);have k6:=bq hz3 6 (.slice none 0 0);have g0:=blk_frozen hz3 0;have g1:=blk_frozen hz3 1;have g2:=blk_frozen hz3 2;have g3:=blk_frozen hz3 3;have g4:=blk_frozen hz3 4;have g5:=blk_frozen hz3 5;have g6:=blk_frozen hz3 6;clear hl3 hy3 hb3 hz3;simp only[recC])
  refine bodyPost_ret (results_ct rfl _ _ rc 38 (recC R A5 c5 A6 c6) (0,0) _ rfl (blk_put (blk_put (blk_put (blk_put (blk_put (blk_put (blk_put (HZ3.out) 0 _ rfl) 1 _ rfl) 2 _ rfl) 3 _ rfl) 4 _ rfl) 5 _ rfl) 6 _ rfl) Tryz.underlying38 rfl (by kernel_rfl)) rfl ?_
  rw[HDEF2.out]
  exact⟨A5,c5,A6,c6,rfl,Kd.R_mono (Kd.R_far (p:=⟨rc,6,none⟩) (Kd.R_far (p:=⟨rc,5,none⟩) (Kd.R_far (p:=⟨rc,4,none⟩) (Kd.R_far (p:=⟨rc,3,none⟩) (Kd.R_far (p:=⟨rc,2,none⟩) (Kd.R_far (p:=⟨rc,1,none⟩) (Kd.R_far (p:=⟨rc,0,none⟩) (Kd.R_types HL3.out HZ3.out (by decide)) (fun k hk=>hk.2) _) (fun k hk=>hk.2) _) (fun k hk=>hk.2) _) (fun k hk=>hk.2) _) (fun k hk=>hk.2) _) (fun k hk=>hk.2) _) (fun k hk=>hk.2) _) (fun _ _=>trivial),Kd.R_mono (Kd.R_far (p:=⟨rc,6,none⟩) (Kd.R_far (p:=⟨rc,5,none⟩) (Kd.R_far (p:=⟨rc,4,none⟩) (Kd.R_far (p:=⟨rc,3,none⟩) (Kd.R_far (p:=⟨rc,2,none⟩) (Kd.R_far (p:=⟨rc,1,none⟩) (Kd.R_far (p:=⟨rc,0,none⟩) (Kd.R_types HY3.out HZ3.out (by decide)) (fun k hk=>hk.2) _) (fun k hk=>hk.2) _) (fun k hk=>hk.2) _) (fun k hk=>hk.2) _) (fun k hk=>hk.2) _) (fun k hk=>hk.2) _) (fun k hk=>hk.2) _) (fun _ _=>trivial),(((((((HB3.out.setCell (p:=⟨rc,0,none⟩) (Nat.le_of_eq HRC.out) _).setCell (p:=⟨rc,1,none⟩) (Nat.le_of_eq HRC.out) _).setCell (p:=⟨rc,2,none⟩) (Nat.le_of_eq HRC.out) _).setCell (p:=⟨rc,3,none⟩) (Nat.le_of_eq HRC.out) _).setCell (p:=⟨rc,4,none⟩) (Nat.le_of_eq HRC.out) _).setCell (p:=⟨rc,5,none⟩) (Nat.le_of_eq HRC.out) _).setCell (p:=⟨rc,6,none⟩) (Nat.le_of_eq HRC.out) _)⟩
end Lg
end
section
namespace Lg
open Go.Maps Fr Ext Go.Proofs.YtcieieacfoaklaaGreat.Nm Dk Mn
open Sg (segN segN_le segN_ascii)
open Rc (Re Lo zeroR recC)

variable {w w' w1:World} {B l g N:Nat} {M M':DiskM} {F F' G:Nat→Prop} {S S':LogS}
def openM (M:DiskM) (limit:Int):Option LogS×Int:=
 if limit < 64 then(none,1) else if limit > 1073741824 then(none,1)
 else if(loadM M).2.2=0 then(some ⟨limit,if(loadM M).2.1=true then(loadM M).1 else⟨[],1⟩,-1⟩,0) else(none,(loadM M).2.2)
def OpenE (w w':World) (B g:Nat) (F:Nat→Prop) (e:Ending) (r:Option LogS×Int):Prop:=
 RowKit.Below w.heap.size w w'∧(match r.1 with
  | none=>e=.returned (.tuple #[.pointer none,.int .i64 r.2])
  | some S=>∃l,e=.returned (.tuple #[ptr l,.int .i64 r.2])∧LogO w' B l g F S∧w.heap.size≤l)
theorem open_calls (hd:DiskAt w B g N M F) (hM:Fit M) (limit:Int):Calls Tryz.prog 11 #[ptr g,.int .i64 limit] w fun e w'=>OpenE w w' B g F e (openM M limit):=by
 have HLO:=ak (load_calls hd hM)
 have HBS:=ak (Nat.le_trans (hd.base g hd.self) (Nat.le_of_lt (hd.lt g hd.self)))
 have HLT:=ak hd.lt
 have hdef:openM M limit=if limit < 64 then(none,1) else if limit > 1073741824 then(none,1) else if(loadM M).2.2=0 then(some ⟨limit,if(loadM M).2.1=true then(loadM M).1 else⟨[],1⟩,-1⟩,0) else(none,(loadM M).2.2):=rfl
 generalize openM M limit=OM at hdef ⊢
 generalize loadM M=lm at hdef HLO
 obtain⟨m,ok,er⟩:=lm
 dsimp only at hdef
 have HDEF:=ak hdef
 clear hd hM hdef
 by_cases h1:limit < 64
 ·have d1:decide (limit < 64)=true:=decide_eq_true h1
  have H1:=ak h1
  clear h1
  go_enter Tryz.func11,Tryz.ntmps11
  go_wp2
  go_ret2
  rw[HDEF.out,if_pos H1.out]
  exact⟨RowKit.Below.refl _ _,rfl⟩
 have d1:decide (limit < 64)=false:=decide_eq_false h1
 by_cases h2:limit > 1073741824
 ·have d2:decide (limit > 1073741824)=true:=decide_eq_true h2
  have d2':decide (1073741824 < limit)=true:=decide_eq_true h2
  have H1:=ak h1
  have H2:=ak h2
  clear h1 h2
  go_enter Tryz.func11,Tryz.ntmps11
  go_wp2
  go_ret2
  rw[HDEF.out,if_neg (by have:=H1.out;omega),if_pos H2.out]
  exact⟨RowKit.Below.refl _ _,rfl⟩
 have d2:decide (limit > 1073741824)=false:=decide_eq_false h2
 have d2':decide (1073741824 < limit)=false:=decide_eq_false h2
 have hdef:=HDEF.out
 rw[if_neg h1,if_neg h2] at hdef
 have HDEF2:=ak hdef
 clear hdef HDEF h1 h2
 go_enter Tryz.func11,Tryz.ntmps11
 go_upto_region 4 with(go_at_call 27;(with_reducible refine HLO.out.mono ?_);rintro e w1 ⟨A1,c1,rfl,hr1,hb1⟩;have HR1:=ak hr1;have HB1:=ak hb1;clear hr1 hb1)
 have hn2:=heap_alloc_new w1 (.cells #[.slice A1 m.segs.length c1,.int .i64 m.next] 78)
 have hb2:=below_alloc (RowKit.Below.refl w1.heap.size w1) (.cells #[.slice A1 m.segs.length c1,.int .i64 m.next] 78)
 have HR2:=ak (Kd.R_below HR1.out hb2)
 have HB2:=ak (HB1.out.trans (hb2.mono HB1.out.size))
 generalize w1.alloc (.cells #[.slice A1 m.segs.length c1,.int .i64 m.next] 78)=w2 at hn2 hb2 HR2 HB2 ⊢
 obtain⟨mb,hmb⟩:∃mb,w1.heap.size=mb:=⟨_,rfl⟩
 rw[hmb] at hn2 ⊢
 have HMB:=ak (show w.heap.size≤mb by rw[← hmb];exact HB1.out.size)
 have HN2:=ak hn2
 have k0:=bq hn2 0 (.slice A1 m.segs.length c1)
 have k1:=bq hn2 1 (.int .i64 m.next)
 have g0:=blk_frozen hn2 0
 have g1:=blk_frozen hn2 1
 clear hn2 hb2 hmb
 by_cases he:er=0
 case neg=>
  have d3:(er !=0)=true:=bne_iff_ne.mpr he
  have HE:=ak he
  clear he
  go_wp2
  go_ret2
  rw[HDEF2.out,if_neg HE.out]
  exact⟨HB2.out,rfl⟩
 subst he
 cases ok with
 | true=>
  go_wp2
  go_ret2
  rw[HDEF2.out,if_pos (by trivial),if_pos (by trivial)]
  have hnew:=heap_alloc_new w2 (.cells #[ptr g,.int .i64 limit,.slice A1 m.segs.length c1,.int .i64 m.next,.int .i64 (-1)] 82)
  have hbb:=below_alloc (RowKit.Below.refl w2.heap.size w2) (.cells #[ptr g,.int .i64 limit,.slice A1 m.segs.length c1,.int .i64 m.next,.int .i64 (-1)] 82)
  refine⟨HB2.out.trans (hbb.mono HB2.out.size),w2.heap.size,rfl,⟨⟨A1,c1,hnew,Kd.R_lower (Kd.R_below HR2.out hbb) HBS.out,fun k hk hf=>?_⟩,fun hf=>?_,?_⟩,HB2.out.size⟩
  ·have h1:=Kd.R_base HR2.out k hk
   have h2:=HLT.out k hf
   omega
  ·have h2:=HLT.out _ hf
   have h3:=HB2.out.size
   omega
  ·exact Nat.le_trans HBS.out HB2.out.size
 | false=>
  go_wp2
  go_ret2
  rw[HDEF2.out,if_pos (by trivial),if_neg (by decide)]
  have hb3:RowKit.Below w.heap.size w ((w2.setCell ⟨mb,0,none⟩ (.slice none 0 0)).setCell ⟨mb,1,none⟩ (.int .i64 1)):=(HB2.out.setCell (p:=⟨mb,0,none⟩) HMB.out _).setCell (p:=⟨mb,1,none⟩) HMB.out _
  have hs3:((w2.setCell ⟨mb,0,none⟩ (.slice none 0 0)).setCell ⟨mb,1,none⟩ (.int .i64 1)).heap.size=w2.heap.size:=by rw[World.size_setCell,World.size_setCell]
  rw[← hs3]
  generalize (w2.setCell ⟨mb,0,none⟩ (.slice none 0 0)).setCell ⟨mb,1,none⟩ (.int .i64 1)=w3 at hb3 ⊢
  clear hs3
  have hnew:=heap_alloc_new w3 (.cells #[ptr g,.int .i64 limit,.slice none 0 0,.int .i64 1,.int .i64 (-1)] 82)
  have hbb:=below_alloc (RowKit.Below.refl w3.heap.size w3) (.cells #[ptr g,.int .i64 limit,.slice none 0 0,.int .i64 1,.int .i64 (-1)] 82)
  refine⟨hb3.trans (hbb.mono hb3.size),w3.heap.size,rfl,⟨⟨none,0,hnew,Kd.R_nil _ _ _ _ _,fun k hk hf=>?_⟩,fun hf=>?_,?_⟩,hb3.size⟩
  ·cases hk
  ·have h2:=HLT.out _ hf
   have h3:=hb3.size
   omega
  ·exact Nat.le_trans HBS.out hb3.size
def removesM:List ByteArray→DiskM→DiskM
 | [],M=>M
 | s::r,M=>removesM r (gone1 M s).1
end Lg
end
section
namespace Pt
open Rc (Norm Norm.intro Norm.elim)
def hint_hint.f (l0:List Int):Option (Int×ByteArray×Int×Int×Bool):=if(l0.length:Int)≤7 then(some (0,(⟨#[]⟩:ByteArray),0,0,false)) else(if 1 < (l0.length:Int) then(if 2 < (l0.length:Int) then(if 3 < (l0.length:Int) then(if 4 < (l0.length:Int) then(if 0 < (l0.length:Int) then(if 7≤(l0.length:Int) then(if 5 < (l0.length:Int) then(if 6 < (l0.length:Int) then(some (wrap64 (rd l0 0),strOfNums (l0.drop 7),Go.bits .or .i64 (Go.bits .or .i64 (Go.bits .or .i64 (wrap64 ((wrap64 (rd l0 1))*16777216)) (wrap64 ((wrap64 (rd l0 2))*65536))) (wrap64 ((wrap64 (rd l0 3))*256))) (wrap64 (rd l0 4)),Go.bits .or .i64 (wrap64 ((wrap64 (rd l0 5))*256)) (wrap64 (rd l0 6)),true)) else(none)) else(none)) else(none)) else(none)) else(none)) else(none)) else(none)) else(none))
end Pt
end
section
section
namespace Hn
open Pt Fr Ext

abbrev Hi:=S45
abbrev Fo:=S206
def keyL (s:ByteArray):List UInt8:=s.data.toList
def fineH (h:Hi):Bool:=decide (2≤h.f0∧h.f0≤4) && decide (1≤h.f1.size∧h.f1.size≤64) && decide (0≤h.f2∧h.f2≤1073741824) && decide (9≤h.f3∧h.f3≤8200)
def risesL:List Hi→Bool
 | a::b::l=>decide (keyL a.f1 < keyL b.f1) && risesL (b::l)
 | _=>true
def rightL (l:List Hi):Bool:=risesL l && l.all fineH
def four4 (n:Int):List Int:=[(n / 16777216) % 256,(n / 65536) % 256,(n / 256) % 256,n % 256]
def endL (fr:List Int) (many size:Int):List Int:=7::(four4 many++(four4 size++four4 (sumOf fr)))
def insH (h:Hi):List Hi→List Hi
 | []=>[h]
 | a::l=>if keyL h.f1 < keyL a.f1 then h::a::l else if keyL h.f1=keyL a.f1 then h::l else a::insH h l
def tellsF (x:Fo):Bool:=decide (2≤x.f2.f0∧x.f2.f0≤4)
def hintF (x:Fo):Hi:=⟨x.f2.f0,x.f2.f1,x.f0,x.f1⟩
def ofGo:List Fo→List Hi→List Hi
 | [],acc=>acc
 | x::l,acc=>ofGo l (if tellsF x then insH (hintF x) acc else acc)
def ofL (l:List Fo):List Hi:=ofGo l []
end Hn
end

section
namespace Hn
open Pt Fr Ext

theorem four_calls (base:Nat) (v:Value) (l:List Int) (n:Int) (w:World) (hl:l.length < 140737488355000) (hbase:base≤w.heap.size) (ho:w.ownsRow base 5 1 v l.length (nums .u8 l)):
  Calls Tryz.prog 168 #[v,.int .i64 n] w fun e w'=>∃v',e=.returned v'∧w'.ownsRow base 5 1 v' (l++four4 n).length (nums .u8 (l++four4 n))∧w.grownBy w' v.ownBlock∧(v'.ownBlock=v.ownBlock∨∃b,v'.ownBlock=some b∧w.heap.size≤b):=by
 obtain⟨A,c,rfl,hri⟩:=own_reads ho
 have HO:=ak ho
 clear ho hri
 go_enter Tryz.func168,Tryz.ntmps168
 go_wp2_with (first
  | (at_builtin;refine print_append_row (w0:=w) base rfl _ _ 35 5 .u8 1 rfl Tryz.underlying35 info_u8 (by omega) (.slice A l.length c) l (four4 n) _ _ _ rfl rfl (pw_own_below HO.out (below_alloc (Below.refl _ _) _)) (lit_reads w 5 .u8 (four4 n) (by simp [four4])) ((below_alloc (Below.refl _ _) _).mono hbase) (Nat.le_trans hbase (by simp)) (by simp [four4];omega) ?_;intro v1 wz hv1 hbz hgz haz;have HV1:=ak hv1;clear hv1;have HGZ:=ak hgz;clear hgz;have HAZ:=ak haz;clear haz;clear hbz))
 go_ret
 refine⟨_,rfl,HV1.out,?_,?_⟩
 ·exact(grown_of_below (below_alloc (Below.refl _ _) _) _).trans HGZ.out
 ·rcases HAZ.out with h | ⟨b,h,hb⟩
  ·exact .inl h
  ·exact .inr ⟨b,h,Nat.le_trans (by simp) hb⟩

theorem end_calls (A:Option Addr) (c:Nat) (l:List Int) (m n:Int) (w:World) (hr:Kd.C (Kd.int .u8) w A l.length l):
  Calls Tryz.prog 148 #[.slice A l.length c,.int .i64 m,.int .i64 n] w fun e w'=>∃v',e=.returned v'∧w'.ownsRow w.heap.size 5 1 v' (endL l m n).length (nums .u8 (endL l m n))∧Below w.heap.size w w':=by
 have HR:=ak hr
 clear hr
 go_enter Tryz.func148,Tryz.ntmps148
 go_wp2_with (first
  | (go_at_call 154;refine(table_named _).mono ?_;rintro e w1 ⟨T,rfl,HT,hb1⟩;have HB1:=ak hb1;clear hb1)
  | (go_at_call 153;refine(of_named T HT A c l _ (Kd.C_below HR.out HB1.out)).mono ?_;rintro e w2 ⟨s,rfl,HS,hs0,hs1,hb2⟩;have HB2:=ak (below_then HB1.out HB1.out.size hb2);clear hb2;have HL:=ak (own_lit w2 w.heap.size 5 .u8 [7] HB2.out.size (by simp)))
  | (go_at_call 168;refine(four_calls w.heap.size v4 _ s w4 (by simp [four4]) HB4.out.size HV4.out).mono ?_;rintro e w5 ⟨v5,rfl,ho5,hg5,-⟩;have HB5:=ak (HB4.out.grown hg5 HB4.out.size (own_base HV4.out));have HV5:=ak ho5;clear ho5 hg5)
  | (go_at_call 168;refine(four_calls w.heap.size v3 _ n w3 (by simp [four4]) HB3.out.size HV3.out).mono ?_;rintro e w4 ⟨v4,rfl,ho4,hg4,-⟩;have HB4:=ak (HB3.out.grown hg4 HB3.out.size (own_base HV3.out));have HV4:=ak ho4;clear ho4 hg4)
  | (go_at_call 168;refine(four_calls w.heap.size _ [7] m _ (by simp) ((below_alloc HB2.out _).size) HL.out).mono ?_;rintro e w3 ⟨v3,rfl,ho3,hg3,-⟩;have HB3:=ak ((below_alloc HB2.out _).grown hg3 (below_alloc HB2.out _).size (own_base HL.out));have HV3:=ak ho3;clear ho3 hg3))
 go_ret
 refine⟨_,rfl,?_,HB5.out⟩
 have:=HV5.out
 rw[HS.out] at this
 exact this
end Hn
end

section
namespace Hn
open Go.Shelf Go.Lib Go.Sort Pt Fr Ext

def encH (x:Hi):List Value:=[.int .i64 x.f0,.string x.f1,.int .i64 x.f2,.int .i64 x.f3]
def cmpH (x y:Hi):Int:=compareBytes (keyL x.f1) (keyL y.f1)
theorem compareString_calls (a b:ByteArray) (w:World):
  Calls Tryz.prog 191 #[.string a,.string b] w fun e w'=>e=.returned (.int .i64 (compareBytes a.data.toList b.data.toList))∧w'=w:=by
 go_enter Tryz.func191,Tryz.ntmps191
 go_wp2
 rw[run_callFunc_extern Tryz.func215 (by kernel_rfl) (by kernel_rfl) (by kernel_rfl) (e:=Extern.BytealgCompare.compare) (by kernel_rfl),Lib.run_compareString]
 simp only[Result.andThen]
 rw[Oper.upon_value]
 go_wp2
 go_ret
 exact⟨rfl,rfl⟩
theorem compare_calls (a b:ByteArray) (w:World):
  Calls Tryz.prog 172 #[.string a,.string b] w fun e w'=>e=.returned (.int .i64 (compareBytes a.data.toList b.data.toList))∧w'=w:=by
 go_enter Tryz.func172,Tryz.ntmps172
 go_wp2_with (go_at_call 191;refine(compareString_calls _ _ _).mono ?_;rintro e w' ⟨rfl,rfl⟩)
 go_ret
 exact⟨rfl,rfl⟩
theorem byKey_calls (x y:Hi) (W:World):Calls Tryz.prog 152 #[.agg (encH x).toArray,.agg (encH y).toArray] W fun e w'=>e=.returned (.int .i64 (cmpH x y))∧∃q os',w'=grow (W.drewN q) os':=by
 have hcon:=fun W'=>compare_calls x.f1 y.f1 W'
 change Calls Tryz.prog 152 #[.agg #[.int .i64 x.f0,.string x.f1,.int .i64 x.f2,.int .i64 x.f3],.agg #[.int .i64 y.f0,.string y.f1,.int .i64 y.f2,.int .i64 y.f3]] W _
 change ∀W',Calls Tryz.prog 172 #[.string x.f1,.string y.f1] W' fun e w'=>e=.returned (.int .i64 (cmpH x y))∧w'=W' at hcon
 generalize cmpH x y=r at hcon ⊢
 go_enter Tryz.func152,Tryz.ntmps152
 go_wp2_with (go_at_call 172;refine(hcon _).mono ?_;rintro e w' ⟨rfl,rfl⟩)
 go_ret
 exact⟨rfl,0,_,by rw[alloc_eq_grow,alloc_eq_grow,grow_grow];rfl⟩
theorem below_grow {w0 w:World} (os:Array Obj) (h:RowKit.Below w0.heap.size w0 w):RowKit.Below w0.heap.size w0 (grow w os):=
 ⟨h.os,h.tape,h.output,Nat.le_trans h.size (by simp),fun k hk=>by
  rw[← h.block k hk]
  exact Array.getElem?_append_left (Nat.lt_of_lt_of_le hk h.size)⟩
theorem byKey_below (x y:Hi) (W:World):Calls Tryz.prog 152 #[.agg #[.int .i64 x.f0,.string x.f1,.int .i64 x.f2,.int .i64 x.f3],.agg #[.int .i64 y.f0,.string y.f1,.int .i64 y.f2,.int .i64 y.f3]] W fun e w'=>e=.returned (.int .i64 (cmpH x y))∧RowKit.Below W.heap.size W w':=by
 refine(byKey_calls x y W).mono ?_
 rintro e w' ⟨he,q,os,rfl⟩
 exact⟨he,below_grow os (pw_below_drewN (RowKit.Below.refl _ _) q)⟩
end Hn
end

section
namespace Hn
open Go.Shelf
def sortH_ren:Go.Shelf.Ren:=⟨fun | 6=>170 | 15=>159 | 14=>190 | 28=>183 | 29=>184 | 20=>207 | 21=>208 | 22=>209 | 23=>210 | 24=>211 | 25=>212 | 26=>213 | 27=>214 | 46=>221 | 47=>193 | 48=>194 | 49=>222 | 50=>223 | 57=>225 | n=>n,fun | 22=>176 | 24=>45 | 25=>216 | 3=>3 | 39=>149 | 0=>0 | 53=>62 | 55=>251 | 4=>4 | 46=>243 | 45=>242 | 50=>110 | 5=>5 | 9=>9 | 66=>258 | 70=>204 | 76=>274 | 77=>275 | n=>n,fun | n=>n⟩
theorem sortH:Go.Proofs.SlLaysF0.n6 Tryz.prog sortH_ren:={
 mixed:=by kernel_rfl
 f6:=⟨Tryz.f170.name,by decide,Tryz.func170.trans (congrArg some (by kernel_rfl))⟩
 f14:=⟨Tryz.f190.name,by decide,Tryz.func190.trans (congrArg some (by kernel_rfl))⟩
 f15:=Tryz.func159.trans (congrArg some (by kernel_rfl))
 f20:=⟨Tryz.f207.name,by decide,Tryz.func207.trans (congrArg some (by kernel_rfl))⟩
 f21:=⟨Tryz.f208.name,by decide,Tryz.func208.trans (congrArg some (by kernel_rfl))⟩
 f22:=⟨Tryz.f209.name,by decide,Tryz.func209.trans (congrArg some (by kernel_rfl))⟩
 f23:=⟨Tryz.f210.name,by decide,Tryz.func210.trans (congrArg some (by kernel_rfl))⟩
 f24:=⟨Tryz.f211.name,by decide,Tryz.func211.trans (congrArg some (by kernel_rfl))⟩
 f25:=⟨Tryz.f212.name,by decide,Tryz.func212.trans (congrArg some (by kernel_rfl))⟩
 f26:=⟨Tryz.f213.name,by decide,Tryz.func213.trans (congrArg some (by kernel_rfl))⟩
 f27:=⟨Tryz.f214.name,by decide,Tryz.func214.trans (congrArg some (by kernel_rfl))⟩
 f28:=Tryz.func183.trans (congrArg some (by kernel_rfl))
 f29:=Tryz.func184.trans (congrArg some (by kernel_rfl))
 f46:=⟨Tryz.f221.name,by decide,Tryz.func221.trans (congrArg some (by kernel_rfl))⟩
 f47:=Tryz.func193.trans (congrArg some (by kernel_rfl))
 f48:=Tryz.func194.trans (congrArg some (by kernel_rfl))
 f49:=⟨Tryz.f222.name,by decide,Tryz.func222.trans (congrArg some (by kernel_rfl))⟩
 f50:=⟨Tryz.f223.name,by decide,Tryz.func223.trans (congrArg some (by kernel_rfl))⟩
 f57:=⟨Tryz.f225.name,by decide,Tryz.func225.trans (congrArg some (by kernel_rfl))⟩
 t0:=Tryz.underlying0
 a0:=Tryz.isAgg0
 z0:=Tryz.sizeOf0
 v0:=Tryz.zeroValue0
 t3:=Tryz.underlying3
 a3:=Tryz.isAgg3
 z3:=Tryz.sizeOf3
 v3:=Tryz.zeroValue3
 t4:=Tryz.underlying4
 a4:=Tryz.isAgg4
 z4:=Tryz.sizeOf4
 v4:=Tryz.zeroValue4
 t5:=Tryz.underlying5
 a5:=Tryz.isAgg5
 z5:=Tryz.sizeOf5
 v5:=Tryz.zeroValue5
 t9:=Tryz.underlying9
 a9:=Tryz.isAgg9
 z9:=Tryz.sizeOf9
 v9:=Tryz.zeroValue9
 t22:=Tryz.underlying176
 a22:=Tryz.isAgg176
 z22:=Tryz.sizeOf176
 v22:=Tryz.zeroValue176
 t25:=Tryz.underlying216
 a25:=Tryz.isAgg216
 z25:=Tryz.sizeOf216
 v25:=Tryz.zeroValue216
 t39:=Tryz.underlying149
 a39:=Tryz.isAgg149
 z39:=Tryz.sizeOf149
 v39:=Tryz.zeroValue149
 t45:=Tryz.underlying242
 a45:=Tryz.isAgg242
 z45:=Tryz.sizeOf242
 v45:=Tryz.zeroValue242
 t46:=Tryz.underlying243
 a46:=Tryz.isAgg243
 z46:=Tryz.sizeOf243
 v46:=Tryz.zeroValue243
 t50:=Tryz.underlying110
 a50:=Tryz.isAgg110
 z50:=Tryz.sizeOf110
 v50:=Tryz.zeroValue110
 t53:=Tryz.underlying62
 a53:=Tryz.isAgg62
 z53:=Tryz.sizeOf62
 v53:=Tryz.zeroValue62
 t55:=Tryz.underlying251
 a55:=Tryz.isAgg251
 z55:=Tryz.sizeOf251
 v55:=Tryz.zeroValue251
 t66:=Tryz.underlying258
 a66:=Tryz.isAgg258
 z66:=Tryz.sizeOf258
 v66:=Tryz.zeroValue258
 t70:=Tryz.underlying204
 a70:=Tryz.isAgg204
 z70:=Tryz.sizeOf204
 v70:=Tryz.zeroValue204
 t76:=Tryz.underlying274
 a76:=Tryz.isAgg274
 z76:=Tryz.sizeOf274
 v76:=Tryz.zeroValue274
 t77:=Tryz.underlying275
 a77:=Tryz.isAgg275
 z77:=Tryz.sizeOf275
 v77:=Tryz.zeroValue275}
end Hn
end

section
namespace Pk
attribute [local go_sem] max2_int min2_int max_two min_two max_three min_three max_four min_four   -- for this text's walks alone



def errW:Option Int→Value
 | none=>.nilIface
 | some c=>.iface 0 (.int .i64 c)
theorem errW_none:errW none=.nilIface:=rfl
theorem errW_some (c:Int):errW (some c)=.iface 0 (.int .i64 c):=rfl

structure S200 where
 f0:Int
 f1:Int
 f2:(List Int)
end Pk
end

section
namespace Pk
attribute [local go_sem] max2_int min2_int max_two min_two max_three min_three max_four min_four   -- for this text's walks alone

open Ext
def rec_within.f (a0:Int) (a1:Int) (a2:Int):Option (Bool):=if a0≥a1 then(some (decide (a0≤a2))) else(some false)
theorem rec_within.calls (a0:Int) (a1:Int) (a2:Int) (r:Bool) (w:World) (h:rec_within.f a0 a1 a2=some r):
  Calls Tryz.prog 52 #[.int .i64 a0,.int .i64 a1,.int .i64 a2] w fun e w'=>e=.returned (.bool r)∧Drawn0 w w':=by
 have H:(if a0≥a1 then(some (decide (a0≤a2))) else(some false))=some r:=h
 clear h
 by_cases c4:a0≥a1
 ·rw[if_pos c4] at H
  have c4b0:decide (a1≤a0)=true:=decide_eq_true c4
  clear c4
  obtain rfl:=Option.some.inj H
  go_enter Tryz.func52,Tryz.ntmps52
  go_wp2
  go_ret
  exact⟨by first | rfl | (simp;done) | (simp [*];done),by repeat (first | exact Drawn0.refl _ | apply Drawn0.step)⟩
 ·rw[if_neg c4] at H
  have c4b0:decide (a1≤a0)=false:=decide_eq_false c4
  clear c4
  obtain rfl:=Option.some.inj H
  go_enter Tryz.func52,Tryz.ntmps52
  go_wp2
  go_ret
  exact⟨by first | rfl | (simp;done) | (simp [*];done),by repeat (first | exact Drawn0.refl _ | apply Drawn0.step)⟩

def rec_Key.f (a0:ByteArray):Option (Bool):=(rec_within.f (a0.size:Int) 1 64).bind fun t101=>(some t101)
theorem rec_Key.calls (a0:ByteArray) (r:Bool) (w:World) (h:rec_Key.f a0=some r):
  Calls Tryz.prog 28 #[.string a0] w fun e w'=>e=.returned (.bool r)∧Drawn0 w w':=by
 have H:((rec_within.f (a0.size:Int) 1 64).bind fun t101=>(some t101))=some r:=h
 clear h
 replace H:=Option.bind_eq_some_iff.mp H
 obtain⟨t101,A20,H⟩:=H
 replace H:(some t101)=some r:=H
 have A2:=ak A20
 clear A20
 obtain rfl:=Option.some.inj H
 go_enter Tryz.func28,Tryz.ntmps28
 go_wp2_with (first | ((with_reducible refine gate_callee (f:=52) rfl ?_);refine goesL_ (some 5) rfl rfl Tryz.func52 (by kernel_rfl) rfl #[.int .i64 (a0.size:Int),.int .i64 1,.int .i64 64] rfl (by(try simp only[List.map_toArray,List.map_cons,List.map_nil]);first | done | rfl | (simp only[List.length_drop,List.length_take];rfl)) ?_;(with_reducible refine(rec_within.calls (a0.size:Int) 1 64 t101 _ A2.out).mono ?_);rintro e w' ⟨rfl,⟨nd,rfl⟩⟩;refine⟨_,rfl,?_⟩))
 go_ret
 exact⟨by first | rfl | (simp;done) | (simp [*];done),by repeat (first | exact Drawn0.refl _ | apply Drawn0.step)⟩

def hint_within.f (a0:Int) (a1:Int) (a2:Int):Option (Bool):=if a0≥a1 then(some (decide (a0≤a2))) else(some false)
theorem hint_within.calls (a0:Int) (a1:Int) (a2:Int) (r:Bool) (w:World) (h:hint_within.f a0 a1 a2=some r):
  Calls Tryz.prog 146 #[.int .i64 a0,.int .i64 a1,.int .i64 a2] w fun e w'=>e=.returned (.bool r)∧Drawn0 w w':=by
 have H:(if a0≥a1 then(some (decide (a0≤a2))) else(some false))=some r:=h
 clear h
 by_cases c4:a0≥a1
 ·rw[if_pos c4] at H
  have c4b0:decide (a1≤a0)=true:=decide_eq_true c4
  clear c4
  obtain rfl:=Option.some.inj H
  go_enter Tryz.func146,Tryz.ntmps146
  go_wp2
  go_ret
  exact⟨by first | rfl | (simp;done) | (simp [*];done),by repeat (first | exact Drawn0.refl _ | apply Drawn0.step)⟩
 ·rw[if_neg c4] at H
  have c4b0:decide (a1≤a0)=false:=decide_eq_false c4
  clear c4
  obtain rfl:=Option.some.inj H
  go_enter Tryz.func146,Tryz.ntmps146
  go_wp2
  go_ret
  exact⟨by first | rfl | (simp;done) | (simp [*];done),by repeat (first | exact Drawn0.refl _ | apply Drawn0.step)⟩

def hint_tells.f (a0:Int):Option (Bool):=(hint_within.f a0 2 4).bind fun t102=>(some t102)
theorem hint_tells.calls (a0:Int) (r:Bool) (w:World) (h:hint_tells.f a0=some r):
  Calls Tryz.prog 149 #[.int .i64 a0] w fun e w'=>e=.returned (.bool r)∧Drawn0 w w':=by
 have H:((hint_within.f a0 2 4).bind fun t102=>(some t102))=some r:=h
 clear h
 replace H:=Option.bind_eq_some_iff.mp H
 obtain⟨t102,A20,H⟩:=H
 replace H:(some t102)=some r:=H
 have A2:=ak A20
 clear A20
 obtain rfl:=Option.some.inj H
 go_enter Tryz.func149,Tryz.ntmps149
 go_wp2_with (first | ((with_reducible refine gate_callee (f:=146) rfl ?_);refine goesL_ (some 4) rfl rfl Tryz.func146 (by kernel_rfl) rfl #[.int .i64 a0,.int .i64 2,.int .i64 4] rfl (by(try simp only[List.map_toArray,List.map_cons,List.map_nil]);first | done | rfl | (simp only[List.length_drop,List.length_take];rfl)) ?_;(with_reducible refine(hint_within.calls a0 2 4 t102 _ A2.out).mono ?_);rintro e w' ⟨rfl,⟨nd,rfl⟩⟩;refine⟨_,rfl,?_⟩))
 go_ret
 exact⟨by first | rfl | (simp;done) | (simp [*];done),by repeat (first | exact Drawn0.refl _ | apply Drawn0.step)⟩

def hint_Right_1.f (a0_0:Int) (a0_1:ByteArray) (a0_2:Int) (a0_3:Int):Option (Bool):=(hint_tells.f a0_0).bind fun t104=>(if t104=true then((rec_Key.f a0_1).bind fun t105=>(if t105=true then((hint_within.f a0_2 0 1073741824).bind fun t106=>(if t106=true then((hint_within.f a0_3 9 8200).bind fun t107=>(some (!t107))) else(some true))) else(some true))) else(some true))
theorem hint_Right_1.calls (a0_0:Int) (a0_1:ByteArray) (a0_2:Int) (a0_3:Int) (r:Bool) (w:World) (h:hint_Right_1.f a0_0 a0_1 a0_2 a0_3=some r):
  Calls Tryz.prog 166 #[.agg #[.int .i64 a0_0,.string a0_1,.int .i64 a0_2,.int .i64 a0_3]] w fun e w'=>e=.returned (.bool r)∧Below w.heap.size w w':=by
 have hu45:=Tryz.underlying45
 have HB:=ak (Below.refl w.heap.size w)
 have H:((hint_tells.f a0_0).bind fun t104=>(if t104=true then((rec_Key.f a0_1).bind fun t105=>(if t105=true then((hint_within.f a0_2 0 1073741824).bind fun t106=>(if t106=true then((hint_within.f a0_3 9 8200).bind fun t107=>(some (!t107))) else(some true))) else(some true))) else(some true)))=some r:=h
 clear h
 replace H:=Option.bind_eq_some_iff.mp H
 obtain⟨t104,A20,H⟩:=H
 replace H:(if t104=true then((rec_Key.f a0_1).bind fun t105=>(if t105=true then((hint_within.f a0_2 0 1073741824).bind fun t106=>(if t106=true then((hint_within.f a0_3 9 8200).bind fun t107=>(some (!t107))) else(some true))) else(some true))) else(some true))=some r:=H
 have A2:=ak A20
 clear A20
 by_cases c3:t104=true
 ·subst c3
  have H1:((rec_Key.f a0_1).bind fun t105=>(if t105=true then((hint_within.f a0_2 0 1073741824).bind fun t106=>(if t106=true then((hint_within.f a0_3 9 8200).bind fun t107=>(some (!t107))) else(some true))) else(some true)))=some r:=by rw[if_pos rfl] at H;exact H
  clear H
  have H:=H1
  clear H1
  replace H:=Option.bind_eq_some_iff.mp H
  obtain⟨t105,A40,H⟩:=H
  replace H:(if t105=true then((hint_within.f a0_2 0 1073741824).bind fun t106=>(if t106=true then((hint_within.f a0_3 9 8200).bind fun t107=>(some (!t107))) else(some true))) else(some true))=some r:=H
  have A4:=ak A40
  clear A40
  by_cases c5:t105=true
  ·subst c5
   have H1:((hint_within.f a0_2 0 1073741824).bind fun t106=>(if t106=true then((hint_within.f a0_3 9 8200).bind fun t107=>(some (!t107))) else(some true)))=some r:=by rw[if_pos rfl] at H;exact H
   clear H
   have H:=H1
   clear H1
   replace H:=Option.bind_eq_some_iff.mp H
   obtain⟨t106,A60,H⟩:=H
   replace H:(if t106=true then((hint_within.f a0_3 9 8200).bind fun t107=>(some (!t107))) else(some true))=some r:=H
   have A6:=ak A60
   clear A60
   by_cases c7:t106=true
   ·subst c7
    have H1:((hint_within.f a0_3 9 8200).bind fun t107=>(some (!t107)))=some r:=by rw[if_pos rfl] at H;exact H
    clear H
    have H:=H1
    clear H1
    replace H:=Option.bind_eq_some_iff.mp H
    obtain⟨t107,A80,H⟩:=H
    replace H:(some (!t107))=some r:=H
    have A8:=ak A80
    clear A80
    obtain rfl:=Option.some.inj H
    go_enter Tryz.func166,Tryz.ntmps166
    go_wp2_with (first | ((with_reducible refine gate_dst (N:=1) rfl ?_);refine box_event ?hg (N:=1) ?hd (cs:=#[.int .i64 a0_0,.string a0_1,.int .i64 a0_2,.int .i64 a0_3]) (t:=45) ?hr ?_;(case hd=>rfl);(case hg=>rfl);(case hr=>first | (go_simp;done) | (go_simp;rfl));intro gb103 hg w9 hbox hb;have n0_:=ak (below_step (by repeat (first | (with_reducible first | exact HB.out | apply below_alloc | apply pw_below_drewN | apply below_drew1) | exact HB.out)) hb);have n1_:=ak (hbox);have n2_:=ak ((by rw[hg];exact(below_size (by repeat (first | (with_reducible first | exact HB.out | apply below_alloc | apply pw_below_drewN | apply below_drew1) | exact HB.out))):w.heap.size≤gb103));have n3_:=ak ((by rw[hg];exact(below_size (by repeat (first | (with_reducible first | exact HB.out | apply below_alloc | apply pw_below_drewN | apply below_drew1) | exact HB.out))):w.heap.size≤gb103));clear HB;have HB:=n0_;have BK103:=n1_;have GW103:=n2_;have GE103:=n3_;clear n0_ n1_ n2_ n3_;clear hb hbox hg;have hcz10_0:=bq BK103.out 0 (.int .i64 a0_0);have hcz10_1:=bq BK103.out 1 (.string a0_1);have hcz10_2:=bq BK103.out 2 (.int .i64 a0_2);have hcz10_3:=bq BK103.out 3 (.int .i64 a0_3);have hfz10_0:=blk_frozen BK103.out 0;have hfz10_1:=blk_frozen BK103.out 1;have hfz10_2:=blk_frozen BK103.out 2;have hfz10_3:=blk_frozen BK103.out 3) | ((with_reducible refine gate_callee (f:=149) rfl ?_);refine goesL_ (some 5) rfl rfl Tryz.func149 (by kernel_rfl) rfl #[.int .i64 a0_0] rfl (by(try simp only[List.map_toArray,List.map_cons,List.map_nil]);first | done | rfl | (simp only[List.length_drop,List.length_take];rfl)) ?_;(with_reducible refine(hint_tells.calls a0_0 true _ A2.out).mono ?_);rintro e w' ⟨rfl,⟨nd,rfl⟩⟩;refine⟨_,rfl,?_⟩) | (go_at_call 28;(with_reducible refine(rec_Key.calls a0_1 true _ A4.out).mono ?_);rintro e w' ⟨rfl,⟨nd,rfl⟩⟩) | (go_at_call 146;(with_reducible refine(hint_within.calls a0_2 0 1073741824 true _ A6.out).mono ?_);rintro e w' ⟨rfl,⟨nd,rfl⟩⟩) | (go_at_call 146;(with_reducible refine(hint_within.calls a0_3 9 8200 t107 _ A8.out).mono ?_);rintro e w' ⟨rfl,⟨nd,rfl⟩⟩))
    go_ret
    exact⟨by first | rfl | (simp [errW_none,errW_some] <;> rfl) | (simp [*,errW_none,errW_some] <;> rfl),by repeat (first | (with_reducible first | exact HB.out | apply below_alloc | apply pw_below_drewN | apply below_drew1 | refine below_set ?_ GE103.out) | exact HB.out)⟩
   ·replace c7:=Bool.eq_false_iff.mpr c7
    subst c7
    have H1:(some true)=some r:=by rw[if_neg (show ¬(false=true) by decide)] at H;exact H
    clear H
    have H:=H1
    clear H1
    obtain rfl:=Option.some.inj H
    go_enter Tryz.func166,Tryz.ntmps166
    go_wp2_with (first | ((with_reducible refine gate_dst (N:=1) rfl ?_);refine box_event ?hg (N:=1) ?hd (cs:=#[.int .i64 a0_0,.string a0_1,.int .i64 a0_2,.int .i64 a0_3]) (t:=45) ?hr ?_;(case hd=>rfl);(case hg=>rfl);(case hr=>first | (go_simp;done) | (go_simp;rfl));intro gb103 hg w11 hbox hb;have n0_:=ak (below_step (by repeat (first | (with_reducible first | exact HB.out | apply below_alloc | apply pw_below_drewN | apply below_drew1) | exact HB.out)) hb);have n1_:=ak (hbox);have n2_:=ak ((by rw[hg];exact(below_size (by repeat (first | (with_reducible first | exact HB.out | apply below_alloc | apply pw_below_drewN | apply below_drew1) | exact HB.out))):w.heap.size≤gb103));have n3_:=ak ((by rw[hg];exact(below_size (by repeat (first | (with_reducible first | exact HB.out | apply below_alloc | apply pw_below_drewN | apply below_drew1) | exact HB.out))):w.heap.size≤gb103));clear HB;have HB:=n0_;have BK103:=n1_;have GW103:=n2_;have GE103:=n3_;clear n0_ n1_ n2_ n3_;clear hb hbox hg;have hcz12_0:=bq BK103.out 0 (.int .i64 a0_0);have hcz12_1:=bq BK103.out 1 (.string a0_1);have hcz12_2:=bq BK103.out 2 (.int .i64 a0_2);have hcz12_3:=bq BK103.out 3 (.int .i64 a0_3);have hfz12_0:=blk_frozen BK103.out 0;have hfz12_1:=blk_frozen BK103.out 1;have hfz12_2:=blk_frozen BK103.out 2;have hfz12_3:=blk_frozen BK103.out 3) | ((with_reducible refine gate_callee (f:=149) rfl ?_);refine goesL_ (some 5) rfl rfl Tryz.func149 (by kernel_rfl) rfl #[.int .i64 a0_0] rfl (by(try simp only[List.map_toArray,List.map_cons,List.map_nil]);first | done | rfl | (simp only[List.length_drop,List.length_take];rfl)) ?_;(with_reducible refine(hint_tells.calls a0_0 true _ A2.out).mono ?_);rintro e w' ⟨rfl,⟨nd,rfl⟩⟩;refine⟨_,rfl,?_⟩) | (go_at_call 28;(with_reducible refine(rec_Key.calls a0_1 true _ A4.out).mono ?_);rintro e w' ⟨rfl,⟨nd,rfl⟩⟩) | (go_at_call 146;(with_reducible refine(hint_within.calls a0_2 0 1073741824 false _ A6.out).mono ?_);rintro e w' ⟨rfl,⟨nd,rfl⟩⟩))
    go_ret
    exact⟨by first | rfl | (simp [errW_none,errW_some] <;> rfl) | (simp [*,errW_none,errW_some] <;> rfl),by repeat (first | (with_reducible first | exact HB.out | apply below_alloc | apply pw_below_drewN | apply below_drew1 | refine below_set ?_ GE103.out) | exact HB.out)⟩
  ·replace c5:=Bool.eq_false_iff.mpr c5
   subst c5
   have H1:(some true)=some r:=by rw[if_neg (show ¬(false=true) by decide)] at H;exact H
   clear H
   have H:=H1
   clear H1
   obtain rfl:=Option.some.inj H
   go_enter Tryz.func166,Tryz.ntmps166
   go_wp2_with (first | ((with_reducible refine gate_dst (N:=1) rfl ?_);refine box_event ?hg (N:=1) ?hd (cs:=#[.int .i64 a0_0,.string a0_1,.int .i64 a0_2,.int .i64 a0_3]) (t:=45) ?hr ?_;(case hd=>rfl);(case hg=>rfl);(case hr=>first | (go_simp;done) | (go_simp;rfl));intro gb103 hg w13 hbox hb;have n0_:=ak (below_step (by repeat (first | (with_reducible first | exact HB.out | apply below_alloc | apply pw_below_drewN | apply below_drew1) | exact HB.out)) hb);have n1_:=ak (hbox);have n2_:=ak ((by rw[hg];exact(below_size (by repeat (first | (with_reducible first | exact HB.out | apply below_alloc | apply pw_below_drewN | apply below_drew1) | exact HB.out))):w.heap.size≤gb103));have n3_:=ak ((by rw[hg];exact(below_size (by repeat (first | (with_reducible first | exact HB.out | apply below_alloc | apply pw_below_drewN | apply below_drew1) | exact HB.out))):w.heap.size≤gb103));clear HB;have HB:=n0_;have BK103:=n1_;have GW103:=n2_;have GE103:=n3_;clear n0_ n1_ n2_ n3_;clear hb hbox hg;have hcz14_0:=bq BK103.out 0 (.int .i64 a0_0);have hcz14_1:=bq BK103.out 1 (.string a0_1);have hcz14_2:=bq BK103.out 2 (.int .i64 a0_2);have hcz14_3:=bq BK103.out 3 (.int .i64 a0_3);have hfz14_0:=blk_frozen BK103.out 0;have hfz14_1:=blk_frozen BK103.out 1;have hfz14_2:=blk_frozen BK103.out 2;have hfz14_3:=blk_frozen BK103.out 3) | ((with_reducible refine gate_callee (f:=149) rfl ?_);refine goesL_ (some 5) rfl rfl Tryz.func149 (by kernel_rfl) rfl #[.int .i64 a0_0] rfl (by(try simp only[List.map_toArray,List.map_cons,List.map_nil]);first | done | rfl | (simp only[List.length_drop,List.length_take];rfl)) ?_;(with_reducible refine(hint_tells.calls a0_0 true _ A2.out).mono ?_);rintro e w' ⟨rfl,⟨nd,rfl⟩⟩;refine⟨_,rfl,?_⟩) | (go_at_call 28;(with_reducible refine(rec_Key.calls a0_1 false _ A4.out).mono ?_);rintro e w' ⟨rfl,⟨nd,rfl⟩⟩))
   go_ret
   exact⟨by first | rfl | (simp [errW_none,errW_some] <;> rfl) | (simp [*,errW_none,errW_some] <;> rfl),by repeat (first | (with_reducible first | exact HB.out | apply below_alloc | apply pw_below_drewN | apply below_drew1 | refine below_set ?_ GE103.out) | exact HB.out)⟩
 ·replace c3:=Bool.eq_false_iff.mpr c3
  subst c3
  have H1:(some true)=some r:=by rw[if_neg (show ¬(false=true) by decide)] at H;exact H
  clear H
  have H:=H1
  clear H1
  obtain rfl:=Option.some.inj H
  go_enter Tryz.func166,Tryz.ntmps166
  go_wp2_with (first | ((with_reducible refine gate_dst (N:=1) rfl ?_);refine box_event ?hg (N:=1) ?hd (cs:=#[.int .i64 a0_0,.string a0_1,.int .i64 a0_2,.int .i64 a0_3]) (t:=45) ?hr ?_;(case hd=>rfl);(case hg=>rfl);(case hr=>first | (go_simp;done) | (go_simp;rfl));intro gb103 hg w15 hbox hb;have n0_:=ak (below_step (by repeat (first | (with_reducible first | exact HB.out | apply below_alloc | apply pw_below_drewN | apply below_drew1) | exact HB.out)) hb);have n1_:=ak (hbox);have n2_:=ak ((by rw[hg];exact(below_size (by repeat (first | (with_reducible first | exact HB.out | apply below_alloc | apply pw_below_drewN | apply below_drew1) | exact HB.out))):w.heap.size≤gb103));have n3_:=ak ((by rw[hg];exact(below_size (by repeat (first | (with_reducible first | exact HB.out | apply below_alloc | apply pw_below_drewN | apply below_drew1) | exact HB.out))):w.heap.size≤gb103));clear HB;have HB:=n0_;have BK103:=n1_;have GW103:=n2_;have GE103:=n3_;clear n0_ n1_ n2_ n3_;clear hb hbox hg;have hcz16_0:=bq BK103.out 0 (.int .i64 a0_0);have hcz16_1:=bq BK103.out 1 (.string a0_1);have hcz16_2:=bq BK103.out 2 (.int .i64 a0_2);have hcz16_3:=bq BK103.out 3 (.int .i64 a0_3);have hfz16_0:=blk_frozen BK103.out 0;have hfz16_1:=blk_frozen BK103.out 1;have hfz16_2:=blk_frozen BK103.out 2;have hfz16_3:=blk_frozen BK103.out 3) | ((with_reducible refine gate_callee (f:=149) rfl ?_);refine goesL_ (some 5) rfl rfl Tryz.func149 (by kernel_rfl) rfl #[.int .i64 a0_0] rfl (by(try simp only[List.map_toArray,List.map_cons,List.map_nil]);first | done | rfl | (simp only[List.length_drop,List.length_take];rfl)) ?_;(with_reducible refine(hint_tells.calls a0_0 false _ A2.out).mono ?_);rintro e w' ⟨rfl,⟨nd,rfl⟩⟩;refine⟨_,rfl,?_⟩))
  go_ret
  exact⟨by first | rfl | (simp [errW_none,errW_some] <;> rfl) | (simp [*,errW_none,errW_some] <;> rfl),by repeat (first | (with_reducible first | exact HB.out | apply below_alloc | apply pw_below_drewN | apply below_drew1 | refine below_set ?_ GE103.out) | exact HB.out)⟩

end Pk
end

section
namespace Hn
open Go.Shelf Go.Lib Go.Sort Go.Proofs.YtcieieacfoaklaaGreat.Pure Pt Fr Ext

theorem fine_calls (x:Hi) (w:World):Calls Tryz.prog 166 #[.agg #[.int .i64 x.f0,.string x.f1,.int .i64 x.f2,.int .i64 x.f3]] w fun e w'=>e=.returned (.bool (!fineH x))∧Below w.heap.size w w':=by
 refine Pk.hint_Right_1.calls x.f0 x.f1 x.f2 x.f3 (!fineH x) w ?_
 unfold Pk.hint_Right_1.f Pk.hint_tells.f Pk.rec_Key.f Pk.rec_within.f Pk.hint_within.f fineH
 by_cases h0:x.f0≥2
 ·by_cases h1:x.f0≤4
  ·by_cases h2:(x.f1.size:Int)≥1
   ·by_cases h3:(x.f1.size:Int)≤64
    ·by_cases h4:x.f2≥0
     ·by_cases h5:x.f2≤1073741824
      ·by_cases h6:x.f3≥9
       ·by_cases h7:x.f3≤8200
        ·have g1:1≤x.f1.size:=by omega
         have g2:x.f1.size≤64:=by omega
         simp [h0,h1,h2,h3,h4,h5,h6,h7,g1,g2]
        ·have g1:1≤x.f1.size:=by omega
         have g2:x.f1.size≤64:=by omega
         simp [h0,h1,h2,h3,h4,h5,h6,h7,g1,g2]
       ·have g1:1≤x.f1.size:=by omega
        have g2:x.f1.size≤64:=by omega
        simp [h0,h1,h2,h3,h4,h5,h6,g1,g2]
      ·simp [h0,h1,h2,h3,h4,h5]
     ·simp [h0,h1,h2,h3,h4]
    ·have g2:¬x.f1.size≤64:=by omega
     simp [h0,h1,h2,h3,g2]
   ·have g1:¬1≤x.f1.size:=by omega
    simp [h0,h1,h2,g1]
  ·simp [h0,h1]
 ·simp [h0]

theorem index_calls (A:Option Addr) (c:Nat) (l:List Hi) (w:World) (hr:Kd.C k45 w A l.length l):
  Calls Tryz.prog 188 #[.slice A l.length c,.func (.func 166) #[] #[]] w fun e w'=>∃r:Int,e=.returned (.int .i64 r)∧Aside0 (decide (r≥0)=!l.all fineH)∧Below w.heap.size w w':=by
 have HR:=ak hr
 have HM:=ak (Kd.C_max hr)
 clear hr
 go_enter Tryz.func188,Tryz.ntmps188
 go_wp2
 go_loopg [8] l.length (fun kq v8 wr=>∃k:Nat,v8=.int .i64 k∧Aside0 (k+kq=l.length)∧Aside0 ((l.take k).all fineH=true)∧Aside0 (Below w.heap.size w wr))
 case atStart=>exact⟨0,rfl,⟨by omega⟩,⟨rfl⟩,⟨Below.refl _ _⟩⟩
 case round=>
  obtain⟨k,rfl,HK,HA,HB⟩:=hrel
  cases gk with
  | zero=>
   have hk:decide ((k:Int) < (l.length:Int))=false:=decide_eq_false (by have:=HK.out;omega)
   have hk':decide (k < l.length)=false:=decide_eq_false (by have:=HK.out;omega)
   go_wp2
   go_ret
   refine⟨_,rfl,⟨?_⟩,HB.out⟩
   have e1:=HA.out
   rw[List.take_of_length_le (by have:=HK.out;omega)] at e1
   rw[e1]
   rfl
  | succ gk=>
   have hk0:k < l.length:=by have:=HK.out;omega
   have hk:decide ((k:Int) < (l.length:Int))=true:=decide_eq_true (by omega)
   have hk':decide (k < l.length)=true:=decide_eq_true hk0
   have hk1:(k < l.length)=True:=eq_true hk0
   obtain⟨ad,e0,x0,x1,x2,x3⟩:=at_T45 (Kd.C_below HR.out HB.out) (k:Int) (by omega) (by omega)
   cases e0
   rw[Int.toNat_natCast] at x0 x1 x2 x3
   obtain⟨x,hx⟩:∃x,rd_T45 l (k:Int)=x:=⟨_,rfl⟩
   rw[hx] at x0 x1 x2 x3
   have HX:=ak hx
   clear hx
   have htk:l.take (k+1)=l.take k++[x]:=by
    rw[List.take_add_one,List.getElem?_eq_getElem hk0]
    have:=HX.out
    unfold rd_T45 at this
    rw[Int.toNat_natCast,List.getD_eq_getElem?_getD,List.getElem?_eq_getElem hk0] at this
    rw[← this];rfl
   by_cases hf:fineH x=true
   ·have hb0:(!fineH x)=false:=by rw[hf];rfl
    have HF:=ak hf
    have HT:=ak htk
    clear hf htk
    have hcon:=fun W=>fine_calls x W
    rw[hb0] at hcon
    clear hb0
    go_wp2_with (go_at_call 166;refine(hcon _).mono ?_;rintro e w2 ⟨rfl,hb⟩;have HB2:=ak (below_then HB.out HB.out.size hb);clear hb)
    go_roundg gk
    case measure=>omega
    case rel=>exact⟨k+1,by rw[w64 _ (by omega) (by have:=HM.out;omega)];rfl,⟨by have:=HK.out;omega⟩,⟨by rw[HT.out,List.all_append,HA.out];simp [HF.out]⟩,HB2⟩
   ·have hb0:(!fineH x)=true:=by simp [hf]
    have HF:=ak hf
    have HT:=ak htk
    clear hf htk
    have hcon:=fun W=>fine_calls x W
    rw[hb0] at hcon
    clear hb0
    go_wp2_with (go_at_call 166;refine(hcon _).mono ?_;rintro e w2 ⟨rfl,hb⟩;have HB2:=ak (below_then HB.out HB.out.size hb);clear hb)
    go_ret
    refine⟨_,rfl,⟨?_⟩,HB2.out⟩
    have hall:l.all fineH=false:=by
     rw[← List.take_append_drop (k+1) l,List.all_append,HT.out,List.all_append]
     simp [HF.out]
    rw[hall]
    exact decide_eq_true (by omega)

theorem contains_calls (A:Option Addr) (c:Nat) (l:List Hi) (w:World) (hr:Kd.C k45 w A l.length l):
  Calls Tryz.prog 167 #[.slice A l.length c,.func (.func 166) #[] #[]] w fun e w'=>e=.returned (.bool (!l.all fineH))∧Below w.heap.size w w':=by
 have HR:=ak hr
 clear hr
 go_enter Tryz.func167,Tryz.ntmps167
 go_wp2_with (go_at_call 188;refine(index_calls A c l _ HR.out).mono ?_;rintro e w2 ⟨r,rfl,hd,hb⟩;have HB:=ak hb;clear hb)
 go_ret
 exact⟨by rw[← hd.out];simp,HB.out⟩
end Hn
end

section
namespace Hn
open Go.Shelf Go.Lib Go.Sort Go.Proofs.YtcieieacfoaklaaGreat.Pure Pt Fr Ext
attribute [local go_sem] max2_int min2_int max_two min_two max_three min_three max_four min_four

theorem compareBytes_lt:∀a b:List UInt8,compareBytes a b < 0↔a < b
 | [],[]=>by simp [compareBytes]
 | [],_::_=>by simp [compareBytes]
 | _::_,[]=>by simp [compareBytes]
 | x::a,y::b=>by
  have ih:=compareBytes_lt a b
  rw[compareBytes,List.cons_lt_cons_iff]
  by_cases h1:x < y
  ·simp [h1]
  ·by_cases h2:y < x
   ·have h3:x≠y:=by intro e;subst e;exact h1 h2
    simp [h1,h2,h3]
   ·have h3:x=y:=UInt8.le_antisymm (UInt8.not_lt.mp h2) (UInt8.not_lt.mp h1)
    subst h3
    simp only[h1,if_false,ih,false_or,true_and]
abbrev rdH (l:List Hi) (i:Int):Hi:=rd_T45 l i
def risesTo (l:List Hi) (k:Nat):Prop:=∀i:Nat,i < k→keyL (rdH l i).f1 < keyL (rdH l ((i:Int)+1)).f1
theorem rdH_at (l:List Hi) (i:Nat) (h:i < l.length):rdH l i=l[i]:=by
 unfold rdH rd_T45
 rw[Int.toNat_natCast,List.getD_eq_getElem?_getD,List.getElem?_eq_getElem h];rfl
theorem rises_iff:∀l:List Hi,risesL l=true↔∀i:Nat,∀h:i+1 < l.length,keyL (l[i]'(by omega)).f1 < keyL l[i+1].f1
 | []=>by simp [risesL]
 | [a]=>by simp [risesL]
 | a::b::l=>by
  rw[risesL,Bool.and_eq_true,decide_eq_true_iff,rises_iff (b::l)]
  constructor
  ·rintro ⟨h1,h2⟩ i hi
   rcases i with _ | i
   ·exact h1
   ·exact h2 i (by simpa using hi)
  ·intro h
   exact⟨h 0 (by simp),fun i hi=>h (i+1) (by simpa using hi)⟩
theorem rises_of (l:List Hi) (h:risesTo l (l.length - 1)):risesL l=true:=by
 rw[rises_iff]
 intro i hi
 have:=h i (by omega)
 rw[show(i:Int)+1=((i+1:Nat):Int) by omega,rdH_at l i (by omega),rdH_at l (i+1) hi] at this
 exact this
theorem rises_not (l:List Hi) (i:Nat) (hi:i+1 < l.length) (h:¬keyL (rdH l i).f1 < keyL (rdH l ((i:Int)+1)).f1):risesL l=false:=by
 rw[Bool.eq_false_iff]
 intro hr
 rw[rises_iff] at hr
 apply h
 rw[show(i:Int)+1=((i+1:Nat):Int) by omega,rdH_at l i (by omega),rdH_at l (i+1) hi]
 exact hr i hi

theorem right_calls (A:Option Addr) (c:Nat) (l:List Hi) (w:World) (hc:l.length≤c) (hr:Kd.C k45 w A l.length l):
  Calls Tryz.prog 145 #[.slice A l.length c] w fun e w'=>e=.returned (.bool (rightL l))∧Below w.heap.size w w':=by
 have HR:=ak hr
 have HM:=ak (Kd.C_max hr)
 obtain⟨i0,hi0,_,hsz,_⟩:=info_parts info45
 have hmin:(if(l.length:Int) < 1 then(l.length:Int) else 1)=((min 1 l.length:Nat):Int):=by split <;> omega
 obtain⟨m,hm⟩:∃m,min 1 l.length=m:=⟨_,rfl⟩
 rw[hm] at hmin
 have hmle:m≤l.length:=by omega
 have hcut:=cut_from (P:=Tryz.prog) 176 45 .i64 Tryz.underlying176 hi0 4 hsz A l.length c (m:Int) (by omega) (by omega)
 obtain⟨A1,hA1⟩:∃A1,A1=(if c=(m:Int).toNat then A else A.map (·.add ((m:Int).toNat *4))):=⟨_,rfl⟩
 rw[← hA1,Int.toNat_natCast] at hcut
 clear hA1 hr
 go_enter Tryz.func145,Tryz.ntmps145
 go_wp2
 clear hcut hi0 hsz hmin
 have HMM:=ak hm
 clear hm hc
 go_loopg [11] (l.length - m) (fun kq v11 wr=>∃k:Nat,v11=.int .i64 k∧Aside0 (k+kq=l.length - m)∧Aside0 (risesTo l k)∧Aside0 (Below w.heap.size w wr))
 case atStart=>exact⟨0,rfl,⟨by omega⟩,⟨fun i hi=>absurd hi (Nat.not_lt_zero _)⟩,⟨Below.refl _ _⟩⟩
 case round=>
  obtain⟨k,rfl,HK,HA,HB⟩:=hrel
  cases gk with
  | zero=>
   have hk:decide ((k:Int) < ((l.length - m:Nat):Int))=false:=decide_eq_false (by have:=HK.out;omega)
   have hk':decide (k < l.length - m)=false:=decide_eq_false (by have:=HK.out;omega)
   have HE:=ak (rises_of l (by have e1:=HK.out;have e2:=HMM.out;rw[show l.length - 1=k by omega];exact HA.out))
   go_wp2_with (go_at_call 167;refine(contains_calls A c l _ (Kd.C_below HR.out HB.out)).mono ?_;rintro e w2 ⟨rfl,hb⟩;have HB2:=ak (below_then HB.out HB.out.size hb);clear hb)
   go_ret
   exact⟨by rw[rightL,HE.out];simp,HB2.out⟩
  | succ gk=>
   have hk0:k+1 < l.length:=by have:=HK.out;have:=HMM.out;omega
   have hk:decide ((k:Int) < ((l.length - m:Nat):Int))=true:=decide_eq_true (by have:=HK.out;omega)
   have hk':decide (k < l.length - m)=true:=decide_eq_true (by have:=HK.out;omega)
   have hw:wrap64 ((k:Int)+1)=(k:Int)+1:=by rw[w64 _ (by omega) (by have:=HM.out;omega)]
   have hw2:IntKind.i64.wrap ((k:Int)+1)=(k:Int)+1:=by rw[IntWalk.i64_in _ (by have:=HM.out;omega)]
   have b0:(0:Int)≤(k:Int):=by omega
   have b1:(k:Int) < (l.length:Int):=by omega
   have b2:(0:Int)≤(k:Int)+1:=by omega
   have b3:(k:Int)+1 < (l.length:Int):=by omega
   have b4:((k:Int)+1).toNat=k+1:=by omega
   have hk1:(k < l.length)=True:=eq_true (by omega)
   have hk2:(k+1 < l.length)=True:=eq_true hk0
   obtain⟨ad,e0,x0,x1,x2,x3⟩:=at_T45 (Kd.C_below HR.out HB.out) (k:Int) (by omega) (by omega)
   cases e0
   obtain⟨ad',e0,y0,y1,y2,y3⟩:=at_T45 (Kd.C_below HR.out HB.out) ((k+1:Nat):Int) (by omega) (by omega)
   cases e0
   rw[Int.toNat_natCast] at x0 x1 x2 x3 y0 y1 y2 y3
   obtain⟨x,hx⟩:∃x,rd_T45 l (k:Int)=x:=⟨_,rfl⟩
   obtain⟨y,hy⟩:∃y,rd_T45 l ((k+1:Nat):Int)=y:=⟨_,rfl⟩
   rw[hx] at x0 x1 x2 x3
   rw[hy] at y0 y1 y2 y3
   have HX:=ak hx
   have HY:=ak hy
   clear hx hy
   obtain⟨r,hr⟩:∃r,cmpH x y=r:=⟨_,rfl⟩
   have hcon:=fun W=>byKey_below x y W
   rw[hr] at hcon
   have HC:=ak hcon
   have HRR:=ak hr
   clear hcon hr
   go_wp2
   have hlt:(ad.add (k*4)).block < wr.heap.size:=World.block_lt_of_cell? wr _ x0
   have hlt2:(ad.add ((k+1)*4)).block < wr.heap.size:=World.block_lt_of_cell? wr _ y0
   go_region_held3 (fun w'=>w'.cell? (ad.add (k*4))=some (.int .i64 x.f0)∧w'.cell? ⟨(ad.add (k*4)).block,(ad.add (k*4)).off+1,none⟩=some (.string x.f1)∧w'.cell? ⟨(ad.add (k*4)).block,(ad.add (k*4)).off+2,none⟩=some (.int .i64 x.f2)∧w'.cell? ⟨(ad.add (k*4)).block,(ad.add (k*4)).off+3,none⟩=some (.int .i64 x.f3)∧w'.cell? (ad.add ((k+1)*4))=some (.int .i64 y.f0)∧w'.cell? ⟨(ad.add ((k+1)*4)).block,(ad.add ((k+1)*4)).off+1,none⟩=some (.string y.f1)∧w'.cell? ⟨(ad.add ((k+1)*4)).block,(ad.add ((k+1)*4)).off+2,none⟩=some (.int .i64 y.f2)∧w'.cell? ⟨(ad.add ((k+1)*4)).block,(ad.add ((k+1)*4)).off+3,none⟩=some (.int .i64 y.f3))
    (first | go_keep | exact⟨(hb1.cell (p:=ad.add (k*4)) hlt).trans x0,(hb1.cell (p:=⟨(ad.add (k*4)).block,(ad.add (k*4)).off+1,none⟩) hlt).trans x1,(hb1.cell (p:=⟨(ad.add (k*4)).block,(ad.add (k*4)).off+2,none⟩) hlt).trans x2,(hb1.cell (p:=⟨(ad.add (k*4)).block,(ad.add (k*4)).off+3,none⟩) hlt).trans x3,(hb1.cell (p:=ad.add ((k+1)*4)) hlt2).trans y0,(hb1.cell (p:=⟨(ad.add ((k+1)*4)).block,(ad.add ((k+1)*4)).off+1,none⟩) hlt2).trans y1,(hb1.cell (p:=⟨(ad.add ((k+1)*4)).block,(ad.add ((k+1)*4)).off+2,none⟩) hlt2).trans y2,(hb1.cell (p:=⟨(ad.add ((k+1)*4)).block,(ad.add ((k+1)*4)).off+3,none⟩) hlt2).trans y3⟩)
    ((go_at_call 152;refine(HC.out _).mono ?_;rintro e w1 ⟨rfl,hb1⟩))
   have HB1:=ak (below_then HB.out HB.out.size (below_then (below_drew1 (Below.refl _ _)) (Nat.le_refl _) hb1))
   clear hb1 x0 x1 x2 x3 y0 y1 y2 y3 hlt hlt2 hk1 hk2 hk hk'
   obtain⟨bq,hbq⟩:∃b,decide (0≤r)=b:=⟨_,rfl⟩
   rw[hbq]
   have HN:=ak hbq
   clear hbq
   cases bq with
   | true=>
    go_wp2
    go_ret
    refine⟨?_,HB1.out⟩
    rw[rightL,rises_not l k hk0 ?_]
    ·rfl
    ·rw[show rdH l (k:Int)=x from HX.out,show rdH l ((k:Int)+1)=y from HY.out]
     intro hlt
     have:=(compareBytes_lt (keyL x.f1) (keyL y.f1)).mpr hlt
     have e1:compareBytes (keyL x.f1) (keyL y.f1)=r:=HRR.out
     have:=of_decide_eq_true HN.out
     omega
   | false=>
    go_wp2
    go_roundg gk
    case measure=>omega
    case rel=>
     refine⟨k+1,rfl,⟨by have:=HK.out;omega⟩,⟨fun i hi=>?_⟩,HB1⟩
     by_cases hik:i < k
     ·exact HA.out i hik
     ·obtain rfl:i=k:=by omega
      rw[show rdH l (i:Int)=x from HX.out,show rdH l ((i:Int)+1)=y from HY.out]
      have e1:compareBytes (keyL x.f1) (keyL y.f1)=r:=HRR.out
      have:=of_decide_eq_false HN.out
      exact(compareBytes_lt (keyL x.f1) (keyL y.f1)).mp (by omega)
end Hn
end

section
namespace Hn
open Go.Shelf Go.Lib Go.Sort Go.Proofs.YtcieieacfoaklaaGreat.Pure Pt Fr Ext

instance:Inhabited Hi:=⟨⟨0,ByteArray.empty,0,0⟩⟩
theorem ltH (x y:Hi):ltOf cmpH x y=decide (keyL x.f1 < keyL y.f1):=by
 unfold ltOf cmpH
 exact decide_eq_decide.mpr (compareBytes_lt _ _)
theorem swoH:SWO (ltOf cmpH) where
 irrefl x:=by rw[ltH];exact decide_eq_false (List.lt_irrefl _)
 trans x y z h1 h2:=by
  rw[ltH] at *
  exact decide_eq_true (List.lt_trans (of_decide_eq_true h1) (of_decide_eq_true h2))
 ntrans x y z h1 h2:=by
  rw[ltH] at *
  have h1:=of_decide_eq_false h1
  have h2:=of_decide_eq_false h2
  refine decide_eq_false fun h3=>?_
  exact absurd h3 (List.not_lt.mpr (List.le_trans (List.not_lt.mp h2) (List.not_lt.mp h1)))
theorem cmpLays (blk off size:Nat) (w:World):CmpLays Tryz.prog 152 #[] encH 4 cmpH blk off size w:=fun _ _ _ _ x y=>byKey_calls x y _
theorem sort_calls (blk off cap:Nat) (d:Array Hi) (w:World) (hH:HoldsK encH 4 w blk off d) (hblk:blk < w.heap.size) (hsz:d.size < 4611686018427387904):
  Calls Tryz.prog 170 #[.slice (some ⟨blk,off,none⟩) d.size cap,.func (.func 152) #[] #[]] w fun e w'=>e=.returned (.tuple #[])∧∃d' n os,PermIn 0 d.size d d'∧SortedIn (ltOf cmpH) 0 d.size d'∧w'=sortWorldK encH 4 w blk off n d' os:=by
 have eg:∀args w,(callFunc 152 args).run Tryz.prog w=.ok (.enter 152 args) w:=enters_of Tryz.func152 (by kernel_rfl) rfl
 have hcon:=AnyQ.slices_SortFunc sortH 4 Tryz.isAgg45 Tryz.sizeOf45 encH (fun _=>rfl) (fun x v hv=>by simp [encH] at hv;rcases hv with rfl | rfl | rfl | rfl <;> rfl) cmpH swoH 152 #[] blk off cap d w eg (cmpLays blk off d.size w) hH hblk hsz
 exact hcon
end Hn
end

section
namespace Hn
open Go.Shelf Go.Lib Go.Sort Go.Proofs.YtcieieacfoaklaaGreat.Pure Pt Fr Ext

abbrev RowH (w:World) (base:Nat) (ok:Nat→Prop) (v:Value) (l:List Hi):Prop:=Kd.R k45 45 w base ok v l
theorem enc_len (x:Hi):(encH x).length=4:=rfl
theorem flat_get (d:List Hi) (j i:Nat) (hj:j < d.length) (hi:i < 4):(flatK encH 4 d.toArray)[j*4+i]! =(encH d[j])[i]'(by rw[enc_len];exact hi):=by
 rw[get_flatK _ _ _ _ (by simp;omega),show(j*4+i) / 4=j by omega,show(j*4+i) % 4=i by omega]
 have e:(d.toArray)[j]! =d[j]:=by simp [hj]
 rw[e,getElem!_pos (encH d[j]) i (by rw[enc_len];exact hi)]
theorem row_cells {w:World} {base:Nat} {ok:Nat→Prop} {g cap:Nat} {l:List Hi} (h:RowH w base ok (.slice (some ⟨g,0,none⟩) l.length cap) l):
  ∃cur,w.heap[g]? =some (.cells cur 45 (0,0))∧base≤g∧l.length≤cap∧cap≤maxLen∧cur.size=cap*4∧∀j,∀hj:j < l.length,∀i,∀hi:i < 4,cur[j*4+i]? =some ((encH l[j])[i]'(by rw[enc_len];exact hi)):=by
 obtain⟨_,inner,⟨hlen,hown⟩,hr⟩:=h
 rcases hown with⟨h1,_⟩ | ⟨g',cap',cur,he,hb,hh,hn,hm,hs,ht⟩
 ·cases h1
 ·injection he with e1 e2 e3
  injection e1 with e1
  injection e1 with e1
  subst e1 e3
  refine⟨cur,hh,hb,hn,hm,hs,fun j hj i hi=>?_⟩
  have h2:=k45_openM (hr.2 j l[j] (List.getElem?_eq_getElem hj))
  change (inner.drop (j*4)).take 4=encH l[j] at h2
  have h3:((inner.drop (j*4)).take 4)[i]? =(encH l[j])[i]? :=by rw[h2]
  rw[List.getElem?_take_of_lt hi,List.getElem?_drop,List.getElem?_eq_getElem (l:=encH l[j]) (by rw[enc_len];exact hi)] at h3
  change cur.toList.take (l.length*4)=inner at ht
  rw[← ht,List.getElem?_take_of_lt (by omega),Array.getElem?_toList] at h3
  exact h3
theorem row_holds {w:World} {base:Nat} {ok:Nat→Prop} {g cap:Nat} {l:List Hi} (h:RowH w base ok (.slice (some ⟨g,0,none⟩) l.length cap) l):HoldsK encH 4 w g 0 l.toArray:=by
 obtain⟨cur,hh,_,_,_,_,hc⟩:=row_cells h
 intro j hj
 have hj':j < l.length*4:=by simpa using hj
 refine⟨?_,by simp [World.frozen?,hh]⟩
 have h1:=hc (j / 4) (by omega) (j % 4) (by omega)
 have h2:=flat_get l (j / 4) (j % 4) (by omega) (by omega)
 rw[show j / 4*4+j % 4=j by omega] at h1 h2
 simp only[World.cell?,hh,Nat.zero_add]
 simp only[Option.isSome_none,Bool.false_eq_true,if_false]
 rw[h1,h2]
 rfl
theorem row_sorted {w:World} {base:Nat} {ok:Nat→Prop} {g cap:Nat} {l:List Hi} (h:RowH w base ok (.slice (some ⟨g,0,none⟩) l.length cap) l) (d:List Hi) (hl:d.length=l.length) (n:Nat) (os:Array Obj):
  RowH (sortWorldK encH 4 w g 0 n d.toArray os) base ok (.slice (some ⟨g,0,none⟩) l.length cap) d∧w.grownBy (sortWorldK encH 4 w g 0 n d.toArray os) (some g):=by
 obtain⟨cur,hh,hb,hn,hm,hs,hc⟩:=row_cells h
 have hok:=h.1
 have hg:g < w.heap.size:=(Array.getElem?_eq_some_iff.1 hh).1
 have hfs:(flatK encH 4 d.toArray).size=d.length*4:=by simp
 have hheap:(sortWorldK encH 4 w g 0 n d.toArray os).heap[g]? =some (.cells (putCells id 0 (flatK encH 4 d.toArray) cur) 45 (0,0)):=by
  unfold sortWorldK putRowK
  rw[heap_grow_old _ _ (by simpa using hg)]
  simp [putRow,mapBlock,Sort.ahead,Array.getElem?_modify,hh,onCells]
 have hput:∀j,j < d.length*4→(putCells id 0 (flatK encH 4 d.toArray) cur)[j]? =some ((flatK encH 4 d.toArray)[j]!):=by
  intro j hj
  have hj2:j < (flatK encH 4 d.toArray).size:=by omega
  have hj3:j < cur.size:=by rw[hs];omega
  simp only[putCells]
  rw[Array.getElem?_mapIdx,Array.getElem?_eq_getElem hj3,Option.map_some,if_pos (by omega)]
  rfl
 constructor
 ·refine⟨hok,(putCells id 0 (flatK encH 4 d.toArray) cur).toList.take (d.length*4),⟨?_,.inr ⟨g,cap,_,by rw[hl],hb,hheap,by omega,hm,?_,rfl⟩⟩,?_,?_⟩
  ·have e2:(putCells id 0 (flatK encH 4 d.toArray) cur).toList.length=cap*4:=by simp [putCells,hs]
   rw[List.length_take,e2]
   show _=d.length*4
   omega
  ·show(putCells id 0 (flatK encH 4 d.toArray) cur).size=cap*4
   simp [putCells,hs]
  ·have e2:(putCells id 0 (flatK encH 4 d.toArray) cur).toList.length=cap*4:=by simp [putCells,hs]
   rw[List.length_take,e2]
   show _=d.length*4
   omega
  ·intro j p hj
   obtain⟨hj1,rfl⟩:=List.getElem?_eq_some_iff.1 hj
   have e:(((putCells id 0 (flatK encH 4 d.toArray) cur).toList.take (d.length*4)).drop (j*4)).take 4=encH d[j]:=by
    apply List.ext_getElem?
    intro i
    by_cases hi:i < 4
    ·rw[List.getElem?_take_of_lt hi,List.getElem?_drop,List.getElem?_take_of_lt (by omega),Array.getElem?_toList,hput _ (by omega),flat_get d j i hj1 hi,List.getElem?_eq_getElem (l:=encH d[j]) (by rw[enc_len];exact hi)]
    ·rw[List.getElem?_take_eq_none (by omega),List.getElem?_eq_none (by rw[enc_len];omega)]
   show k45.M _ _ _ d[j] ((((putCells id 0 (flatK encH 4 d.toArray) cur).toList.take (d.length*4)).drop (j*4)).take 4)
   rw[e]
   exact k45_mkM _ _ _ _
 ·refine⟨rfl,rfl,rfl,by simp [sortWorldK,putRowK,putRow,mapBlock,Sort.ahead],fun k hk hne=>?_⟩
  unfold sortWorldK putRowK
  rw[heap_grow_old _ _ (by simpa using hk)]
  have:g≠k:=fun e=>hne (by rw[e])
  simp [putRow,mapBlock,Sort.ahead,Array.getElem?_modify,this]
end Hn
end

section
namespace Hn
open Go.Maps Go.Shelf Go.Lib Go.Sort Go.Proofs.YtcieieacfoaklaaGreat.Pure Pt Fr Ext
attribute [local go_sem] Oper.semAt_some

abbrev valH (x:Hi):Value:=.agg #[.int .i64 x.f0,.string x.f1,.int .i64 x.f2,.int .i64 x.f3]
theorem valH_inj {x y:Hi} (h:valH x=valH y):x=y:=by
 cases x;cases y
 simpa [valH] using h
open Classical in
noncomputable def RH (v:Value):Option (DataW Hi×List MemPlace):=if h:∃x,v=valH x then some (.held h.choose,[]) else none
theorem RH_enc (x:Hi):RH (valH x)=some (.held x,[]):=by
 have h:∃y,valH x=valH y:=⟨x,rfl⟩
 unfold RH
 rw[dif_pos h,valH_inj h.choose_spec.symm]
theorem RH_inv {v:Value} {y:DataW Hi×List MemPlace} (h:RH v=some y):∃x:Hi,v=valH x∧y=(.held x,[]):=by
 unfold RH at h
 split at h
 ·rename_i hx
  exact⟨hx.choose,hx.choose_spec,(Option.some.inj h).symm⟩
 ·cases h
def ValAt (D0:DataW Hi) (p:List UInt8×Hi):Prop:=∀zd,D0.atKey (.string p.1) zd=.held p.2
def AllOf (D0:DataW Hi) (ps:List (List UInt8×Hi)):Prop:=(ps.map (·.1)).Nodup∧(∀x,x∈ps.map (·.1)↔has D0 (.string x)=true)∧∀p∈ps,ValAt D0 p

theorem values1_in (F:Fence) (n:Nat) (h8:F.fn 171) (hro:F.round=none) (hn:1≤n) (l Bm b nn:Nat) (D0:DataW Hi) (J:List Hi→World→Prop)
  (hY:∀pre x W,J pre W→pre.length < Maps.size D0→YieldAt F (n - 1) Tryz.prog l #[valH x] W fun e W'=>e=.returned (.bool true)∧J (pre++[x]) W'∧KeepsWalks W W')
  (W:World) (hJ:AbidesFrom W.heap.size J) (hm:W.cell? ⟨Bm,0,none⟩=some (.map (some b))) (hown:W.ownsMap Tryz.prog 9 RH b nn D0) (h0:J [] W):
  CallsIn F n Tryz.prog 171 #[.func (.yield l) #[] #[],.pointer (some ⟨Bm,0,none⟩)] W fun e W'=>(∃v,e=.returned v)∧
   (∃ps,AllOf D0 ps∧J (ps.map (·.2)) W'):=by
 refine callsIn_of_wp Tryz.func171 rfl h8 ?_ hro
 simp only[Tryz.ntmps171,List.size_toArray,List.length_cons,List.length_nil,Nat.reduceAdd,Nat.reduceSub,Array.replicate_succ,Array.replicate_zero,List.push_toArray,List.append_toArray,List.nil_append,List.cons_append]
 gi_wp2_with (first
  | (gi_at_range;refine wpListIn_range_own _ rfl _ 210 rfl 9 45 (string_keyed Tryz.underlying9) Tryz.underlying210 _ b nn _ rfl hown ?_;intro w0 hrg0 hg0 hs0)
  | gi_in)
 go_frame
 gi_loopw [4] (fun _ wr=>∃(left:Lit→Bool) (cnt:Nat) (ps:List (List UInt8×Hi)),wr.ranges Tryz.prog 9 RH b W.heap.size nn D0 left cnt∧ps.length+cnt≤Maps.size D0∧Collected D0 left (ps.map (·.1))∧(∀p∈ps,ValAt D0 p)∧J (ps.map (·.2)) wr)
  (fun _ wr=>wr.rangeLeft b W.heap.size)
 case atStart=>
  exact⟨_,_,[],hrg0,by simp,Collected.start D0,by simp,hJ [] W w0 none h0 hg0 (fun r e=>by cases e)⟩
 case round=>
  obtain⟨left,cnt,ps,hrg,hcs,hC,hV,hJs⟩:=hrel
  gi_wp2_with (first
   | (gi_at_next;refine wpListIn_next_ranges _ rfl _ rfl 9 (string_keyed Tryz.underlying9) RH encStr valH (fun key kl hk=>by obtain⟨x,hx,_⟩:=Maps.keyOf_str Tryz.underlying9 hk;exact⟨x,hx⟩) (fun v y hv=>by obtain⟨c,rfl,_⟩:=RH_inv hv;exact⟨c,rfl⟩) b W.heap.size nn _ _ _ rfl hrg ?_ ?_)
   | gi_in)
  ·intro hc0 hl0
   gi_wp2
   go_end0
   exact⟨⟨_,rfl⟩,ps,⟨hC.1,fun x=>by rw[hC.2 x,hl0];simp,hV⟩,hJs⟩
  ·intro x c kl yd yp w2 cnt2 hkey hlk hv hat hrg2 hlt hg2 hs2 hen
   obtain⟨x',ex,rfl,_⟩:=Maps.keyOf_str Tryz.underlying9 hkey
   obtain rfl:x=x':=encStr_inj ex
   obtain⟨c',ec,ez⟩:=RH_inv hv
   obtain rfl:c=c':=valH_inj ec
   obtain rfl:yd=.held c:=(Prod.mk.inj ez).1
   have hJ2:J (ps.map (·.2)) w2:=hJ _ wr w2 (some W.heap.size) hJs hg2 (fun r e=>by cases e;exact⟨Nat.le_refl _,hrg.iter_walk⟩)
   have hJ3:J (ps.map (·.2)) (w2.alloc (.cells #[.int .i64 c.f0,.string c.f1,.int .i64 c.f2,.int .i64 c.f3] 45)):=hJ _ w2 _ none hJ2 (World.grownBy_alloc w2 _ _) (fun r e=>by cases e)
   obtain⟨fn,tmps,assign,body,hy,hR⟩:=hY (ps.map (·.2)) c _ hJ3 (by simp;omega)
   clear hs2
   gi_wp2
   refine hR.mono ?_
   have hC2:Collected D0 (fun z=>left z && !z.sameKey (.string x)) ((ps++[(x,c)]).map (·.1)):=by simpa using hC.step hlk hat
   have hV2:∀p∈ps++[(x,c)],ValAt D0 p:=fun p hp=>(List.mem_append.1 hp).elim (hV p) (fun e=>by simp at e;subst e;exact hat)
   rintro e W3 ⟨rfl,hJ4,hk3⟩
   gi_wp2
   have hrg3:=(hrg2.alloc (.cells #[.int .i64 c.f0,.string c.f1,.int .i64 c.f2,.int .i64 c.f3] 45)).of_walks hk3
   go_roundw
   case rel=>exact⟨_,cnt2,ps++[(x,c)],hrg3,by simp;omega,hC2,hV2,by simpa using hJ4⟩
   case measure=>rw[hrg3.left_eq,hrg.left_eq];exact hlt
end Hn
end
end
section
section
namespace Hn
open Go.Shelf Go.Proofs.YtcieieacfoaklaaGreat.Pure Pt Fr Ext Lw Sc
attribute [local go_sem] Oper.semAt_some

theorem append_inR {F:Fence} {n:Nat} {P:Program} {α:Type} {ops:Array Oper} {rest:List Oper} {o:Oper} {a:Act} {Q:Exit→Act→World→Prop} (d:Kd α) {w0 W:World} (base:Nat) (hgd:o.guard=none) (s x:Operand) (t e:TypeId) (z:Value) (bytes:Nat)
  (ho:o.op=.call {callee:=.builtin .append,args:=#[s,x],argTypes:=#[t,t]})
  (ht:P.underlying t=some (.slice e)) (hinfo:(P.info? e).map (fun i=>(i.zero,i.size,i.bytes))=some (some z,d.sz,bytes)) (hz:z.cells.size=d.sz) (hs0:0 < d.sz) (hb0:0 < bytes)
  (v:Value) (xs:List α) (p:α) (cs:List Value) (ok:Nat→Prop) (hs:a.eval s=v) (hx:a.eval x=.slice (some ⟨W.heap.size,0,none⟩) 1 1) (hp:d.M W base (fun _=>False) p cs) (hfresh:∀k,W.heap.size≤k→ok k)
  (HO:d.R e W base ok v xs) (HB:Below base w0 W) (hbase:base≤W.heap.size) (hl:(xs.length+1)*bytes≤140737488355328)
  (h:∀v1 w1,d.R e w1 base ok v1 (xs++[p])→Below base w0 w1→W.grownBy w1 v.ownBlock→wpListIn F n P ops Q rest (a.put o.dst v1) w1):
  wpListIn F n P ops Q (o::rest) a (W.alloc (.cells cs.toArray e)):=by
 obtain⟨h0,inner,hown,hr⟩:=HO
 obtain⟨i0,hi,hzz⟩:=Option.map_eq_some_iff.1 hinfo
 simp only[Prod.mk.injEq] at hzz
 obtain⟨hz0,hz1,hz2⟩:=hzz
 have hlen:xs.length+1≤140737488355328:=Nat.le_trans (Nat.le_mul_of_pos_right _ hb0) hl
 have hys:cs.length=d.sz:=d.K_len (d.K_of_M hp)
 obtain⟨v',w',hrun,r1,r2,_,r4⟩:=run_append_own_at (P:=P) (w:=W.alloc (.cells cs.toArray e)) base t o.type e i0 z d.sz bytes ht hi hz0 hz1 hz2 hz hs0 v xs.length inner (hown.alloc _) ⟨W.heap.size,0,none⟩ 1 1 cs (by rw[hys];simp)
  (by simpa using World.news_of_block (cs:=cs.toArray) (t:=e) (fr:=(0,0)) (heap_alloc_new W (.cells cs.toArray e))) (d.K_one (d.K_of_M hp)) (by simp only[maxLen];omega) hl (by simp;omega)
 have hg1:W.grownBy w' v.ownBlock:=World.grownBy.trans (World.grownBy_alloc W _ _) r2
 have hat:v'.ownBlock=v.ownBlock∨∃b,v'.ownBlock=some b∧W.heap.size≤b:=by
  rcases r4 with r4 | r4
  ·exact .inl r4
  ·exact .inr ⟨_,r4,by simp⟩
 have hB1:Below base w0 w':=(HB.alloc hbase _).grown r2 (by simp;omega) (own_base hown)
 have hR:d.R e w' base ok v' (xs++[p]):=Kd.R_appended h0 hr hp (fun _ hk=>hk.elim) hfresh r1 hg1 hat
 refine wpListIn_plain hgd fun K hK'=>?_
 unfold Oper.wpIn
 refine⟨?_,?_⟩
 ·simp [Oper.about,ho,resolve,Target.leads,Sem.run_pure]
 ·rw[Oper.semAt_plain F _ _ (by rw[ho];intro c hc';cases hc')]
  simp [execOp,ho,resolve,invoke,builtin,hs,hx,hrun,Result.andThen]
  exact hK' _ _ (h v' w' hR hB1 hg1)

structure JH (w:World) (ob D L:Nat) (rec:LoopState→Option Code→Loop) (pre:List Hi) (W:World):Prop where
 dd:W.heap[D]? =some (.deferred (some []))
 ll:W.heap[L]? =some (.loop (rec .ready none))
 oo:∃v,W.heap[ob]? =some (.cells #[v] 176 (0,0))∧RowH W w.heap.size (fun k=>L < k) v pre
 bb:Below w.heap.size w W
theorem JH.abides {w:World} {ob D L B:Nat} {rec:LoopState→Option Code→Loop} (hB:w.heap.size≤B):AbidesFrom B (JH w ob D L rec):=by
 rintro pre W W' row ⟨h1,h2,⟨v,h3,h4⟩,h5⟩ hg hr
 have key:∀(k:Nat) (o:Obj),W.heap[k]? =some o→o.isWalk=false→W'.heap[k]? =some o:=by
  intro k o hk ho
  refine(hg.block k (blk_lt' hk) (fun e=>?_)).trans hk
  obtain⟨_,o',ho',hw⟩:=hr k e.symm
  rw[hk] at ho'
  cases ho'
  rw[ho] at hw
  cases hw
 refine⟨key _ _ h1 rfl,key _ _ h2 rfl,⟨v,key _ _ h3 rfl,?_⟩,h5.grown hg h5.size (fun k e=>Nat.le_trans hB (hr k e).1)⟩
 refine Kd.R_mono (Kd.R_move (Kd.R_tight2 rfl h4) (fun k hk=>?_)) (fun k hk=>hk.2)
 obtain⟨inner,ho⟩:=Kd.R_own h4
 obtain⟨cells,hc⟩:=own_typed ho k hk.1.symm
 rw[hc]
 exact key _ _ hc rfl

theorem appendSeq_calls (Bm b nn:Nat) (D0:DataW Hi) (w:World) (hm:w.cell? ⟨Bm,0,none⟩=some (.map (some b))) (hown:w.ownsMap Tryz.prog 9 RH b nn D0) (hN:Maps.size D0≤1000000000):
  Calls Tryz.prog 189 #[.slice none 0 0,.func (.func 171) #[] #[.pointer (some ⟨Bm,0,none⟩)]] w fun e w'=>∃v ps,e=.returned v∧AllOf D0 ps∧RowH w' w.heap.size (fun _=>True) v (ps.map (·.2))∧Below w.heap.size w w':=by
 have hBm:Bm < w.heap.size:=World.block_lt_of_cell? w _ hm
 refine callsIn_wide.1 (callsIn_of_wp_marks (n:=3) Tryz.func189 rfl trivial ?_)
 refine wpIn_wide.2 ?_
 simp only[Tryz.ntmps189,List.size_toArray,List.length_cons,List.length_nil,Nat.reduceAdd,Nat.reduceSub,Array.replicate_succ,Array.replicate_zero,List.push_toArray,List.append_toArray,List.nil_append,List.cons_append]
 go_wp2
 have q0:=World.alloc_heap_new w (.cells #[.slice none 0 0] 176)
 have q4:(w.alloc (.cells #[.slice none 0 0] 176)).heap.size=w.heap.size+1:=by simp
 have q5:=below_alloc (Below.refl w.heap.size w) (.cells #[.slice none 0 0] 176)
 generalize w.alloc (.cells #[.slice none 0 0] 176)=W0 at q0 q4 q5 ⊢
 refine range_wide rfl (enters_of Tryz.func171 (by kernel_rfl) rfl) ?_
 intro fn rec hrec
 rw[q4]
 have HB1:Below w.heap.size w ((W0.alloc (.deferred (some []))).alloc (.loop (rec .ready none))):=below_alloc (below_alloc q5 _) _
 have HJ1:JH w w.heap.size (w.heap.size+1) (w.heap.size+2) rec [] ((W0.alloc (.deferred (some []))).alloc (.loop (rec .ready none))):=by
  have d1:=World.alloc_heap_new W0 (.deferred (some []))
  have d2:=World.alloc_heap_new (W0.alloc (.deferred (some []))) (.loop (rec .ready none))
  rw[World.size_alloc] at d2
  rw[q4] at d1 d2
  exact⟨(Below.heap_alloc _ _ _ (by simp <;> omega)).trans d1,d2,⟨_,(Below.heap_alloc _ _ _ (by simp <;> omega)).trans ((Below.heap_alloc _ _ _ (by omega)).trans q0),Kd.R_nil _ _ _ _ _⟩,HB1⟩
 have hsz1:((W0.alloc (.deferred (some []))).alloc (.loop (rec .ready none))).heap.size=w.heap.size+3:=by simp;omega
 generalize (W0.alloc (.deferred (some []))).alloc (.loop (rec .ready none))=W1 at HB1 HJ1 hsz1 ⊢
 clear q0 q4 q5
 have hown1:W1.ownsMap Tryz.prog 9 RH b nn D0:=by
  have hbl:=hown.lt
  obtain⟨es,clock,hb,Ft,hs,hD⟩:=hown
  exact⟨es,clock,(HB1.block b hbl).trans hb,Ft,hs,hD⟩
 refine(callsIn_wide.1 (values1_in Fence.wide 1 trivial rfl (Nat.le_refl 1) (w.heap.size+2) Bm b nn D0 (JH w w.heap.size (w.heap.size+1) (w.heap.size+2) rec) ?yy W1 (JH.abides (by omega)) ((HB1.cell (p:=⟨Bm,0,none⟩) hBm).trans hm) hown1 HJ1)).mono ?fin
 case yy=>
  rintro pre x W2 ⟨hd,hl,⟨v1,hv1,hS⟩,hbb⟩ hpre
  have hl':=hl
  rw[hrec] at hl
  refine yield_wide hl rfl ?_
  gi_wp2
  have hg3:=World.alloc_heap_new W2 (.cells #[.int .i64 x.f0,.string x.f1,.int .i64 x.f2,.int .i64 x.f3] 45)
  have hB3:=below_alloc (Below.refl W2.heap.size W2) (.cells #[.int .i64 x.f0,.string x.f1,.int .i64 x.f2,.int .i64 x.f3] 45)
  have hK3:=KeepsWalks.alloc W2 (.cells #[.int .i64 x.f0,.string x.f1,.int .i64 x.f2,.int .i64 x.f3] 45)
  have hsz:w.heap.size+2 < W2.heap.size:=blk_lt' hl'
  generalize hg0:W2.heap.size=g at hg3 hsz hB3 ⊢
  have hs3:(W2.alloc (.cells #[.int .i64 x.f0,.string x.f1,.int .i64 x.f2,.int .i64 x.f3] 45)).heap.size=g+1:=by simp [hg0]
  generalize W2.alloc (.cells #[.int .i64 x.f0,.string x.f1,.int .i64 x.f2,.int .i64 x.f3] 45)=W3 at hg3 hB3 hs3 hK3 ⊢
  rw[← hg0] at hB3
  have hl3:W3.heap[w.heap.size+2]? =some (.loop (rec .ready none)):=(hB3.block _ (blk_lt' hl')).trans hl'
  have hbr:(Instr.beginRound (w.heap.size+2)).run Tryz.prog W3=.ok () (W3.putObj (w.heap.size+2) (.loop (rec .busy none))):=by
   rw[hrec] at hl3
   rw[hrec]
   exact run_beginRound hl3 rfl
  refine⟨_,hbr,?_⟩
  have e0:∀i,i≠w.heap.size+2→(W3.putObj (w.heap.size+2) (.loop (rec .busy none))).heap[i]? =W3.heap[i]? :=fun i hi=>World.putObj_heap_other hi
  have e1:∀i,i < W2.heap.size→i≠w.heap.size+2→(W3.putObj (w.heap.size+2) (.loop (rec .busy none))).heap[i]? =W2.heap[i]? :=fun i hi hne=>(e0 i hne).trans (hB3.block i hi)
  have HL:=ak (show(W3.putObj (w.heap.size+2) (.loop (rec .busy none))).heap[w.heap.size+2]? =some (.loop (rec .busy none)) from World.putObj_heap_same (blk_lt' hl3))
  have HD:=ak ((e1 (w.heap.size+1) (by omega) (by omega)).trans hd)
  have HO:=ak ((e1 w.heap.size (by omega) (by omega)).trans hv1)
  have HX:=ak ((e0 g (by omega)).trans hg3)
  have HS:=ak (show RowH (W3.putObj (w.heap.size+2) (.loop (rec .busy none))) w.heap.size (fun k=>w.heap.size+2 < k) v1 pre from Kd.R_step hS (fun k hk hlt=>e1 k hlt (by omega)))
  have HSZ:=ak (show(W3.putObj (w.heap.size+2) (.loop (rec .busy none))).heap.size=g+1 by simp [hs3])
  have HBB:=ak ((below_then hbb hbb.size hB3).grown (grownBy_putObj' W3 (w.heap.size+2) (.loop (rec .busy none))) (by omega) (fun k e=>by cases e;omega))
  have HKK:=ak (hK3.trans (KeepsWalks.putObj (.loop (rec .busy none)) hl3 rfl))
  clear hl hd hv1 hS hbb hg3 hB3 hK3 hl3 hbr e0 e1 hs3 hl' hg0
  generalize W3.putObj (w.heap.size+2) (.loop (rec .busy none))=W4 at HL HD HO HX HS HSZ HBB HKK ⊢
  have o0:=(blk_cell HO.out 0).trans rfl
  have z0:=blk_frozen HO.out 0
  have x0:=(blk_cell HX.out 0).trans rfl
  have x1:=(blk_cell HX.out 1).trans rfl
  have x2:=(blk_cell HX.out 2).trans rfl
  have x3:=(blk_cell HX.out 3).trans rfl
  have hbyte:(pre.length+1)*40≤140737488355328:=by omega
  gi_wp2_with (gi_at_builtin;refine append_inR k45 (w0:=w) w.heap.size rfl (.tmp 8) (.tmp 10) 176 45 (.agg #[.int .i64 0,.string ⟨#[]⟩,.int .i64 0,.int .i64 0]) 40 rfl Tryz.underlying176 info45 rfl (by decide) (by omega) v1 pre x [.int .i64 x.f0,.string x.f1,.int .i64 x.f2,.int .i64 x.f3] (fun k=>w.heap.size+2 < k) rfl rfl ?aP ?aF ?aO ?aB ?aS ?aL ?_;(case aP=>exact k45_mkM _ _ _ x);(case aF=>exact(fun k hk=>by have:=HSZ.out;omega));(case aO=>exact HS.out);(case aB=>exact HBB.out);(case aS=>exact HBB.out.size);(case aL=>exact hbyte);intro v5 w5 hS5 hB5 hg5;obtain⟨A5,c5,rfl⟩:=Kd.R_slice hS5;have HS5:=ak hS5;have HB5:=ak hB5;have HG5:=ak hg5;clear hS5 hB5 hg5;have HO5:=ak (blk_grown HO.out HG5.out (fun e=>by have:=HS.out.1 _ e.symm;omega));have o5:=(blk_cell HO5.out 0).trans rfl;have z5:=blk_frozen HO5.out 0)
  have hS5:=HS5.out
  have hlen5:(pre++[x]).length=pre.length+1:=by simp
  rw[hlen5] at hS5
  have hw4:=HSZ.out
  have hv5:=HS.out.1
  have f5:∀i,i≤w.heap.size+2→w5.heap[i]? =W4.heap[i]? :=fun i hi=>HG5.out.block i (by omega) (fun e=>by have:=hv5 i e.symm;omega)
  have f6:∀i,i≤w.heap.size+2→i≠w.heap.size→(w5.setCell ⟨w.heap.size,0,none⟩ (.slice A5 (pre.length+1) c5)).heap[i]? =W4.heap[i]? :=fun i hi hne=>(Below.heap_setCell w5 _ _ i hne).trans (f5 i hi)
  have hO6:=blk_put (cs:=#[v1]) HO5.out 0 (.slice A5 (pre.length+1) c5) rfl
  have hS6:=Kd.R_far (p:=⟨w.heap.size,0,none⟩) (Kd.R_bound hS5) (fun k hk=>by have:=hk.1;simp only;omega) (.slice A5 (pre.length+1) c5)
  have hB6:=HB5.out.setCell (p:=⟨w.heap.size,0,none⟩) (Nat.le_refl _) (.slice A5 (pre.length+1) c5)
  have hK5:KeepsWalks W4 w5:=KeepsWalks.of_grownBy HG5.out (fun j o hj ho=>by
   obtain⟨inner,hown'⟩:=Kd.R_own HS.out
   obtain⟨cells,hc⟩:=own_typed hown' j hj
   rw[hc] at ho
   cases ho
   rfl)
  have hK6:=(HKK.out.trans hK5).trans (KeepsWalks.setCell w5 ⟨w.heap.size,0,none⟩ (.slice A5 (pre.length+1) c5))
  generalize w5.setCell ⟨w.heap.size,0,none⟩ (.slice A5 (pre.length+1) c5)=w6 at f6 hO6 hS6 hB6 hK6 ⊢
  have hl6:w6.heap[w.heap.size+2]? =some (.loop (rec .busy none)):=(f6 _ (by omega) (by omega)).trans HL.out
  have hend:(Instr.endRound (w.heap.size+2) none).run Tryz.prog w6=.ok (.bool true) (w6.putObj (w.heap.size+2) (.loop (rec .ready none))):=by
   rw[hrec] at hl6
   rw[hrec]
   exact run_endRound none hl6
  have e7:∀i,i≠w.heap.size+2→(w6.putObj (w.heap.size+2) (.loop (rec .ready none))).heap[i]? =w6.heap[i]? :=fun i hi=>World.putObj_heap_other hi
  refine⟨_,_,hend,rfl,⟨?_,?_,⟨_,(e7 _ (by omega)).trans hO6,?_⟩,?_⟩,?_⟩
  ·exact(e7 _ (by omega)).trans ((f6 _ (by omega) (by omega)).trans HD.out)
  ·exact World.putObj_heap_same (blk_lt' hl6)
  ·exact Kd.R_mono (Kd.R_step hS6 (fun k hk _=>e7 k (by have:=hk.1;omega))) (fun k hk=>hk.1)
  ·exact hB6.grown (grownBy_putObj' w6 (w.heap.size+2) (.loop (rec .ready none))) hB6.size (fun k e=>by cases e;omega)
  ·exact hK6.trans (KeepsWalks.putObj (.loop (rec .ready none)) hl6 rfl)
 case fin=>
  rintro e W' ⟨⟨v,rfl⟩,ps,hall,hJ⟩
  refine⟨⟨v,rfl⟩,.ready,none,by simp,hJ.ll,?_⟩
  obtain⟨hd,hl,⟨v1,hv1,hS⟩,hbb⟩:=hJ
  have e0:∀i,i≠w.heap.size+2→(W'.putObj (w.heap.size+2) (.loop (rec .exhausted none))).heap[i]? =W'.heap[i]? :=fun i hi=>World.putObj_heap_other hi
  have HS:=ak (show RowH (W'.putObj (w.heap.size+2) (.loop (rec .exhausted none))) w.heap.size (fun k=>w.heap.size+2 < k) v1 (ps.map (·.2)) from Kd.R_step hS (fun k hk _=>e0 k (by omega)))
  have HD:=ak ((e0 (w.heap.size+1) (by omega)).trans hd)
  have HO:=ak ((e0 w.heap.size (by omega)).trans hv1)
  have HB:=ak (hbb.grown (grownBy_putObj' W' (w.heap.size+2) (.loop (rec .exhausted none))) hbb.size (fun k e=>by cases e;omega))
  clear hd hl hv1 hS hbb e0
  generalize W'.putObj (w.heap.size+2) (.loop (rec .exhausted none))=W3 at HS HD HO HB ⊢
  have o0:=(blk_cell HO.out 0).trans rfl
  go_wp2
  refine⟨by simp,.inl ⟨_,_,rfl,run_takeDeferred HD.out,?_⟩⟩
  refine⟨_,results_single rfl (.tmp .nil),?_⟩
  refine⟨v1,ps,rfl,hall,?_,?_⟩
  ·exact Kd.R_mono (Kd.R_step HS.out (fun k hk _=>World.putObj_heap_other (by omega))) (fun _ _=>trivial)
  ·exact HB.out.grown (grownBy_putObj' W3 (w.heap.size+1) (.deferred none)) HB.out.size (fun k e=>by cases e;omega)

theorem collect_calls (Bm b nn:Nat) (D0:DataW Hi) (w:World) (hm:w.cell? ⟨Bm,0,none⟩=some (.map (some b))) (hown:w.ownsMap Tryz.prog 9 RH b nn D0) (hN:Maps.size D0≤1000000000):
  Calls Tryz.prog 169 #[.func (.func 171) #[] #[.pointer (some ⟨Bm,0,none⟩)]] w fun e w'=>∃v ps,e=.returned v∧AllOf D0 ps∧RowH w' w.heap.size (fun _=>True) v (ps.map (·.2))∧Below w.heap.size w w':=by
 go_enter Tryz.func169,Tryz.ntmps169
 go_wp2_with (go_at_call 189;refine(appendSeq_calls Bm b nn D0 _ hm hown hN).mono ?_;rintro e w' ⟨v,ps,rfl,ha,hR,hB⟩)
 go_ret
 exact⟨v,ps,rfl,ha,hR,hB⟩
end Hn
end

section
namespace Hn
open Go.Shelf Go.Lib Go.Sort Go.Proofs.YtcieieacfoaklaaGreat.Pure Pt Fr Ext Lw Sc

theorem sort_none (w:World):
  Calls Tryz.prog 170 #[.slice none 0 0,.func (.func 152) #[] #[]] w fun e w'=>e=.returned (.tuple #[])∧w'=w:=by
 have hcon:=AnyF.slices_SortFunc_none sortH none 0 (.func (.func 152) #[] #[]) w
 exact hcon
theorem sortRow_calls (base:Nat) (v:Value) (l:List Hi) (w:World) (h:RowH w base (fun _=>True) v l) (hl:l.length≤1000000000):
  Calls Tryz.prog 170 #[v,.func (.func 152) #[] #[]] w fun e w'=>e=.returned (.tuple #[])∧∃d:List Hi,d.Perm l∧d.Pairwise (fun x y=>¬keyL y.f1 < keyL x.f1)∧RowH w' base (fun _=>True) v d∧w.grownBy w' v.ownBlock:=by
 obtain⟨inner,hlen,hown⟩:=Kd.R_own h
 rcases hown with⟨rfl,h0⟩ | ⟨g,cap,cur,rfl,hb,hh,hn,hm,hs,ht⟩
 ·obtain rfl:l=[]:=List.length_eq_zero_iff.1 h0
  refine(sort_none w).mono ?_
  rintro e w' ⟨rfl,rfl⟩
  exact⟨rfl,[],List.Perm.refl _,List.Pairwise.nil,h,⟨rfl,rfl,rfl,Nat.le_refl _,fun _ _ _=>rfl⟩⟩
 ·have hg:g < w.heap.size:=(Array.getElem?_eq_some_iff.1 hh).1
  have hcon:=sort_calls g 0 cap l.toArray w (row_holds h) hg (by simp;omega)
  rw[List.size_toArray] at hcon
  refine hcon.mono ?_
  rintro e w' ⟨rfl,d',n,os,⟨hps,_,hpp⟩,hsort,rfl⟩
  have hsz:d'.size=l.length:=by simpa using hps
  have hex:d'.extract 0 l.length=d':=by rw[← hsz];exact Array.extract_size
  have hex2:l.toArray.extract 0 l.length=l.toArray:=by simp
  rw[hex,hex2] at hpp
  obtain⟨h1,h2⟩:=row_sorted h d'.toList (by simpa using hsz) n os
  have e1:d'.toList.toArray=d':=by simp
  rw[e1] at h1 h2
  refine⟨rfl,d'.toList,by simpa using hpp,?_,h1,h2⟩
  rw[List.pairwise_iff_getElem]
  intro i j hi hj hij
  have hi':i < d'.size:=by simpa using hi
  have hj':j < d'.size:=by simpa using hj
  have h3:=hsort i j (Nat.zero_le _) hij (by omega)
  rw[ltH,getElem!_pos d' i hi',getElem!_pos d' j hj'] at h3
  simpa using of_decide_eq_false h3

theorem sorted_calls (Bm b nn:Nat) (D0:DataW Hi) (w:World) (hm:w.cell? ⟨Bm,0,none⟩=some (.map (some b))) (hown:w.ownsMap Tryz.prog 9 RH b nn D0) (hN:Maps.size D0≤1000000000) (hP:∀ps,AllOf D0 ps→ps.length≤1000000000):
  Calls Tryz.prog 150 #[.func (.func 171) #[] #[.pointer (some ⟨Bm,0,none⟩)],.func (.func 152) #[] #[]] w fun e w'=>∃v ps d,e=.returned v∧AllOf D0 ps∧d.Perm (ps.map (·.2))∧d.Pairwise (fun x y=>¬keyL y.f1 < keyL x.f1)∧RowH w' w.heap.size (fun _=>True) v d∧RowKit.Below w.heap.size w w':=by
 go_enter Tryz.func150,Tryz.ntmps150
 go_wp2_with (first
  | (go_at_call 169;refine(collect_calls Bm b nn D0 _ hm hown hN).mono ?_;rintro e w1 ⟨v,ps,rfl,ha,hR,hB⟩;have HA:=ak ha;have HR:=ak hR;have HB:=ak hB;clear ha hR hB)
  | (go_at_call 170;refine(sortRow_calls w.heap.size v (ps.map (·.2)) w1 HR.out (by rw[List.length_map];exact hP ps HA.out)).mono ?_;rintro e w2 ⟨rfl,d,hd,hs,hR2,hg⟩;have HD:=ak hd;have HS:=ak hs;have HR2:=ak hR2;have HG:=ak hg;clear hd hs hR2 hg))
 go_ret
 obtain⟨inner,ho⟩:=Kd.R_own HR.out
 exact⟨v,ps,d,rfl,HA.out,HD.out,HS.out,HR2.out,HB.out.grown HG.out HB.out.size (own_base ho)⟩
end Hn
end

section
namespace Hn
open Go.Maps Go.Shelf Go.Lib Go.Proofs.YtcieieacfoaklaaGreat.Pure Pt Fr Ext

def putF (D:DataW Hi) (x:Fo):DataW Hi:=if tellsF x then D.put (.string (keyL x.f2.f1)) (.held (hintF x)) else D
def mapGo:List Fo→DataW Hi→DataW Hi
 | [],D=>D
 | x::l,D=>mapGo l (putF D x)
abbrev Rises (l:List Hi):Prop:=l.Pairwise fun a b=>keyL a.f1 < keyL b.f1
theorem lt_tri (a b:List UInt8):a < b∨a=b∨b < a:=by
 by_cases h1:a < b
 ·exact .inl h1
 ·by_cases h2:b < a
  ·exact .inr (.inr h2)
  ·exact .inr (.inl (List.le_antisymm (List.not_lt.mp h2) (List.not_lt.mp h1)))
theorem ins_mem (h:Hi):∀l:List Hi,Rises l→∀x,x∈insH h l↔x=h∨(x∈l∧keyL x.f1≠keyL h.f1)
 | [],_,x=>by simp [insH]
 | a::l,hr,x=>by
  have hr':=(List.pairwise_cons.1 hr).2
  have ha:=(List.pairwise_cons.1 hr).1
  unfold insH
  by_cases h1:keyL h.f1 < keyL a.f1
  ·rw[if_pos h1]
   have hne:∀y∈a::l,keyL y.f1≠keyL h.f1:=by
    intro y hy e
    rcases List.mem_cons.1 hy with rfl | hy
    ·rw[e] at h1;exact List.lt_irrefl _ h1
    ·have:=List.lt_trans h1 (ha y hy)
     rw[e] at this;exact List.lt_irrefl _ this
   constructor
   ·intro hx
    rcases List.mem_cons.1 hx with rfl | hx
    ·exact .inl rfl
    ·exact .inr ⟨hx,hne x hx⟩
   ·rintro (rfl | ⟨hx,_⟩)
    ·exact List.mem_cons_self
    ·exact List.mem_cons_of_mem _ hx
  ·rw[if_neg h1]
   by_cases h2:keyL h.f1=keyL a.f1
   ·rw[if_pos h2]
    have hne:∀y∈l,keyL y.f1≠keyL h.f1:=by
     intro y hy e
     have:=ha y hy
     rw[e,h2] at this;exact List.lt_irrefl _ this
    constructor
    ·intro hx
     rcases List.mem_cons.1 hx with rfl | hx
     ·exact .inl rfl
     ·exact .inr ⟨List.mem_cons_of_mem _ hx,hne x hx⟩
    ·rintro (rfl | ⟨hx,hk⟩)
     ·exact List.mem_cons_self
     ·rcases List.mem_cons.1 hx with rfl | hx
      ·exact absurd h2.symm hk
      ·exact List.mem_cons_of_mem _ hx
   ·rw[if_neg h2]
    have ih:=ins_mem h l hr' x
    constructor
    ·intro hx
     rcases List.mem_cons.1 hx with rfl | hx
     ·exact .inr ⟨List.mem_cons_self,fun e=>h2 e.symm⟩
     ·rcases ih.1 hx with rfl | ⟨h3,h4⟩
      ·exact .inl rfl
      ·exact .inr ⟨List.mem_cons_of_mem _ h3,h4⟩
    ·rintro (rfl | ⟨hx,hk⟩)
     ·exact List.mem_cons_of_mem _ (ih.2 (.inl rfl))
     ·rcases List.mem_cons.1 hx with rfl | hx
      ·exact List.mem_cons_self
      ·exact List.mem_cons_of_mem _ (ih.2 (.inr ⟨hx,hk⟩))
theorem ins_rises (h:Hi):∀l:List Hi,Rises l→Rises (insH h l)
 | [],_=>by simp [insH,Rises]
 | a::l,hr=>by
  have hr':=(List.pairwise_cons.1 hr).2
  have ha:=(List.pairwise_cons.1 hr).1
  unfold insH
  by_cases h1:keyL h.f1 < keyL a.f1
  ·rw[if_pos h1]
   refine List.pairwise_cons.2 ⟨fun y hy=>?_,hr⟩
   rcases List.mem_cons.1 hy with rfl | hy
   ·exact h1
   ·exact List.lt_trans h1 (ha y hy)
  ·rw[if_neg h1]
   by_cases h2:keyL h.f1=keyL a.f1
   ·rw[if_pos h2]
    exact List.pairwise_cons.2 ⟨fun y hy=>by rw[h2];exact ha y hy,hr'⟩
   ·rw[if_neg h2]
    refine List.pairwise_cons.2 ⟨fun y hy=>?_,ins_rises h l hr'⟩
    rcases (ins_mem h l hr' y).1 hy with rfl | ⟨hy,_⟩
    ·rcases lt_tri (keyL y.f1) (keyL a.f1) with h3 | h3 | h3
     ·exact absurd h3 h1
     ·exact absurd h3 h2
     ·exact h3
    ·exact ha y hy
theorem ins_len (h:Hi):∀l:List Hi,(insH h l).length≤l.length+1
 | []=>Nat.le_refl _
 | a::l=>by
  have:=ins_len h l
  unfold insH
  split
  ·simp
  ·split
   ·simp
   ·simp only[List.length_cons];omega
structure Ties (D:DataW Hi) (acc:List Hi):Prop where
 isMap:IsMap D
 rises:Rises acc
 has_:∀kb,has D (.string kb)=true↔∃h∈acc,keyL h.f1=kb
 at_:∀h∈acc,∀zd,D.atKey (.string (keyL h.f1)) zd=.held h
theorem Ties.empty:Ties (.map []) []:=⟨isMap_empty,List.Pairwise.nil,fun kb=>by simp [Go.Maps.has],fun h hh=>by cases hh⟩
theorem put_isMap {D:DataW Hi} (h:IsMap D) (k:Lit) (d:DataW Hi):IsMap (D.put k d):=by
 obtain⟨es,rfl⟩:=h
 exact⟨_,DataW.put_eq es k d⟩
theorem Ties.put {D:DataW Hi} {acc:List Hi} (t:Ties D acc) (h:Hi):Ties (D.put (.string (keyL h.f1)) (.held h)) (insH h acc):=by
 have hm:=ins_mem h acc t.rises
 refine⟨put_isMap t.isMap _ _,ins_rises h acc t.rises,fun kb=>?_,fun x hx zd=>?_⟩
 ·by_cases e:kb=keyL h.f1
  ·subst e
   rw[has_put_same t.isMap (show WideAt.IsKeyLit (.string (keyL h.f1)) from trivial)]
   exact⟨fun _=>⟨h,(hm h).2 (.inl rfl),rfl⟩,fun _=>rfl⟩
  ·rw[has_put_other (by intro e2;injection e2 with e2;exact e e2),t.has_]
   constructor
   ·rintro ⟨x,hx,hk⟩
    exact⟨x,(hm x).2 (.inr ⟨hx,by rw[hk];exact e⟩),hk⟩
   ·rintro ⟨x,hx,hk⟩
    rcases (hm x).1 hx with rfl | ⟨hx,_⟩
    ·exact absurd hk.symm e
    ·exact⟨x,hx,hk⟩
 ·rcases (hm x).1 hx with rfl | ⟨hx,hk⟩
  ·exact atKey_put_same t.isMap (show WideAt.IsKeyLit (.string (keyL x.f1)) from trivial) _ _
  ·rw[atKey_put_other (by intro e2;injection e2 with e2;exact hk e2)]
   exact t.at_ x hx zd
theorem ties_go (l:List Fo):∀(D:DataW Hi) (acc:List Hi),Ties D acc→Ties (mapGo l D) (ofGo l acc):=by
 induction l with
 | nil=>intro D acc t;exact t
 | cons x l ih=>
  intro D acc t
  simp only[mapGo,ofGo,putF]
  by_cases h:tellsF x=true
  ·rw[if_pos h,if_pos h]
   exact ih _ _ (t.put (hintF x))
  ·rw[if_neg h,if_neg h]
   exact ih _ _ t
theorem of_len (l:List Fo):∀acc,(ofGo l acc).length≤acc.length+l.length:=by
 induction l with
 | nil=>intro acc;exact Nat.le_refl _
 | cons x l ih=>
  intro acc
  simp only[ofGo]
  split
  ·have:=ih (insH (hintF x) acc);have:=ins_len (hintF x) acc;simp only[List.length_cons];omega
  ·have:=ih acc;simp only[List.length_cons];omega
theorem rises_inj {l:List Hi} (h:Rises l) {a b:Hi} (ha:a∈l) (hb:b∈l) (e:keyL a.f1=keyL b.f1):a=b:=by
 induction l with
 | nil=>cases ha
 | cons x l ih=>
  have h1:=(List.pairwise_cons.1 h).1
  have h2:=(List.pairwise_cons.1 h).2
  rcases List.mem_cons.1 ha with ea | ha'
  ·rcases List.mem_cons.1 hb with eb | hb'
   ·rw[ea,eb]
   ·have:=h1 b hb';rw[← ea,e] at this;exact absurd this (List.lt_irrefl _)
  ·rcases List.mem_cons.1 hb with eb | hb'
   ·have:=h1 a ha';rw[← eb,e] at this;exact absurd this (List.lt_irrefl _)
   ·exact ih h2 ha' hb'
theorem rises_nodup {l:List Hi} (h:Rises l):l.Nodup:=List.Pairwise.imp (fun hab e=>by rw[e] at hab;exact List.lt_irrefl _ hab) h
theorem all_mem {D:DataW Hi} {acc:List Hi} (t:Ties D acc) {ps:List (List UInt8×Hi)} (ha:AllOf D ps) {p:List UInt8×Hi} (hp:p∈ps):p.2∈acc∧keyL p.2.f1=p.1:=by
 obtain⟨h1,h2,h3⟩:=ha
 obtain⟨h,hh,hk⟩:=(t.has_ p.1).1 ((h2 p.1).1 (List.mem_map.2 ⟨p,hp,rfl⟩))
 have e1:=t.at_ h hh .nil
 have e2:=h3 p hp .nil
 rw[hk,e2] at e1
 injection e1 with e1
 rw[e1]
 exact⟨hh,hk⟩
theorem all_perm {D:DataW Hi} {acc:List Hi} (t:Ties D acc) {ps:List (List UInt8×Hi)} (ha:AllOf D ps):(ps.map (·.2)).Perm acc:=by
 have hn:(ps.map (·.2)).Nodup:=by
  have h1:=ha.1
  unfold List.Nodup at h1 ⊢
  rw[List.pairwise_map] at h1 ⊢
  refine List.Pairwise.imp_of_mem (fun {a b} hma hmb hab e=>hab ?_) h1
  rw[← (all_mem t ha hma).2,← (all_mem t ha hmb).2,e]
 rw[List.perm_ext_iff_of_nodup hn (rises_nodup t.rises)]
 intro x
 constructor
 ·intro hx
  obtain⟨p,hp,rfl⟩:=List.mem_map.1 hx
  exact(all_mem t ha hp).1
 ·intro hx
  obtain⟨p,hp,hk⟩:=List.mem_map.1 ((ha.2.1 (keyL x.f1)).2 ((t.has_ _).2 ⟨x,hx,rfl⟩))
  obtain⟨h1,h2⟩:=all_mem t ha hp
  exact List.mem_map.2 ⟨p,hp,rises_inj t.rises h1 hx (h2.trans hk)⟩
theorem sorted_is {D:DataW Hi} {acc:List Hi} (t:Ties D acc) {ps:List (List UInt8×Hi)} (ha:AllOf D ps) {d:List Hi} (hd:d.Perm (ps.map (·.2))) (hs:d.Pairwise fun x y=>¬keyL y.f1 < keyL x.f1):d=acc:=by
 have hp:=hd.trans (all_perm t ha)
 refine List.Perm.eq_of_pairwise (le:=fun x y:Hi=>¬keyL y.f1 < keyL x.f1) (fun a b hma hmb h1 h2=>?_) hs (List.Pairwise.imp (fun {a b} hab h=>List.lt_irrefl _ (List.lt_trans hab h)) t.rises) hp
 refine rises_inj t.rises (hp.mem_iff.1 hma) hmb ?_
 exact List.le_antisymm (List.not_lt.mp h1) (List.not_lt.mp h2)
end Hn
end

section
namespace Hn
open Go.Maps Go.Shelf Go.Lib Go.Proofs.YtcieieacfoaklaaGreat.Pure Pt Fr Ext Lw Sc

theorem mapGo_snoc (l:List Fo) (x:Fo):∀D,mapGo (l++[x]) D=putF (mapGo l D) x:=by
 induction l with
 | nil=>intro D;rfl
 | cons y l ih=>intro D;simp only[List.cons_append,mapGo,ih]
theorem tells_f (x:Fo):Pk.hint_tells.f x.f2.f0=some (tellsF x):=by
 unfold Pk.hint_tells.f Pk.hint_within.f tellsF
 by_cases h0:x.f2.f0≥2
 ·by_cases h1:x.f2.f0≤4 <;> simp [h0,h1]
 ·simp [h0]

theorem owns_below {w w':World} {b n:Nat} {D:DataW Hi} (h:w.ownsMap Tryz.prog 9 RH b n D) (hb:RowKit.Below w.heap.size w w'):w'.ownsMap Tryz.prog 9 RH b n D:=by
 have hlt:=h.lt
 obtain⟨es,clock,h1,Ft,hs,hD⟩:=h
 exact⟨es,clock,(hb.block b hlt).trans h1,Ft,hs,hD⟩
theorem values_calls (b:Nat) (w:World):
  Calls Tryz.prog 151 #[.map (some b)] w fun e w'=>e=.returned (.func (.func 171) #[] #[.pointer (some ⟨w.heap.size,0,none⟩)])∧w'=w.alloc (.cells #[.map (some b)] 210):=by
 go_enter Tryz.func151,Tryz.ntmps151
 go_wp2
 go_ret
 exact⟨rfl,rfl⟩

theorem of_calls (A:Option Addr) (c:Nat) (l:List Fo) (w:World) (hl:l.length≤1000000000) (hk:∀x∈l,x.f2.f1.size≤maxLen) (hr:Kd.C k206 w A l.length l):
  Calls Tryz.prog 117 #[.slice A l.length c] w fun e w'=>∃v,e=.returned v∧RowH w' w.heap.size (fun _=>True) v (ofL l)∧RowKit.Below w.heap.size w w':=by
 have HR:=ak hr
 have HKK:=ak hk
 clear hr hk
 have hmm:=@run_makeMap Tryz.prog
 go_enter Tryz.func117,Tryz.ntmps117
 go_wp2
 have HM0:=ak (World.ownsMap_made w Tryz.prog 9 RH)
 have HB0:=ak (below_alloc (RowKit.Below.refl w.heap.size w) (.map #[] 0))
 go_loopg [9] l.length (fun kq v9 wr=>∃k:Nat,v9=.int .i64 k∧Aside0 (k+kq=l.length)∧Aside0 (wr.ownsMap Tryz.prog 9 RH w.heap.size k (mapGo (l.take k) (.map [])))∧Aside0 (RowKit.Below w.heap.size w wr))
 case atStart=>exact⟨0,rfl,⟨by omega⟩,HM0,HB0⟩
 case round=>
  clear HM0 HB0
  obtain⟨k,rfl,HK,HM,HB⟩:=hrel
  cases gk with
  | zero=>
   have hk:decide ((k:Int) < (l.length:Int))=false:=decide_eq_false (by have:=HK.out;omega)
   have hk':decide (k < l.length)=false:=decide_eq_false (by have:=HK.out;omega)
   have hkl:k=l.length:=by have:=HK.out;omega
   have HMM:=ak (show wr.ownsMap Tryz.prog 9 RH w.heap.size l.length (mapGo l (.map [])) by have:=HM.out;rw[hkl,List.take_of_length_le (Nat.le_refl _)] at this;exact this)
   have HT:=ak (ties_go l (.map []) [] Ties.empty)
   clear hkl
   go_wp2_with (first
    | (go_at_call 151;refine(values_calls _ _).mono ?_;rintro e w1 ⟨rfl,rfl⟩)
    | (go_at_call 150;go_loud (refine(sorted_calls wr.heap.size w.heap.size l.length (mapGo l (.map [])) _ ?cm1 ?co1 ?cs1 ?cp1).mono ?_;(case cm1=>exact(blk_cell (heap_alloc_new wr (.cells #[.map (some w.heap.size)] 210)) 0).trans rfl);(case co1=>exact HMM.out.alloc _);(case cs1=>exact Nat.le_trans HMM.out.size_le hl);(case cp1=>exact(fun ps ha=>by have h1:=(all_perm HT.out ha).length_eq;have h2:=of_len l [];rw[List.length_map] at h1;rw[List.length_nil] at h2;omega));rintro e w2 ⟨v,ps,d,rfl,ha,hd,hs,hR,hB⟩;have HE:=ak (sorted_is HT.out ha hd hs);have HR2:=ak hR;have HB2:=ak hB;clear ha hd hs hR hB)))
   go_ret
   refine⟨v,rfl,?_,below_then (below_alloc HB.out _) (below_alloc HB.out _).size HB2.out⟩
   have h1:=HR2.out
   rw[HE.out] at h1
   exact Kd.R_lower h1 (below_alloc HB.out _).size
  | succ gk=>
   have hk0:k < l.length:=by have:=HK.out;omega
   have hk:decide ((k:Int) < (l.length:Int))=true:=decide_eq_true (by omega)
   have hk':decide (k < l.length)=true:=decide_eq_true hk0
   have hk1:(k < l.length)=True:=eq_true hk0
   obtain⟨ad,A7,c7,A8,c8,e0,x0,x1,x2,x3,x4,x5,x6,x7,x8,_⟩:=at_T206 (Kd.C_below HR.out HB.out) (k:Int) (by omega) (by omega)
   cases e0
   rw[Int.toNat_natCast] at x0 x1 x2 x3 x4 x5 x6 x7 x8
   obtain⟨x,hx⟩:∃x,rd_T206 l (k:Int)=x:=⟨_,rfl⟩
   have hget:l[k]'hk0=x:=by
    unfold rd_T206 at hx
    rw[Int.toNat_natCast,List.getD_eq_getElem?_getD,List.getElem?_eq_getElem hk0] at hx
    exact hx
   have HST:=ak (show l.take (k+1)=l.take k++[x] by rw[List.take_add_one,List.getElem?_eq_getElem hk0,hget];rfl)
   have hsz:x.f2.f1.size≤maxLen:=HKK.out x (hget ▸ List.getElem_mem hk0)
   rw[hx] at x0 x1 x2 x3 x4 x5 x6 x7 x8
   clear hx hget
   go_upto_region 5 with(fail)
   have BK1:=ak (heap_alloc_new wr (.cells #[.int .i64 x.f0,.int .i64 x.f1,.int .i64 x.f2.f0,.string x.f2.f1,.int .i64 x.f2.f2,.int .i64 x.f2.f3,.int .i64 x.f2.f4,.slice A7 x.f2.f5.length c7,.slice A8 x.f2.f6.length c8] 206))
   have HM1:=ak (HM.out.alloc (.cells #[.int .i64 x.f0,.int .i64 x.f1,.int .i64 x.f2.f0,.string x.f2.f1,.int .i64 x.f2.f2,.int .i64 x.f2.f3,.int .i64 x.f2.f4,.slice A7 x.f2.f5.length c7,.slice A8 x.f2.f6.length c8] 206))
   have HB1:=ak (below_alloc HB.out (.cells #[.int .i64 x.f0,.int .i64 x.f1,.int .i64 x.f2.f0,.string x.f2.f1,.int .i64 x.f2.f2,.int .i64 x.f2.f3,.int .i64 x.f2.f4,.slice A7 x.f2.f5.length c7,.slice A8 x.f2.f6.length c8] 206))
   clear x0 x1 x2 x3 x4 x5 x6 x7 x8 HM HB
   generalize wr.alloc (.cells #[.int .i64 x.f0,.int .i64 x.f1,.int .i64 x.f2.f0,.string x.f2.f1,.int .i64 x.f2.f2,.int .i64 x.f2.f3,.int .i64 x.f2.f4,.slice A7 x.f2.f5.length c7,.slice A8 x.f2.f6.length c8] 206)=w1 at BK1 HM1 HB1 ⊢
   generalize wr.heap.size=g at BK1 ⊢
   have y0:=(blk_cell BK1.out 0).trans rfl
   have y1:=(blk_cell BK1.out 1).trans rfl
   have y2:=(blk_cell BK1.out 2).trans rfl
   have y3:=(blk_cell BK1.out 3).trans rfl
   cases hb:tellsF x with
   | false=>
    have hcon:=fun W=>Pk.hint_tells.calls x.f2.f0 false W ((tells_f x).trans (congrArg some hb))
    have HC:=ak hcon
    have HTF:=ak hb
    clear hcon hb
    go_wp2_with (go_at_call 149;refine(HC.out _).mono ?_;rintro e w2 ⟨rfl,⟨nd,rfl⟩⟩)
    go_roundg gk
    case measure=>omega
    case rel=>
     refine⟨k+1,by go_num,⟨by have:=HK.out;omega⟩,⟨?_⟩,⟨pw_below_drewN HB1.out nd⟩⟩
     rw[HST.out,mapGo_snoc,putF,HTF.out,if_neg (by decide)]
     exact owns_below (HM1.out.mono (Nat.le_succ k)) (pw_below_drewN (RowKit.Below.refl _ _) nd)
   | true=>
    have hcon:=fun W=>Pk.hint_tells.calls x.f2.f0 true W ((tells_f x).trans (congrArg some hb))
    have HC:=ak hcon
    have HTF:=ak hb
    clear hcon hb
    go_wp2_with (first
     | (go_at_call 149;refine(HC.out _).mono ?_;rintro e w2 ⟨rfl,⟨nd,rfl⟩⟩)
     | (at_mapUpdate;go_loud (refine wpList_mapUpdate_own _ rfl _ _ _ 210 rfl 9 45 (string_keyed Tryz.underlying9) Tryz.underlying210 RH w.heap.size k _ rfl (owns_below HM1.out (pw_below_drewN (RowKit.Below.refl _ _) nd)) (by unfold maxLen;omega) _ _ _ rfl rfl (Go.WideMaps.keyOf_string_mk Tryz.underlying9 hsz) _ [] (RH_enc (hintF x)) ?_;intro w3 hown3 hgrow3;have HM3:=ak hown3;have HB3:=ak ((pw_below_drewN HB1.out nd).grown hgrow3 (pw_below_drewN HB1.out nd).size (fun k e=>by cases e;exact Nat.le_refl _));clear hown3 hgrow3)))
    go_roundg gk
    case measure=>omega
    case rel=>
     refine⟨k+1,by go_num,⟨by have:=HK.out;omega⟩,⟨?_⟩,HB3⟩
     rw[HST.out,mapGo_snoc,putF,HTF.out,if_pos rfl]
     exact HM3.out
end Hn
end

section
namespace Ext
open Pt Fr Hn
def hint_Of.f (l:List Fo):Option (List Hi):=if l.length≤1000000000∧(l.all fun x=>decide (x.f2.f1.size≤maxLen))=true then some (ofL l) else none
def hint_Right.f (l:List Hi):Option Bool:=some (rightL l)
def hint_end.f (l:List Int) (a1 a2:Int):Option (List Int):=some (endL l a1 a2)
theorem hint_Of.calls (A0:Option Addr) (c0:Nat) (l0:List Fo) (r:List Hi) (w:World) (hr0:Kd.C k206 w A0 l0.length l0) (hc0:l0.length≤c0) (h:hint_Of.f l0=some r):
  Calls Tryz.prog 117 #[.slice A0 l0.length c0] w fun e w'=>∃v0_:Value,e=.returned v0_∧Kd.R k45 45 w' w.heap.size (fun _=>True) v0_ r∧Below w.heap.size w w':=by
 unfold hint_Of.f at h
 split at h
 case isFalse=>cases h
 case isTrue hh=>
  obtain rfl:=Option.some.inj h
  exact Hn.of_calls A0 c0 l0 w hh.1 (fun x hx=>of_decide_eq_true (List.all_eq_true.1 hh.2 x hx)) hr0
theorem hint_Right.calls (A0:Option Addr) (c0:Nat) (l0:List Hi) (r:Bool) (w:World) (hr0:Kd.C k45 w A0 l0.length l0) (hc0:l0.length≤c0) (h:hint_Right.f l0=some r):
  Calls Tryz.prog 145 #[.slice A0 l0.length c0] w fun e w'=>e=.returned (.bool r)∧Below w.heap.size w w':=by
 obtain rfl:=Option.some.inj h
 exact right_calls A0 c0 l0 w hc0 hr0
theorem hint_end.calls (A0:Option Addr) (c0:Nat) (l0:List Int) (a1 a2:Int) (r:List Int) (w:World) (hr0:Kd.C (Kd.int .u8) w A0 l0.length l0) (hc0:l0.length≤c0) (h:hint_end.f l0 a1 a2=some r):
  Calls Tryz.prog 148 #[.slice A0 l0.length c0,.int .i64 a1,.int .i64 a2] w fun e w'=>∃v0_:Value,e=.returned v0_∧Kd.R (Kd.int .u8) 5 w' w.heap.size (fun _=>True) v0_ r∧Below w.heap.size w w':=by
 obtain rfl:=Option.some.inj h
 refine(end_calls A0 c0 l0 a1 a2 w hr0).mono ?_
 rintro e w' ⟨v,rfl,ho,hb⟩
 exact⟨v,rfl,R_ints ho,hb⟩
end Ext
end
end
section
namespace Pt
attribute [local go_sem] max2_int min2_int max_two min_two max_three min_three max_four min_four   -- for this text's walks alone

open Ext


def hint_within.f (a0:Int) (a1:Int) (a2:Int):Option (Bool):=if a0≥a1 then(some (decide (a0≤a2))) else(some false)
theorem hint_within.calls (a0:Int) (a1:Int) (a2:Int) (r:Bool) (w:World) (h:hint_within.f a0 a1 a2=some r):
  Calls Tryz.prog 146 #[.int .i64 a0,.int .i64 a1,.int .i64 a2] w fun e w'=>e=.returned (.bool r)∧Drawn0 w w':=by
 have H:(if a0≥a1 then(some (decide (a0≤a2))) else(some false))=some r:=h
 clear h
 by_cases c4:a0≥a1
 ·rw[if_pos c4] at H
  have c4b0:decide (a1≤a0)=true:=decide_eq_true c4
  clear c4
  obtain rfl:=Option.some.inj H
  go_enter Tryz.func146,Tryz.ntmps146
  go_wp2
  go_ret
  exact⟨by first | rfl | (simp;done) | (simp [*];done),by repeat (first | exact Drawn0.refl _ | apply Drawn0.step)⟩
 ·rw[if_neg c4] at H
  have c4b0:decide (a1≤a0)=false:=decide_eq_false c4
  clear c4
  obtain rfl:=Option.some.inj H
  go_enter Tryz.func146,Tryz.ntmps146
  go_wp2
  go_ret
  exact⟨by first | rfl | (simp;done) | (simp [*];done),by repeat (first | exact Drawn0.refl _ | apply Drawn0.step)⟩

def hint_four.f (l0:List Int) (a1:Int):Option (List Int):=(some (([(a1 / 16777216) % 256,(a1 / 65536) % 256,(a1 / 256) % 256,(a1) % 256]:List Int):List Int)).bind fun y101=>(if l0.length+y101.length < 140737488355328 then(some (l0++y101)) else(none))
end Pt
end
section
namespace Pt
open Go.Maps Fr Ext Go.Proofs.YtcieieacfoaklaaGreat.Nm Dk
open Rc (Norm Norm.intro Norm.elim)
open Mn (keeps_step own_u8)
def hb1T:Bool×List (List Nat×List Nat):=(true,[([],[]),([0],[0]),([1],[1]),([2],[2]),([],[]),([4],[4]),([3,5],[3,5]),([],[]),([7],[7]),([8],[8]),([9],[9]),([],[]),([11],[11]),([12],[12]),([10,13],[10,13]),([6,14,6],[6,14]),([15,15,0,1,2,3,4,5,6,7,8,9,10,11,12,13,14,15],[15])])
def hb1B:List Nat:=[0,1,3,7,0,16,63,0,128,384,896,0,2048,6144,16256,32767,65535]
theorem hb1tab:rtab .any (opsOf Tryz.f147 1)=hb1T:=by kernel_rfl
theorem hb1bits:waitsOk hb1T.2 hb1B=true:=by kernel_rfl
def fourL (n:Int):List Int:=[n / 16777216 % 256,n / 65536 % 256,n / 256 % 256,n % 256]
theorem four_calls {w0 w:World} (v:Value) (xs:List Int) (n:Int) (hB:RowKit.Below w0.heap.size w0 w) (ho:w.ownsRow w0.heap.size 5 1 v xs.length (nums .u8 xs)) (hx:xs.length≤1000000000):
  Calls Tryz.prog 168 #[v,.int .i64 n] w fun e w'=>∃v',e=.returned v'∧w'.ownsRow w0.heap.size 5 1 v' (xs++fourL n).length (nums .u8 (xs++fourL n))∧RowKit.Below w0.heap.size w0 w'∧Keeps (fun k=>v.ownBlock=some k) w w':=by
 have HB:=ak hB
 have HO:=ak ho
 have HX:=ak (show(xs.length+4)*1≤140737488355328 by omega)
 have HBA:=ak (below_alloc (RowKit.Below.refl w.heap.size w) (.cells #[.int .u8 (n / 16777216 % 256),.int .u8 (n / 65536 % 256),.int .u8 (n / 256 % 256),.int .u8 (n % 256)] 5))
 clear hB ho hx
 go_enter Tryz.func168,Tryz.ntmps168
 go_wp2_with (at_builtin;refine print_append_row (w0:=w0) w0.heap.size rfl _ _ 35 5 .u8 1 rfl Tryz.underlying35 info_u8 (by omega) _ xs (fourL n) _ _ _ rfl rfl (pw_own_below HO.out HBA.out) (lit_reads w 5 .u8 (fourL n) (by simp [fourL])) (HB.out.trans (HBA.out.mono HB.out.size)) (Nat.le_trans HB.out.size HBA.out.size) HX.out ?_;intro v1 wz hv1 hbz hgz haz;have HV1:=ak hv1;have HBZ:=ak hbz;have HKZ:=ak (keeps_step (Keeps.refl _ _) (.inl rfl) hgz);clear hv1 hbz hgz haz)
 go_ret
 exact⟨_,rfl,HV1.out,HBZ.out,HKZ.out⟩
theorem u8_one {w:World} {base sb:Nat} {n:Int} (h:w.heap[sb]? =some (.cells #[.int .u8 n] 5 (0,0))) (hb:base≤sb):w.ownsRow base 5 1 (.slice (some ⟨sb,0,none⟩) 1 1) 1 (nums .u8 [n]):=
 ⟨rfl,.inr ⟨sb,1,_,rfl,hb,h,Nat.le_refl _,by decide,rfl,rfl⟩⟩
theorem u8_two {w:World} {sb:Nat} {a b:Int} (h:w.heap[sb]? =some (.cells #[.int .u8 a,.int .u8 b] 5 (0,0))):Kd.C (Kd.int .u8) w (some ⟨sb,0,none⟩) 2 [a,b]:=
 Kd.C_of_reads (d:=(0:Int)) (h1:=fun _=>rfl) (reads_of_block (k:=.u8) (xs:=[a,b]) h (by simp))
def hint_body.f (a0_0:Int) (a0_1:ByteArray) (a0_2:Int) (a0_3:Int):Option (List Int):=(hint_four.f (([(a0_0) % 256]:List Int)) a0_2).bind fun t120=>((some (([(a0_3 / 256) % 256,(a0_3) % 256]:List Int):List Int)).bind fun y123=>(if t120.length+y123.length < 140737488355328 then((some (t120++y123:List Int)).bind fun y126=>(if y126.length+a0_1.size < 140737488355328 then(some (y126++bytesOf a0_1)) else(none))) else(none)))
theorem body_r {a0:Int} {s:ByteArray} {a2 a3:Int} {r:List Int} (h:hint_body.f a0 s a2 a3=some r):r=([a0 % 256]++fourL a2)++[a3 / 256 % 256,a3 % 256]++bytesOf s∧s.size≤140737488355320:=by
 unfold hint_body.f hint_four.f at h
 simp only[Option.bind_some] at h
 split at h
 ·simp only[Option.bind_some] at h
  split at h
  ·try simp only[Option.bind_some] at h
   split at h
   ·rename_i h3
    simp only[Option.some.injEq] at h
    refine⟨h.symm,?_⟩
    simp only[List.length_append,List.length_cons,List.length_nil] at h3
    omega
   ·cases h
  ·cases h
 ·cases h
theorem hint_body.calls (a0_0:Int) (a0_1:ByteArray) (a0_2:Int) (a0_3:Int) (r:List Int) (w:World) (h:hint_body.f a0_0 a0_1 a0_2 a0_3=some r):
  Calls Tryz.prog 147 #[.agg #[.int .i64 a0_0,.string a0_1,.int .i64 a0_2,.int .i64 a0_3]] w fun e w'=>∃v0_:Value,e=.returned (v0_)∧Kd.R (Kd.int .u8) 5 w' w.heap.size (fun _=>True) v0_ r∧Below w.heap.size w w':=by
 obtain⟨hrr,hsz⟩:=body_r h
 have HRR:=ak hrr
 have HSZ:=ak hsz
 clear h hsz hrr
 have hz:=heap_alloc_new w (.cells #[.int .i64 a0_0,.string a0_1,.int .i64 a0_2,.int .i64 a0_3] 45)
 have hb:=below_alloc (Below.refl w.heap.size w) (.cells #[.int .i64 a0_0,.string a0_1,.int .i64 a0_2,.int .i64 a0_3] 45)
 go_enter Tryz.func147,Tryz.ntmps147
 go_upto_region 1 with(fail)
 generalize w.alloc (.cells #[.int .i64 a0_0,.string a0_1,.int .i64 a0_2,.int .i64 a0_3] 45)=w1 at hz hb ⊢
 obtain⟨rb,hrb⟩:∃rb,w.heap.size=rb:=⟨_,rfl⟩
 have HB:=ak hb
 rw[hrb] at hz ⊢
 have HZ:=ak hz
 have x0:=bq hz 0 (.int .i64 a0_0)
 have x1:=bq hz 1 (.string a0_1)
 have x2:=bq hz 2 (.int .i64 a0_2)
 have x3:=bq hz 3 (.int .i64 a0_3)
 have q1:IntKind.u8.wrap a0_0=a0_0 % 256:=IntKind.wrap_u8 _
 have q2:IntKind.u8.wrap (a0_3 / 256)=a0_3 / 256 % 256:=IntKind.wrap_u8 _
 have q3:IntKind.u8.wrap a0_3=a0_3 % 256:=IntKind.wrap_u8 _
 obtain⟨L1,hL1⟩:∃L1,([a0_0 % 256]++fourL a0_2:List Int).length=L1:=⟨_,rfl⟩
 have HL1:=ak hL1
 have HA1:=ak (show(([a0_0 % 256]++fourL a0_2:List Int).length+2)*1≤140737488355328 by simp [fourL])
 clear hz hb hrb hL1
 refine Code.wp_mono (Q:=Norm fun a' W=>∃(sb:Nat) (A1:Option Addr) (c1:Nat) (sb2:Nat) (v3:Value),a'={tmps:=#[.agg #[.int .i64 a0_0,.string a0_1,.int .i64 a0_2,.int .i64 a0_3],.pointer (some ⟨rb,0,none⟩),.slice none 0 0,v3,.pointer (some ⟨rb,0,none⟩),.int .i64 a0_0,.int .u8 (a0_0 % 256),.slice (some ⟨sb,0,none⟩) 1 1,.pointer (some ⟨rb,2,none⟩),.int .i64 a0_2,.slice A1 L1 c1,.pointer (some ⟨rb,3,none⟩),.int .i64 a0_3,.int .i64 (a0_3 / 256),.int .u8 (a0_3 / 256 % 256),.pointer (some ⟨rb,3,none⟩),.int .i64 a0_3,.int .u8 (a0_3 % 256),.slice (some ⟨sb2,0,none⟩) 2 2,v3,undef,undef,undef,undef],defers:=[]}∧Kd.R (Kd.int .u8) 5 W w1.heap.size (fun _=>True) v3 (([a0_0 % 256]++fourL a0_2)++[a0_3 / 256 % 256,a0_3 % 256])∧RowKit.Below w1.heap.size w1 W) (Norm.elim ?mono) ?reg
 case reg=>
  refine st_ 17 (S:=(fun w'=>RowKit.Below w1.heap.size w1 w')) (ds:=[]) (by kernel_rfl) rfl (by kernel_rfl) (RowKit.Below.refl _ _).drew (fun hHeld=>?_);refine with_tabW hb1tab hb1bits (fun HT_ HW_=>?_)
  generalize w1.drew=b0 at hHeld ⊢
  refine fl_ [0,4,1,4,8,17,7,11,145,11,15,2193] ?_
  iterate 4 refine pz_ HT_ ?_
  refine fe_ ?_
  refine tk_ 1 2195 (N:=some 5) (v:=?_) (a':=?_) HT_ HW_ rfl rfl (.inl ⟨by rfl,?_⟩) hHeld ?_ ?_
  rotate_left
  ·rintro w' hs
   have xx:=pw_cell_below hs x0
   go_simp
   with_reducible rfl
  rotate_left
  ·simp only[Act.put,zq1,zq2,zq3,i64_w,i32_w]
   rfl
  refine fl_ [2,6,2199] ?_
  refine pz_ HT_ ?_
  refine fe_ ?_
  refine tk_ 5 2231 (N:=some 9) (v:=?_) (a':=?_) HT_ HW_ rfl rfl (.inl ⟨by rfl,?_⟩) hHeld ?_ ?_
  rotate_left
  ·rintro w' hs
   have xx:=pw_cell_below hs x2
   go_simp
   with_reducible rfl
  rotate_left
  ·simp only[Act.put,zq1,zq2,zq3,i64_w,i32_w]
   rfl
  refine tk_ 8 2487 (N:=some 12) (v:=?_) (a':=?_) HT_ HW_ rfl rfl (.inl ⟨by rfl,?_⟩) hHeld ?_ ?_
  rotate_left
  ·rintro w' hs
   have xx:=pw_cell_below hs x3
   go_simp
   with_reducible rfl
  rotate_left
  ·simp only[Act.put,zq1,zq2,zq3,i64_w,i32_w]
   rfl
  refine fl_ [9,13,2999,10,14,4023] ?_
  iterate 2 refine pz_ HT_ ?_
  refine fe_ ?_
  refine tk_ 12 8119 (N:=some 16) (v:=?_) (a':=?_) HT_ HW_ rfl rfl (.inl ⟨by rfl,?_⟩) hHeld ?_ ?_
  rotate_left
  ·rintro w' hs
   have xx:=pw_cell_below hs x3
   go_simp
   with_reducible rfl
  rotate_left
  ·simp only[Act.put,zq1,zq2,zq3,i64_w,i32_w]
   rfl
  refine fl_ [13,17,16311] ?_
  refine pz_ HT_ ?_
  refine fe_ ?_
  refine tw_ 3 14 16319 32695 (some 7) (some 18) HT_ rfl rfl rfl rfl (by kernel_rfl) (by decide) (by decide) (fun K hK=>?_) (fun K hK=>?_)
  ·refine Mn.alloc_step rfl (by go_simp;exact⟨rfl,rfl⟩) ?_
   have hb:=below_alloc (RowKit.Below.refl b0.heap.size b0) (.cells #[.int .u8 (a0_0 % 256)] 5)
   have hz3:=heap_alloc_new b0 (.cells #[.int .u8 (a0_0 % 256)] 5)
   have hle:=hHeld.size
   have hHeld:=below_alloc hHeld (.cells #[.int .u8 (a0_0 % 256)] 5)
   refine kz_ hK hHeld fun hHeld=>?_;clear hK K
   clear hb
   generalize b0.alloc (.cells #[.int .u8 (a0_0 % 256)] 5)=b1 at hHeld hz3 ⊢
   refine tw_ 6 14 16383 32703 (some 10) (some 18) HT_ rfl rfl rfl rfl (by kernel_rfl) (by decide) (by decide) (fun K hK=>?_) (fun K hK=>?_)
   ·refine goes_ Tryz.func168 (by kernel_rfl) rfl #[.slice (some ⟨b0.heap.size,0,none⟩) 1 1,.int .i64 a0_2] (by rfl) rfl rfl (by(try simp only[List.map_toArray,List.map_cons,List.map_nil]);first | done | rfl) ?_
    refine(four_calls (w0:=w1) (.slice (some ⟨b0.heap.size,0,none⟩) 1 1) [a0_0 % 256] a0_2 hHeld (u8_one hz3 hle) (Nat.le_of_ble_eq_true rfl)).mono ?_
    rintro e b2 ⟨v6,rfl,hv6,hb6,hk6⟩
    refine⟨_,rfl,?_⟩
    have hHeld:=hb6
    refine kz_ hK hHeld fun hHeld=>?_;clear hK K
    obtain⟨A1,c1,hA1⟩:=own_slice hv6
    rw[HL1.out] at hA1
    subst hA1
    clear hb6 hk6
    refine on_ 14 32767 (some 18) HT_ rfl rfl (by kernel_rfl) (by decide) (fun K hK=>?_)
    refine Mn.alloc_step rfl (by go_simp;exact⟨rfl,rfl⟩) ?_
    have hb:=below_alloc (RowKit.Below.refl b2.heap.size b2) (.cells #[.int .u8 (a0_3 / 256 % 256),.int .u8 (a0_3 % 256)] 5)
    have hv6:=pw_own_below hv6 hb
    have hz4:=heap_alloc_new b2 (.cells #[.int .u8 (a0_3 / 256 % 256),.int .u8 (a0_3 % 256)] 5)
    have hHeld:=below_alloc hHeld (.cells #[.int .u8 (a0_3 / 256 % 256),.int .u8 (a0_3 % 256)] 5)
    refine kz_ hK hHeld fun hHeld=>?_;clear hK K
    clear hb
    generalize b2.alloc (.cells #[.int .u8 (a0_3 / 256 % 256),.int .u8 (a0_3 % 256)] 5)=b3 at hHeld hz4 hv6 ⊢
    refine on_ 15 65535 (some 19) HT_ rfl rfl (by kernel_rfl) (by decide) (fun K hK=>?_)
    refine Kd.R_append_rows_step (Kd.int .u8) (w0:=b3) (W:=b3) w1.heap.size rfl (.tmp 10) (.tmp 18) 35 5 (.int .u8 0) 1 rfl Tryz.underlying35 info_u8 rfl (by decide) (by decide) (.slice A1 L1 c1) ([a0_0 % 256]++fourL a0_2) [a0_3 / 256 % 256,a0_3 % 256] (some ⟨b2.heap.size,0,none⟩) 2 2 (fun _=>True) (fun _=>False) rfl rfl (own_u8 hv6) (u8_two hz4) (fun x cs hk=>hk) (fun _ h=>h.elim) (fun _ _=>trivial) (RowKit.Below.refl _ _) hHeld.size HA1.out ?_
    intro v7 b4 hv7 hb4 hg4 hat4
    have hHg:=hHeld.grown hg4 hHeld.size (own_base hv6)
    have hHeld:=hHg
    refine kz_ hK hHeld fun hHeld=>?_;clear hK K
    refine fl_ [16,3,131071] ?_
    refine pz_ HT_ ?_
    refine fe_ ?_
    refine dz_ HT_ ?_
    exact Norm.intro ⟨b0.heap.size,A1,c1,b2.heap.size,v7,rfl,hv7,hHeld⟩
   ·refine Mn.alloc_step rfl (by go_simp;exact⟨rfl,rfl⟩) ?_
    have hlt3:=Nat.ne_of_lt (blk_lt hz3)
    have hb:=below_alloc (RowKit.Below.refl b1.heap.size b1) (.cells #[.int .u8 (a0_3 / 256 % 256),.int .u8 (a0_3 % 256)] 5)
    have hz3:=(hb.block _ (blk_lt hz3)).trans hz3
    have hz4:=heap_alloc_new b1 (.cells #[.int .u8 (a0_3 / 256 % 256),.int .u8 (a0_3 % 256)] 5)
    have hHeld:=below_alloc hHeld (.cells #[.int .u8 (a0_3 / 256 % 256),.int .u8 (a0_3 % 256)] 5)
    refine kz_ hK hHeld fun hHeld=>?_;clear hK K
    clear hb
    generalize b1.alloc (.cells #[.int .u8 (a0_3 / 256 % 256),.int .u8 (a0_3 % 256)] 5)=b5 at hHeld hz4 hz3 ⊢
    refine on_ 6 32767 (some 10) HT_ rfl rfl (by kernel_rfl) (by decide) (fun K hK=>?_)
    refine goes_ Tryz.func168 (by kernel_rfl) rfl #[.slice (some ⟨b0.heap.size,0,none⟩) 1 1,.int .i64 a0_2] (by rfl) rfl rfl (by(try simp only[List.map_toArray,List.map_cons,List.map_nil]);first | done | rfl) ?_
    refine(four_calls (w0:=w1) (.slice (some ⟨b0.heap.size,0,none⟩) 1 1) [a0_0 % 256] a0_2 hHeld (u8_one hz3 hle) (Nat.le_of_ble_eq_true rfl)).mono ?_
    rintro e b6 ⟨v6,rfl,hv6,hb6,hk6⟩
    have hz4:=(hk6.block _ (blk_lt hz4) (fun e=>hlt3 (Option.some.inj e))).trans hz4
    refine⟨_,rfl,?_⟩
    have hHeld:=hb6
    refine kz_ hK hHeld fun hHeld=>?_;clear hK K
    obtain⟨A1,c1,hA1⟩:=own_slice hv6
    rw[HL1.out] at hA1
    subst hA1
    clear hb6 hk6
    refine on_ 15 65535 (some 19) HT_ rfl rfl (by kernel_rfl) (by decide) (fun K hK=>?_)
    refine Kd.R_append_rows_step (Kd.int .u8) (w0:=b6) (W:=b6) w1.heap.size rfl (.tmp 10) (.tmp 18) 35 5 (.int .u8 0) 1 rfl Tryz.underlying35 info_u8 rfl (by decide) (by decide) (.slice A1 L1 c1) ([a0_0 % 256]++fourL a0_2) [a0_3 / 256 % 256,a0_3 % 256] (some ⟨b1.heap.size,0,none⟩) 2 2 (fun _=>True) (fun _=>False) rfl rfl (own_u8 hv6) (u8_two hz4) (fun x cs hk=>hk) (fun _ h=>h.elim) (fun _ _=>trivial) (RowKit.Below.refl _ _) hHeld.size HA1.out ?_
    intro v7 b7 hv7 hb4 hg4 hat4
    have hHg:=hHeld.grown hg4 hHeld.size (own_base hv6)
    have hHeld:=hHg
    refine kz_ hK hHeld fun hHeld=>?_;clear hK K
    refine fl_ [16,3,131071] ?_
    refine pz_ HT_ ?_
    refine fe_ ?_
    refine dz_ HT_ ?_
    exact Norm.intro ⟨b0.heap.size,A1,c1,b1.heap.size,v7,rfl,hv7,hHeld⟩
  ·refine Mn.alloc_step rfl (by go_simp;exact⟨rfl,rfl⟩) ?_
   have hb:=below_alloc (RowKit.Below.refl b0.heap.size b0) (.cells #[.int .u8 (a0_3 / 256 % 256),.int .u8 (a0_3 % 256)] 5)
   have hz4:=heap_alloc_new b0 (.cells #[.int .u8 (a0_3 / 256 % 256),.int .u8 (a0_3 % 256)] 5)
   have hHeld:=below_alloc hHeld (.cells #[.int .u8 (a0_3 / 256 % 256),.int .u8 (a0_3 % 256)] 5)
   refine kz_ hK hHeld fun hHeld=>?_;clear hK K
   clear hb
   generalize b0.alloc (.cells #[.int .u8 (a0_3 / 256 % 256),.int .u8 (a0_3 % 256)] 5)=b8 at hHeld hz4 ⊢
   refine on_ 3 32703 (some 7) HT_ rfl rfl (by kernel_rfl) (by decide) (fun K hK=>?_)
   refine Mn.alloc_step rfl (by go_simp;exact⟨rfl,rfl⟩) ?_
   have hlt3:=Nat.ne_of_gt (blk_lt hz4)
   have hb:=below_alloc (RowKit.Below.refl b8.heap.size b8) (.cells #[.int .u8 (a0_0 % 256)] 5)
   have hlt4:=blk_lt hz4
   have hz4:=(hb.block _ (blk_lt hz4)).trans hz4
   have hz3:=heap_alloc_new b8 (.cells #[.int .u8 (a0_0 % 256)] 5)
   have hle:=hHeld.size
   have hHeld:=below_alloc hHeld (.cells #[.int .u8 (a0_0 % 256)] 5)
   refine kz_ hK hHeld fun hHeld=>?_;clear hK K
   clear hb
   generalize b8.alloc (.cells #[.int .u8 (a0_0 % 256)] 5)=b9 at hHeld hz3 hz4 ⊢
   refine on_ 6 32767 (some 10) HT_ rfl rfl (by kernel_rfl) (by decide) (fun K hK=>?_)
   refine goes_ Tryz.func168 (by kernel_rfl) rfl #[.slice (some ⟨b8.heap.size,0,none⟩) 1 1,.int .i64 a0_2] (by rfl) rfl rfl (by(try simp only[List.map_toArray,List.map_cons,List.map_nil]);first | done | rfl) ?_
   refine(four_calls (w0:=w1) (.slice (some ⟨b8.heap.size,0,none⟩) 1 1) [a0_0 % 256] a0_2 hHeld (u8_one hz3 hle) (Nat.le_of_ble_eq_true rfl)).mono ?_
   rintro e b10 ⟨v6,rfl,hv6,hb6,hk6⟩
   have hz4:=(hk6.block _ (blk_lt hz4) (fun e=>hlt3 (Option.some.inj e))).trans hz4
   refine⟨_,rfl,?_⟩
   have hHeld:=hb6
   refine kz_ hK hHeld fun hHeld=>?_;clear hK K
   obtain⟨A1,c1,hA1⟩:=own_slice hv6
   rw[HL1.out] at hA1
   subst hA1
   clear hb6 hk6
   refine on_ 15 65535 (some 19) HT_ rfl rfl (by kernel_rfl) (by decide) (fun K hK=>?_)
   refine Kd.R_append_rows_step (Kd.int .u8) (w0:=b10) (W:=b10) w1.heap.size rfl (.tmp 10) (.tmp 18) 35 5 (.int .u8 0) 1 rfl Tryz.underlying35 info_u8 rfl (by decide) (by decide) (.slice A1 L1 c1) ([a0_0 % 256]++fourL a0_2) [a0_3 / 256 % 256,a0_3 % 256] (some ⟨b0.heap.size,0,none⟩) 2 2 (fun _=>True) (fun _=>False) rfl rfl (own_u8 hv6) (u8_two hz4) (fun x cs hk=>hk) (fun _ h=>h.elim) (fun _ _=>trivial) (RowKit.Below.refl _ _) hHeld.size HA1.out ?_
   intro v7 b11 hv7 hb4 hg4 hat4
   have hHg:=hHeld.grown hg4 hHeld.size (own_base hv6)
   have hHeld:=hHg
   refine kz_ hK hHeld fun hHeld=>?_;clear hK K
   refine fl_ [16,3,131071] ?_
   refine pz_ HT_ ?_
   refine fe_ ?_
   refine dz_ HT_ ?_
   exact Norm.intro ⟨b8.heap.size,A1,c1,b0.heap.size,v7,rfl,hv7,hHeld⟩
 case mono=>
  rintro a' W ⟨sb,A1,c1,sb2,v3,rfl,hv,hbW⟩
  have HO:=ak (Kd.own_of_R hv)
  have HBW:=ak hbW
  have y1:W.cell? ⟨rb,1,none⟩=some (.string a0_1):=pw_cell_below hbW x1
  have HLN:=ak (show(([a0_0 % 256]++fourL a0_2)++[a0_3 / 256 % 256,a0_3 % 256]:List Int).length+a0_1.size≤140737488355328 by have:=HSZ.out;simp only[fourL,List.length_append,List.length_cons,List.length_nil];omega)
  generalize (([a0_0 % 256]++fourL a0_2)++[a0_3 / 256 % 256,a0_3 % 256]:List Int)=X at HO HLN HRR
  clear x0 x1 x2 x3 hv hbW
  go_wp2_with (at_builtin;refine print_append_str (w0:=w1) w1.heap.size rfl (.tmp 20) _ 35 9 5 rfl Tryz.underlying35 Tryz.underlying9 info_u8 v3 X a0_1 rfl rfl HO.out HBW.out HBW.out.size HLN.out ?_;intro v4 w4 ho4 hb4 hg4;have HO4:=ak ho4;have HB4:=ak hb4;clear ho4 hb4 hg4)
  go_ret
  rw[HRR.out]
  exact⟨_,rfl,Kd.R_lower (own_u8 HO4.out) HB.out.size,HB.out.trans (HB4.out.mono HB.out.size)⟩
end Pt
end
section
namespace Hn
open Go.Maps Go.Shelf Go.Lib Go.Proofs.YtcieieacfoaklaaGreat.Pure Pt Fr Ext Lw Sc

end Hn
namespace Ext
open Pt Fr Hn
end Ext
end
end Go.Proofs.YtcieieacfoaklaaGreat
section
section
namespace Go.Proofs.YtcieieacfoaklaaGreat.Pure
open Go.RowKit Pt YtcieieacfoaklaaGreatW.PrintWords YtcieieacfoaklaaGreatW.PrintLast Fr Ext Sc

def cat:List (List Int)→List Int
 | []=>[]
 | x::g=>putL x++cat g
def tot:List (List Int)→Nat
 | []=>0
 | x::g=>x.length+tot g
theorem cat_len (g:List (List Int)):(cat g).length≤tot g+8*g.length:=by
 induction g with
 | nil=>exact Nat.le_refl _
 | cons x g ih=>
  have h:=put_len x
  have h2:sizeI x.length≤x.length+8:=by
   by_cases h1:1≤x.length∧x.length≤8192
   ·rw[sizeI_of _ (by omega) (by omega)];omega
   ·rw[sizeI_no _ (by omega)];omega
  simp only[cat,tot,List.length_append,List.length_cons]
  omega
def AllBytes (g:List (List Int)):Prop:=∀x∈g,IsBytes x
theorem AllBytes.tail {x:List Int} {g:List (List Int)} (h:AllBytes (x::g)):AllBytes g:=fun y hy=>h y (List.mem_cons_of_mem _ hy)
theorem cat_bytes (g:List (List Int)) (h:AllBytes g):IsBytes (cat g):=by
 induction g with
 | nil=>exact fun x hx=>by cases hx
 | cons x g ih=>exact(put_bytes x (h x List.mem_cons_self)).append (ih h.tail)
theorem cat_append (a b:List (List Int)):cat (a++b)=cat a++cat b:=by
 induction a with
 | nil=>rfl
 | cons x a ih=>simp only[List.cons_append,cat,ih,List.append_assoc]
end Go.Proofs.YtcieieacfoaklaaGreat.Pure
end

section
namespace Go.Proofs.YtcieieacfoaklaaGreat.Hu
open Go.RowKit Pt YtcieieacfoaklaaGreatW.PrintWords YtcieieacfoaklaaGreatW.PrintLast Fr Ext Sc Hn Go.Proofs.YtcieieacfoaklaaGreat.Pure

theorem bytesOf_bytes (s:ByteArray):IsBytes (bytesOf s):=by
 intro x hx
 obtain⟨b,_,rfl⟩:=List.mem_map.1 hx
 have:=b.toNat_lt
 omega
theorem four4_len (n:Int):(four4 n).length=4:=rfl
theorem four4_bytes (n:Int):IsBytes (four4 n):=by
 intro x hx
 simp only[four4,List.mem_cons,List.not_mem_nil,or_false] at hx
 omega
def bodyL (h:Hi):List Int:=([h.f0 % 256]++four4 h.f2++[(h.f3 / 256) % 256,h.f3 % 256])++bytesOf h.f1
theorem bodyL_len (h:Hi):(bodyL h).length=7+h.f1.size:=by
 simp only[bodyL,List.length_append,four4_len,bytesOf_length,List.length_cons,List.length_nil]
theorem bodyL_bytes (h:Hi):IsBytes (bodyL h):=by
 refine((IsBytes.append (IsBytes.append ?_ (four4_bytes _)) ?_)).append (bytesOf_bytes _)
 ·intro x hx
  simp only[List.mem_cons,List.not_mem_nil,or_false] at hx
  omega
 ·intro x hx
  simp only[List.mem_cons,List.not_mem_nil,or_false] at hx
  omega
theorem body_f (h:Hi) (hs:h.f1.size≤1000000):hint_body.f h.f0 h.f1 h.f2 h.f3=some (bodyL h):=by
 unfold hint_body.f hint_four.f
 simp only[Option.bind_some,List.length_append,List.length_cons,List.length_nil]
 rw[if_pos (by omega)]
 simp only[Option.bind_some,List.length_append,List.length_cons,List.length_nil]
 rw[if_pos (by omega),if_pos (by omega)]
 rfl
theorem fine_iff (h:Hi):fineH h=true↔(2≤h.f0∧h.f0≤4)∧(1≤h.f1.size∧h.f1.size≤64)∧(0≤h.f2∧h.f2≤1073741824)∧(9≤h.f3∧h.f3≤8200):=by
 unfold fineH
 simp only[Bool.and_eq_true,decide_eq_true_eq,and_assoc]
def recs (l:List Hi):List (List Int):=l.map bodyL
theorem endL_len (fr:List Int) (a b:Int):(endL fr a b).length=13:=rfl
theorem endL_bytes (fr:List Int) (a b:Int):IsBytes (endL fr a b):=by
 intro x hx
 simp only[endL,List.mem_cons,List.mem_append] at hx
 rcases hx with rfl | h | h | h
 ·omega
 ·exact four4_bytes _ x h
 ·exact four4_bytes _ x h
 ·exact four4_bytes _ x h
def putH (l:List Hi) (size:Int):List Int:=cat (recs l)++putL (endL (cat (recs l)) (l.length:Int) size)
def putAll (l:List Hi) (size:Int):List Int:=if rightL l=true∧0≤size∧size≤1073741824 then putH l size else []
theorem right_fine {l:List Hi} (h:rightL l=true) {x:Hi} (hx:x∈l):fineH x=true:=by
 unfold rightL at h
 rw[Bool.and_eq_true] at h
 exact List.all_eq_true.1 h.2 x hx
theorem put_body (h:Hi) (hs:h.f1.size≤64):putL (bodyL h)=frameOf (bodyL h)∧(putL (bodyL h)).length=15+h.f1.size:=by
 have e:=bodyL_len h
 have p:=put_yes (bodyL h) (by omega) (by omega)
 refine⟨p,?_⟩
 rw[p,frame_len]
 omega
theorem put_end (fr:List Int) (a b:Int):putL (endL fr a b)=frameOf (endL fr a b)∧(putL (endL fr a b)).length=21:=by
 have e:=endL_len fr a b
 have p:=put_yes (endL fr a b) (by omega) (by omega)
 refine⟨p,?_⟩
 rw[p,frame_len]
 omega
theorem rdT_at (l:List Hi) (i:Nat) (h:i < l.length):rd_T45 l (i:Int)=l[i]:=by
 unfold rd_T45
 rw[Int.toNat_natCast,List.getD_eq_getElem?_getD,List.getElem?_eq_getElem h]
 rfl
theorem within_f (a:Int):hint_within.f a 0 1073741824=some (decide (0≤a∧a≤1073741824)):=by
 unfold hint_within.f
 by_cases h:a≥0
 ·rw[if_pos h]
  congr 1
  exact decide_eq_decide.2 ⟨fun h2=>⟨h,h2⟩,fun h2=>h2.2⟩
 ·rw[if_neg h,decide_eq_false (by omega)]
end Go.Proofs.YtcieieacfoaklaaGreat.Hu
end

section
namespace Go.Proofs.YtcieieacfoaklaaGreat.Hu
open Go.RowKit Pt YtcieieacfoaklaaGreatW.PrintWords YtcieieacfoaklaaGreatW.PrintLast Fr Ext Sc Hn Go.Proofs.YtcieieacfoaklaaGreat.Pure

theorem recs_len (l:List Hi) (hf:∀h∈l,fineH h=true):tot (recs l)≤71*l.length:=by
 induction l with
 | nil=>exact Nat.le_refl _
 | cons x l ih=>
  have h1:=ih (fun h hh=>hf h (List.mem_cons_of_mem _ hh))
  have h2:=((fine_iff x).1 (hf x List.mem_cons_self)).2.1.2
  have h3:=bodyL_len x
  simp only[recs,List.map_cons,tot,List.length_cons] at h1 ⊢
  omega
theorem recs_bytes (l:List Hi):AllBytes (recs l):=by
 intro x hx
 obtain⟨h,_,rfl⟩:=List.mem_map.1 hx
 exact bodyL_bytes h
theorem putH_bytes (l:List Hi) (size:Int):IsBytes (putH l size):=(cat_bytes _ (recs_bytes l)).append (put_bytes _ (endL_bytes _ _ _))
theorem putH_len (l:List Hi) (size:Int) (hr:rightL l=true):(putH l size).length≤79*l.length+21:=by
 have h1:=cat_len (recs l)
 have h2:=recs_len l (fun h hh=>right_fine hr hh)
 have h3:=(put_end (cat (recs l)) (l.length:Int) size).2
 have h4:(recs l).length=l.length:=List.length_map _
 simp only[putH,List.length_append]
 omega
end Go.Proofs.YtcieieacfoaklaaGreat.Hu
end

section
namespace Go.Proofs.YtcieieacfoaklaaGreat.HrA
open Go.ChangeShapes Go.WideShapes Go.RowKit Go.Deep YtcieieacfoaklaaGreatW.PrintWords Fr Go.Proofs.YtcieieacfoaklaaGreat.Pure Pt Hn

section
variable {H:Type} {enc:TypeId×Value→H} {P:Program} {W:World} {base:Nat} {held:Bool}
def Opens {α:Type} (enc:TypeId×Value→H) (P:Program) (W:World) (base:Nat) (held:Bool) (t:TypeId) (k:Kd α) (Q:α→Prop):Prop:=
 ∀(fuel:Nat) (cs:List Value) (x:DataW H×List MemPlace),DataW.trod enc P W base (fun _=>true) held fuel t cs=some x→∃a,k.K W a cs∧Q a
theorem exists_list {α:Type} {p:Nat→α→Prop}:∀(n:Nat),(∀i,i < n→∃a,p i a)→∃l:List α,l.length=n∧∀i a,l[i]? =some a→p i a
 | 0,_=>⟨[],rfl,fun i a h=>by simp at h⟩
 | n+1,h=>by
  obtain⟨l,hl,hp⟩:=exists_list n (fun i hi=>h i (by omega))
  obtain⟨a,ha⟩:=h n (by omega)
  refine⟨l++[a],by simp [hl],fun i b hb=>?_⟩
  by_cases hi:i < l.length
  ·rw[List.getElem?_append_left hi] at hb
   exact hp i b hb
  ·rw[List.getElem?_append_right (by omega)] at hb
   by_cases h1:i - l.length=0
   ·rw[h1] at hb
    have:i=n:=by omega
    subst this
    cases hb
    exact ha
   ·rw[List.getElem?_eq_none (by simp;omega)] at hb
    cases hb
theorem opens_int {t:TypeId} {k:IntKind} (ht:P.underlying t=some (.int k)):Opens enc P W base held t (Kd.int k) (fun z=>(Lit.int k z).wf=true):=by
 intro fuel cs x h
 obtain⟨n,rfl,_,hw⟩:=DataW.trod_int ht h
 exact⟨n,rfl,hw⟩
end
theorem of3 {α:Type} {l:List α} (h:l.length=3):∃a b c,l=[a,b,c]:=by
 match l,h with
 | [a,b,c],_=>exact⟨_,_,_,rfl⟩
theorem of4 {α:Type} {l:List α} (h:l.length=4):∃a b c d,l=[a,b,c,d]:=by
 match l,h with
 | [a,b,c,d],_=>exact⟨_,_,_,_,rfl⟩
theorem of7 {α:Type} {l:List α} (h:l.length=7):∃a b c d e f g,l=[a,b,c,d,e,f,g]:=by
 match l,h with
 | [a,b,c,d,e,f,g],_=>exact⟨_,_,_,_,_,_,_,rfl⟩
def OkLoc (h:S57):Prop:=(Lit.int .i64 h.f0).wf=true∧(Lit.int .i64 h.f1).wf=true∧(Lit.int .i64 h.f2).wf=true
def OkRec (r:S38):Prop:=(Lit.int .i64 r.f0).wf=true∧r.f1.size≤maxLen∧(Lit.int .i64 r.f2).wf=true∧(Lit.int .i64 r.f3).wf=true∧(Lit.int .i64 r.f4).wf=true∧(∀y∈r.f5,OkLoc y)∧∀y∈r.f6,(Lit.int .u8 y).wf=true
section
variable {H:Type} {enc:TypeId×Value→H} {W:World} {base:Nat} {held:Bool}
theorem opens_loc:Opens enc Tryz.prog W base held 57 k57 OkLoc:=by
 intro fuel cs x h
 obtain⟨xs,n,_,_,hl,hxl,hf⟩:=DataW.trod_struct Tryz.underlying57 h
 have hl:cs.length=3:=by rw[hl];kernel_rfl
 obtain⟨y0,y1,y2,rfl⟩:=of3 hxl
 obtain⟨v0,v1,v2,rfl⟩:=of3 hl
 have ho:=hl
 have g0:=hf 0 _ rfl
 have g1:=hf 1 _ rfl
 have g2:=hf 2 _ rfl
 have ci:Tryz.prog.cellsOf 3=1:=by kernel_rfl
 simp [ci] at g0 g1 g2
 obtain⟨a0,k0,q0⟩:=opens_int Tryz.underlying3 _ _ _ g0
 obtain⟨a2,k2,q2⟩:=opens_int Tryz.underlying3 _ _ _ g1
 obtain⟨a3,k3,q3⟩:=opens_int Tryz.underlying3 _ _ _ g2
 cases k0;cases k2;cases k3
 exact⟨⟨a0,a2,a3⟩,k57_mk _ _,q0,q2,q3⟩
end
end Go.Proofs.YtcieieacfoaklaaGreat.HrA
end
end
namespace Go.Proofs.YtcieieacfoaklaaGreat
open Go.RowKit YtcieieacfoaklaaGreatW.PrintWords YtcieieacfoaklaaGreatW.PrintLast YtcieieacfoaklaaGreatW.PrintMore
section
namespace Lg
open Go.Maps Fr Ext Go.Proofs.YtcieieacfoaklaaGreat.Nm Dk Mn
open Sg (segN segN_le segN_ascii)
open Rc (Re Lo zeroR recC)

variable {w w' w1:World} {B l g N:Nat} {M M':DiskM} {F F' G:Nat→Prop} {S S':LogS}
def hc1T:Bool×List (List Nat×List Nat):=(true,[([],[]),([0],[0]),([1],[1]),([2],[2]),([],[]),([4],[4]),([3,5,5],[3,5]),([6,6,0,1,2,3,4,5,6],[6])])
def hc1B:List Nat:=[0,1,3,7,0,16,63,127]
theorem hc1tab:rtab .any (opsOf Tryz.f118 1)=hc1T:=by kernel_rfl
theorem hc1bits:waitsOk hc1T.2 hc1B=true:=by kernel_rfl
def hs1T:Bool×List (List Nat×List Nat):=(true,[([],[]),([0],[0]),([1],[1]),([2],[2]),([],[]),([4],[4]),([3,5,5],[3,5]),([6,6,0,1,2,3,4,5,6],[6])])
def hs1B:List Nat:=[0,1,3,7,0,16,63,127]
theorem hs1tab:rtab .any (opsOf Tryz.f121 1)=hs1T:=by kernel_rfl
theorem hs1bits:waitsOk hs1T.2 hs1B=true:=by kernel_rfl
def ha1T:Bool×List (List Nat×List Nat):=(true,[([],[]),([0],[0]),([1],[1]),([2],[2]),([],[]),([4],[4]),([],[]),([3,5,6,5],[3,5,6]),([7,7,0,1,2,3,4,5,6,7],[7])])
def ha1B:List Nat:=[0,1,3,7,0,16,0,127,255]
theorem ha1tab:rtab .any (opsOf Tryz.f120 1)=ha1T:=by kernel_rfl
theorem ha1bits:waitsOk ha1T.2 ha1B=true:=by kernel_rfl
theorem hcreate_calls (lb nb:Nat) (n:Int) (hd:DiskAt w B g N M F) (hN:N < 1000000000000) (h:LogO w B l g F S) (x0:w.cell? ⟨lb,0,none⟩=some (ptr l)) (x1:w.cell? ⟨nb,0,none⟩=some (.int .i64 n)):
  Calls Tryz.prog 118 #[.pointer (some ⟨lb,0,none⟩),.pointer (some ⟨nb,0,none⟩)] w fun e w'=>e=.returned (.int .i64 (createM M (hintN n)).2)∧Turned w w' B g (N+1) F (createM M (hintN n)).1:=by
 obtain⟨⟨A,c,h1,h2,h3⟩,hs,ha⟩:=h
 have x2:=bq h1 0 (ptr g)
 have HC:=ak (fun W (hW:RowKit.Below w.heap.size w W)=>(hd.below hW).create? (hintN n) (hintN_le n) hN)
 clear h1 h2 h3 hs ha hd hN
 go_enter Tryz.func118,Tryz.ntmps118
 go_upto_region 1 with(fail)
 refine st_ 8 (S:=(fun w'=>RowKit.Below w.heap.size w w')) (ds:=[6]) (by kernel_rfl) rfl (by kernel_rfl) (RowKit.Below.refl _ _).drew (fun hHeld=>?_);refine with_tabW hc1tab hc1bits (fun HT_ HW_=>?_)
 generalize w.drew=w1 at hHeld ⊢
 refine tk_ 0 1 (N:=some 3) (v:=?_) (a':=?_) HT_ HW_ rfl rfl (.inl ⟨by rfl,?_⟩) hHeld ?_ ?_
 rotate_left
 ·rintro w' hs
  have xx:=pw_cell_below hs x0
  go_simp
  with_reducible rfl
 rotate_left
 ·simp only[Act.put,zq1,zq2,zq3,i64_w,i32_w]
  rfl
 refine fl_ [1,4,3,2,5,7] ?_
 iterate 2 refine pz_ HT_ ?_
 refine fe_ ?_
 refine tk_ 3 15 (N:=some 6) (v:=?_) (a':=?_) HT_ HW_ rfl rfl (.inl ⟨by rfl,?_⟩) hHeld ?_ ?_
 rotate_left
 ·rintro w' hs
  have xx:=pw_cell_below hs x2
  go_simp
  with_reducible rfl
 rotate_left
 ·simp only[Act.put,zq1,zq2,zq3,i64_w,i32_w]
  rfl
 refine tk_ 4 31 (N:=some 7) (v:=?_) (a':=?_) HT_ HW_ rfl rfl (.inl ⟨by rfl,?_⟩) hHeld ?_ ?_
 rotate_left
 ·rintro w' hs
  have xx:=pw_cell_below hs x1
  go_simp
  with_reducible rfl
 rotate_left
 ·simp only[Act.put,zq1,zq2,zq3,i64_w,i32_w]
  rfl
 refine on_ 5 63 (some 8) HT_ rfl rfl (by kernel_rfl) (by decide) (fun K hK=>?_)
 refine goes_ Tryz.func119 (by kernel_rfl) rfl #[.int .i64 n] (by rfl) rfl rfl (by(try simp only[List.map_toArray,List.map_cons,List.map_nil]);first | done | rfl) ?_
 refine(hints_calls n _).mono ?_
 rintro e w2 ⟨rfl,hb⟩
 refine⟨_,rfl,?_⟩
 have hHeld:=hHeld.trans (hb.mono hHeld.size)
 refine kz_ hK hHeld fun hHeld=>?_;clear hK K
 clear hb
 refine la_ 6 127 (some 9) HT_ rfl rfl (by kernel_rfl) (by decide) (fun K hK=>?_)
 refine goes_ Tryz.func103 (by kernel_rfl) rfl #[.pointer (some ⟨g,0,none⟩),.string (hintN n)] (by rfl) rfl rfl (by(try simp only[List.map_toArray,List.map_cons,List.map_nil]);first | done | rfl) ?_
 refine(HC.out w2 hHeld).mono ?_
 rintro e w3 ⟨rfl,h3⟩
 refine⟨_,rfl,?_⟩
 refine hK.out _ _ ?_
 clear hK K
 refine norm_ (a':=?_) ?_ ?_
 rotate_left
 ·show Act.put _ (some 9) _=_
  simp only[Act.put,zq1,zq2,zq3,i64_w,i32_w]
  rfl
 refine fl_ [7,2,255] ?_
 refine pz_ HT_ ?_
 refine fe_ ?_
 have H3:=ak (Turned.after (Keeps.of_below hHeld) h3)
 clear hHeld h3
 refine dz_ HT_ ?_
 go_wp2
 go_ret
 exact⟨rfl,H3.out⟩
theorem hsync_calls (lb nb:Nat) (n:Int) (hd:DiskAt w B g N M F) (h:LogO w B l g F S) (x0:w.cell? ⟨lb,0,none⟩=some (ptr l)) (x1:w.cell? ⟨nb,0,none⟩=some (.int .i64 n)):
  Calls Tryz.prog 121 #[.pointer (some ⟨lb,0,none⟩),.pointer (some ⟨nb,0,none⟩)] w fun e w'=>e=.returned (.int .i64 (syncM M (hintN n)).2)∧Turned w w' B g N F (syncM M (hintN n)).1:=by
 obtain⟨⟨A,c,h1,h2,h3⟩,hs,ha⟩:=h
 have x2:=bq h1 0 (ptr g)
 have HC:=ak (fun W (hW:RowKit.Below w.heap.size w W)=>(hd.below hW).sync? (hintN n) (hintN_le n))
 clear h1 h2 h3 hs ha hd
 go_enter Tryz.func121,Tryz.ntmps121
 go_upto_region 1 with(fail)
 refine st_ 8 (S:=(fun w'=>RowKit.Below w.heap.size w w')) (ds:=[6]) (by kernel_rfl) rfl (by kernel_rfl) (RowKit.Below.refl _ _).drew (fun hHeld=>?_);refine with_tabW hs1tab hs1bits (fun HT_ HW_=>?_)
 generalize w.drew=w1 at hHeld ⊢
 refine tk_ 0 1 (N:=some 3) (v:=?_) (a':=?_) HT_ HW_ rfl rfl (.inl ⟨by rfl,?_⟩) hHeld ?_ ?_
 rotate_left
 ·rintro w' hs
  have xx:=pw_cell_below hs x0
  go_simp
  with_reducible rfl
 rotate_left
 ·simp only[Act.put,zq1,zq2,zq3,i64_w,i32_w]
  rfl
 refine fl_ [1,4,3,2,5,7] ?_
 iterate 2 refine pz_ HT_ ?_
 refine fe_ ?_
 refine tk_ 3 15 (N:=some 6) (v:=?_) (a':=?_) HT_ HW_ rfl rfl (.inl ⟨by rfl,?_⟩) hHeld ?_ ?_
 rotate_left
 ·rintro w' hs
  have xx:=pw_cell_below hs x2
  go_simp
  with_reducible rfl
 rotate_left
 ·simp only[Act.put,zq1,zq2,zq3,i64_w,i32_w]
  rfl
 refine tk_ 4 31 (N:=some 7) (v:=?_) (a':=?_) HT_ HW_ rfl rfl (.inl ⟨by rfl,?_⟩) hHeld ?_ ?_
 rotate_left
 ·rintro w' hs
  have xx:=pw_cell_below hs x1
  go_simp
  with_reducible rfl
 rotate_left
 ·simp only[Act.put,zq1,zq2,zq3,i64_w,i32_w]
  rfl
 refine on_ 5 63 (some 8) HT_ rfl rfl (by kernel_rfl) (by decide) (fun K hK=>?_)
 refine goes_ Tryz.func119 (by kernel_rfl) rfl #[.int .i64 n] (by rfl) rfl rfl (by(try simp only[List.map_toArray,List.map_cons,List.map_nil]);first | done | rfl) ?_
 refine(hints_calls n _).mono ?_
 rintro e w2 ⟨rfl,hb⟩
 refine⟨_,rfl,?_⟩
 have hHeld:=hHeld.trans (hb.mono hHeld.size)
 refine kz_ hK hHeld fun hHeld=>?_;clear hK K
 clear hb
 refine la_ 6 127 (some 9) HT_ rfl rfl (by kernel_rfl) (by decide) (fun K hK=>?_)
 refine goes_ Tryz.func98 (by kernel_rfl) rfl #[.pointer (some ⟨g,0,none⟩),.string (hintN n)] (by rfl) rfl rfl (by(try simp only[List.map_toArray,List.map_cons,List.map_nil]);first | done | rfl) ?_
 refine(HC.out w2 hHeld).mono ?_
 rintro e w3 ⟨rfl,h3⟩
 refine⟨_,rfl,?_⟩
 refine hK.out _ _ ?_
 clear hK K
 refine norm_ (a':=?_) ?_ ?_
 rotate_left
 ·show Act.put _ (some 9) _=_
  simp only[Act.put,zq1,zq2,zq3,i64_w,i32_w]
  rfl
 refine fl_ [7,2,255] ?_
 refine pz_ HT_ ?_
 refine fe_ ?_
 have H3:=ak (Turned.after (Keeps.of_below hHeld) h3)
 clear hHeld h3
 refine dz_ HT_ ?_
 go_wp2
 go_ret
 exact⟨rfl,H3.out⟩
theorem happend_calls (lb nb bb:Nat) (n:Int) (bs:List Int) (A6:Option Addr) (c6:Nat) (hd:DiskAt w B g N M F) (hM:Fit M) (h:LogO w B l g F S) (x0:w.cell? ⟨lb,0,none⟩=some (ptr l)) (x1:w.cell? ⟨nb,0,none⟩=some (.int .i64 n)) (x3:w.cell? ⟨bb,0,none⟩=some (.slice A6 bs.length c6))
  (hl:bs.length≤1000000000) (hbs:∀W,Keeps F w W→Kd.C (Kd.int .u8) W A6 bs.length bs):
  Calls Tryz.prog 120 #[.pointer (some ⟨lb,0,none⟩),.pointer (some ⟨nb,0,none⟩),.pointer (some ⟨bb,0,none⟩)] w fun e w'=>e=.returned (.int .i64 (appendM M (hintN n) bs).2)∧Turned w w' B g N F (appendM M (hintN n) bs).1:=by
 obtain⟨⟨A,c,h1,h2,h3⟩,hs,ha⟩:=h
 have x2:=bq h1 0 (ptr g)
 have HC:=ak (fun W (hW:RowKit.Below w.heap.size w W)=>(hd.below hW).append? (hintN n) A6 c6 bs (hintN_le n) hM.len hl (fun W' hW'=>hbs W' ((Keeps.of_below hW).trans hW')))
 clear h1 h2 h3 hs ha hd hM hl hbs
 go_enter Tryz.func120,Tryz.ntmps120
 go_upto_region 1 with(fail)
 refine st_ 9 (S:=(fun w'=>RowKit.Below w.heap.size w w')) (ds:=[7]) (by kernel_rfl) rfl (by kernel_rfl) (RowKit.Below.refl _ _).drew (fun hHeld=>?_);refine with_tabW ha1tab ha1bits (fun HT_ HW_=>?_)
 generalize w.drew=w1 at hHeld ⊢
 refine tk_ 0 1 (N:=some 4) (v:=?_) (a':=?_) HT_ HW_ rfl rfl (.inl ⟨by rfl,?_⟩) hHeld ?_ ?_
 rotate_left
 ·rintro w' hs
  have xx:=pw_cell_below hs x0
  go_simp
  with_reducible rfl
 rotate_left
 ·simp only[Act.put,zq1,zq2,zq3,i64_w,i32_w]
  rfl
 refine fl_ [1,5,3,2,6,7] ?_
 iterate 2 refine pz_ HT_ ?_
 refine fe_ ?_
 refine tk_ 3 15 (N:=some 7) (v:=?_) (a':=?_) HT_ HW_ rfl rfl (.inl ⟨by rfl,?_⟩) hHeld ?_ ?_
 rotate_left
 ·rintro w' hs
  have xx:=pw_cell_below hs x2
  go_simp
  with_reducible rfl
 rotate_left
 ·simp only[Act.put,zq1,zq2,zq3,i64_w,i32_w]
  rfl
 refine tk_ 4 31 (N:=some 8) (v:=?_) (a':=?_) HT_ HW_ rfl rfl (.inl ⟨by rfl,?_⟩) hHeld ?_ ?_
 rotate_left
 ·rintro w' hs
  have xx:=pw_cell_below hs x1
  go_simp
  with_reducible rfl
 rotate_left
 ·simp only[Act.put,zq1,zq2,zq3,i64_w,i32_w]
  rfl
 refine tk_ 6 95 (N:=some 10) (v:=?_) (a':=?_) HT_ HW_ rfl rfl (.inl ⟨by rfl,?_⟩) hHeld ?_ ?_
 rotate_left
 ·rintro w' hs
  have xx:=pw_cell_below hs x3
  go_simp
  with_reducible rfl
 rotate_left
 ·simp only[Act.put,zq1,zq2,zq3,i64_w,i32_w]
  rfl
 refine on_ 5 127 (some 9) HT_ rfl rfl (by kernel_rfl) (by decide) (fun K hK=>?_)
 refine goes_ Tryz.func119 (by kernel_rfl) rfl #[.int .i64 n] (by rfl) rfl rfl (by(try simp only[List.map_toArray,List.map_cons,List.map_nil]);first | done | rfl) ?_
 refine(hints_calls n _).mono ?_
 rintro e w2 ⟨rfl,hb⟩
 refine⟨_,rfl,?_⟩
 have hHeld:=hHeld.trans (hb.mono hHeld.size)
 refine kz_ hK hHeld fun hHeld=>?_;clear hK K
 clear hb
 refine la_ 7 255 (some 11) HT_ rfl rfl (by kernel_rfl) (by decide) (fun K hK=>?_)
 refine goes_ Tryz.func67 (by kernel_rfl) rfl #[.pointer (some ⟨g,0,none⟩),.string (hintN n),.slice A6 bs.length c6] (by rfl) rfl rfl (by(try simp only[List.map_toArray,List.map_cons,List.map_nil]);first | done | rfl) ?_
 refine(HC.out w2 hHeld).mono ?_
 rintro e w3 ⟨rfl,h3⟩
 refine⟨_,rfl,?_⟩
 refine hK.out _ _ ?_
 clear hK K
 refine norm_ (a':=?_) ?_ ?_
 rotate_left
 ·show Act.put _ (some 11) _=_
  simp only[Act.put,zq1,zq2,zq3,i64_w,i32_w]
  rfl
 refine fl_ [8,3,511] ?_
 refine pz_ HT_ ?_
 refine fe_ ?_
 have H3:=ak (Turned.after (Keeps.of_below hHeld) h3)
 clear hHeld h3
 refine dz_ HT_ ?_
 go_wp2
 go_ret
 exact⟨rfl,H3.out⟩
end Lg
end
section
namespace Lg
open Go.Maps Fr Ext Go.Proofs.YtcieieacfoaklaaGreat.Nm Dk Mn
open Sg (segN segN_le segN_ascii It Fo foundsL foundOf allSM)
open Rc (Re Lo zeroR recC Norm Norm.intro Norm.elim)
variable {w w' w1:World} {B l g N:Nat} {M M':DiskM} {F F' G:Nat→Prop} {S S':LogS}
theorem got_key {bs:List Int} (h:(Rc.getM bs).2=true):(Rc.getM bs).1.f1.size≤64:=by
 cases bs with
 | nil=>cases h
 | cons n y=>
  have e0:Rc.getM (n::y)=if Rc.isKind n=true then(if(Rc.ofM {zeroR with f0:=n} y).1=true then(if Rc.rightM (Rc.ofM {zeroR with f0:=n} y).2=true then((Rc.ofM {zeroR with f0:=n} y).2,true) else(zeroR,false)) else(zeroR,false)) else(zeroR,false):=rfl
  rw[e0] at h ⊢
  by_cases hk:Rc.isKind n=true
  case neg=>rw[if_neg hk] at h;cases h
  rw[if_pos hk] at h ⊢
  by_cases ho:(Rc.ofM {zeroR with f0:=n} y).1=true
  case neg=>rw[if_neg ho] at h;cases h
  rw[if_pos ho] at h ⊢
  by_cases hr:Rc.rightM (Rc.ofM {zeroR with f0:=n} y).2=true
  case neg=>rw[if_neg hr] at h;cases h
  rw[if_pos hr]
  show(Rc.ofM {zeroR with f0:=n} y).2.f1.size≤64
  have hb:=Rc.right_bounds hr
  rcases Rc.isKind_cases hk with e | e | e | e
  ·subst e
   show(0:Nat)≤64
   omega
  ·rw[Rc.ofM2 (R:={zeroR with f0:=n}) e] at hb ⊢
   exact(hb.2.2.1 (by rw[(Rc.rootOfM_f0 _ _).1];exact e)).1
  ·rw[Rc.ofM3 (R:={zeroR with f0:=n}) e] at hb ⊢
   exact(hb.2.2.2.1 e).1
  ·rw[Rc.ofM4 (R:={zeroR with f0:=n}) e] at hb ⊢
   exact hb.2.2.2.2 e
theorem founds_keys {l:List It}:∀x∈foundsL l,x.f2.f1.size≤64:=by
 intro x hx
 obtain⟨y,_,hy⟩:=List.mem_filterMap.1 hx
 unfold foundOf at hy
 split at hy
 ·rename_i h
  obtain rfl:=Option.some.inj hy
  exact got_key h
 ·cases hy
theorem scan_nine (l:List Int) (hB:IsBytes l):∀(k a b:Nat) (pre:List Pure.Itm),9*pre.length≤a→a≤l.length→9*(Pure.scanGo k l a b pre).1.length≤l.length
 | 0,a,b,pre,h1,h2=>by simp only[Pure.scanGo];omega
 | k+1,a,b,pre,h1,h2=>by
  obtain⟨xs,kk,e,hf,hk⟩:=Pure.first_kinds (l.drop a) (hB.drop a)
  unfold Pure.scanGo
  rw[hf]
  split
  ·rename_i hlt
   rcases hk with⟨rfl,rfl,_⟩ | ⟨m,rfl,h9,hm,h⟩
   ·rw[if_pos rfl];show 9*pre.length≤l.length;omega
   ·rw[List.length_drop] at hm
    rw[if_neg (by show ¬((m:Int)=0);omega)]
    split
    ·refine scan_nine l hB k _ b _ ?_ ?_
     ·rw[List.length_append,List.length_singleton];simp only[Int.toNat_natCast];omega
     ·simp only[Int.toNat_natCast];omega
    ·refine scan_nine l hB k _ (b+1) pre ?_ ?_
     ·simp only[Int.toNat_natCast];omega
     ·simp only[Int.toNat_natCast];omega
  ·show 9*pre.length≤l.length
   omega
theorem ins_len (x:Pt.S45):∀l,(Hn.insH x l).length≤l.length+1
 | []=>by simp [Hn.insH]
 | a::l=>by
  have:=ins_len x l
  unfold Hn.insH
  split
  ·simp
  split
  ·simp
  ·simp only[List.length_cons];omega
theorem ofGo_len:∀(f:List Fo) (acc:List Pt.S45),(Hn.ofGo f acc).length≤f.length+acc.length
 | [],acc=>by simp [Hn.ofGo]
 | x::f,acc=>by
  have h:=ofGo_len f (if Hn.tellsF x=true then Hn.insH (Hn.hintF x) acc else acc)
  have h2:(if Hn.tellsF x=true then Hn.insH (Hn.hintF x) acc else acc).length≤acc.length+1:=by
   split
   ·exact ins_len _ _
   ·omega
  unfold Hn.ofGo
  simp only[List.length_cons]
  omega
theorem all_founds (hM:Fit M) (n:Int):9*(allSM M n).1.length≤67108864∧∀x∈(allSM M n).1,x.f2.f1.size≤64:=by
 unfold allSM
 split
 ·split
  ·have h0:=readM_fit hM (segN n) 0 (sizeM M (segN n))
   have h1:=scan_nine _ h0.1 ((readM M (segN n) 0 (sizeM M (segN n))).1.length+1) 0 0 [] (by simp) (Nat.zero_le _)
   have h3:=Sg.founds_le (Sg.itemsM (readM M (segN n) 0 (sizeM M (segN n))).1).tail
   rw[List.length_tail] at h3
   have h4:(Sg.itemsM (readM M (segN n) 0 (sizeM M (segN n))).1).length=(Pure.scanGo ((readM M (segN n) 0 (sizeM M (segN n))).1.length+1) (readM M (segN n) 0 (sizeM M (segN n))).1 0 0 []).1.length:=List.length_map _
   exact⟨by show 9*(foundsL _).length≤_;omega,founds_keys⟩
  ·exact⟨by simp,fun x hx=>by cases hx⟩
 ·exact⟨by simp,fun x hx=>by cases hx⟩
def hintB (M:DiskM) (n:Int):List Int:=Hu.putAll (Hn.ofL (allSM M n).1) (sizeM M (segN n))
def hintSteps (n:Int) (bs:List Int):List (DiskM→DiskM×Int):=[fun M=>createM M (hintN n),fun M=>appendM M (hintN n) bs,fun M=>syncM M (hintN n)]
def hintM (M:DiskM) (n:Int):DiskM:=(turnsM (hintSteps n (hintB M n)) M).1
theorem putAll_bytes (l:List Pt.S45) (a:Int):IsBytes (Hu.putAll l a):=by
 unfold Hu.putAll
 split
 ·exact Hu.putH_bytes _ _
 ·intro x hx;cases hx
theorem putAll_len (l:List Pt.S45) (a:Int):(Hu.putAll l a).length≤79*l.length+21:=by
 unfold Hu.putAll
 split
 ·rename_i h
  exact Hu.putH_len l a h.1
 ·simp
theorem hintB_fit (hM:Fit M) (n:Int):IsBytes (hintB M n)∧(hintB M n).length≤1000000000:=by
 refine⟨putAll_bytes _ _,?_⟩
 have h1:=putAll_len (Hn.ofL (allSM M n).1) (sizeM M (segN n))
 have h2:=ofGo_len (allSM M n).1 []
 have h3:=(all_founds hM n).1
 unfold hintB
 have h4:(Hn.ofL (allSM M n).1).length≤(allSM M n).1.length:=h2
 omega
theorem hintSteps_fit (n:Int) (bs:List Int) (hB:IsBytes bs):∀f∈hintSteps n bs,∀M,Fit M→Fit (f M).1:=by
 intro f hf M hM
 simp only[hintSteps,List.mem_cons,List.not_mem_nil,or_false] at hf
 rcases hf with rfl | rfl | rfl
 ·exact hM.create _ (hintN_ascii n)
 ·exact hM.append _ _ hB
 ·exact hM.sync _
theorem hintM_fit (hM:Fit M) (n:Int):Fit (hintM M n):=turnsM_fit _ (hintSteps_fit n _ (hintB_fit hM n).1) M hM
end Lg
end
section
namespace Hu
open Go.Maps Pt Fr Ext Hn Go.Proofs.YtcieieacfoaklaaGreat.Pure Dk
open Mn (own_u8)
theorem recs_take (l:List Hi) (k:Nat) (h:k < l.length):cat (recs (l.take (k+1)))=cat (recs (l.take k))++putL (bodyL l[k]):=by
 rw[List.take_succ_eq_append_getElem h]
 simp only[recs,List.map_append,List.map_cons,List.map_nil]
 rw[cat_append]
 simp [cat]
theorem recs_lens (l:List Hi) (hs:∀h∈l,h.f1.size≤64):(cat (recs l)).length≤79*l.length:=by
 induction l with
 | nil=>exact Nat.le_refl _
 | cons h l ih=>
  have h1:=(put_body h (hs h (by simp))).2
  have h2:=ih (fun x hx=>hs x (by simp [hx]))
  have h3:=hs h (by simp)
  simp only[recs,List.map_cons,cat,List.length_append,List.length_cons] at h2 ⊢
  omega
theorem put_calls (A:Option Addr) (c:Nat) (l:List Hi) (size:Int) (w:World) (hr:Kd.C k45 w A l.length l) (hc:l.length≤c) (hm:l.length≤1000000000):
  Calls Tryz.prog 116 #[.slice A l.length c,.int .i64 size] w fun e w'=>∃v,e=.returned v∧Kd.R (Kd.int .u8) 5 w' w.heap.size (fun _=>True) v (putAll l size)∧Below w.heap.size w w':=by
 have HR:=ak hr
 have HM:=ak hm
 have HRI:=ak (fun W (hW:Below w.heap.size w W)=>hint_Right.calls A c l (rightL l) W (Kd.C_below hr hW) hc rfl)
 have HWI:=ak (fun W=>hint_within.calls size 0 1073741824 (decide (0≤size∧size≤1073741824)) W (within_f size))
 have hdef:putAll l size=if rightL l=true∧0≤size∧size≤1073741824 then putH l size else []:=rfl
 have hfin:rightL l=true→∀h∈l,h.f1.size≤64:=fun hr h hh=>((fine_iff h).1 (right_fine hr hh)).2.1.2
 clear hr hm
 generalize rightL l=b1 at HRI hdef hfin
 obtain⟨b2,hb2⟩:∃b,decide (0≤size∧size≤1073741824)=b:=⟨_,rfl⟩
 rw[hb2] at HWI
 have HDEF:=ak hdef
 have HB2:=ak hb2
 have HFIN:=ak hfin
 clear hdef hb2 hfin
 go_enter Tryz.func116,Tryz.ntmps116
 cases b1 with
 | false=>
  go_wp2_with (go_at_call 145;(with_reducible refine(HRI.out _ ?hw).mono ?_);(case hw=>repeat (first | exact Below.refl _ _ | apply pw_below_drewN | apply below_drew1));rintro e w1 ⟨rfl,hb⟩;have HB:=ak hb;clear hb)
  go_ret
  rw[HDEF.out,if_neg (fun h=>by cases h.1)]
  exact⟨_,rfl,Kd.R_nil _ _ _ _ _,HB.out⟩
 | true=>
 cases b2 with
 | false=>
  go_wp2_with (first
   | (go_at_call 145;(with_reducible refine(HRI.out _ ?hw).mono ?_);(case hw=>repeat (first | exact Below.refl _ _ | apply pw_below_drewN | apply below_drew1));rintro e w1 ⟨rfl,hb⟩;have HB:=ak hb;clear hb)
   | (go_at_call 146;(with_reducible refine(HWI.out _).mono ?_);rintro e w2 ⟨rfl,⟨nd,rfl⟩⟩;have HD:=ak (pw_below_drewN HB.out nd)))
  go_ret
  rw[HDEF.out,if_neg (fun h=>of_decide_eq_false HB2.out h.2)]
  exact⟨_,rfl,Kd.R_nil _ _ _ _ _,HD.out⟩
 | true=>
 go_upto_region 3 with(first
   | (go_at_call 145;(with_reducible refine(HRI.out _ ?hw).mono ?_);(case hw=>repeat (first | exact Below.refl _ _ | apply pw_below_drewN | apply below_drew1));rintro e w1 ⟨rfl,hb⟩;have HB:=ak hb;clear hb)
   | (go_at_call 146;(with_reducible refine(HWI.out _).mono ?_);rintro e w2 ⟨rfl,⟨nd,rfl⟩⟩;have HD:=ak (pw_below_drewN HB.out nd)))
 have hd2:=HDEF.out
 rw[if_pos ⟨by trivial,of_decide_eq_true HB2.out⟩] at hd2
 have HDEF2:=ak hd2
 have HF2:=ak (HFIN.out (by trivial))
 clear hd2 HDEF HRI HWI HFIN HB2
 go_wp2
 go_loopg [5,18] l.length (fun kq v5 v18 wr=>∃(k:Nat),v18=.int .i64 k∧Aside0 (k+kq=l.length)∧Aside0 (wr.ownsRow w.heap.size 5 1 v5 (cat (recs (l.take k))).length (nums .u8 (cat (recs (l.take k)))))∧Aside0 (Below w.heap.size w wr))
 case atStart=>exact⟨0,rfl,⟨by omega⟩,⟨Kd.own_of_R (Kd.R_nil (Kd.int .u8) _ _ _ (fun _=>True))⟩,HD⟩
 case round=>
  obtain⟨k,rfl,HK,HO1,HB1⟩:=hrel
  clear HD
  have HLE:=ak (recs_lens (l.take k) (fun h hh=>HF2.out h (List.mem_of_mem_take hh)))
  cases gk with
  | zero=>
   obtain rfl:k=l.length:=by have:=HK.out;omega
   have d1:decide ((l.length:Int) < (l.length:Int))=false:=decide_eq_false (by omega)
   have d2:decide (l.length < l.length)=false:=decide_eq_false (by omega)
   rw[List.take_length] at HO1 HLE
   have hpe:=(put_end (cat (recs l)) (l.length:Int) size).2
   have HFIT:=ak (show((cat (recs l)).length+(putL (endL (cat (recs l)) (l.length:Int) size)).length)*1≤140737488355328 by have h1:=HM.out;have h2:=HLE.out;omega)
   have hfin:putAll l size=cat (recs l)++putL (endL (cat (recs l)) (l.length:Int) size):=HDEF2.out
   have HFINAL:=ak hfin
   clear hpe hfin HDEF2
   generalize cat (recs l)=X at HO1 HFIT HFINAL
   obtain⟨Y,hY⟩:∃Y,endL X (l.length:Int) size=Y:=⟨_,rfl⟩
   have HE:=ak (show hint_end.f X (l.length:Int) size=some Y by rw[← hY];rfl)
   rw[hY] at HFIT HFINAL
   obtain⟨A1,c1,hv1⟩:=own_slice HO1.out
   subst hv1
   clear hY
   go_wp2_with (first
    | (go_at_call 148;(with_reducible refine(hint_end.calls A1 c1 X (l.length:Int) size Y _ (Kd.R_reads' (own_u8 HO1.out)).2.2 (Kd.R_reads' (own_u8 HO1.out)).2.1 HE.out).mono ?_);rintro e w2 ⟨v2,rfl,hr2,hb2⟩;obtain⟨A2,c2,hv2⟩:=Kd.R_slice hr2;subst hv2;have HO2:=ak (pw_own_below HO1.out hb2);have HR2:=ak (Kd.R_reads' hr2).2;have HB2:=ak (HB1.out.trans (hb2.mono HB1.out.size));clear hr2 hb2)
    | (go_at_call 66;(with_reducible refine(frame_Put.calls A2 c2 Y (putL Y) _ HR2.out.2 HR2.out.1 rfl).mono ?_);rintro e w3 ⟨v3,rfl,hr3,hb3⟩;obtain⟨A3,c3,hv3⟩:=Kd.R_slice hr3;subst hv3;have HO3:=ak (pw_own_below HO2.out hb3);have HR3:=ak (ints_of_C (Kd.R_reads' hr3).2.2);have HB3:=ak (HB2.out.trans (hb3.mono HB2.out.size));clear hr3 hb3)
    | (at_builtin;refine print_append_row (w0:=w) w.heap.size rfl _ _ 35 5 .u8 1 rfl Tryz.underlying35 info_u8 (by omega) _ X (putL Y) A3 (putL Y).length c3 rfl rfl HO3.out HR3.out HB3.out HB3.out.size HFIT.out ?_;intro v4 w4 ho4 hb4 hg4 ha4;have HO4:=ak ho4;have HB4:=ak hb4;clear ho4 hb4 hg4 ha4))
   go_ret
   rw[HFINAL.out]
   exact⟨_,rfl,own_u8 HO4.out,HB4.out⟩
  | succ gk=>
   have hk0:k < l.length:=by have:=HK.out;omega
   have d1:decide ((k:Int) < (l.length:Int))=true:=decide_eq_true (by omega)
   have d2:decide (k < l.length)=true:=decide_eq_true hk0
   have d3:decide (0≤(k:Int))=true:=decide_eq_true (by omega)
   obtain⟨ad,e1,z0,z1,z2,z3⟩:=at_T45 HR.out (k:Int) (by omega) (by omega)
   cases e1
   replace z0:=(HB1.out.cell (World.block_lt_of_cell? w _ z0)).trans z0
   replace z1:=(HB1.out.cell (World.block_lt_of_cell? w _ z1)).trans z1
   replace z2:=(HB1.out.cell (World.block_lt_of_cell? w _ z2)).trans z2
   replace z3:=(HB1.out.cell (World.block_lt_of_cell? w _ z3)).trans z3
   rw[rdT_at l k hk0,Int.toNat_natCast] at z0 z1 z2 z3
   have HT:=ak (recs_take l k hk0)
   have hsz:=HF2.out _ (List.getElem_mem hk0)
   have HBO:=ak (body_f l[k] (by omega))
   have HFIT:=ak (show((cat (recs (l.take k))).length+(putL (bodyL l[k])).length)*1≤140737488355328 by have h1:=HM.out;have h2:=HLE.out;have h3:=(put_body l[k] hsz).2;rw[List.length_take] at h2;omega)
   clear hsz
   generalize cat (recs (l.take k))=X at HO1 HFIT HT
   generalize bodyL l[k]=Y at HFIT HT HBO
   generalize l[k]=h at z0 z1 z2 z3 HBO
   obtain⟨f0,f1,f2,f3⟩:=h
   simp only at z0 z1 z2 z3
   have HBA:=ak (below_alloc (Below.refl wr.heap.size wr) (.cells #[.int .i64 f0,.string f1,.int .i64 f2,.int .i64 f3] 45))
   have hz7:=heap_alloc_new wr (.cells #[.int .i64 f0,.string f1,.int .i64 f2,.int .i64 f3] 45)
   have x0:(wr.alloc (.cells #[.int .i64 f0,.string f1,.int .i64 f2,.int .i64 f3] 45)).cell? ⟨wr.heap.size,0,none⟩=some (.int .i64 f0):=(blk_cell hz7 0).trans rfl
   have x1:(wr.alloc (.cells #[.int .i64 f0,.string f1,.int .i64 f2,.int .i64 f3] 45)).cell? ⟨wr.heap.size,1,none⟩=some (.string f1):=(blk_cell hz7 1).trans rfl
   have x2:(wr.alloc (.cells #[.int .i64 f0,.string f1,.int .i64 f2,.int .i64 f3] 45)).cell? ⟨wr.heap.size,2,none⟩=some (.int .i64 f2):=(blk_cell hz7 2).trans rfl
   have x3:(wr.alloc (.cells #[.int .i64 f0,.string f1,.int .i64 f2,.int .i64 f3] 45)).cell? ⟨wr.heap.size,3,none⟩=some (.int .i64 f3):=(blk_cell hz7 3).trans rfl
   have HO1A:=ak (pw_own_below HO1.out HBA.out)
   have HB1A:=ak (HB1.out.trans (HBA.out.mono HB1.out.size))
   clear hz7 HBA HO1 HB1
   go_upto_region 7 with(fail)
   generalize wr.alloc (.cells #[.int .i64 f0,.string f1,.int .i64 f2,.int .i64 f3] 45)=W at x0 x1 x2 x3 HO1A HB1A ⊢
   clear z0 z1 z2 z3
   go_wp2_with (first
    | (go_at_call 147;(with_reducible refine(hint_body.calls f0 f1 f2 f3 Y _ HBO.out).mono ?_);rintro e w2 ⟨v2,rfl,hr2,hb2⟩;obtain⟨A2,c2,hv2⟩:=Kd.R_slice hr2;subst hv2;have HO2:=ak (pw_own_below HO1A.out hb2);have HR2:=ak (Kd.R_reads' hr2).2;have HB2:=ak (HB1A.out.trans (hb2.mono HB1A.out.size));clear hr2 hb2)
    | (go_at_call 66;(with_reducible refine(frame_Put.calls A2 c2 Y (putL Y) _ HR2.out.2 HR2.out.1 rfl).mono ?_);rintro e w3 ⟨v3,rfl,hr3,hb3⟩;obtain⟨A3,c3,hv3⟩:=Kd.R_slice hr3;subst hv3;have HO3:=ak (pw_own_below HO2.out hb3);have HR3:=ak (ints_of_C (Kd.R_reads' hr3).2.2);have HB3:=ak (HB2.out.trans (hb3.mono HB2.out.size));clear hr3 hb3)
    | (at_builtin;refine print_append_row (w0:=w) w.heap.size rfl _ _ 35 5 .u8 1 rfl Tryz.underlying35 info_u8 (by omega) _ X (putL Y) A3 (putL Y).length c3 rfl rfl HO3.out HR3.out HB3.out HB3.out.size HFIT.out ?_;intro v4 w4 ho4 hb4 hg4 ha4;have HO4:=ak ho4;have HB4:=ak hb4;clear ho4 hb4 hg4 ha4))
   go_roundg gk
   case measure=>omega
   case rel=>exact⟨k+1,by rw[w64 _ (by omega) (by have:=HM.out;omega)];rfl,⟨by have:=HK.out;omega⟩,⟨by rw[HT.out];exact HO4.out⟩,HB4⟩
end Hu
end
end Go.Proofs.YtcieieacfoaklaaGreat

