/- Texts of this claim, joined. -/
import Derived.Test.YteccdnejnbkbiaaGreatV5
import Derived.Test.YteccdnejnbkbiaaGreatV4
set_option linter.unusedVariables false
set_option linter.unusedSimpArgs false
set_option maxRecDepth 100000
set_option maxHeartbeats 8000000
section
namespace Go.Proofs.YteccdnejnbkbiaaGreat.Rl
open Go.RowKit Go.Shelf Go.Maps Go.Sort Go.WideShapes Fr Ext Go.Proofs.YteccdnejnbkbiaaGreat.Pure Sc Go.Proofs.YteccdnejnbkbiaaGreat.Nm Dk Mn Qd YteccdnejnbkbiaaGreatW.PrintWords YteccdnejnbkbiaaGreatW.PrintLast YteccdnejnbkbiaaGreatW.PrintMore
open Sg (segN firstB)
open Lg
open Rc (Re)
open Gt (M0 S0 put_size ladd_wrong)
variable {M:DiskM} {S:LogS} {c:View} {a n:Nat} {m:Int} {s t:ByteArray} {b bs:List Int} {k:Int}
theorem items_cat (g:List (List Int)) (hB:AllBytes g) (hl:(cat g).length≤1000000000):Sg.itemsM (cat g)=(its 0 g).map toS:=by
 have h:=all_of _ (cat_bytes g hB) hl (scan_whole g)
 unfold scan_All.f at h
 rw[if_pos ⟨(bytesB_iff _).mpr (cat_bytes g hB),hl⟩] at h
 exact(Prod.mk.inj (Option.some.inj h)).1
def One (b:List Int) (k:Int):Prop:=b=putL (firstB k)∨∃R,Rc.rightM R=true∧IsBytes R.f6∧b=putL (firstB k)++putL (Rc.putM R)
theorem One.len (h:One b k):b.length≤5321:=by
 have hl:=first_len k
 rcases h with rfl | ⟨R,hr,_,rfl⟩
 ·omega
 ·have:=put_size hr
  rw[List.length_append];omega
theorem right_key {R:Re} (h:Rc.rightM R=true) (h2:2≤R.f0):R.f0≤4∧1≤R.f1.size∧R.f1.size≤64:=by
 unfold Rc.rightM at h
 simp only[Bool.and_eq_true] at h
 obtain⟨h1,h3,h4,h5⟩:=h
 have h1':R.f0≤4:=by unfold Rc.isKind at h1;simp only[Bool.and_eq_true,decide_eq_true_eq] at h1;omega
 have hk:Rc.keyB R.f1=true:=by
  unfold Rc.fineM at h5
  rw[if_neg (by omega)] at h5
  by_cases e:R.f0=2
  ·rw[if_pos e] at h5
   unfold Rc.rootFineM at h5
   split at h5
   ·cases h5
   ·simp only[Bool.and_eq_true] at h5;exact h5.1
  ·rw[if_neg e] at h5
   by_cases e3:R.f0=3
   ·rw[if_pos e3] at h5
    simp only[Rc.inlineFineM,Bool.and_eq_true] at h5;exact h5.1
   ·rw[if_neg e3] at h5;exact h5
 simp only[Rc.keyB,Rc.withinB,Bool.and_eq_true,decide_eq_true_eq] at hk
 omega
theorem one_its (k:Int) (g:List (List Int)):its 0 (firstB k::g)=(0,13,firstB k)::its 13 g:=by
 have e:(firstB k).length=5:=rfl
 simp only[its,e]
 rfl
theorem One.right (h:One b k):Hn.rightL (Hn.ofL (allV b k))=true∧(Hn.ofL (allV b k)).length≤1:=by
 have hl:=first_len k
 have hfb:IsBytes (firstB k):=Sg.firstB_bytes k
 unfold allV
 rcases h with rfl | ⟨R,hr,h6,rfl⟩
 ·have e:putL (firstB k)=cat [firstB k]:=by simp [cat]
  rw[e,items_cat _ (fun x hx=>by rw[List.mem_singleton.1 hx];exact hfb) (by rw[← e];omega),one_its]
  split <;> exact⟨rfl,Nat.zero_le _⟩
 ·obtain⟨z1,z2,z3,z4⟩:=put_size hr
  have e:putL (firstB k)++putL (Rc.putM R)=cat [firstB k,Rc.putM R]:=by simp [cat]
  rw[e,items_cat _ (fun x hx=>by
   rcases List.mem_cons.1 hx with rfl | hx
   ·exact hfb
   ·rw[List.mem_singleton.1 hx];exact La.putM_isBytes R h6) (by rw[← e,List.length_append];omega),one_its]
  split
  ·have e2:its 13 [Rc.putM R]=[(13,(Rc.putM R).length+8,Rc.putM R)]:=by
    simp only[its]
    rw[if_pos ⟨z1,by omega⟩]
   rw[e2]
   have e3:Sg.foundsL (List.map toS ((0,13,firstB k)::[(13,(Rc.putM R).length+8,Rc.putM R)])).tail=[⟨13,(((Rc.putM R).length+8:Nat):Int),R⟩]:=by
    simp only[List.map_cons,List.map_nil,List.tail_cons,Sg.foundsL,List.filterMap_cons,List.filterMap_nil,Sg.foundOf,toS,Rc.get_put hr,if_true]
    rfl
   rw[e3]
   unfold Hn.ofL Hn.ofGo Hn.ofGo
   by_cases ht:Hn.tellsF ⟨13,(((Rc.putM R).length+8:Nat):Int),R⟩=true
   ·rw[if_pos ht]
    have h2:2≤R.f0∧R.f0≤4:=of_decide_eq_true ht
    have hk:=right_key hr h2.1
    refine⟨?_,Nat.le_refl _⟩
    show(Hn.risesL [_] && List.all [_] Hn.fineH)=true
    have hf:Hn.fineH (Hn.hintF ⟨13,(((Rc.putM R).length+8:Nat):Int),R⟩)=true:=by
     rw[Hu.fine_iff]
     refine⟨h2,⟨hk.2.1,hk.2.2⟩,⟨show(0:Int)≤13 by decide,show(13:Int)≤1073741824 by decide⟩,?_⟩
     show 9≤(((Rc.putM R).length+8:Nat):Int)∧(((Rc.putM R).length+8:Nat):Int)≤8200
     omega
    rw[List.all_cons,hf]
    rfl
   ·rw[if_neg ht]
    exact⟨rfl,Nat.zero_le _⟩
  ·exact⟨rfl,Nat.zero_le _⟩
theorem hints_of (h:Sees M c a n m) (hk:S.man.segs.contains k=true) (hh:c (hintN k)=some (hintV b k)) (hs:c (segN k)=some b) (ho:One b k):(hintsM M S k).2=true:=by
 have hl:=ho.len
 obtain⟨hr,h1⟩:=ho.right
 unfold hintsM
 rw[h.isSome,hh,if_neg (fun e=>by cases e),hk,if_neg (by decide),h.whole hh,show Dk.sizeM M (segN k)=(b.length:Int) by rw[h.sizeM,hs];rfl]
 dsimp only
 have e:hintV b k=Hu.putH (Hn.ofL (allV b k)) (b.length:Int):=by
  unfold hintV Hu.putAll
  rw[if_pos ⟨hr,by omega,by omega⟩]
 unfold hgetM
 rw[e,Hu.get_put _ _ _ hr (by omega) (by omega) (by omega),if_pos rfl]
 rfl
theorem hints_no (h:Sees M c a n m) (hh:c (hintN k)=none):(hintsM M S k).2=false:=by
 unfold hintsM
 rw[h.isSome,hh,if_pos (by rfl)]

abbrev St:=DiskM×LogS
def okR (R:Re):Bool:=decide (R.f6.length≤5000) && (decide (R.f5.length≤600) && decide (R.f1.size≤2000))
def rollR (p:St):St:=((rollM p.1 p.2).1,(rollM p.1 p.2).2.1)
def addR (l:List Re) (i:Nat) (p:St):St:=match l[i]? with | none=>p | some R=>if okR R=true then((laddM p.1 p.2 R).1,(laddM p.1 p.2 R).2.1) else p
def rsM (l:List Re):Nat→St
 | 0=>(M0,S0)
 | i+1=>addR l i (rollR (rsM l i))
def segOf (i:Nat):List Int:=(List.range i).map fun j=>((j+1:Nat):Int)
theorem segOf_succ (i:Nat):segOf (i+1)=segOf i++[((i+1:Nat):Int)]:=by
 unfold segOf
 rw[List.range_succ,List.map_append]
 rfl
theorem segOf_len (i:Nat):(segOf i).length=i:=by unfold segOf;rw[List.length_map,List.length_range]
structure RI (p:St) (i:Nat) (c:View) (a n:Nat):Prop where
 segs:p.2.man.segs=segOf i
 next:p.2.man.next=((i+1:Nat):Int)
 limit:p.2.limit=1048576
 last:(i=0∧p.2.last=-1∧c=fun _=>none)∨(0 < i∧p.2.last=(i:Int)∧∃b,c (segN (i:Int))=some b∧One b (i:Int))
 lv:LV p.1 p.2 c a n 4194304
 room:a≤60000*i
 files:n≤3*i
structure RJ (p:St) (i:Nat) (c:View) (a n:Nat):Prop where
 segs:p.2.man.segs=segOf (i+1)
 next:p.2.man.next=((i+2:Nat):Int)
 limit:p.2.limit=1048576
 last:p.2.last=((i+1:Nat):Int)
 lv:LV p.1 p.2 c a n 4194304
 room:a≤60000*i+54000
 files:n≤3*i+3
 first:c (segN ((i+1:Nat):Int))=some (putL (firstB ((i+1:Nat):Int)))
 hints:0 < i→(hintsM p.1 p.2 (i:Int)).2=true
 own:(hintsM p.1 p.2 ((i+1:Nat):Int)).2=false
theorem RI.zero:RI (M0,S0) 0 (fun _=>none) 0 0:=⟨rfl,rfl,rfl,.inl ⟨rfl,rfl,rfl⟩,LV.new (x:=4194304) 1048576,Nat.zero_le _,Nat.zero_le _⟩
theorem RI.roll {p:St} {i:Nat} (h:RI p i c a n) (hi:i < 20):(rollM p.1 p.2).2.2=0∧∃c a n,RJ (rollR p) i c a n:=by
 obtain⟨M,S⟩:=p
 have hz:∀b,c (segN S.last)=some b→b.length≤5321:=by
  intro b hb
  rcases h.last with⟨_,_,rfl⟩ | ⟨_,e,b',hb',ho⟩
  ·cases hb
  ·have e':S.last=(i:Int):=e
   rw[e',hb'] at hb
   obtain rfl:=Option.some.inj hb
   exact ho.len
 have hsl:S.man.segs.length=i:=by rw[show S.man.segs=segOf i from h.segs,segOf_len]
 have hnx:S.man.next=((i+1:Nat):Int):=h.next
 have ha:=h.room
 have hf:=h.files
 obtain⟨M',e1,l1⟩:=h.lv.roll (z:=5321) hz (by show S.man.segs.length < 1000;omega) (by show S.man.next < 99999999;omega) (by omega) (by show((a+13+(4*S.man.segs.length+19)+(9*5321+21):Nat):Int)≤4194304;rw[hsl];omega)
 have e1':rollM M S=(M',rollS S,0):=e1
 have er:rollR (M,S)=(M',rollS S):=by unfold rollR;dsimp only;rw[e1']
 refine⟨by dsimp only;rw[e1'],rollC c S,a+13+(4*S.man.segs.length+19)+(9*5321+21),n+3,?_⟩
 rw[er]
 have hll:=h.lv.last_lt
 have k0:(0:Int)≤S.man.next:=by omega
 have k1:S.man.next≤99999999:=by omega
 have hseg:rollC c S (segN S.man.next)=some (putL (firstB S.man.next)):=by
  unfold rollC
  split
  ·rename_i h0
   rw[upd_ne _ _ (seg_hint k0 k1 h0 (by have h9:S.last < S.man.next:=hll.2;omega)),upd_ne _ _ (seg_man k0 k1),upd_self]
  ·rw[upd_ne _ _ (seg_man k0 k1),upd_self]
 refine⟨?_,?_,h.limit,hnx,l1,?_,?_,?_,?_,?_⟩
 ·show S.man.segs++[S.man.next]=_
  rw[show S.man.segs=segOf i from h.segs,hnx,segOf_succ]
 ·show wrap64 (S.man.next+1)=_
  rw[hnx];unfold wrap64;omega
 ·show a+13+(4*S.man.segs.length+19)+(9*5321+21)≤_
  rw[hsl];omega
 ·omega
 ·rw[← hnx];exact hseg
 ·intro h0
  rcases h.last with⟨e,_⟩ | ⟨_,e,b,hb,ho⟩
  ·omega
  have e':S.last=(i:Int):=e
  have i0:(0:Int)≤(i:Int):=by omega
  have i1:(i:Int)≤99999999:=by omega
  refine hints_of l1.sees ?_ ?_ ?_ ho
  ·show(S.man.segs++[S.man.next]).contains (i:Int)=true
   rw[List.contains_iff_mem,List.mem_append]
   exact .inl (e' ▸ h.lv.last_mem (by show(0:Int)≤S.last;omega))
  ·show rollC c S _=_
   unfold rollC
   rw[if_pos (by omega),e',upd_self,hb]
   rfl
  ·show rollC c S _=_
   unfold rollC
   rw[if_pos (by omega),e',upd_ne _ _ (seg_hint i0 i1 i0 i1),upd_ne _ _ (seg_man i0 i1),upd_ne _ _ (fun e=>by rw[segN_inj i0 i1 k0 k1] at e;omega)]
   exact hb
 ·rw[← hnx]
  refine hints_no l1.sees ?_
  exact l1.open_ k0
theorem RJ.add {p:St} {i:Nat} (h:RJ p i c a n) (l:List Re) (hB:∀R∈l,IsBytes R.f6) (hi:i < 20):∃c a n,RI (addR l i p) (i+1) c a n:=by
 obtain⟨M,S⟩:=p
 have ha:=h.room
 have hf:=h.files
 have hla:S.last=((i+1:Nat):Int):=h.last
 have hst:RI (M,S) (i+1) c a n:=⟨h.segs,h.next,h.limit,.inr ⟨Nat.succ_pos i,h.last,_,h.first,.inl rfl⟩,h.lv,by omega,by omega⟩
 unfold addR
 split
 ·exact⟨_,_,_,hst⟩
 rename_i R hR
 split
 ·have h6:IsBytes R.f6:=hB R (List.mem_of_getElem? hR)
  dsimp only
  cases hr:Rc.rightM R with
  | false=>
   rw[ladd_wrong M S hr]
   exact⟨_,_,_,hst⟩
  | true=>
   obtain⟨z1,z2,z3,z4⟩:=put_size hr
   have hl:=first_len ((i+1:Nat):Int)
   have hc:c (segN S.last)=some (putL (firstB ((i+1:Nat):Int))):=by rw[hla];exact h.first
   obtain⟨M2,e2,l2⟩:=h.lv.end_ (R:=R) (by show(0:Int)≤S.last;omega) hc hr h6 (by rw[z3];omega)
   have hzz:sizeM M (segN S.last)=13:=by rw[h.lv.sees.sizeM,hc];show((putL _).length:Int)=13;rw[hl];rfl
   have hw:wantsRoll M S (sizeI ((Rc.putM R).length:Int))=false:=by
    unfold wantsRoll
    rw[hzz,z4,show S.limit=1048576 from h.limit,decide_eq_false (by omega:¬S.last < 0),Bool.false_or,show wrap64 (13+(((Rc.putM R).length:Int)+8))=13+(((Rc.putM R).length:Int)+8) by unfold wrap64;omega,decide_eq_false (by omega:¬(13+(((Rc.putM R).length:Int)+8) > 1048576)),Bool.and_false]
   have hsz:¬sizeI ((Rc.putM R).length:Int)=0:=by rw[z4];omega
   have e:laddM M S R=(M2,S,S.last,((putL (firstB ((i+1:Nat):Int))).length:Int),((putL (Rc.putM R)).length:Int),0):=by
    unfold laddM
    rw[if_neg hsz,hw,if_neg (by decide)]
    exact e2
   rw[e]
   refine⟨_,_,_,h.segs,h.next,h.limit,.inr ⟨Nat.succ_pos i,h.last,_,?_,.inr ⟨R,hr,h6,rfl⟩⟩,l2,?_,by omega⟩
   ·rw[← hla];exact upd_self _ _ _
   ·rw[z3];omega
 ·exact⟨_,_,_,hst⟩
theorem RI.of (l:List Re) (hB:∀R∈l,IsBytes R.f6):∀i,i≤20→∃c a n,RI (rsM l i) i c a n
 | 0,_=>⟨_,_,_,RI.zero⟩
 | i+1,h=>by
  obtain⟨c,a,n,h1⟩:=RI.of l hB i (by omega)
  obtain⟨_,c,a,n,h2⟩:=h1.roll (by omega)
  exact h2.add l hB (by omega)
end Go.Proofs.YteccdnejnbkbiaaGreat.Rl
end
section
namespace Go.Proofs.YteccdnejnbkbiaaGreat.Rl
open Go.RowKit Go.Maps Fr Ext Go.Proofs.YteccdnejnbkbiaaGreat.Nm Dk Mn Lg La YteccdnejnbkbiaaGreatW.PrintWords YteccdnejnbkbiaaGreatW.PrintLast YteccdnejnbkbiaaGreatW.PrintMore
open Rc (Re Lo zeroR recC Norm Norm.intro Norm.elim)
open Gt (At bytes_ok at_rec M0 S0)
variable {W w w' w1:World} {B l g N k:Nat} {M M':DiskM} {F F' G:Nat→Prop} {S S':LogS}
theorem rsM_fit (l:List Re) (hB:∀R∈l,IsBytes R.f6):∀i,Fit (rsM l i).1
 | 0=>Fit.new _
 | i+1=>by
  have h:=rsM_fit l hB i
  show Fit (addR l i (rollR (rsM l i))).1
  have h2:Fit (rollR (rsM l i)).1:=rollM_fit h _
  unfold addR
  split
  ·exact h2
  ·rename_i R hR
   split
   ·exact laddM_fit h2 _ _ (La.putM_isBytes _ (hB R (List.mem_of_getElem? hR)))
   ·exact h2
theorem At.rolled (h:At W w g l N M S none 0 []) (hM:Fit M) (hl:S.man.segs.length≤1000000) (hN:N+32≤1000000000000):Calls Tryz.prog 17 #[ptr l] w fun e w'=>e=.returned (.int .i64 (rollM M S).2.2)∧At W w' g l (N+32) (rollM M S).1 (rollM M S).2.1 none 0 []:=by
 obtain⟨F,hd,ho,hf⟩:=h.ex
 exact(roll_calls hd hM ho hl hN).mono (by rintro e w' ⟨rfl,ht⟩;exact⟨rfl,Gt.At.of_turned hd ho hf h ht⟩)
theorem At.hints (h:At W w g l N M S none 0 []) (hM:Fit M) (n:Int):Calls Tryz.prog 18 #[ptr l,.int .i64 n] w fun e w'=>∃v,e=.returned (.tuple #[v,.bool (hintsM M S n).2])∧At W w' g l N M S none 0 []:=by
 obtain⟨F,hd,ho,hf⟩:=h.ex
 exact(hintsL_calls hd hM ho n).mono (by rintro e w' ⟨v,rfl,_,hb⟩;exact⟨v,rfl,h.below hb⟩)
theorem At.last (h:At W w g l N M S none 0 []):Calls Tryz.prog 11 #[ptr l] w fun e w'=>e=.returned (.tuple #[.int .i64 (max S.last 0),.bool (decide (0≤S.last))])∧At W w' g l N M S none 0 []:=by
 obtain⟨F,hd,ho,hf⟩:=h.ex
 exact(last_calls ho).mono (by rintro e w' ⟨rfl,hb⟩;exact⟨rfl,h.below hb⟩)
theorem At.segs (h:At W w g l N M S none 0 []) (hl:S.man.segs.length≤1000000):Calls Tryz.prog 10 #[ptr l] w fun e w'=>∃A c,e=.returned (.slice A S.man.segs.length c)∧At W w' g l N M S none 0 []:=by
 obtain⟨F,hd,ho,hf⟩:=h.ex
 exact(segs_calls ho hl).mono (by rintro e w' ⟨v,rfl,hr,hb⟩;obtain⟨A,c,rfl⟩:=Kd.R_slice hr;exact⟨A,c,rfl,h.below hb⟩)
theorem At.more {N':Nat} (h:At W w g l N M S none 0 []) (hN:N≤N'):At W w g l N' M S none 0 []:=by
 obtain⟨F,hd,ho,hf⟩:=h.ex
 exact⟨⟨F,hd.mono hN,ho,hf⟩,h.row,h.bel,h.nil⟩
theorem rolls_calls (a0:Option Addr) (c0:Nat) (rs:List Re) (many:Int) (W:World) (hr:Kd.C Pt.k35 W a0 rs.length rs) (hc:rs.length≤c0) (hok:∀R∈rs,HrA.OkRec R) (hm:0≤many∧many < 256):
  Calls Tryz.prog 4 #[.slice a0 rs.length c0,.int .u8 many] W fun e w'=>e=.returned (.bool true)∧RowKit.Below W.heap.size W w':=by
 have HR:=ak hr
 have HOK:=ak hok
 have HHD:=ak (head_calls W)
 have HM:=ak hm
 clear hr hok hm
 go_enter Tryz.func4,Tryz.ntmps4
 go_upto_region 2 with(go_at_call 6;(with_reducible refine HHD.out.mono ?_);rintro e w1 ⟨rfl,hb1⟩;have HB1:=ak hb1;clear hb1)
 have HNW:=ak (new? 4194304 W.heap.size w1 HB1.out.size)
 go_upto_region 3 with(go_at_call 7;(with_reducible refine HNW.out.mono ?_);rintro e w2 ⟨g,F,rfl,hd2,hf2,hb2⟩;have HD2:=ak hd2;have HB2:=ak (HB1.out.trans (hb2.mono HB1.out.size));clear hd2 hf2 hb2)
 by_cases h40:(rs.length:Int) > 40
 ·have d1:decide ((rs.length:Int) > 40)=true:=decide_eq_true h40
  have d2:decide (rs.length > 40)=true:=decide_eq_true (by omega)
  clear h40
  go_wp2
  go_ret
  exact⟨rfl,HB2.out⟩
 have d1:decide ((rs.length:Int) > 40)=false:=decide_eq_false h40
 have d2:decide (rs.length > 40)=false:=decide_eq_false (by omega)
 have H40:=ak h40
 clear h40
 have hop:=open_calls HD2.out (Fit.new _) 1048576
 rw[show openM (newM 4194304) 1048576=(some S0,0) from rfl] at hop
 have HOP:=ak hop
 clear hop HNW HHD
 go_upto_region 6 with(go_at_call 8;(with_reducible refine HOP.out.mono ?_);rintro e w3 ⟨hb3,l,rfl,ho3,hl3⟩;have HB3:=ak (HB2.out.trans (hb3.mono HB2.out.size));have HD3:=ak (HD2.out.below hb3);have HO3:=ak ho3;clear hb3 ho3 hl3)
 have HAT0:=ak (show At W w3 g l 0 M0 S0 none 0 [] from⟨⟨F,HD3.out,HO3.out,fun k hk=>by cases hk⟩,⟨rfl,.inl ⟨rfl,rfl⟩⟩,HB3.out,fun _=>rfl⟩)
 clear HD2 HD3 HO3 HB1 HB2 HB3 HOP
 obtain⟨T,hT⟩:∃T:Nat,T=(many % 20).toNat:=⟨_,rfl⟩
 have HT:=ak (show many % 20=(T:Int)∧T < 20 by have:=HM.out;omega)
 clear hT
 go_wp2
 go_loopg [9,10] T (fun kq v9 v10 wr=>∃(k:Nat),v9=.int .i64 k∧v10=.int .i64 k∧Aside0 (k+kq=T)∧Aside0 (At W wr g l (64*k) (rsM rs k).1 (rsM rs k).2 none 0 []))
 case atStart=>exact⟨0,rfl,rfl,⟨by omega⟩,HAT0⟩
 case round=>
  obtain⟨k,rfl,rfl,HK,HA⟩:=hrel
  have HFT:=ak (rsM_fit rs (fun R hR=>bytes_ok (HOK.out R hR)) k)
  have HW8:=ak (show wrap64 (many.tmod 20)=(T:Int) by
   have h1:=HT.out.1
   have h2:=HM.out
   rw[Int.tmod_eq_emod_of_nonneg h2.1,h1]
   unfold wrap64;have:=HT.out.2;omega)
  have HT20:=HT.out.2
  cases gk with
  | zero=>
   obtain rfl:k=T:=by have:=HK.out;omega
   have d1:decide ((k:Int) < wrap64 (many.tmod 20))=false:=decide_eq_false (by rw[HW8.out];omega)
   clear HT20
   go_wp2
   go_ret
   exact⟨rfl,HA.out.bel⟩
  | succ gk=>
   have hkT:k < T:=by have:=HK.out;omega
   have d1:decide ((k:Int) < wrap64 (many.tmod 20))=true:=decide_eq_true (by rw[HW8.out];omega)
   obtain⟨c,a,n,hri⟩:=RI.of rs (fun R hR=>bytes_ok (HOK.out R hR)) k (by omega)
   obtain⟨e0,c2,a2,n2,hrj⟩:=hri.roll (by omega)
   have hsl:(rsM rs k).2.man.segs.length≤1000000:=by rw[hri.segs,segOf_len];omega
   have hra:=RJ.add hrj rs (fun R hR=>bytes_ok (HOK.out R hR)) (by omega)
   have HRO:=ak (At.rolled HA.out HFT.out hsl (by omega))
   have hfj:Fit (rollR (rsM rs k)).1:=rollM_fit HFT.out _
   have hst:rsM rs (k+1)=addR rs k (rollR (rsM rs k)):=rfl
   have hrr:rollR (rsM rs k)=((rollM (rsM rs k).1 (rsM rs k).2).1,(rollM (rsM rs k).1 (rsM rs k).2).2.1):=rfl
   have h10:=hrj.own
   have h11:=hrj.hints
   have h12:=hrj.last
   have h13:=hrj.segs
   rw[hrr] at hst hfj h10 h11 h12 h13
   clear hra hrr hri hsl
   generalize rollM (rsM rs k).1 (rsM rs k).2=q at *
   obtain⟨M,S,er⟩:=q
   dsimp only at e0 HRO hst hfj h10 h11 h12 h13
   subst e0
   have HST:=ak hst
   have HFJ:=ak hfj
   have H10:=ak h10
   have H11:=ak h11
   have H12:=ak h12
   have H13:=ak h13
   clear hst hfj h10 h11 h12 h13 hrj HA
   go_upto_region 13 with(go_at_call 17;(with_reducible refine HRO.out.mono ?_);rintro e w4 ⟨rfl,hA4⟩;have HA4:=ak hA4;clear hA4)
   have HLA:=ak (At.last HA4.out)
   rw[H12.out,decide_eq_true (by omega:(0:Int)≤((k+1:Nat):Int)),Int.max_eq_left (by omega:(0:Int)≤((k+1:Nat):Int))] at HLA
   go_upto_region 14 with(go_at_call 11;(with_reducible refine HLA.out.mono ?_);rintro e w5 ⟨rfl,hA5⟩;have HA5:=ak hA5;clear hA5)
   have HSG:=ak (At.segs HA5.out (by rw[H13.out,segOf_len];omega))
   rw[H13.out,segOf_len] at HSG
   have d2:decide (((k+1:Nat):Int)≤(k:Int))=false:=decide_eq_false (by omega)
   have d3:decide (k+1≤k)=false:=decide_eq_false (by omega)
   have HWP:=ak (wrap_succ k (by omega))
   have d4:decide ((k:Int)+1≤(k:Int))=false:=decide_eq_false (by omega)
   have d5:((k:Int)+1 !=wrap64 ((k:Int)+1))=false:=by rw[HWP.out];exact bne_eq_false_iff_eq.mpr (by omega)
   have d6:(((k+1:Nat):Int) !=wrap64 ((k:Int)+1))=false:=by rw[HWP.out];exact bne_eq_false_iff_eq.mpr rfl
   go_upto_if 73 with(go_at_call 10;(with_reducible refine HSG.out.mono ?_);rintro e w6 ⟨A6,c6,rfl,hA6⟩;have HA6:=ak hA6;clear hA6)
   go_cut [14] (fun v14 wc=>Aside0 (At W wc g l (64*k+32) M S none 0 []))
   case first=>
    have HHI:=ak (At.hints HA6.out HFJ.out (k:Int))
    by_cases hk:0 < k
    ·rw[decide_eq_true hk]
     rw[H11.out hk] at HHI
     clear hk
     go_wp2_with (go_at_call 18;(with_reducible refine HHI.out.mono ?_);rintro e w7 ⟨v7,rfl,hA7⟩;have HA7:=ak hA7;clear hA7)
     go_meet
     case rel=>exact HA7
    ·rw[decide_eq_false hk]
     go_wp2
     go_meet
     case rel=>exact HA6
   case rest=>
    clear HA6 HRO HLA HA4 HA5 HSG
    have HA7:=hcut
    clear hcut
    have HHI:=ak (At.hints HA7.out HFJ.out ((k:Int)+1))
    rw[show(hintsM M S ((k:Int)+1)).2=false from H10.out] at HHI
    go_upto_region 24 with(go_at_call 18;(with_reducible refine HHI.out.mono ?_);rintro e w8 ⟨v8,rfl,hA8⟩;have HA8:=ak hA8;clear hA8)
    cases hR:rs[k]? with
    | none=>
     have hkl:rs.length≤k:=List.getElem?_eq_none_iff.1 hR
     have q1:decide ((k:Int) < (rs.length:Int))=false:=decide_eq_false (by omega)
     have q2:decide (k < rs.length)=false:=decide_eq_false (by omega)
     have HEQ:=ak (show rsM rs (k+1)=(M,S) by rw[HST.out];unfold addR;rw[hR])
     clear hR hkl
     go_wp2
     go_roundg gk
     case measure=>omega
     case rel=>exact⟨k+1,rfl,rfl,⟨by have:=HK.out;omega⟩,⟨by rw[HEQ.out];exact At.more HA8.out (by omega)⟩⟩
    | some R=>
     obtain⟨hkl,hRk⟩:=List.getElem?_eq_some_iff.1 hR
     have q1:decide ((k:Int) < (rs.length:Int))=true:=decide_eq_true (by omega)
     have q2:decide (k < rs.length)=true:=decide_eq_true hkl
     obtain⟨ad,A5,c5,A6,c6,e1,q0,z1,z2,z3,z4,z5,z6,hk5,hk6⟩:=at_rec HR.out k hkl
     subst e1
     rw[hRk] at q0 z1 z2 z3 z4 z5 z6 hk5 hk6
     have hok:=HOK.out R (List.mem_of_getElem? hR)
     have HBL:=ak HA8.out.bel
     have q0:=pw_cell_below HBL.out q0
     have z1:=pw_cell_below HBL.out z1
     have z2:=pw_cell_below HBL.out z2
     have z3:=pw_cell_below HBL.out z3
     have z4:=pw_cell_below HBL.out z4
     have z5:=pw_cell_below HBL.out z5
     have z6:=pw_cell_below HBL.out z6
     have hst:=HST.out
     unfold addR at hst
     rw[hR] at hst
     dsimp only at hst
     unfold okR at hst
     have HRK:=ak hok
     have HK5:=ak hk5
     have HK6:=ak hk6
     have b1i:decide ((R.f6.length:Int)≤5000)=decide (R.f6.length≤5000):=decide_eq_decide.2 (by omega)
     have b2i:decide ((R.f5.length:Int)≤600)=decide (R.f5.length≤600):=decide_eq_decide.2 (by omega)
     have b3i:decide ((R.f1.size:Int)≤2000)=decide (R.f1.size≤2000):=decide_eq_decide.2 (by omega)
     obtain⟨b1,hb1⟩:∃b,decide (R.f6.length≤5000)=b:=⟨_,rfl⟩
     obtain⟨b2,hb2⟩:∃b,decide (R.f5.length≤600)=b:=⟨_,rfl⟩
     obtain⟨b3,hb3⟩:∃b,decide (R.f1.size≤2000)=b:=⟨_,rfl⟩
     rw[hb1] at b1i hst
     rw[hb2] at b2i hst
     rw[hb3] at b3i hst
     have HN5:=ak (show b2=true→R.f5.length≤1000000000 by intro e;subst e;have:=of_decide_eq_true hb2;omega)
     have HST2:=ak hst
     clear hst hR hRk hok hk5 hk6 HST
     by_cases hall:(b1 && (b2 && b3))=true
     ·simp only[Bool.and_eq_true] at hall
      obtain⟨rfl,rfl,rfl⟩:=hall
      obtain⟨F1,hd1,ho1,hf1⟩:=HA8.out.ex
      have had:=ladd_calls hd1 HFJ.out ho1 (by rw[H13.out,segOf_len];omega) (by omega) R A5 A6 c5 c6 HRK.out.1
       (fun W' hW'=>Kd.C_below HK5.out (Rc.below_keeps HBL.out hW' (fun k hk=>hk.elim (hd1.base k) (fun e=>e ▸ ho1.above)))) (HN5.out rfl)
       (fun W' hW'=>Kd.C_below HK6.out (Rc.below_keeps HBL.out hW' (fun k hk=>hk.elim (hd1.base k) (fun e=>e ▸ ho1.above))))
      have HTU:=ak (fun w' M' S' N'=>Gt.At.of_turned (w':=w') (M':=M') (S':=S') (N':=N') hd1 ho1 hf1 HA8.out)
      have hst2:=HST2.out
      rw[if_pos (by rfl)] at hst2
      generalize laddM M S R=q at *
      obtain⟨M',S',n1,a1,k1,er⟩:=q
      dsimp only at had hst2
      simp only[recC] at had
      have HAD:=ak had
      have HST3:=ak hst2
      clear had hst2 hd1 ho1 hf1 HST2
      go_wp2_with (go_at_call 9;(with_reducible refine HAD.out.mono ?_);rintro e w9 ⟨rfl,h9⟩;have H9:=ak (HTU.out _ _ _ _ h9);clear h9)
      go_roundg gk
      case measure=>omega
      case rel=>exact⟨k+1,rfl,rfl,⟨by have:=HK.out;omega⟩,⟨by rw[HST3.out];exact At.more H9.out (by omega)⟩⟩
     ·have HEQ:=ak (show rsM rs (k+1)=(M,S) by have h:=HST2.out;rw[if_neg hall] at h;exact h)
      clear HST2
      cases b1 with
      | false=>
       go_wp2
       go_roundg gk
       case measure=>omega
       case rel=>exact⟨k+1,rfl,rfl,⟨by have:=HK.out;omega⟩,⟨by rw[HEQ.out];exact At.more HA8.out (by omega)⟩⟩
      | true=>
      cases b2 with
      | false=>
       go_wp2
       go_roundg gk
       case measure=>omega
       case rel=>exact⟨k+1,rfl,rfl,⟨by have:=HK.out;omega⟩,⟨by rw[HEQ.out];exact At.more HA8.out (by omega)⟩⟩
      | true=>
      cases b3 with
      | false=>
       go_wp2
       go_roundg gk
       case measure=>omega
       case rel=>exact⟨k+1,rfl,rfl,⟨by have:=HK.out;omega⟩,⟨by rw[HEQ.out];exact At.more HA8.out (by omega)⟩⟩
      | true=>exact absurd rfl hall
end Go.Proofs.YteccdnejnbkbiaaGreat.Rl
namespace Go.Proofs.YteccdnejnbkbiaaGreat.Rl
open Go.RowKit YteccdnejnbkbiaaGreatW.PrintWords
theorem LogRolls.walk (a0:Option Addr) (n0 c0:Nat) (z0:List Rc.Re) (many:Int) (W:World)
  (h0:z0.length=n0∧n0≤c0∧c0≤maxLen∧Kd.C Pt.k35 W a0 n0 z0∧∀y∈z0,HrA.OkRec y) (h1:(Lit.int .u8 many).wf=true):
  Calls Tryz.prog 4 #[.slice a0 n0 c0,.int .u8 many] W fun e w'=>e=.returned (.bool true)∧Below W.heap.size W w':=by
 obtain⟨rfl,p0,m0,q0,r0⟩:=h0
 exact rolls_calls a0 c0 z0 many W q0 p0 r0 (Pure.bytes_of_wf [many] (fun x hx=>by rw[List.mem_singleton.1 hx];exact h1) many (by simp))
end Go.Proofs.YteccdnejnbkbiaaGreat.Rl
end
