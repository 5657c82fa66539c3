/- The statement PutPieces holds: for every input the law answers true. The texts are joined. -/
import Derived.Test.YtcieieacfoaklaaGreatV6
import Derived.OpenShut
import Derived.Test.YtcieieacfoaklaaGreatRows
import Derived.WalkKit
import Derived.ProofKit
import Derived.ShutString
import Derived.ChangeOld
import Derived.Below
import Derived.SizedLaws
set_option linter.unusedVariables false
set_option linter.unusedSimpArgs false
set_option maxRecDepth 100000
set_option maxHeartbeats 8000000
section
namespace Go.Proofs.YtcieieacfoaklaaGreat.Pu
open Go.RowKit Go.Maps Fr Ext Pt Dk Lg YtcieieacfoaklaaGreatW.PrintWords YtcieieacfoaklaaGreatW.PrintLast YtcieieacfoaklaaGreatW.PrintMore
open Rc (Re Lo withinB keyB zeroR)
open Gt (put_size)
variable {lim m:Int} {q:St} {k T K T0:Nat} {l bs chs:List (List Int)} {b all:List Int}
def OI (lim m:Int) (M:DiskM) (S:LogS) (k T:Nat):Prop:=∃c a n,PI lim m M S c a n k T∧OneS S c T
def locsAt:Nat→List (List Int)→List Lo
 | _,[]=>[]
 | a,b::l=>⟨1,(a:Int),(b.length:Int)⟩::locsAt (a+(17+b.length)) l
def wide:List (List Int)→Nat
 | []=>0
 | b::l=>17+b.length+wide l
theorem wide_eq (l:List (List Int)):wide l=17*l.length+l.flatten.length:=by
 induction l with
 | nil=>rfl
 | cons b l ih=>rw[wide,ih,List.length_cons,List.flatten_cons,List.length_append];omega
theorem locsAt_append:∀(l r:List (List Int)) (a:Nat),locsAt a (l++r)=locsAt a l++locsAt (a+wide l) r
 | [],r,a=>by simp [locsAt,wide]
 | b::l,r,a=>by
  rw[List.cons_append,locsAt,locsAt_append l r,locsAt,wide,List.cons_append]
  congr 3
  omega
theorem locsAt_len:∀(l:List (List Int)) (a:Nat),(locsAt a l).length=l.length
 | [],_=>rfl
 | b::l,a=>by rw[locsAt,List.length_cons,locsAt_len l,List.length_cons]
theorem locsAt_sum:∀(l:List (List Int)) (a:Nat),((locsAt a l).map (·.f2)).sum=(l.flatten.length:Int)
 | [],_=>rfl
 | b::l,a=>by rw[locsAt,List.map_cons,List.sum_cons,locsAt_sum l,List.flatten_cons,List.length_append];show(b.length:Int)+_=_;omega
theorem locsAt_fine:∀(l:List (List Int)) (a:Nat),a+wide l≤1073741824→(∀y∈l,1≤y.length∧y.length≤4096)→∀y∈locsAt a l,Rc.locFine y=true
 | [],_,_,_,y,hy=>by cases hy
 | b::l,a,h,hl,y,hy=>by
  rw[wide] at h
  have h1:=hl b (by simp)
  rcases List.mem_cons.1 hy with rfl | hy
  ·simp only[Rc.locFine,withinB,Bool.and_eq_true,decide_eq_true_eq]
   omega
  ·exact locsAt_fine l _ (by omega) (fun z hz=>hl z (by simp [hz])) y hy
theorem OI.add {M:DiskM} {S:LogS} (h:OI lim m M S k T) {R:Re} (hr:Rc.rightM R=true) (h6:IsBytes R.f6) (hk:k < 1000) (hm:4200*(k+1)+10*(T+((Rc.putM R).length+8))≤m) (hl:13+T+((Rc.putM R).length+8)≤lim):
  (laddM M S R).2.2.2.2.2=0∧(laddM M S R).2.2.1=1∧(laddM M S R).2.2.2.1=13+T∧OI lim m (laddM M S R).1 (laddM M S R).2.1 (k+1) (T+((Rc.putM R).length+8)):=by
 obtain⟨c,a,n,hp,ho⟩:=h
 obtain⟨e1,e2,c',a',n',p2,p3⟩:=hp.add hr h6 hk hm
 obtain⟨g1,g2,g3⟩:=p3 ho hl
 exact⟨e1,g1,g2,c',a',n',p2,g3⟩
theorem OI.piece (h:OI lim m q.1 q.2.1 k T) (hid:withinB q.2.2.id 0 1099511627776=true) (hl:q.2.2.pieces.length≤511) (h1:1≤b.length) (h2:b.length≤4096) (hB:IsBytes b) (hk:k < 1000) (hm:4200*(k+1)+10*(T+(17+b.length))≤m) (hlim:13+T+(17+b.length)≤lim):
  (pieceM q b).2=0∧OI lim m (pieceM q b).1.1 (pieceM q b).1.2.1 (k+1) (T+(17+b.length))∧(pieceM q b).1.2.2={q.2.2 with spoilt:=false,pieces:=q.2.2.pieces++[⟨1,((13+T:Nat):Int),b.length⟩]}:=by
 have hr:=piece_right (p:=q.2.2) (b:=b) hid hl h1 h2
 have hlen:=piece_len q.2.2 b hr
 have e17:(Rc.putM (pieceR q.2.2 b)).length+8=17+b.length:=by omega
 have ha:=h.add hr hB hk (by omega) (by omega)
 rw[e17] at ha
 obtain⟨e1,e2,e3,hq⟩:=ha
 refine⟨e1,hq,?_⟩
 show pieceW q.2.2 b.length (laddM q.1 q.2.1 (pieceR q.2.2 b))=_
 unfold pieceW
 rw[if_pos e1,e2,e3]
 rfl
theorem OI.each:∀(bs:List (List Int)) (q:St) (k T:Nat),OI lim m q.1 q.2.1 k T→withinB q.2.2.id 0 1099511627776=true→q.2.2.spoilt=false→(∀b∈bs,1≤b.length∧b.length≤4096∧IsBytes b)→q.2.2.pieces.length+bs.length≤512→k+bs.length≤1000→
  4200*(k+bs.length)+10*(T+wide bs)≤m→13+T+wide bs≤lim→
  (eachM bs q).2=0∧OI lim m (eachM bs q).1.1 (eachM bs q).1.2.1 (k+bs.length) (T+wide bs)∧(eachM bs q).1.2.2={q.2.2 with pieces:=q.2.2.pieces++locsAt (13+T) bs}
 | [],q,k,T,h,_,_,_,_,_,_,_=>⟨rfl,h,by simp [eachM,locsAt]⟩
 | b::bs,q,k,T,h,hid,hs,hb,hl,hk,hm,hlim=>by
  obtain⟨g1,g2,g3⟩:=hb b (by simp)
  rw[List.length_cons] at hl hk
  rw[List.length_cons,wide] at hm
  rw[wide] at hlim
  obtain⟨e1,q1,w1⟩:=h.piece hid (by omega) g1 g2 g3 (by omega) (by omega) (by omega)
  obtain⟨e2,q2,w2⟩:=OI.each bs (pieceM q b).1 (k+1) (T+(17+b.length)) q1 (by rw[w1];exact hid) (by rw[w1]) (fun y hy=>hb y (by simp [hy])) (by rw[w1];simp;omega) (by omega) (by omega) (by omega)
  have e:eachM (b::bs) q=eachM bs (pieceM q b).1:=by
   show(if(pieceM q b).2=0 then eachM bs (pieceM q b).1 else pieceM q b)=_
   rw[if_pos e1]
  rw[e]
  refine⟨e2,?_,?_⟩
  ·rw[List.length_cons,wide,show k+(bs.length+1)=k+1+bs.length by omega,show T+(17+b.length+wide bs)=T+(17+b.length)+wide bs by omega]
   exact q2
  ·rw[w2,w1,locsAt]
   cases hw:q.2.2
   rw[hw] at hs
   simp only at hs ⊢
   rw[hs]
   simp only[List.append_assoc,List.cons_append,List.nil_append,Nat.add_assoc]
theorem frame_most {R:Re} (hr:Rc.rightM R=true):(Rc.putM R).length+8≤5308:=by have:=put_size hr;omega
theorem once (key:ByteArray) (id:Int) (c:Cfg) (b:List Int) (x:Int) (hc:rightC c=true) (hk:keyB key=true) (hid:withinB id 0 1099511627776=true) (hB:IsBytes b) (hf:(b.length:Int)≤c.max) (hlim:100000≤lim) (hm:3100000≤(newM x).d.most):
  ∃q pl,writeM (newM x,⟨lim,⟨[],1⟩,-1⟩,wr0 key id c) b=(q,0)∧(commitM q).2=(pl,0)∧
   (((b.length:Int)≤c.small∧(commitM q).1.2.2.pieces=[]∧pl.at_=13)∨
    (c.small < b.length∧∃parts:List (List Int),(commitM q).1.2.2.pieces=locsAt 13 parts∧pl.at_=((13+wide parts:Nat):Int)∧parts.flatten=b∧(∀i (h:i < parts.length),(parts[i].length:Int)=min c.piece (b.length - i*c.piece))∧(parts.length:Int)=(b.length+c.piece - 1) / c.piece)):=by
 have hcf:=right_cfg hc
 have hst:∀p:Wr,p.done=false→p.spoilt=false→¬stateM p≠0:=fun p h1 h2 e=>e (by unfold stateM;rw[h1,h2];rfl)
 have hOI:OI lim (newM x).d.most (newM x) ⟨lim,⟨[],1⟩,-1⟩ 0 0:=⟨_,_,_,PI.new x lim,OneS.new lim⟩
 have hend:∀(p:Wr) (M:DiskM) (S:LogS) (k T:Nat) (R:Re),OI lim (newM x).d.most M S k T→Rc.rightM R=true→IsBytes R.f6→k≤513→T≤80000→∃pl,(commitEnd p R (laddM M S R)).2=(pl,0)∧pl.at_=((13+T:Nat):Int)∧(commitEnd p R (laddM M S R)).1.2.2={p with spoilt:=false,done:=true}:=by
  intro p M S k T R hq hr h6 hk hT
  have hfm:=frame_most hr
  obtain⟨e1,e2,e3,e4⟩:=hq.add hr h6 (by omega) (by omega) (by omega)
  unfold commitEnd
  rw[if_pos e1,e3]
  exact⟨_,rfl,rfl,rfl⟩
 unfold writeM
 rw[if_neg (hst _ rfl rfl),if_neg (by show ¬(b.length:Int) > wrap64 (c.max - 0);unfold wrap64;omega)]
 have hsz:wrap64 (0+(b.length:Int))=(b.length:Int):=by unfold wrap64;omega
 by_cases hsm:(b.length:Int)≤c.small
 ·rw[if_pos (by show wrap64 (0+(b.length:Int))≤c.small;rw[hsz];exact hsm)]
  obtain⟨pl,g1,g2,g3⟩:=hend (heldIn (wr0 key id c) b) _ _ 0 0 (inlineR (heldIn (wr0 key id c) b)) hOI (inline_right hk (by show([]++b).length≤4096;rw[List.nil_append];omega)) (by show IsBytes ([]++b);exact hB) (by omega) (by omega)
  refine⟨_,pl,rfl,?_,.inl ⟨hsm,?_,g2⟩⟩
  ·unfold commitM
   rw[if_neg (hst _ rfl rfl)]
   unfold recM
   rw[if_pos (by show wrap64 (0+(b.length:Int))≤c.small;rw[hsz];exact hsm)]
   unfold commitR
   dsimp only
   rw[if_pos rfl]
   exact g1
  ·unfold commitM
   rw[if_neg (hst _ rfl rfl)]
   unfold recM
   rw[if_pos (by show wrap64 (0+(b.length:Int))≤c.small;rw[hsz];exact hsm)]
   unfold commitR
   dsimp only
   rw[if_pos rfl,g3]
   rfl
 ·rw[if_neg (by show ¬wrap64 (0+(b.length:Int))≤c.small;rw[hsz];exact hsm)]
  obtain⟨s1,s2,s3⟩:=cutW_spec (k:=c.piece) hcf.1 ([]++([]++b))
  rw[List.nil_append,List.nil_append] at s1 s2 s3
  have hcw:∃cw,cutW c.piece b=cw:=⟨_,rfl⟩
  obtain⟨cw,hcw⟩:=hcw
  rw[hcw] at s1 s2 s3
  have hle:=congrArg List.length s1
  rw[List.length_append] at hle
  have hfz:=flatZ cw.1 s2 hcf.1
  have h4:(cw.1.length:Int)*c.piece≤512*c.piece:=by omega
  have h5:(cw.1.length:Int)≤512:=Int.le_of_mul_le_mul_right h4 (by omega)
  have hwd:=wide_eq cw.1
  have hBs:IsBytes (cw.1.flatten++cw.2):=by rw[s1];exact hB
  have hfb:∀y∈cw.1,IsBytes y:=fun y hy z hz=>(bytes_cat.1 hBs).1 z (List.mem_flatten.2 ⟨y,hy,hz⟩)
  have hcut:cutIn (heldIn (wr0 key id c) b) ([]++b)={wr0 key id c with size:=(b.length:Int),all:=wrap64 (0+(b.length:Int)),left:=cw.2}:=by
   unfold cutIn heldIn wr0
   simp only[List.nil_append,hcw,hsz]
  have hea:=OI.each (lim:=lim) (m:=(newM x).d.most) cw.1 (newM x,⟨lim,⟨[],1⟩,-1⟩,{wr0 key id c with size:=(b.length:Int),all:=wrap64 (0+(b.length:Int)),left:=cw.2}) 0 0 hOI hid rfl (fun y hy=>⟨by have:=s2 y hy;omega,by have:=s2 y hy;omega,hfb y hy⟩) (by show 0+cw.1.length≤512;omega) (by omega) (by omega) (by omega)
  show ∃q pl,eachM (cutW c.piece ([]++([]++b))).1 (newM x,⟨lim,⟨[],1⟩,-1⟩,cutIn (heldIn (wr0 key id c) b) ([]++b))=(q,0)∧_
  rw[hcut,List.nil_append,List.nil_append,hcw]
  generalize eachM cw.1 (newM x,⟨lim,⟨[],1⟩,-1⟩,{wr0 key id c with size:=(b.length:Int),all:=wrap64 (0+(b.length:Int)),left:=cw.2})=r at hea ⊢
  obtain⟨e1,q1,w1⟩:=hea
  rw[Nat.zero_add,Nat.zero_add] at q1
  have hps:r.1.2.2.pieces=locsAt 13 cw.1:=by rw[w1];rfl
  have hnot:¬r.1.2.2.size≤r.1.2.2.c.small:=by rw[w1];exact hsm
  have hleft:r.1.2.2.left=cw.2:=by rw[w1]
  have hst2:¬stateM r.1.2.2≠0:=hst _ (by rw[w1];rfl) (by rw[w1];rfl)
  have hlenI:∀i (h:i < cw.1.length),(cw.1[i].length:Int)=min c.piece (b.length - i*c.piece):=by
   intro i hi
   have h6:=s2 _ (List.getElem_mem hi)
   have h7:((i:Int)+1)*c.piece≤cw.1.length*c.piece:=Int.mul_le_mul_of_nonneg_right (by omega) (by omega)
   rw[Int.add_mul,Int.one_mul] at h7
   omega
  have hdiv:∀n:Nat,(n:Int)*c.piece < b.length+c.piece→(b.length:Int)≤n*c.piece→(n:Int)=(b.length+c.piece - 1) / c.piece:=by
   intro n h6 h7
   refine Int.le_antisymm ?_ ?_
   ·exact Int.le_ediv_of_mul_le (by omega) (by omega)
   ·have:(b.length+c.piece - 1) / c.piece < n+1:=Int.ediv_lt_of_lt_mul (by omega) (by rw[Int.add_mul,Int.one_mul];omega)
    omega
  have e5:r.1.2.2.size=(b.length:Int):=by rw[w1]
  have hcl:∀y∈cw.1,1≤y.length∧y.length≤4096:=fun y hy=>by have:=s2 y hy;omega
  have hrec:∀(p:Wr) (parts:List (List Int)),p.pieces=locsAt 13 parts→parts.length≤512→(∀y∈parts,1≤y.length∧y.length≤4096)→parts.flatten=b→p.size=(b.length:Int)→p.key=key→p.id=id→Rc.rightM (rootR p)=true:=by
   intro p parts g1 g2 g3 g4 g5 g6 g7
   refine root_ok (fun y hy=>?_) (by rw[g1,locsAt_len];exact g2) (by rw[g1,locsAt_sum,g4,g5]) (by rw[g6];exact hk) (by rw[g7];exact hid) (by omega) (by omega)
   rw[g1] at hy
   have g8:=wide_eq parts
   have g9:=congrArg List.length g4
   exact locsAt_fine parts 13 (by omega) g3 y hy
  by_cases hl0:cw.2=[]
  ·have hr:=hrec r.1.2.2 cw.1 hps (by omega) hcl (by rw[hl0,List.append_nil] at s1;exact s1) e5 (by rw[w1];rfl) (by rw[w1];rfl)
   obtain⟨pl,g1,g2,g3⟩:=hend r.1.2.2 r.1.1 r.1.2.1 _ _ _ q1 hr (fun x hx=>by cases hx) (by omega) (by omega)
   have hcm:commitM r.1=commitEnd r.1.2.2 (rootR r.1.2.2) (laddM r.1.1 r.1.2.1 (rootR r.1.2.2)):=by
    unfold commitM
    rw[if_neg hst2]
    unfold recM
    rw[if_neg hnot,if_pos (by rw[hleft];exact hl0)]
    unfold commitR
    dsimp only
    rw[if_pos rfl]
   refine⟨r.1,pl,Prod.ext rfl e1,by rw[hcm];exact g1,.inr ⟨by omega,cw.1,by rw[hcm,g3];exact hps,g2,by rw[hl0,List.append_nil] at s1;exact s1,hlenI,?_⟩⟩
   rw[hl0] at hle
   simp only[List.length_nil,Nat.add_zero] at hle
   exact hdiv _ (by omega) (by omega)
  ·have hl1:1≤cw.2.length:=List.length_pos_iff.2 hl0
   have h8:(cw.1.length:Int) < 512:=Int.lt_of_mul_lt_mul_right (show(cw.1.length:Int)*c.piece < 512*c.piece by omega) (by omega)
   obtain⟨e2,q2,w2⟩:=OI.piece (q:=(r.1.1,r.1.2.1,{r.1.2.2 with left:=[]})) (b:=cw.2) q1 (by rw[w1];exact hid) (by show r.1.2.2.pieces.length≤511;rw[hps,locsAt_len];omega) hl1 (by omega) (bytes_cat.1 hBs).2 (by omega) (by omega) (by omega)
   have hfl:(cw.1++[cw.2]).flatten=b:=by rw[List.flatten_append,List.flatten_cons,List.flatten_nil,List.append_nil];exact s1
   have hwd2:wide (cw.1++[cw.2])=wide cw.1+(17+cw.2.length):=by rw[wide_eq,wide_eq];simp;omega
   have hps2:(pieceM (r.1.1,r.1.2.1,{r.1.2.2 with left:=[]}) cw.2).1.2.2.pieces=locsAt 13 (cw.1++[cw.2]):=by
    rw[w2,locsAt_append]
    show r.1.2.2.pieces++_=_
    rw[hps]
    rfl
   have hcm:commitM r.1=commitEnd (pieceM (r.1.1,r.1.2.1,{r.1.2.2 with left:=[]}) cw.2).1.2.2 (rootR (pieceM (r.1.1,r.1.2.1,{r.1.2.2 with left:=[]}) cw.2).1.2.2) (laddM (pieceM (r.1.1,r.1.2.1,{r.1.2.2 with left:=[]}) cw.2).1.1 (pieceM (r.1.1,r.1.2.1,{r.1.2.2 with left:=[]}) cw.2).1.2.1 (rootR (pieceM (r.1.1,r.1.2.1,{r.1.2.2 with left:=[]}) cw.2).1.2.2)):=by
    unfold commitM
    rw[if_neg hst2]
    unfold recM
    rw[if_neg hnot,if_neg (by rw[hleft];exact hl0),hleft,if_pos e2]
    unfold commitR
    dsimp only
    rw[if_pos rfl]
   generalize pieceM (r.1.1,r.1.2.1,{r.1.2.2 with left:=[]}) cw.2=r2 at e2 q2 w2 hps2 hcm
   have hr:=hrec r2.1.2.2 _ hps2 (by simp;omega) (fun y hy=>by
    rcases List.mem_append.1 hy with hy | hy
    ·exact hcl y hy
    ·rw[List.mem_singleton.1 hy];omega) hfl (by rw[w2];exact e5) (by rw[w2,w1];rfl) (by rw[w2,w1];rfl)
   obtain⟨pl,g1,g2,g3⟩:=hend r2.1.2.2 r2.1.1 r2.1.2.1 _ _ _ q2 hr (fun x hx=>by cases hx) (by omega) (by omega)
   refine⟨r.1,pl,Prod.ext rfl e1,by rw[hcm];exact g1,.inr ⟨by omega,cw.1++[cw.2],by rw[hcm,g3];exact hps2,by rw[g2,hwd2],hfl,?_,?_⟩⟩
   ·intro i hi
    rw[List.length_append,List.length_singleton] at hi
    by_cases hil:i < cw.1.length
    ·rw[List.getElem_append_left hil]
     exact hlenI i hil
    ·have hieq:i=cw.1.length:=by omega
     subst hieq
     rw[List.getElem_concat_length rfl]
     omega
   ·rw[List.length_append,List.length_singleton]
    refine hdiv _ ?_ ?_
    ·push_cast;rw[Int.add_mul,Int.one_mul];omega
    ·push_cast;rw[Int.add_mul,Int.one_mul];omega
end Go.Proofs.YtcieieacfoaklaaGreat.Pu
end
section
namespace Go.Proofs.YtcieieacfoaklaaGreat.Pw
open Go.RowKit Go.Shelf Go.Maps Fr Ext Pt Go.Proofs.YtcieieacfoaklaaGreat.Nm Dk Mn Pu Ct Lg YtcieieacfoaklaaGreatW.PrintWords YtcieieacfoaklaaGreatW.PrintLast YtcieieacfoaklaaGreatW.PrintMore
open Rc (Re Lo withinB keyB zeroR recC Norm Norm.intro Norm.elim)
variable {W w w' w1:World} {B l g wb cb c N k n:Nat} {M M':DiskM} {F F' G:Nat→Prop} {S S':LogS} {p p':Wr} {hv pv hv' pv':Value} {A A':Option Addr} {q q':St} {b:List Int}
theorem locsAt_get:∀(l:List (List Int)) (a k:Nat) (h:k < (locsAt a l).length) (h2:k < l.length),(locsAt a l)[k]=(⟨1,((a+wide (l.take k):Nat):Int),(l[k].length:Int)⟩:Lo)
 | [],_,_,_,h2=>by cases h2
 | x::l,a,0,_,_=>by simp [locsAt,wide]
 | x::l,a,k+1,h,h2=>by
  have h3:=locsAt_get l (a+(17+x.length)) k (by rw[locsAt_len];simpa using h2) (by simpa using h2)
  simp only[locsAt,List.getElem_cons_succ,List.take_succ_cons,wide]
  rw[h3]
  congr 2
  omega
theorem wide_snoc (l:List (List Int)) (k:Nat) (h:k < l.length):wide (l.take (k+1))=wide (l.take k)+(17+l[k].length):=by
 rw[wide_eq,wide_eq,List.take_succ_eq_append_getElem h,List.flatten_append,List.length_append,List.length_append]
 simp
 omega
theorem wrap_17 (n:Nat) (h:n≤500000):wrap64 ((n:Int)+17)=((n+17:Nat):Int):=by unfold wrap64;omega
theorem newW_no {key:ByteArray} {id:Int} {c:Cfg} (h:rightC c=false):newW key id c=none:=if_neg (fun e=>by rw[h] at e;cases e.1)
theorem mul_in (a b:Nat) (h:a≤100000) (h2:b≤100000):wrap64 ((a:Int)*(b:Int))=(a:Int)*(b:Int):=by
 have h3:a*b≤100000*100000:=Nat.mul_le_mul h h2
 have h4:((a*b:Nat):Int)=(a:Int)*(b:Int):=Int.natCast_mul a b
 unfold wrap64
 omega
theorem pieces_calls (c:Cfg) (a0:Option Addr) (c0:Nat) (b:List Int) (W:World) (hc0:b.length≤c0) (hb:Kd.C (Kd.int .u8) W a0 b.length b) (hB:IsBytes b):
  Calls Tryz.prog 4 #[.agg (cfgV c),.slice a0 b.length c0] W fun e w'=>e=.returned (.bool true)∧RowKit.Below W.heap.size W w':=by
 have hz:=heap_alloc_new W (.cells (cfgV c) 23)
 have hb0:=below_alloc (RowKit.Below.refl W.heap.size W) (.cells (cfgV c) 23)
 have HHD:=ak head_calls
 have HBB:=ak hB
 have HC0:=ak hc0
 have hbb:=Kd.C_below hb hb0
 clear hB hc0 hb
 go_enter Tryz.func4,Tryz.ntmps4
 go_upto_region 1 with(fail)
 generalize hw0:W.alloc (.cells #[.int .i64 c.piece,.int .i64 c.small,.int .i64 c.max,.int .i64 c.limit,.int .i64 c.handles] 23)=w0 at hz hb0 hbb ⊢
 clear hw0
 obtain⟨kb,hkb⟩:∃kb,W.heap.size=kb:=⟨_,rfl⟩
 rw[hkb] at hz ⊢
 have HKB:=ak hkb
 have HZ:=ak hz
 have HB0:=ak hb0
 have HRB:=ak hbb
 clear hkb hz hb0 hbb
 have HX:=ak (fun w' (h:RowKit.Below w0.heap.size w0 w')=>(h.block _ (blk_lt HZ.out)).trans HZ.out)
 clear HZ
 go_upto_region 2 with(go_at_call 8;(with_reducible refine(HHD.out _).mono ?_);rintro e w1 ⟨rfl,hb1⟩;have HB1:=ak hb1;clear hb1)
 have HNW:=ak (new? 16777216 w0.heap.size w1 HB1.out.size)
 clear HHD
 go_upto_region 3 with(go_at_call 9;(with_reducible refine HNW.out.mono ?_);rintro e w2 ⟨g,F,rfl,hd2,hf2,hb2⟩;have HD2:=ak hd2;have HB2:=ak (HB1.out.trans (hb2.mono HB1.out.size));clear hd2 hf2 hb2)
 clear HNW HB1
 by_cases hbig:(b.length:Int) > 20000
 ·have d1:decide ((b.length:Int) > 20000)=true:=decide_eq_true hbig
  have d2:decide (b.length > 20000)=true:=decide_eq_true (by omega)
  have d3:decide (20000 < b.length)=true:=d2
  clear hbig
  go_wp2
  go_ret
  exact⟨rfl,HB0.out.trans (HB2.out.mono HB0.out.size)⟩
 have d1:decide ((b.length:Int) > 20000)=false:=decide_eq_false hbig
 have d2:decide (b.length > 20000)=false:=decide_eq_false (by omega)
 have d3:decide (20000 < b.length)=false:=d2
 have HL:=ak (show b.length≤20000 by omega)
 clear hbig
 have hop:=open_calls HD2.out (Fit.new _) 1048576
 rw[show openM (newM 16777216) 1048576=(some ⟨1048576,⟨[],1⟩,-1⟩,0) from rfl] at hop
 have HOP:=ak hop
 clear hop
 go_upto_region 8 with(go_at_call 11;(with_reducible refine HOP.out.mono ?_);rintro e w4 ⟨hb4,l,rfl,ho4,hl4⟩;have HB4:=ak (HB2.out.trans (hb4.mono HB2.out.size));have HD4:=ak (HD2.out.below hb4);have HO4:=ak ho4;clear hb4 ho4 hl4)
 clear HOP HB2 HD2
 have x0:w4.cell? ⟨kb,0,none⟩=some (.int .i64 c.piece):=(blk_cell (HX.out _ HB4.out) 0).trans rfl
 have x1:w4.cell? ⟨kb,1,none⟩=some (.int .i64 c.small):=(blk_cell (HX.out _ HB4.out) 1).trans rfl
 have x2:w4.cell? ⟨kb,2,none⟩=some (.int .i64 c.max):=(blk_cell (HX.out _ HB4.out) 2).trans rfl
 have x3:w4.cell? ⟨kb,3,none⟩=some (.int .i64 c.limit):=(blk_cell (HX.out _ HB4.out) 3).trans rfl
 have x4:w4.cell? ⟨kb,4,none⟩=some (.int .i64 c.handles):=(blk_cell (HX.out _ HB4.out) 4).trans rfl
 obtain⟨rc,hrc⟩:∃r,rightC c=r:=⟨_,rfl⟩
 cases rc with
 | false=>
  have HN:=ak (new_none l keyK 1 c w4 (newW_no hrc))
  have HRC:=ak (fun w=>by have h:=right_calls c w;rw[hrc] at h;exact h)
  clear hrc
  go_upto_region 10 with(go_at_call 12;(with_reducible refine HN.out.mono ?_);rintro e w5 ⟨rfl,hb5⟩;have HB5:=ak (HB4.out.trans (hb5.mono HB4.out.size));clear hb5)
  clear x0 x1 x2 x3 x4
  have x0:w5.cell? ⟨kb,0,none⟩=some (.int .i64 c.piece):=(blk_cell (HX.out _ HB5.out) 0).trans rfl
  have x1:w5.cell? ⟨kb,1,none⟩=some (.int .i64 c.small):=(blk_cell (HX.out _ HB5.out) 1).trans rfl
  have x2:w5.cell? ⟨kb,2,none⟩=some (.int .i64 c.max):=(blk_cell (HX.out _ HB5.out) 2).trans rfl
  have x3:w5.cell? ⟨kb,3,none⟩=some (.int .i64 c.limit):=(blk_cell (HX.out _ HB5.out) 3).trans rfl
  have x4:w5.cell? ⟨kb,4,none⟩=some (.int .i64 c.handles):=(blk_cell (HX.out _ HB5.out) 4).trans rfl
  go_wp2_with (go_at_call 18;(with_reducible refine(HRC.out _).mono ?_);rintro e w6 ⟨rfl,hb6⟩;have HB6:=ak (HB5.out.trans (hb6.mono HB5.out.size));clear hb6)
  go_ret
  exact⟨rfl,HB0.out.trans (HB6.out.mono HB0.out.size)⟩
 | true=>
 have HRG:=ak hrc
 clear hrc
 have HN:=ak (new_some l keyK 1 c w4 HRG.out he_key (by decide))
 go_upto_region 11 with(go_at_call 12;(with_reducible refine HN.out.mono ?_);rintro e w5 ⟨wb,cb,rfl,hb5,hw5,hc5,ho5,hu5⟩;have HA5:=ak (AtW.start HB4.out HD4.out (Fit.new _) HO4.out (Nat.zero_le _) HRG.out hb5 hw5 hc5 ho5 hu5);clear hb5 hw5 hc5 ho5 hu5)
 clear HN HB4 HD4 HO4 x0 x1 x2 x3 x4
 have HW1:=ak (HA5.out.writeI (by decide) HBB.out (by have:=HL.out;omega) a0 c0 HC0.out HRB.out)
 by_cases hmx:(b.length:Int) > c.max
 ·have d4:decide ((b.length:Int) > c.max)=true:=decide_eq_true hmx
  have d5:decide (c.max < (b.length:Int))=true:=d4
  have hno:=(WI.new (key:=keyK) (id:=1) HRG.out he_key (by decide)).write_no (q:=(newM 16777216,⟨1048576,⟨[],1⟩,-1⟩,wr0 keyK 1 c)) b (by have:=HL.out;omega) (by show c.max < _;simp;omega)
  rw[hno] at HW1
  clear hmx hno
  go_upto_region 12 with(go_at_call 14;(with_reducible refine HW1.out.mono ?_);rintro e w6 ⟨rfl,h6⟩;have HA6:=ak h6;clear h6)
  have x2:w6.cell? ⟨kb,2,none⟩=some (.int .i64 c.max):=(blk_cell (HX.out _ HA6.out.bel) 2).trans rfl
  have HSI:=ak HA6.out.size
  go_wp2_with (go_at_call 17;(with_reducible refine HSI.out.mono ?_);rintro e w8 ⟨rfl,hw⟩;obtain rfl:=hw.symm)
  go_ret
  exact⟨rfl,HB0.out.trans (HA6.out.bel.mono HB0.out.size)⟩
 have d4:decide ((b.length:Int) > c.max)=false:=decide_eq_false hmx
 have d5:decide (c.max < (b.length:Int))=false:=d4
 obtain⟨q,pl,ho1,ho2,ho3⟩:=once (lim:=1048576) keyK 1 c b 16777216 HRG.out he_key (by decide) HBB.out (by omega) (by decide) (by decide)
 rw[ho1] at HW1
 have HO2:=ak ho2
 have HO3:=ak ho3
 clear hmx ho1 ho2 ho3
 go_upto_region 12 with(go_at_call 14;(with_reducible refine HW1.out.mono ?_);rintro e w6 ⟨rfl,h6⟩;have HA6:=ak h6;clear h6)
 clear HW1 HA5
 have x2:w6.cell? ⟨kb,2,none⟩=some (.int .i64 c.max):=(blk_cell (HX.out _ HA6.out.bel) 2).trans rfl
 have HC1:=ak (show Calls Tryz.prog 15 #[ptr wb] w6 (fun e w'=>e=.returned (.tuple #[.agg #[.int .i64 pl.seg,.int .i64 pl.kind,.string pl.key,.int .i64 pl.at_,.int .i64 pl.size],.int .i64 0])∧AtW w0 w' l g wb cb (commitM q).1 2 (0+b.length)) from(HA6.out.commit (by decide) (by have:=HL.out;omega)).mono (by rintro e w' ⟨rfl,h⟩;rw[HO2.out];exact⟨rfl,h⟩))
 go_upto_region 15 with(go_at_call 15;(with_reducible refine HC1.out.mono ?_);rintro e w7 ⟨rfl,h7⟩;have HA7:=ak h7;clear h7)
 clear x2 HC1 HA6
 have hp8:=heap_alloc_new w7 (.cells (placeV pl) 47)
 have hb8:=below_alloc (RowKit.Below.refl w7.heap.size w7) (.cells (placeV pl) 47)
 generalize hw8:w7.alloc (.cells #[.int .i64 pl.seg,.int .i64 pl.kind,.string pl.key,.int .i64 pl.at_,.int .i64 pl.size] 47)=w8 at hp8 hb8 ⊢
 clear hw8
 have HA8:=ak (HA7.out.below hb8)
 obtain⟨pb,hpb⟩:∃pb,w7.heap.size=pb:=⟨_,rfl⟩
 rw[hpb] at hp8 ⊢
 have HP8:=ak hp8
 clear hp8 hb8 hpb HA7
 have HLO:=ak (HA8.out.locs (by have:=HL.out;omega))
 generalize hpcs:(commitM q).1=q2 at HA8 HLO HO3
 clear hpcs
 go_upto_region 18 with(go_at_call 19;(with_reducible refine HLO.out.mono ?_);rintro e w9 ⟨A9,c9,rfl,hr9,hb9⟩;have HR9:=ak (Kd.R_reads' hr9).2.2;have HA9:=ak (HA8.out.below hb9);have HP9:=ak ((hb9.block _ (blk_lt HP8.out)).trans HP8.out);clear hr9 hb9)
 clear HLO HA8 HP8
 have HE:=ak (HB0.out.trans (HA9.out.bel.mono HB0.out.size))
 have x0:w9.cell? ⟨kb,0,none⟩=some (.int .i64 c.piece):=(blk_cell (HX.out _ HA9.out.bel) 0).trans rfl
 have x1:w9.cell? ⟨kb,1,none⟩=some (.int .i64 c.small):=(blk_cell (HX.out _ HA9.out.bel) 1).trans rfl
 have y3:=bq HP9.out 3 (.int .i64 pl.at_)
 rcases HO3.out with⟨h1,h2,h3⟩ | ⟨h1,parts,h2,h3,h4,h5,h6⟩
 ·have q1:decide ((b.length:Int)≤c.small)=true:=decide_eq_true h1
  have hl0:(locsW q2.2.2).length=0:=by rw[locsW_eq,h2];rfl
  rw[hl0]
  rw[h3] at y3
  clear h1 h2 h3 hl0 HO3
  go_wp2
  go_ret
  exact⟨rfl,HE.out⟩
 have q1:decide ((b.length:Int)≤c.small)=false:=decide_eq_false (by omega)
 have hlen:(locsW q2.2.2).length=parts.length:=by rw[locsW_eq,List.length_map,h2,locsAt_len]
 have hle:=congrArg List.length h4
 have HPL:=ak (show ∀k (h:k < parts.length),(parts[k].length:Int)=min c.piece (b.length - k*c.piece) from h5)
 have HPN:=ak h6
 have hcf:=right_cfg HRG.out
 have hpn:parts.length≤20000:=by
  have h7:(parts.length:Int)≤b.length:=by
   rw[h6]
   have:=HL.out
   have h8:(b.length+c.piece - 1) / c.piece≤b.length:=by
    apply Int.ediv_le_of_le_mul (by omega)
    have h9:(b.length:Int)*1≤b.length*c.piece:=Int.mul_le_mul_of_nonneg_left hcf.1 (by omega)
    have h10:1≤(b.length:Int):=by omega
    have h11:(c.piece - 1)*1≤(c.piece - 1)*b.length:=Int.mul_le_mul_of_nonneg_left h10 (by omega)
    have h12:(c.piece - 1)*(b.length:Int)=b.length*c.piece - b.length:=by
     rw[Int.sub_mul,Int.one_mul,Int.mul_comm]
    omega
   exact h8
  have:=HL.out
  omega
 have HPM:=ak hpn
 have HWD:=ak (show ∀k,k≤parts.length→wide (parts.take k)≤400000 from fun k hk=>by
  rw[wide_eq,List.length_take]
  have h7:=take_flat parts k
  have:=HL.out
  omega)
 have HGT:=ak (show ∀k (h:k < parts.length),∃h',(locsW q2.2.2)[k]'h'=(⟨1,((13+wide (parts.take k):Nat):Int),((parts[k].length+17:Nat):Int)⟩:Lo) from fun k hk=>⟨by rw[hlen];exact hk,by
  have e:locsW q2.2.2=(locsAt 13 parts).map locOf:=by rw[locsW_eq,h2]
  simp only[e,List.getElem_map]
  rw[locsAt_get parts 13 k (by rw[locsAt_len];exact hk) hk]
  show(⟨1,_,wrap64 ((parts[k].length:Int)+17)⟩:Lo)=_
  rw[wrap_17 parts[k].length (by
   have h7:=HWD.out (k+1) hk
   rw[wide_snoc parts k hk] at h7
   omega)]⟩)
 have HCF:=ak hcf
 have HAT:=ak (show pl.at_=((13+wide parts:Nat):Int) from h3)
 rw[hlen] at HR9 ⊢
 have hR9:=HR9.out
 rw[← hlen] at hR9
 have HRL:=ak hR9
 have HLEN:=ak hlen
 clear h1 h2 h3 h4 h5 h6 hle hcf hpn hR9 HO3 HO2 hlen
 go_wp2
 go_loopg [14,15] parts.length (fun kq v14 v15 wr=>∃(k:Nat),v14=.int .i64 (13+wide (parts.take k):Nat)∧v15=.int .i64 k∧Aside0 (k+kq=parts.length)∧Aside0 (RowKit.Below w9.heap.size w9 wr))
 case atStart=>exact⟨0,rfl,rfl,⟨by omega⟩,⟨RowKit.Below.refl _ _⟩⟩
 case round=>
  obtain⟨k,rfl,rfl,HQ,HB⟩:=hrel
  have x0:=pw_cell_below HB.out x0
  have y3:=pw_cell_below HB.out y3
  cases gk with
  | zero=>
   obtain rfl:k=parts.length:=by have:=HQ.out;omega
   have d1:decide ((parts.length:Int) < (parts.length:Int))=false:=decide_eq_false (by omega)
   have d2:decide (parts.length < parts.length)=false:=decide_eq_false (by omega)
   rw[List.take_length]
   rw[HAT.out] at y3
   have HHE:=ak (HB0.out.trans ((HA9.out.bel.trans (HB.out.mono HA9.out.bel.size)).mono HB0.out.size))
   have hcf:=HCF.out
   have hp0:¬c.piece=0:=by omega
   have hv:wrap64 ((wrap64 (wrap64 ((b.length:Int)+c.piece) - 1)).tdiv c.piece)=(parts.length:Int):=by
    have hl:=HL.out
    have e1:wrap64 ((b.length:Int)+c.piece)=b.length+c.piece:=by unfold wrap64;omega
    have e2:wrap64 ((b.length:Int)+c.piece - 1)=b.length+c.piece - 1:=by unfold wrap64;omega
    rw[e1,e2,Int.tdiv_eq_ediv_of_nonneg (by omega),← HPN.out]
    have:=HPM.out
    unfold wrap64
    omega
   clear hcf
   go_wp2
   go_ret
   exact⟨rfl,HHE.out⟩
  | succ gk=>
   have hk0:k < parts.length:=by have:=HQ.out;omega
   have d1:decide ((k:Int) < (parts.length:Int))=true:=decide_eq_true (by omega)
   have d2:decide (k < parts.length)=true:=decide_eq_true hk0
   obtain⟨hk',hgt⟩:=HGT.out k hk0
   obtain⟨ad,e0,z0,z1,z2⟩:=at_lo (Kd.C_below HRL.out HB.out) k hk'
   subst e0
   rw[hgt] at z0 z1 z2
   have hpl:=HPL.out k hk0
   have hws:=wide_snoc parts k hk0
   have hwd:=HWD.out (k+1) hk0
   rw[hws] at hwd
   have HWS:=ak hws
   generalize parts[k]=x at z0 z1 z2 hpl hwd HWS
   have b0:(0:Int)≤(k:Int):=by omega
   have b1:(k:Int) < (parts.length:Int):=by omega
   have HPK:=ak hpl
   have HWK:=ak hwd
   clear hgt hws hpl hwd y3
   have hv:min c.piece (wrap64 ((b.length:Int) - wrap64 ((k:Int)*c.piece)))=(x.length:Int):=by
    have hcf:=HCF.out
    have h1:=HPK.out
    have h2:=HL.out
    have h3:=HPM.out
    have e1:(c.piece.toNat:Int)=c.piece:=by omega
    have e2:=mul_in k c.piece.toNat (by omega) (by omega)
    have h5:k*c.piece.toNat≤100000*100000:=Nat.mul_le_mul (by omega) (by omega)
    have h6:((k*c.piece.toNat:Nat):Int)=(k:Int)*c.piece:=by rw[Int.natCast_mul,e1]
    rw[e1] at e2
    rw[e2,h1]
    congr 1
    unfold wrap64
    omega
   have z1:wr.cell? ⟨(ad.add (k*3)).block,(ad.add (k*3)).off+1,none⟩=some (.int .i64 (13+(wide (parts.take k):Int))):=z1
   have z2:wr.cell? ⟨(ad.add (k*3)).block,(ad.add (k*3)).off+2,none⟩=some (.int .i64 ((x.length:Int)+17)):=z2
   have hw17:wrap64 ((x.length:Int)+17)=(x.length:Int)+17:=by have:=HWK.out;unfold wrap64;omega
   go_upto_region 25 with(fail)
   clear hv
   go_wp2
   go_roundg gk
   case measure=>omega
   case rel=>exact⟨k+1,by
    rw[HWS.out]
    have h1:=HWK.out
    congr 1
    generalize wide (parts.take k)=z at *
    unfold wrap64
    omega,by rw[wrap_k k (by have:=HPM.out;omega)],⟨by have:=HQ.out;omega⟩,HB⟩
theorem PutPieces.walk (c:Cfg) (a0:Option Addr) (n0 c0:Nat) (z0:List Int) (W:World)
  (h0:z0.length=n0∧n0≤c0∧c0≤maxLen∧Kd.C (Kd.int .u8) W a0 n0 z0∧n0*1≤reachBytes∧∀y∈z0,(Lit.int .u8 y).wf=true):
  Calls Tryz.prog 4 #[.agg (cfgV c),.slice a0 n0 c0] W fun e w'=>e=.returned (.bool true)∧RowKit.Below W.heap.size W w':=by
 obtain⟨rfl,p0,m0,q0,r0,s0⟩:=h0
 exact pieces_calls c a0 c0 z0 W p0 q0 (Pure.bytes_of_wf z0 s0)
end Go.Proofs.YtcieieacfoaklaaGreat.Pw
end
section
/- The statement PutPieces, out of the walk of the law. -/
namespace Go.Proofs.YtcieieacfoaklaaGreat.putPieces
open Go.ChangeShapes Go.WideShapes Go.ChangeAt Go.RowKit
open Go.ChangeMaps (open_string shut_string)
theorem own:ownKnob Tryz.prog.godebug=none:=by kernel_rfl
theorem laidOut:laidOutB Tryz.prog=true:=by kernel_rfl
theorem lifted (os:Os) (started:os.Started) (H:Type) (enc:TypeId×Value→H):
  ReturnsInHanded {} Tryz.checked os 4 .any (Rows.putPiecesSpec.pre6 enc Tryz.prog Tryz.f4 Rows.putPiecesRow.domain false) (Rows.putPiecesSpec.post enc Tryz.prog Tryz.f4 false true false false):=by
 refine returnsInHanded_of_change_sized (C:=Tryz.checked) own started (by kernel_rfl) Tryz.func4
  (ChangeSpec.witness6 (enc:=enc) (C:=Tryz.checked) false ⟨#[],#[.agg #[.int .i64 0,.int .i64 0,.int .i64 0,.int .i64 0,.int .i64 0],.slice none 0 0],[]⟩ 8 (by kernel_rfl) (by kernel_rfl) (by kernel_rfl) (by kernel_rfl)) ?_
 intro W base args ds gs before hval0 hW hcnd hsz0 _
 have hsz:(DataW.weightsEach Tryz.prog (Tryz.f4.params.toList++Rows.putPiecesSpec.plain.varTypes Tryz.prog) (ds++gs)).all (·≤reachBytes)=true:=hsz0
 have hval:∀(j:Nat) t v,Tryz.f4.params[j]? =some t→args[j]? =some v→Value.okWide Tryz.prog W .any base t v:=hval0
 have hW':=hW
 obtain⟨p,q,hA0,hV,rfl,hfz,hnd⟩:=hW
 have hA:DataW.TrodAll enc Tryz.prog W 0 (fun _=>true) true Tryz.f4.params.toList args.toList ds p:=hA0
 rw[Tryz.params4] at hA hval hsz
 obtain⟨v0,vs0,d0,ds0,p0,q0,hargs,rfl,rfl,h0,r0⟩:=trodAll_cons hA
 obtain⟨v1,vs1,d1,ds1,p1,q1,rfl,rfl,rfl,h1,r1⟩:=trodAll_cons r0
 obtain⟨rfl,rfl,rfl⟩:=trodAll_nil r1
 obtain rfl:args=#[v0,v1]:=by cases args;simp_all
 obtain⟨rfl,rfl⟩:=trodVars_none hV
 have k0:=h0
 have lt0:∀x∈p0,x.block < W.heap.size:=by obtain⟨m,hm⟩:=k0;exact DataW.trod_lt m _ _ _ hm
 obtain⟨a0,rfl⟩:=HrC.open_cfg (hval 0 23 v0 rfl rfl) h0
 obtain⟨a1,len1,cap1,rfl⟩:=okWide_slice Tryz.underlying35 (hval 1 35 v1 rfl rfl)
 have k1:=h1
 have lt1:∀x∈p1,x.block < W.heap.size:=by obtain⟨m,hm⟩:=k1;exact DataW.trod_lt m _ _ _ hm
 obtain⟨f1,hf1⟩:=h1
 obtain⟨z1,w1⟩:=HrW.opensW_row (B:=1) Tryz.underlying35 (by kernel_rfl) (by kernel_rfl) (HrW.opensW_int Tryz.underlying5) hf1 (HrW.light_each hsz 1 _ _ rfl rfl)
 clear hA0 hval0 hsz0 hsz
 refine(Pw.PutPieces.walk a0 a1 len1 cap1 z1 W w1).mono fun e W' ⟨he,bel⟩=>?_
 subst he
 exact⟨_,rfl,_,_,_,[],_,[],hW',trodAll_mk1 (shut_bool Tryz.underlying4 _),(trodAll_cons_mk (Below.trod laidOut (by kernel_rfl) (of_decide_eq_true (by kernel_rfl)) k0 bel lt0) (trodAll_cons_mk (Below.trod laidOut (by kernel_rfl) (of_decide_eq_true (by kernel_rfl)) k1 bel lt1) trodAll_mk0)),rfl,bel.frame _,fun h=>by cases h⟩
theorem closed:joinedFacts Tryz.pinned.checked.prog 4 Tryz.f4 Rows.putPiecesSpec Rows.putPiecesRow=true:=of_decide_eq_true (by kernel_rfl)
theorem over:Rows.putPiecesRow.holds Tryz.pinned (OpenSpec.ofChange Rows.putPiecesSpec):=
 OpenClaim.holds_of_wide 4 Tryz.f4 rfl rfl rfl rfl rfl rfl rfl ⟨rfl,rfl,rfl,rfl,rfl⟩ rfl rfl rfl rfl rfl (by kernel_rfl) Tryz.func4 closed
  (of_decide_eq_true (by kernel_rfl)) (by unfold Func.isWrapper;first | (rw[if_pos (by decide+kernel)];kernel_rfl) | (rw[if_neg (by decide+kernel)];exact⟨rfl,rfl⟩))
  (fun os started H enc _=>lifted os started H enc)
theorem proved:Rows.PutPiecesSaid:=over
#print axioms proved
end Go.Proofs.YtcieieacfoaklaaGreat.putPieces
namespace Go.Proofs.YtcieieacfoaklaaGreat
theorem putPieces_holds:Rows.PutPiecesSaid:=putPieces.proved
end Go.Proofs.YtcieieacfoaklaaGreat
end
