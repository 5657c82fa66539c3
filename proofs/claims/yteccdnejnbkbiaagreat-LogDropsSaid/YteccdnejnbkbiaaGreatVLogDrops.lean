/- The statement LogDrops holds: for every input the law answers true. The texts are joined. -/
import Derived.Test.YteccdnejnbkbiaaGreatV5
import Derived.Test.YteccdnejnbkbiaaGreatProg
import Derived.Below
import Derived.Deep.Draws
import Derived.Deep.AppendLies
import Derived.Maps.AppendAt
import Derived.OwnWalk
import Derived.Laws.BytesArg
import Derived.Laws.MakeOwn
import Derived.Laws.OwnMore
import Derived.Deep.OwnRows
import Derived.Tactics
import Derived.Lib.ConvBytes
import Derived.Laws.Slices
import Derived.WalkKit
import Derived.KernelRfl
import Derived.RowKit3
import Derived.Deep.LoopGhost
import Derived.Deep.QuietTactic
import Derived.BigQuiet
import Derived.WideLaws
import Derived.Deep.DeepCutAuto
import Derived.Deep.CutBlock
import Derived.Deep.RegionHeld3
import Derived.Laws.Rows
import Derived.Lib.AppendStr
import Derived.ArgAppend
import Derived.Laws.IdiomCopy
import Derived.OrdersHeld
import Derived.Laws.BitsLemmas
import Derived.RowKit
import Derived.Test.YteccdnejnbkbiaaGreatV0
import Derived.Test.YteccdnejnbkbiaaGreatV1
import Derived.Test.YteccdnejnbkbiaaGreatV2
import Derived.Test.YteccdnejnbkbiaaGreatV6
import Derived.Test.YteccdnejnbkbiaaGreatRows
import Derived.ProofKit
import Derived.OpenShut
import Derived.ShutString
import Derived.ChangeOld
import Derived.SizedLaws
import Derived.Test.YteccdnejnbkbiaaGreatV4
set_option linter.unusedVariables false
set_option linter.unusedSimpArgs false
set_option maxRecDepth 100000
set_option maxHeartbeats 8000000
section
namespace Go.Proofs.YteccdnejnbkbiaaGreat.Dr
open Go.RowKit Go.Shelf Go.Maps Go.Sort Go.WideShapes Fr Ext Go.Proofs.YteccdnejnbkbiaaGreat.Nm Dk Mn Qd YteccdnejnbkbiaaGreatW.PrintWords YteccdnejnbkbiaaGreatW.PrintLast YteccdnejnbkbiaaGreatW.PrintMore
open Sg (segN firstB)
open Lg
open Rc (Re)
open Gt (M0 put_size ladd_wrong)
variable {M:DiskM} {S:LogS} {c:View} {a n:Nat} {m:Int} {s t:ByteArray} {b bs:List Int} {k:Int}
abbrev St:=DiskM×LogS
def S1 (lim:Int):LogS:=⟨lim,⟨[],1⟩,-1⟩
def addS (p:St) (R:Re):St:=((laddM p.1 p.2 R).1,(laddM p.1 p.2 R).2.1)
def asM (lim:Int) (l:List Re):St:=l.foldl addS (M0,S1 lim)
theorem asM_snoc (lim:Int) (l:List Re) (R:Re):asM lim (l++[R])=addS (asM lim l) R:=by unfold asM;rw[List.foldl_append];rfl
theorem fold_fit:∀(l:List Re) (p:St),Fit p.1→(∀R∈l,IsBytes R.f6)→Fit (l.foldl addS p).1
 | [],_,h,_=>h
 | R::l,p,h,hb=>fold_fit l (addS p R) (laddM_fit h _ _ (La.putM_isBytes _ (hb R (by simp)))) (fun x hx=>hb x (by simp [hx]))
theorem asM_fit (lim:Int) (l:List Re) (h:∀R∈l,IsBytes R.f6):Fit (asM lim l).1:=fold_fit l _ (Fit.new _) h
structure DI (p:St) (k:Nat) (c:View) (a n:Nat):Prop where
 lv:LV p.1 p.2 c a n 4194304
 none_:p.2.last < 0→c=fun _=>none
 room:a+9*((c (segN p.2.last)).getD []).length≤54000*k
 files:n≤3*k
 many:p.2.man.segs.length≤k
 next:p.2.man.next≤k+1
theorem DI.zero (lim:Int):DI (M0,S1 lim) 0 (fun _=>none) 0 0:=⟨LV.new (x:=4194304) lim,fun _=>rfl,Nat.le_refl _,Nat.le_refl _,Nat.le_refl _,Int.le_refl _⟩
theorem DI.more {p:St} {k:Nat} (h:DI p k c a n):DI p (k+1) c a n:=by
 have h1:=h.room;have h2:=h.files;have h3:=h.many;have h4:=h.next
 exact⟨h.lv,h.none_,by omega,by omega,by omega,by omega⟩
theorem DI.step {p:St} {k:Nat} (h:DI p k c a n) (R:Re) (h6:IsBytes R.f6) (hk:k < 60):∃c a n,DI (addS p R) (k+1) c a n:=by
 obtain⟨M,S⟩:=p
 have hrm:=h.room
 have hfl:=h.files
 have hmy:=h.many
 have hnx:=h.next
 dsimp only at hrm hmy hnx
 unfold addS
 dsimp only
 cases hr:Rc.rightM R with
 | false=>
  rw[ladd_wrong M S hr]
  exact⟨_,_,_,h.more⟩
 | true=>
  obtain⟨z1,z2,z3,z4⟩:=put_size hr
  have hsz:¬sizeI ((Rc.putM R).length:Int)=0:=by rw[z4];omega
  unfold laddM
  rw[if_neg hsz]
  split
  ·-- a Roll ahead
   obtain⟨M',e1,l1⟩:=h.lv.roll (z:=((c (segN S.last)).getD []).length) (fun b hb=>by rw[hb];exact Nat.le_refl _) (by show S.man.segs.length < 1000;omega) (by show S.man.next < 99999999;omega) (by omega) (by show((a+13+(4*S.man.segs.length+19)+(9*((c (segN S.last)).getD []).length+21):Nat):Int)≤4194304;omega)
   have e1':rollM M S=(M',rollS S,0):=e1
   have hll:=h.lv.last_lt
   have hnn:=h.lv.next_le
   have k0:(0:Int)≤S.man.next:=hnn.1
   have k1:S.man.next≤99999999:=hnn.2
   have hseg:rollC c S (segN S.man.next)=some (putL (firstB S.man.next)):=by
    unfold rollC
    split
    ·rename_i h0
     rw[upd_ne _ _ (seg_hint k0 k1 h0 (by have h9:S.last < S.man.next:=hll.2;omega)),upd_ne _ _ (seg_man k0 k1),upd_self]
    ·rw[upd_ne _ _ (seg_man k0 k1),upd_self]
   have hl:=first_len S.man.next
   obtain⟨M2,e2,l2⟩:=l1.end_ (R:=R) k0 hseg hr h6 (by rw[z3];show((a+13+(4*S.man.segs.length+19)+(9*((c (segN S.last)).getD []).length+21)+((Rc.putM R).length+8):Nat):Int)≤4194304;omega)
   rw[e1']
   unfold addRoll
   dsimp only
   rw[if_pos rfl]
   have e2':addEnd M' (rollS S) R=(M2,rollS S,S.man.next,((putL (firstB S.man.next)).length:Int),((putL (Rc.putM R)).length:Int),0):=e2
   rw[e2']
   refine⟨_,_,_,l2,?_,?_,?_,?_,?_⟩
   ·intro e;have e':S.man.next < 0:=e;omega
   ·show _+9*((upd _ (segN S.man.next) _ (segN S.man.next)).getD []).length≤_
    rw[upd_self,Option.getD_some,List.length_append,hl,z3]
    show a+13+(4*S.man.segs.length+19)+(9*((c (segN S.last)).getD []).length+21)+((Rc.putM R).length+8)+9*(13+((Rc.putM R).length+8))≤_
    omega
   ·omega
   ·show(S.man.segs++[S.man.next]).length≤_
    rw[List.length_append]
    show S.man.segs.length+1≤_
    omega
   ·show wrap64 (S.man.next+1)≤_
    unfold wrap64
    omega
  ·rename_i hw
   have hw':wantsRoll M S (sizeI ((Rc.putM R).length:Int))=false:=Bool.eq_false_iff.mpr hw
   unfold wantsRoll at hw'
   rw[Bool.or_eq_false_iff] at hw'
   have h0:0≤S.last:=by have:=of_decide_eq_false hw'.1;omega
   obtain⟨b,hb⟩:=h.lv.segs _ (h.lv.last_mem h0)
   have hb':c (segN S.last)=some b:=hb
   rw[hb',Option.getD_some] at hrm
   obtain⟨M2,e2,l2⟩:=h.lv.end_ (R:=R) h0 hb hr h6 (by rw[z3];omega)
   have e2':addEnd M S R=(M2,S,S.last,(b.length:Int),((putL (Rc.putM R)).length:Int),0):=e2
   rw[e2']
   refine⟨_,_,_,l2,?_,?_,by omega,by show S.man.segs.length≤_;omega,by show S.man.next≤_;omega⟩
   ·intro e;have e':S.last < 0:=e;omega
   ·show _+9*((upd c (segN S.last) _ (segN S.last)).getD []).length≤_
    rw[upd_self,Option.getD_some,List.length_append,z3]
    omega
theorem DI.of (lim:Int) (l:List Re):∀k,k≤l.length→k≤60→(∀R∈l,IsBytes R.f6)→∃c a n,DI (asM lim (l.take k)) k c a n
 | 0,_,_,_=>⟨_,_,_,DI.zero lim⟩
 | k+1,h,h2,hb=>by
  rw[List.take_succ_eq_append_getElem (by omega),asM_snoc]
  obtain⟨c,a,n,h1⟩:=DI.of lim l k (by omega) (by omega) hb
  exact h1.step _ (hb _ (List.getElem_mem _)) (by omega)
theorem rises_le:∀(l:List Int) (x y:Int),x≤y→risesB y l=true→risesB x l=true
 | [],_,_,_,_=>rfl
 | z::l,x,y,h,h1=>by
  unfold risesB at h1 ⊢
  split at h1
  ·cases h1
  split at h1
  ·cases h1
  rw[if_neg (by omega),if_neg (by omega)]
  exact h1
theorem rises_filter (q:Int→Bool):∀(l:List Int) (x y:Int),risesB x (l++[y])=true→risesB x (l.filter q++[y])=true
 | [],_,_,h=>h
 | z::l,x,y,h=>by
  rw[List.cons_append] at h
  unfold risesB at h
  split at h
  ·cases h
  split at h
  ·cases h
  have ih:=rises_filter q l z y h
  rw[List.filter_cons]
  split
  ·rw[List.cons_append]
   unfold risesB
   rw[if_neg (by omega),if_neg (by omega)]
   exact ih
  ·exact rises_le _ x z (by omega) ih
def dropC (segs:List Int):List Int→View→View
 | [],c=>c
 | k::r,c=>dropC segs r (if segs.contains k=true then upd (upd c (segN k) none) (hintN k) none else c)
theorem Sees.drops (segs:List Int):∀(L:List Int) {M:DiskM} {c:View},Sees M c a n m→Sees (dropsM segs L M) (dropC segs L c) a n m
 | [],_,_,h=>h
 | k::L,M,c,h=>by
  unfold dropsM dropC
  split
  ·refine Sees.drops segs L ?_
   show Sees (gone1 (gone1 M (segN k)).1 (hintN k)).1 _ _ _ _
   exact((h.gone (segN k)).2.gone (hintN k)).2
  ·exact Sees.drops segs L h
theorem drop_seg (segs:List Int) {k:Int} (k0:0≤k) (k1:k≤99999999):∀(L:List Int) (c:View),(∀x∈L,0≤x∧x≤99999999)→dropC segs L c (segN k)=if L.contains k=true∧segs.contains k=true then none else c (segN k)
 | [],_,_=>rfl
 | x::L,c,hL=>by
  have hx:=hL x (by simp)
  unfold dropC
  rw[drop_seg segs k0 k1 L _ (fun y hy=>hL y (by simp [hy]))]
  have e3:(upd (upd c (segN x) none) (hintN x) none) (segN k)=if k=x then none else c (segN k):=by
   rw[upd_ne _ _ (seg_hint k0 k1 hx.1 hx.2)]
   by_cases e:k=x
   ·rw[if_pos e,e,upd_self]
   ·rw[if_neg e,upd_ne _ _ (fun e2=>e (by rw[segN_inj k0 k1 hx.1 hx.2] at e2;exact e2))]
  by_cases h1:segs.contains x=true
  ·rw[if_pos h1,e3]
   by_cases e:k=x
   ·subst e
    rw[if_pos rfl,if_pos (show(k::L).contains k=true∧segs.contains k=true from⟨by simp,h1⟩)]
    split <;> rfl
   ·rw[if_neg e]
    have:(x::L).contains k=L.contains k:=by simp [List.contains_cons,e]
    rw[this]
  ·rw[if_neg h1]
   by_cases e:k=x
   ·subst e
    rw[if_neg (fun h=>h1 h.2),if_neg (fun h=>h1 h.2)]
   ·have:(x::L).contains k=L.contains k:=by simp [List.contains_cons,e]
    rw[this]
theorem drop_hint (segs:List Int) {k:Int} (k0:0≤k) (k1:k≤99999999) (hk:segs.contains k=true):∀(L:List Int) (c:View),(∀x∈L,0≤x∧x≤99999999)→(L.contains k=true∨c (hintN k)=none)→dropC segs L c (hintN k)=none
 | [],c,_,h=>by
  rcases h with h | h
  ·cases h
  ·exact h
 | x::L,c,hL,h=>by
  have hx:=hL x (by simp)
  unfold dropC
  refine drop_hint segs k0 k1 hk L _ (fun y hy=>hL y (by simp [hy])) ?_
  by_cases e:k=x
  ·subst e
   rw[if_pos hk,upd_self]
   exact .inr rfl
  ·rcases h with h | h
   ·left
    rw[List.contains_cons] at h
    simpa [e] using h
   ·right
    split
    ·rw[upd_ne _ _ (fun e2=>e (by rw[hintN_inj k0 k1 hx.1 hx.2] at e2;exact e2)),upd_ne _ _ (fun e2=>seg_hint hx.1 hx.2 k0 k1 e2.symm)]
     exact h
    ·exact h
def okSeg (S:LogS) (x:Int):Bool:=S.man.segs.contains x && (!decide (0≤S.last) || decide (x≠max S.last 0))
theorem ok_wrong {p:St} {k:Nat} (h:DI p k c a n) (x:Int):okSeg p.2 x=!wrongB p.2 x:=by
 obtain⟨M,S⟩:=p
 unfold okSeg wrongB
 dsimp only
 have hll:-1≤S.last:=h.lv.last_lt.1
 by_cases h0:0≤S.last
 ·rw[decide_eq_true h0,Int.max_eq_left h0]
  by_cases e:x=S.last
  ·subst e;simp
  ·have e1:(x==S.last)=false:=beq_eq_false_iff_ne.mpr e
   rw[e1,decide_eq_true e]
   simp
 ·have hs:S.man.segs=[]:=by
   rcases h.lv.last with⟨e,_⟩ | ⟨q,e⟩
   ·exact e
   ·have e':S.man.segs=q++[S.last]:=e
    have h1:-1 < S.last:=(rises_lt _ _ _ h.lv.rises S.last (by show S.last∈S.man.segs;rw[e'];simp)).1
    omega
  rw[hs]
  simp
theorem all_not {S:LogS} (h:∀x,okSeg S x=!wrongB S x) (l:List Int):l.all (okSeg S)=!l.any (wrongB S):=by
 induction l with
 | nil=>rfl
 | cons x l ih=>rw[List.all_cons,List.any_cons,ih,h x,Bool.not_or]
theorem DI.drop {p:St} {k:Nat} (h:DI p k c a n) (hk:k≤60) (segs:List Int) (hf:segs.all (okSeg p.2)=true):(dropM p.1 p.2 segs).2.2=0∧(dropM p.1 p.2 segs).2.1.man.segs=p.2.man.segs.filter (fun x=>!segs.contains x)∧
  ∀x∈p.2.man.segs,(Dk.look (dropM p.1 p.2 segs).1.D (segN x)).isSome=!segs.contains x∧(segs.contains x=true→(Dk.look (dropM p.1 p.2 segs).1.D (hintN x)).isSome=false):=by
 obtain⟨M,S⟩:=p
 have hrm:=h.room
 have hfl:=h.files
 have hmy:S.man.segs.length≤k:=h.many
 have hnx:=h.lv.next_le
 have hnn:S.man.next≤k+1:=h.next
 rw[all_not (ok_wrong h),Bool.not_eq_true'] at hf
 unfold dropM
 dsimp only
 rw[if_neg (by rw[hf];decide)]
 have hml:=Qd.putM_len (dropMan S segs)
 have hl2:(dropMan S segs).segs.length≤S.man.segs.length:=List.length_filter_le _ _
 have hr:rightM (dropMan S segs)=true:=by
  unfold rightM dropMan
  have h1:risesB (-1) (S.man.segs++[S.man.next])=true:=h.lv.rises
  rw[rises_filter _ _ _ _ h1,Bool.true_and,decide_eq_true_eq]
  exact Nat.le_trans (List.length_filter_le _ _) (by omega)
 obtain⟨e1,s1⟩:=h.lv.sees.save hr (by omega) (by omega)
 rw[if_pos e1]
 have hL:∀x∈S.man.segs,0≤x∧x≤99999999:=fun x hx=>by
  have:=rises_lt _ _ _ h.lv.rises x hx
  have h9:S.man.next≤99999999:=hnx.2
  have:-1 < x∧x < S.man.next:=this
  omega
 refine⟨rfl,rfl,fun x hx=>?_⟩
 have s2:=Sees.drops segs S.man.segs s1
 have hx1:=hL x hx
 dsimp only
 rw[s2.isSome,s2.isSome]
 refine⟨?_,fun hc=>?_⟩
 ·rw[drop_seg segs hx1.1 hx1.2 _ _ hL]
  by_cases hc:segs.contains x=true
  ·rw[if_pos ⟨List.contains_iff_mem.mpr hx,hc⟩,hc];rfl
  ·rw[if_neg (fun e=>hc e.2),upd_ne _ _ (seg_man hx1.1 hx1.2),upd_ne _ _ (seg_temp hx1.1 hx1.2)]
   obtain⟨b,hb⟩:=h.lv.segs x hx
   rw[hb,Bool.eq_false_iff.mpr hc];rfl
 ·rw[drop_hint segs hx1.1 hx1.2 hc _ _ hL (.inl (List.contains_iff_mem.mpr hx))];rfl
theorem DI.not_dropped {p:St} {k:Nat} (h:DI p k c a n) (segs:List Int) (hf:segs.all (okSeg p.2)=false):dropM p.1 p.2 segs=(p.1,p.2,1):=by
 rw[all_not (ok_wrong h),Bool.not_eq_false'] at hf
 unfold dropM
 rw[if_pos hf]
end Go.Proofs.YteccdnejnbkbiaaGreat.Dr
end
section
namespace Go.Proofs.YteccdnejnbkbiaaGreat.Pm
open Go.RowKit YteccdnejnbkbiaaGreatW.PrintWords YteccdnejnbkbiaaGreatW.PrintLast YteccdnejnbkbiaaGreatW.PrintMore
attribute [local go_sem] max2_int min2_int max_two min_two max_three min_three max_four min_four   -- for this text's walks alone



def errW:Option Int→Value
 | none=>.nilIface
 | some c=>.iface 0 (.int .i64 c)
theorem errW_none:errW none=.nilIface:=rfl
theorem errW_some (c:Int):errW (some c)=.iface 0 (.int .i64 c):=rfl

end Go.Proofs.YteccdnejnbkbiaaGreat.Pm
end
section
namespace Go.Proofs.YteccdnejnbkbiaaGreat.Pm
open Go.RowKit YteccdnejnbkbiaaGreatW.PrintWords YteccdnejnbkbiaaGreatW.PrintLast YteccdnejnbkbiaaGreatW.PrintMore
attribute [local go_sem] max2_int min2_int max_two min_two max_three min_three max_four min_four   -- for this text's walks alone

open Ext
mutual
def souterrainref05_Of.j0:Nat→Int→Int→Bool→Option (ByteArray)
 | 0,_,_,_=>none
 | k+1,x0,x1,x28=>if x28=true then(some (⟨#[]⟩:ByteArray)) else(if x0=3 then(some (⟨#[109]⟩:ByteArray)) else(if x0=4 then(some (⟨#[116]⟩:ByteArray)) else(souterrainref05_Of.l0 k x0 x1 (⟨#[]⟩:ByteArray) 0)))
def souterrainref05_Of.l0:Nat→Int→Int→ByteArray→Int→Option (ByteArray)
 | 0,_,_,_,_=>none
 | k+1,x0,x1,x5,x6=>if x6 < 8 then((some (([(wrap64 (48+(Int.tmod x1 10))) % 256]:List Int):List Int)).bind fun y147=>(if(strOfNums y147).size+x5.size≤9223372036854775807 then(souterrainref05_Of.l0 k x0 (wrap64 (Int.tdiv x1 10)) ((strOfNums y147)++x5) (wrap64 (x6+1))) else(none))) else(if x0=1 then(if 1+x5.size≤9223372036854775807 then(some ((⟨#[115]⟩:ByteArray)++x5)) else(none)) else(if 1+x5.size≤9223372036854775807 then(some ((⟨#[104]⟩:ByteArray)++x5)) else(none)))
end
def souterrainref05_Of.f (k:Nat) (a0:Int) (a1:Int):Option (ByteArray):=if a1 < 0 then(souterrainref05_Of.j0 k a0 a1 true) else(if a1 > 99999999 then(souterrainref05_Of.j0 k a0 a1 true) else(if a0 < 1 then(souterrainref05_Of.j0 k a0 a1 true) else(if a0 > 4 then(souterrainref05_Of.j0 k a0 a1 true) else(if a0 > 2 then(souterrainref05_Of.j0 k a0 a1 (decide (a1 > 0))) else(souterrainref05_Of.j0 k a0 a1 false)))))
theorem souterrainref05_Of.calls (k:Nat) (a0:Int) (a1:Int) (r:ByteArray) (w:World) (h:souterrainref05_Of.f k a0 a1=some r):
  Calls Tryz.prog 16 #[.int .i64 a0,.int .i64 a1] w fun e w'=>e=.returned (.string r)∧Below w.heap.size w w':=by
 have HB:=ak (Below.refl w.heap.size w)
 have H:(if a1 < 0 then(souterrainref05_Of.j0 k a0 a1 true) else(if a1 > 99999999 then(souterrainref05_Of.j0 k a0 a1 true) else(if a0 < 1 then(souterrainref05_Of.j0 k a0 a1 true) else(if a0 > 4 then(souterrainref05_Of.j0 k a0 a1 true) else(if a0 > 2 then(souterrainref05_Of.j0 k a0 a1 (decide (a1 > 0))) else(souterrainref05_Of.j0 k a0 a1 false))))))=some r:=h
 clear h
 have HC3:=ak H
 clear H
 go_enter Tryz.func16,Tryz.ntmps16
 go_upto_region 1 with(fail)
 go_cut [28] (fun v28 wc=>∃(kq:Nat) (x28_2:Bool),v28=.bool x28_2∧Aside0 (souterrainref05_Of.j0 kq a0 a1 x28_2=some r)∧Aside0 (kq≤k)∧Aside0 (Below w.heap.size w wc))
 case first=>
  have H:=HC3.out
  clear HC3
  by_cases c4:a1 < 0
  ·rw[if_pos c4] at H
   have c4b0:decide (a1 < 0)=true:=decide_eq_true c4
   clear c4
   (first | rw[c4b0] | (simp only[i64_w,i32_w];rw[c4b0]) | skip)
   have H':=ak H
   clear H
   go_wp2
   go_meet
   case rel=>exact⟨_,(true),(by first | rfl | (simp;done) | (simp [*];done)),H',⟨by first | omega | exact Nat.le_refl _⟩,⟨by repeat (first | (with_reducible first | exact HB.out | apply below_alloc | apply pw_below_drewN | apply below_drew1) | exact HB.out)⟩⟩
  ·rw[if_neg c4] at H
   have c4b0:decide (a1 < 0)=false:=decide_eq_false c4
   clear c4
   (first | rw[c4b0] | (simp only[i64_w,i32_w];rw[c4b0]) | skip)
   by_cases c5:a1 > 99999999
   ·rw[if_pos c5] at H
    have c5b0:decide (99999999 < a1)=true:=decide_eq_true c5
    clear c5
    have H':=ak H
    clear H
    go_wp2
    go_meet
    case rel=>exact⟨_,(true),(by first | rfl | (simp;done) | (simp [*];done)),H',⟨by first | omega | exact Nat.le_refl _⟩,⟨by repeat (first | (with_reducible first | exact HB.out | apply below_alloc | apply pw_below_drewN | apply below_drew1) | exact HB.out)⟩⟩
   ·rw[if_neg c5] at H
    have c5b0:decide (99999999 < a1)=false:=decide_eq_false c5
    clear c5
    by_cases c6:a0 < 1
    ·rw[if_pos c6] at H
     have c6b0:decide (a0 < 1)=true:=decide_eq_true c6
     clear c6
     have H':=ak H
     clear H
     go_wp2
     go_meet
     case rel=>exact⟨_,(true),(by first | rfl | (simp;done) | (simp [*];done)),H',⟨by first | omega | exact Nat.le_refl _⟩,⟨by repeat (first | (with_reducible first | exact HB.out | apply below_alloc | apply pw_below_drewN | apply below_drew1) | exact HB.out)⟩⟩
    ·rw[if_neg c6] at H
     have c6b0:decide (a0 < 1)=false:=decide_eq_false c6
     clear c6
     by_cases c7:a0 > 4
     ·rw[if_pos c7] at H
      have c7b0:decide (4 < a0)=true:=decide_eq_true c7
      clear c7
      have H':=ak H
      clear H
      go_wp2
      go_meet
      case rel=>exact⟨_,(true),(by first | rfl | (simp;done) | (simp [*];done)),H',⟨by first | omega | exact Nat.le_refl _⟩,⟨by repeat (first | (with_reducible first | exact HB.out | apply below_alloc | apply pw_below_drewN | apply below_drew1) | exact HB.out)⟩⟩
     ·rw[if_neg c7] at H
      have c7b0:decide (4 < a0)=false:=decide_eq_false c7
      clear c7
      by_cases c8:a0 > 2
      ·rw[if_pos c8] at H
       have c8b0:decide (2 < a0)=true:=decide_eq_true c8
       clear c8
       have H':=ak H
       clear H
       go_wp2
       go_meet
       case rel=>exact⟨_,(decide (a1 > 0)),(by first | rfl | (simp;done) | (simp [*];done)),H',⟨by first | omega | exact Nat.le_refl _⟩,⟨by repeat (first | (with_reducible first | exact HB.out | apply below_alloc | apply pw_below_drewN | apply below_drew1) | exact HB.out)⟩⟩
      ·rw[if_neg c8] at H
       have c8b0:decide (2 < a0)=false:=decide_eq_false c8
       clear c8
       have H':=ak H
       clear H
       go_wp2
       go_meet
       case rel=>exact⟨_,(false),(by first | rfl | (simp;done) | (simp [*];done)),H',⟨by first | omega | exact Nat.le_refl _⟩,⟨by repeat (first | (with_reducible first | exact HB.out | apply below_alloc | apply pw_below_drewN | apply below_drew1) | exact HB.out)⟩⟩
 case rest=>
  clear HC3
  try clear c1
  try clear p2
  try clear c4
  try clear c4b0
  try clear c5
  try clear c5b0
  try clear c6
  try clear c6b0
  try clear c7
  try clear c7b0
  try clear c8
  try clear c8b0
  obtain⟨kq,x28_2,rfl,HA,HJ2,HB⟩:=hcut
  cases kq with
  | zero=>exact absurd HA.out (by simp [souterrainref05_Of.j0])
  | succ kj2=>
   have H:=HA.out
   clear HA
   simp only[souterrainref05_Of.j0] at H
   by_cases c9:x28_2=true
   ·subst c9
    have H1:(some (⟨#[]⟩:ByteArray))=some r:=by rw[if_pos rfl] at H;exact H
    clear H
    have H:=H1
    clear H1
    obtain rfl:=Option.some.inj H
    go_wp2
    go_ret
    exact⟨by first | rfl | (simp [errW_none,errW_some] <;> rfl) | (simp [*,errW_none,errW_some] <;> rfl),by repeat (first | (with_reducible first | exact HB.out | apply below_alloc | apply pw_below_drewN | apply below_drew1) | exact HB.out)⟩
   ·replace c9:=Bool.eq_false_iff.mpr c9
    subst c9
    have H1:(if a0=3 then(some (⟨#[109]⟩:ByteArray)) else(if a0=4 then(some (⟨#[116]⟩:ByteArray)) else(souterrainref05_Of.l0 kj2 a0 a1 (⟨#[]⟩:ByteArray) 0)))=some r:=by rw[if_neg (show ¬(false=true) by decide)] at H;exact H
    clear H
    have H:=H1
    clear H1
    by_cases c10:a0=3
    ·rw[if_pos c10] at H
     have c10b0:(a0==3)=true:=beq_iff_eq.mpr c10
     have c10b1:(a0 !=3)=false:=bne_eq_false_iff_eq.mpr c10
     clear c10
     obtain rfl:=Option.some.inj H
     go_wp2
     go_ret
     exact⟨by first | rfl | (simp [errW_none,errW_some] <;> rfl) | (simp [*,errW_none,errW_some] <;> rfl),by repeat (first | (with_reducible first | exact HB.out | apply below_alloc | apply pw_below_drewN | apply below_drew1) | exact HB.out)⟩
    ·rw[if_neg c10] at H
     have c10b0:(a0==3)=false:=beq_eq_false_iff_ne.mpr c10
     have c10b1:(a0 !=3)=true:=bne_iff_ne.mpr c10
     by_cases c11:a0=4
     ·rw[if_pos c11] at H
      have c11b0:(a0==4)=true:=beq_iff_eq.mpr c11
      have c11b1:(a0 !=4)=false:=bne_eq_false_iff_eq.mpr c11
      clear c11
      obtain rfl:=Option.some.inj H
      go_wp2
      go_ret
      exact⟨by first | rfl | (simp [errW_none,errW_some] <;> rfl) | (simp [*,errW_none,errW_some] <;> rfl),by repeat (first | (with_reducible first | exact HB.out | apply below_alloc | apply pw_below_drewN | apply below_drew1) | exact HB.out)⟩
     ·rw[if_neg c11] at H
      have c11b0:(a0==4)=false:=beq_eq_false_iff_ne.mpr c11
      have c11b1:(a0 !=4)=true:=bne_iff_ne.mpr c11
      have H':=ak H
      clear H
      go_wp2
      go_loopg [1,5,6] kj2 (fun kq v1 v5 v6 w'=>∃(x1_2:Int) (x5_2:ByteArray) (x6_2:Int),v1=.int .i64 x1_2∧v5=.string x5_2∧v6=.int .i64 x6_2∧Aside0 (souterrainref05_Of.l0 kq a0 x1_2 x5_2 x6_2=some r)∧Aside0 (kq≤kj2)∧Aside0 (Below w.heap.size w w'))
      case atStart=>exact⟨(a1),((⟨#[]⟩:ByteArray)),(0),(by first | rfl | (simp;done) | (simp [*];done)),(by first | rfl | (simp;done) | (simp [*];done)),(by first | rfl | (simp;done) | (simp [*];done)),H',⟨Nat.le_refl _⟩,⟨by repeat (first | (with_reducible first | exact HB.out | apply below_alloc | apply pw_below_drewN | apply below_drew1) | exact HB.out)⟩⟩
      case round=>
       clear H'
       try clear c1
       try clear p2
       try clear c4
       try clear c4b0
       try clear c5
       try clear c5b0
       try clear c6
       try clear c6b0
       try clear c7
       try clear c7b0
       try clear c8
       try clear c8b0
       try clear c9
       try clear c10
       try clear c10b0
       try clear c10b1
       try clear c11
       try clear c11b0
       try clear c11b1
       try clear p2
       obtain⟨x1_2,x5_2,x6_2,rfl,rfl,rfl,HA,HK2,HB⟩:=hrel
       cases gk with
       | zero=>exact absurd HA.out (by simp [souterrainref05_Of.l0])
       | succ k2=>
        have H:=HA.out
        clear HA
        simp only[souterrainref05_Of.l0] at H
        by_cases c12:x6_2 < 8
        ·rw[if_pos c12] at H
         have c12b0:decide (x6_2 < 8)=true:=decide_eq_true c12
         clear c12
         obtain⟨y147,hy147⟩:∃y_:List Int,y_=(([(wrap64 (48+(Int.tmod x1_2 10))) % 256]:List Int)):=⟨_,rfl⟩
         replace H:(if(strOfNums y147).size+x5_2.size≤9223372036854775807 then(souterrainref05_Of.l0 k2 a0 (wrap64 (Int.tdiv x1_2 10)) ((strOfNums y147)++x5_2) (wrap64 (x6_2+1))) else(none))=some r:=by first | (rw[hy147];with_reducible exact H) | (have H2_:=(Option.bind_some _ _).symm.trans H;rw[hy147];with_reducible exact H2_) | (have H2_:=(Option.bind_some _ _).symm.trans H;with_reducible exact H2_) | with_reducible exact H | (rw[hy147];exact H) | exact H
         have Ny147:=ak hy147
         clear hy147
         by_cases c13:(strOfNums y147).size+x5_2.size≤9223372036854775807
         ·rw[if_pos c13] at H
          have c13b0:=eq_true c13
          have c13b1:decide ((strOfNums y147).size+x5_2.size≤9223372036854775807)=true:=decide_eq_true c13
          try have c13b2:(9223372036854775807 < (strOfNums y147).size+x5_2.size)=False:=eq_false (Nat.not_lt.2 c13)
          have H':=ak H
          clear H
          go_wp2_with (first | ((with_reducible refine gate_dst (N:=41) rfl ?_);refine Kd.R_lit (Kd.int .u8) _ 5 ?hg (N:=41) ?hd (xs:=([(wrap64 (48+(Int.tmod x1_2 10))) % 256]:List Int)) (inner:=[.int .u8 ((wrap64 (48+(Int.tmod x1_2 10))) % 256)]) (ok:=fun _=>True) (okp:=fun _=>True) ?hr ?hp (fun _ hk=>hk) trivial (Below.refl _ _) (Nat.le_refl _) (by simp) ?_;(case hd=>rfl);(case hg=>rfl);(case hr=>first | (go_simp;done) | (go_simp;rfl));(case hp=>exact(Reps.one (show Kd.M (Kd.int .u8) _ _ _ ((wrap64 (48+(Int.tmod x1_2 10))) % 256) [.int .u8 ((wrap64 (48+(Int.tmod x1_2 10))) % 256)] from rfl) (Reps.none _ _)));intro v148 w14 ho15 hb hg_ hnew_;clear hg_ hnew_;(first | rw[← Ny147.out] at ho15 | (simp only[Int.reduceToNat] at ho15;rw[← Ny147.out] at ho15));have n0_:=ak (Kd.R_lower ho15 (below_size (by repeat (first | (with_reducible first | exact HB.out | apply below_alloc | apply pw_below_drewN | apply below_drew1) | exact HB.out))));have n1_:=ak (below_step (by repeat (first | (with_reducible first | exact HB.out | apply below_alloc | apply pw_below_drewN | apply below_drew1) | exact HB.out)) hb);clear HB;have HO149:=n0_;have HB:=n1_;clear n0_ n1_;clear hb ho15;have hcv16:=own_string (P:=Tryz.prog) Tryz.underlying33 Tryz.underlying5 Tryz.underlying9 (Kd.own_of_R HO149.out)))
          go_roundg k2
          case measure=>have:=HJ2.out;have:=HK2.out;omega
          case rel=>exact⟨(wrap64 (Int.tdiv x1_2 10)),((strOfNums y147)++x5_2),(wrap64 (x6_2+1)),(by first | rfl | (simp;done) | (simp [*];done)),(by first | rfl | (simp;done) | (simp [*];done)),(by first | rfl | (simp;done) | (simp [*];done)),H',⟨by have:=HJ2.out;have:=HK2.out;omega⟩,⟨by repeat (first | (with_reducible first | exact HB.out | apply below_alloc | apply pw_below_drewN | apply below_drew1) | exact HB.out)⟩⟩
         ·rw[if_neg c13] at H
          exact absurd H (by simp)
        ·rw[if_neg c12] at H
         have c12b0:decide (x6_2 < 8)=false:=decide_eq_false c12
         clear c12
         by_cases c17:a0=1
         ·rw[if_pos c17] at H
          have c17b0:(a0==1)=true:=beq_iff_eq.mpr c17
          have c17b1:(a0 !=1)=false:=bne_eq_false_iff_eq.mpr c17
          clear c17
          by_cases c18:1+x5_2.size≤9223372036854775807
          ·rw[if_pos c18] at H
           have c18b0:=eq_true c18
           have c18b1:decide (1+x5_2.size≤9223372036854775807)=true:=decide_eq_true c18
           try have c18b2:(9223372036854775807 < 1+x5_2.size)=False:=eq_false (Nat.not_lt.2 c18)
           obtain rfl:=Option.some.inj H
           go_wp2
           go_ret
           exact⟨by first | rfl | (simp [errW_none,errW_some] <;> rfl) | (simp [*,errW_none,errW_some] <;> rfl),by repeat (first | (with_reducible first | exact HB.out | apply below_alloc | apply pw_below_drewN | apply below_drew1) | exact HB.out)⟩
          ·rw[if_neg c18] at H
           exact absurd H (by simp)
         ·rw[if_neg c17] at H
          have c17b0:(a0==1)=false:=beq_eq_false_iff_ne.mpr c17
          have c17b1:(a0 !=1)=true:=bne_iff_ne.mpr c17
          by_cases c19:1+x5_2.size≤9223372036854775807
          ·rw[if_pos c19] at H
           have c19b0:=eq_true c19
           have c19b1:decide (1+x5_2.size≤9223372036854775807)=true:=decide_eq_true c19
           try have c19b2:(9223372036854775807 < 1+x5_2.size)=False:=eq_false (Nat.not_lt.2 c19)
           obtain rfl:=Option.some.inj H
           go_wp2
           go_ret
           exact⟨by first | rfl | (simp [errW_none,errW_some] <;> rfl) | (simp [*,errW_none,errW_some] <;> rfl),by repeat (first | (with_reducible first | exact HB.out | apply below_alloc | apply pw_below_drewN | apply below_drew1) | exact HB.out)⟩
          ·rw[if_neg c19] at H
           exact absurd H (by simp)

end Go.Proofs.YteccdnejnbkbiaaGreat.Pm
end
section
namespace Go.Proofs.YteccdnejnbkbiaaGreat.La
open Go.RowKit Go.WideShapes Fr Ext Go.Proofs.YteccdnejnbkbiaaGreat.Nm YteccdnejnbkbiaaGreatW.PrintWords YteccdnejnbkbiaaGreatW.PrintLast YteccdnejnbkbiaaGreatW.PrintMore
theorem digs_snoc:∀k n,digs (k+1) n=digs k (n / 10)++[48+n % 10]
 | 0,n=>by simp [digs]
 | k+1,n=>by
  have h:digs (k+2) n=(48+n / 10 ^ (k+1) % 10)::digs (k+1) n:=rfl
  have h2:digs (k+1) (n / 10)=(48+n / 10 / 10 ^ k % 10)::digs k (n / 10):=rfl
  rw[h,digs_snoc k n,h2,Nat.div_div_eq_div_mul,Nat.mul_comm 10,← Nat.pow_succ]
  rfl
theorem str_cat (a b:List Int):strOfNums a++strOfNums b=strOfNums (a++b):=by
 apply bytes_inj
 simp [strOfNums]
theorem of5_step (d:Nat):(wrap64 (48+Int.tmod (d:Int) 10)) % 256=Int.ofNat (48+d % 10):=by
 have e:Int.tmod (d:Int) 10=((d % 10:Nat):Int):=rfl
 rw[e]
 show _=((48+d % 10:Nat):Int)
 unfold wrap64
 omega
theorem of5_next (d:Nat) (h:d≤99999999):wrap64 (Int.tdiv (d:Int) 10)=((d / 10:Nat):Int):=by
 have e:Int.tdiv (d:Int) 10=((d / 10:Nat):Int):=rfl
 rw[e]
 unfold wrap64
 omega
theorem of5_loop (a0:Int):∀(j n:Nat) (s:List Int),j≤8→s.length+j≤100→n≤99999999→Pm.souterrainref05_Of.l0 (j+1) a0 (n:Int) (strOfNums s) ((8 - j:Nat):Int)=some (if a0=1 then strOfNums (115::((digs j n).map Int.ofNat++s)) else strOfNums (104::((digs j n).map Int.ofNat++s)))
 | 0,n,s,h,hs,hn=>by
  unfold Pm.souterrainref05_Of.l0
  have hz:(strOfNums s).size=s.length:=by show(strOfNums s).data.size=_;simp [strOfNums]
  have e1:(⟨#[115]⟩:ByteArray)=strOfNums [115]:=rfl
  have e2:(⟨#[104]⟩:ByteArray)=strOfNums [104]:=rfl
  rw[if_neg (by decide),hz,e1,e2,str_cat,str_cat,if_pos (show 1+s.length≤9223372036854775807 by omega)]
  by_cases ha:a0=1
  ·rw[if_pos ha,if_pos ha];rfl
  ·rw[if_neg ha,if_neg ha,if_pos (show 1+s.length≤9223372036854775807 by omega)];rfl
 | j+1,n,s,h,hs,hn=>by
  unfold Pm.souterrainref05_Of.l0
  have hz:(strOfNums s).size=s.length:=by show(strOfNums s).data.size=_;simp [strOfNums]
  have hz1:(strOfNums [Int.ofNat (48+n % 10)]).size=1:=by show(strOfNums _).data.size=_;simp [strOfNums]
  rw[if_pos (by omega),Option.bind_some,of5_step,of5_next n hn,hz,hz1,if_pos (by omega),str_cat,show wrap64 (((8 - (j+1):Nat):Int)+1)=((8 - j:Nat):Int) by unfold wrap64;omega,of5_loop a0 j (n / 10) _ (by omega) (by simp;omega) (by omega),digs_snoc]
  simp
theorem of5_calls (a0 n:Int) (ha:a0=1∨a0=2) (h0:0≤n) (h1:n≤99999999) (w:World):Calls Tryz.prog 16 #[.int .i64 a0,.int .i64 n] w fun e w'=>e=.returned (.string (nameOf a0 n))∧RowKit.Below w.heap.size w w':=by
 refine Pm.souterrainref05_Of.calls 10 a0 n (nameOf a0 n) w ?_
 obtain⟨d,rfl⟩:=Int.eq_ofNat_of_zero_le h0
 unfold Pm.souterrainref05_Of.f
 rw[if_neg (by omega),if_neg (by omega),if_neg (by omega),if_neg (by omega),if_neg (by omega)]
 unfold Pm.souterrainref05_Of.j0
 show(if false=true then some (⟨#[]⟩:ByteArray) else(if a0=3 then some (⟨#[109]⟩:ByteArray) else(if a0=4 then some (⟨#[116]⟩:ByteArray) else Pm.souterrainref05_Of.l0 9 a0 (d:Int) (⟨#[]⟩:ByteArray) 0)))=_
 rw[if_neg (by decide),if_neg (by omega),if_neg (by omega)]
 have h:=of5_loop a0 8 d [] (by omega) (by simp) (by omega)
 have e:(strOfNums []:ByteArray)=⟨#[]⟩:=rfl
 rw[e] at h
 refine h.trans ?_
 rw[List.append_nil]
 rcases ha with rfl | rfl
 ·rw[if_pos rfl]
  unfold nameOf
  rw[if_neg (show ¬(d:Int) < 0 by omega),if_neg (show ¬(d:Int) > 99999999 by omega),if_pos rfl,Int.toNat_natCast]
  rfl
 ·rw[if_neg (show ¬(2:Int)=1 by decide)]
  unfold nameOf
  rw[if_neg (show ¬(d:Int) < 0 by omega),if_neg (show ¬(d:Int) > 99999999 by omega),if_neg (show ¬(2:Int)=1 by decide),if_pos rfl,Int.toNat_natCast]
  rfl
end Go.Proofs.YteccdnejnbkbiaaGreat.La
end
section
namespace Go.Proofs.YteccdnejnbkbiaaGreat.Dr
open Go.RowKit Go.Maps Fr Ext Go.Proofs.YteccdnejnbkbiaaGreat.Nm Dk Mn Lg La YteccdnejnbkbiaaGreatW.PrintWords YteccdnejnbkbiaaGreatW.PrintLast YteccdnejnbkbiaaGreatW.PrintMore
open Sg (segN segN_le)
open Rc (Re Lo zeroR recC Norm Norm.intro Norm.elim)
open Gt (At bytes_ok at_rec M0)
variable {W w w' w1:World} {B l g N k:Nat} {M M':DiskM} {F F' G:Nat→Prop} {S S':LogS} {A A1:Option Addr} {c c1:Nat} {pl:List Int}
structure AtW (W w:World) (g l N:Nat) (M:DiskM) (S:LogS) (A:Option Addr) (c:Nat) (pl:List Int):Prop where
 ex:∃F,DiskAt w W.heap.size g N M F∧LogO w W.heap.size l g F S∧∀k,(Value.slice A pl.length c).ownBlock=some k→¬F k∧k≠l
 row:w.ownsRow W.heap.size 3 1 (.slice A pl.length c) pl.length (nums .i64 pl)
 bel:RowKit.Below W.heap.size W w
theorem AtW.of_turned {N':Nat} (hd:DiskAt w W.heap.size g N M F) (hl:LogO w W.heap.size l g F S) (hF:∀k,(Value.slice A pl.length c).ownBlock=some k→¬F k∧k≠l) (h:AtW W w g l N M S A c pl) (ht:LTurned w w' W.heap.size l g N' F M' S'):AtW W w' g l N' M' S' A c pl:=by
 have ht':=ht
 obtain⟨F',h1,h2,h3,h4,h5⟩:=ht
 exact⟨⟨F',h1,h4,fun k hk=>⟨fun hf=>(h3 k hf).elim (hF k hk).1 (fun hle=>Nat.not_lt.2 hle (own_lt h.row k hk)),(hF k hk).2⟩⟩,own_move h.row (fun k hk=>h5.block k (own_lt h.row k hk) (fun e=>e.elim (hF k hk).1 (hF k hk).2)),below_turned h.bel hd hl ht'⟩
theorem AtW.below (h:AtW W w g l N M S A c pl) (hb:RowKit.Below w.heap.size w w'):AtW W w' g l N M S A c pl:=by
 obtain⟨F,hd,hl,hF⟩:=h.ex
 exact⟨⟨F,hd.below hb,hl.below hb,hF⟩,own_move h.row (fun k hk=>hb.block k (own_lt h.row k hk)),h.bel.trans (hb.mono h.bel.size)⟩
theorem AtW.reads (h:AtW W w g l N M S A c pl):pl.length≤c∧Kd.C (Kd.int .i64) w A pl.length pl:=(Kd.R_reads' (R_ints h.row)).2
theorem At.segsW (h:At W w g l N M S none 0 []) (hl:S.man.segs.length≤1000000):Calls Tryz.prog 10 #[ptr l] w fun e w'=>∃A c,e=.returned (.slice A S.man.segs.length c)∧AtW W w' g l N M S A c S.man.segs:=by
 obtain⟨F,hd,ho,hf⟩:=h.ex
 exact(segs_calls ho hl).mono (by
  rintro e w' ⟨v,rfl,hr,hb⟩
  obtain⟨A,c,rfl⟩:=Kd.R_slice hr
  have hw:=Kd.own_of_R hr
  refine⟨A,c,rfl,⟨F,hd.below hb,ho.below hb,fun k hk=>?_⟩,own_less hw h.bel.size,(h.below hb).bel⟩
  have h1:=own_base hw k hk
  exact⟨fun hf=>Nat.not_lt.2 h1 (hd.lt _ hf),fun e=>Nat.not_lt.2 h1 (e ▸ ho.lt)⟩)
theorem AtW.segs (h:AtW W w g l N M S A c pl) (hl:S.man.segs.length≤1000000):Calls Tryz.prog 10 #[ptr l] w fun e w'=>∃A1 c1,e=.returned (.slice A1 S.man.segs.length c1)∧AtW W w' g l N M S A c pl∧S.man.segs.length≤c1∧Kd.C (Kd.int .i64) w' A1 S.man.segs.length S.man.segs:=by
 obtain⟨F,hd,ho,hf⟩:=h.ex
 exact(segs_calls ho hl).mono (by
  rintro e w' ⟨v,rfl,hr,hb⟩
  obtain⟨A1,c1,rfl⟩:=Kd.R_slice hr
  exact⟨A1,c1,rfl,h.below hb,(Kd.R_reads' hr).2⟩)
theorem AtW.last (h:AtW W w g l N M S A c pl):Calls Tryz.prog 11 #[ptr l] w fun e w'=>e=.returned (.tuple #[.int .i64 (max S.last 0),.bool (decide (0≤S.last))])∧AtW W w' g l N M S A c pl:=by
 obtain⟨F,hd,ho,hf⟩:=h.ex
 exact(last_calls ho).mono (by rintro e w' ⟨rfl,hb⟩;exact⟨rfl,h.below hb⟩)
theorem AtW.dropped (h:AtW W w g l N M S A c pl) (hM:Fit M) (hl:S.man.segs.length≤1000000) (hN:N+6+2*S.man.segs.length≤1000000000000) (A0:Option Addr) (c0:Nat) (segs:List Int) (hs:ReadsInt W .i64 A0 segs.length segs):
  Calls Tryz.prog 13 #[ptr l,.slice A0 segs.length c0] w fun e w'=>e=.returned (.int .i64 (dropM M S segs).2.2)∧AtW W w' g l (N+6+2*S.man.segs.length) (dropM M S segs).1 (dropM M S segs).2.1 A c pl:=by
 obtain⟨F,hd,ho,hf⟩:=h.ex
 refine(drop_calls hd hM ho hl hN A0 c0 segs (fun W' hW'=>?_)).mono (by rintro e w' ⟨rfl,ht⟩;exact⟨rfl,AtW.of_turned hd ho hf h ht⟩)
 exact hs.below (Rc.below_keeps h.bel hW' (fun k hk=>hk.elim (hd.base k) (fun e=>e ▸ ho.above)))
theorem AtW.size (h:AtW W w g l N M S A c pl) (s:ByteArray) (hs:s.size≤maxLen):Calls Tryz.prog 15 #[ptr g,.string s] w fun e w'=>e=.returned (.tuple #[.int .i64 (sizeM M s),.bool (Dk.look M.D s).isSome])∧w'=w:=by
 obtain⟨F,hd,ho,hf⟩:=h.ex
 exact hd.size? s hs
theorem asM_segs (lim:Int) (rs:List Re) (h:rs.length≤60) (hB:∀R∈rs,IsBytes R.f6) {k:Nat} (hk:k≤rs.length):(asM lim (rs.take k)).2.man.segs.length≤60:=by
 obtain⟨c,a,n,hd⟩:=DI.of lim rs k hk (by omega) hB
 have:=hd.many
 omega
theorem At.added (h:At W w g l N M S none 0 []) (hM:Fit M) (hsl:S.man.segs.length≤1000000) (hN:N+32≤1000000000000) (R:Re) (A5 A6:Option Addr) (c5 c6:Nat) (h0:(Lit.int .i64 R.f0).wf=true) (h5:Kd.C Pt.k95 W A5 R.f5.length R.f5) (hn:R.f5.length≤1000000000) (h6:Kd.C (Kd.int .u8) W A6 R.f6.length R.f6):
  Calls Tryz.prog 9 #[ptr l,.agg #[.int .i64 R.f0,.string R.f1,.int .i64 R.f2,.int .i64 R.f3,.int .i64 R.f4,.slice A5 R.f5.length c5,.slice A6 R.f6.length c6]] w fun e w'=>∃v,e=.returned v∧At W w' g l (N+32) (laddM M S R).1 (laddM M S R).2.1 none 0 []:=by
 obtain⟨F,hd,ho,hf⟩:=h.ex
 exact(ladd_calls hd hM ho hsl hN R A5 A6 c5 c6 h0 (fun W' hW'=>Kd.C_below h5 (Rc.below_keeps h.bel hW' (fun k hk=>hk.elim (hd.base k) (fun e=>e ▸ ho.above)))) hn (fun W' hW'=>Kd.C_below h6 (Rc.below_keeps h.bel hW' (fun k hk=>hk.elim (hd.base k) (fun e=>e ▸ ho.above))))).mono (by rintro e w' ⟨rfl,ht⟩;exact⟨_,rfl,Gt.At.of_turned hd ho hf h ht⟩)
theorem open_new {lim:Int} (h0:64≤lim) (h1:lim≤1073741824):openM (newM 4194304) lim=(some (S1 lim),0):=by
 unfold openM
 rw[if_neg (by omega),if_neg (by omega)]
 rfl
theorem drops_calls (lim:Int) (a0 a2:Option Addr) (c0 c2:Nat) (rs:List Re) (segs:List Int) (W:World) (hr:Kd.C Pt.k35 W a0 rs.length rs) (hc:rs.length≤c0) (hok:∀R∈rs,HrA.OkRec R) (hs:Kd.C (Kd.int .i64) W a2 segs.length segs) (hc2:segs.length≤c2) (hlim:0≤lim∧lim < 65536):
  Calls Tryz.prog 3 #[.int .u16 lim,.slice a0 rs.length c0,.slice a2 segs.length c2] W fun e w'=>e=.returned (.bool true)∧RowKit.Below W.heap.size W w':=by
 have HR:=ak hr
 have HS:=ak hs
 have HOK:=ak hok
 have HHD:=ak (head_calls W)
 clear hr hok hs
 go_enter Tryz.func3,Tryz.ntmps3
 go_upto_region 2 with(go_at_call 6;(with_reducible refine HHD.out.mono ?_);rintro e w1 ⟨rfl,hb1⟩;have HB1:=ak hb1;clear hb1)
 have HNW:=ak (new? 4194304 W.heap.size w1 HB1.out.size)
 go_upto_region 3 with(go_at_call 7;(with_reducible refine HNW.out.mono ?_);rintro e w2 ⟨g,F,rfl,hd2,hf2,hb2⟩;have HD2:=ak hd2;have HB2:=ak (HB1.out.trans (hb2.mono HB1.out.size));clear hd2 hf2 hb2)
 by_cases h40:(rs.length:Int) > 60
 ·have d1:decide ((rs.length:Int) > 60)=true:=decide_eq_true h40
  have d2:decide (rs.length > 60)=true:=decide_eq_true (by omega)
  clear h40
  go_wp2
  go_ret
  exact⟨rfl,HB2.out⟩
 have d1:decide ((rs.length:Int) > 60)=false:=decide_eq_false h40
 have d2:decide (rs.length > 60)=false:=decide_eq_false (by omega)
 have H40:=ak h40
 clear h40
 by_cases h41:(segs.length:Int) > 60
 ·have d1:decide ((segs.length:Int) > 60)=true:=decide_eq_true h41
  have d2:decide (segs.length > 60)=true:=decide_eq_true (by omega)
  clear h41
  go_wp2
  go_ret
  exact⟨rfl,HB2.out⟩
 have d3:decide ((segs.length:Int) > 60)=false:=decide_eq_false h41
 have d4:decide (segs.length > 60)=false:=decide_eq_false (by omega)
 have H41:=ak h41
 clear h41
 have hop:=open_calls HD2.out (Fit.new _) (64+lim)
 rw[open_new (by omega) (by omega)] at hop
 have HOP:=ak hop
 clear hop HNW HHD
 go_upto_region 6 with(go_at_call 8;(with_reducible refine HOP.out.mono ?_);rintro e w3 ⟨hb3,l,rfl,ho3,hl3⟩;have HB3:=ak (HB2.out.trans (hb3.mono HB2.out.size));have HD3:=ak (HD2.out.below hb3);have HO3:=ak ho3;clear hb3 ho3 hl3)
 have HAT0:=ak (show At W w3 g l 0 M0 (S1 (64+lim)) none 0 [] from⟨⟨F,HD3.out,HO3.out,fun k hk=>by cases hk⟩,⟨rfl,.inl ⟨rfl,rfl⟩⟩,HB3.out,fun _=>rfl⟩)
 clear HD2 HD3 HO3 HB1 HB2 HB3 HOP
 generalize 64+lim=LIM at *
 clear hlim
 go_wp2
 go_loopg [11] rs.length (fun kq v11 wr=>∃(k:Nat),v11=.int .i64 k∧Aside0 (k+kq=rs.length)∧Aside0 (At W wr g l (32*k) (asM LIM (rs.take k)).1 (asM LIM (rs.take k)).2 none 0 []))
 case atStart=>exact⟨0,rfl,⟨by omega⟩,HAT0⟩
 case round=>
  obtain⟨k,rfl,HK,HA⟩:=hrel
  have HFT:=ak (asM_fit LIM (rs.take k) (fun R hR=>bytes_ok (HOK.out R (List.mem_of_mem_take hR))))
  have HSL:=ak (asM_segs LIM rs (by have:=H40.out;omega) (fun R hR=>bytes_ok (HOK.out R hR)) (show k≤rs.length by have:=HK.out;omega))
  cases gk with
  | zero=>
   obtain rfl:k=rs.length:=by have:=HK.out;omega
   have d1:decide ((rs.length:Int) < (rs.length:Int))=false:=decide_eq_false (by omega)
   have d2:decide (rs.length < rs.length)=false:=decide_eq_false (by omega)
   have htk:rs.take rs.length=rs:=List.take_length
   obtain⟨vw,va,vn,hdi⟩:=DI.of LIM rs rs.length (Nat.le_refl _) (by have:=H40.out;omega) (fun R hR=>bytes_ok (HOK.out R hR))
   rw[htk] at HA HFT HSL hdi
   generalize asM LIM rs=p at *
   have HDI:=ak hdi
   clear hdi htk
   have HSG:=ak (At.segsW HA.out (Nat.le_trans HSL.out (by decide)))
   go_upto_region 15 with(go_at_call 10;(with_reducible refine HSG.out.mono ?_);rintro e w5 ⟨A,c,rfl,hA5⟩;have HA5:=ak hA5;clear hA5)
   have HLA:=ak (AtW.last HA5.out)
   go_upto_region 16 with(go_at_call 11;(with_reducible refine HLA.out.mono ?_);rintro e w6 ⟨rfl,hA6⟩;have HA6:=ak hA6;clear hA6)
   clear HSG HLA HA5 HA HAT0
   have HN0:=ak (show 32*rs.length≤10000 by have:=H40.out;omega)
   have HR60:=ak (show rs.length≤60 by have:=H40.out;omega)
   generalize 32*rs.length=N0 at *
   obtain⟨M,S⟩:=p
   dsimp only at HFT HSL HA6 ⊢
   have HOKS:=ak (show ∀x,okSeg S x=(S.man.segs.contains x && (!decide (0≤S.last) || decide (x≠max S.last 0))) from fun _=>rfl)
   have HDROP:=ak (fun h=>DI.drop HDI.out HR60.out segs h)
   have HNOT:=ak (fun h=>DI.not_dropped HDI.out segs h)
   dsimp only at HDROP HNOT
   clear d1 d2
   generalize max S.last 0=la at HOKS ⊢
   generalize decide (0≤S.last)=is at HOKS ⊢
   go_wp2
   go_loopg [15,16] segs.length (fun kq v15 v16 wr=>∃(k:Nat),v15=.bool ((segs.take k).all (okSeg S))∧v16=.int .i64 k∧Aside0 (k+kq=segs.length)∧Aside0 (AtW W wr g l N0 M S A c S.man.segs))
   case atStart=>exact⟨0,rfl,rfl,⟨by omega⟩,HA6⟩
   case round=>
    obtain⟨k,rfl,rfl,HK2,HA7⟩:=hrel
    cases gk with
    | succ gk=>
     have hk0:k < segs.length:=by have:=HK2.out;omega
     have e1:decide ((k:Int) < (segs.length:Int))=true:=decide_eq_true (by omega)
     have e2:decide (k < segs.length)=true:=decide_eq_true hk0
     obtain⟨ad,e3,z0⟩:=Kd.at_int HS.out (k:Int) (by omega) (by omega)
     cases e3
     rw[rd_nat segs k hk0,Int.toNat_natCast] at z0
     have z0:=pw_cell_below HA7.out.bel z0
     have hall:(segs.take (k+1)).all (okSeg S)=((segs.take k).all (okSeg S) && okSeg S segs[k]):=by
      rw[List.take_succ_eq_append_getElem hk0,List.all_append]
      simp
     rw[HOKS.out] at hall
     have HWP:=ak (wrap_succ k (by have:=H41.out;omega))
     generalize segs[k]=x at *
     generalize (segs.take k).all (okSeg S)=b at *
     have HHA:=ak (has_calls A c S.man.segs x wr (Nat.le_trans HSL.out (by decide)) HA7.out.reads.2 HA7.out.reads.1)
     generalize S.man.segs.contains x=b1 at hall HHA
     obtain⟨b3,hb3⟩:∃b,(x !=la)=b:=⟨_,rfl⟩
     have hb3':decide (x≠la)=b3:=by rw[← hb3];by_cases e:x=la <;> simp [e]
     rw[hb3'] at hall
     have HALL:=ak hall
     clear hall hb3'
     cases b with
     | false=>
      go_wp2
      go_roundg gk
      case measure=>omega
      case rel=>exact⟨k+1,by rw[HALL.out];rfl,by rw[HWP.out],⟨by have:=HK2.out;omega⟩,HA7⟩
     | true=>
     cases b1 with
     | false=>
      go_wp2_with (go_at_call 12;(with_reducible refine HHA.out.mono ?_);rintro e w8 ⟨rfl,hb8⟩;have HA8:=ak (HA7.out.below hb8);clear hb8)
      go_roundg gk
      case measure=>omega
      case rel=>exact⟨k+1,by rw[HALL.out];rfl,by rw[HWP.out],⟨by have:=HK2.out;omega⟩,HA8⟩
     | true=>
     cases is with
     | false=>
      go_wp2_with (go_at_call 12;(with_reducible refine HHA.out.mono ?_);rintro e w8 ⟨rfl,hb8⟩;have HA8:=ak (HA7.out.below hb8);clear hb8)
      go_roundg gk
      case measure=>omega
      case rel=>exact⟨k+1,by rw[HALL.out];rfl,by rw[HWP.out],⟨by have:=HK2.out;omega⟩,HA8⟩
     | true=>
      go_wp2_with (go_at_call 12;(with_reducible refine HHA.out.mono ?_);rintro e w8 ⟨rfl,hb8⟩;have HA8:=ak (HA7.out.below hb8);have zz1:=pw_cell_below hb8 z0;clear hb8)
      go_roundg gk
      case measure=>omega
      case rel=>exact⟨k+1,by rw[HALL.out];first | rfl | simp,by rw[HWP.out],⟨by have:=HK2.out;omega⟩,HA8⟩
    | zero=>
     obtain rfl:k=segs.length:=by have:=HK2.out;omega
     have e1:decide ((segs.length:Int) < (segs.length:Int))=false:=decide_eq_false (by omega)
     have e2:decide (segs.length < segs.length)=false:=decide_eq_false (by omega)
     rw[List.take_length]
     have HDD:=ak (AtW.dropped HA7.out HFT.out (Nat.le_trans HSL.out (by decide)) (by have h1:=HN0.out;have h2:=HSL.out;omega) a2 c2 segs (ints_of_C HS.out))
     cases hfine:segs.all (okSeg S) with
     | false=>
      have hd:=HNOT.out hfine
      rw[hd] at HDD
      dsimp only at HDD
      have hfb:((1:Int)==0)=false:=rfl
      clear hfine hd HDROP HNOT HDI HOKS
      go_upto_region 24 with(go_at_call 13;(with_reducible refine HDD.out.mono ?_);rintro e w8 ⟨rfl,hA8⟩;have HA8:=ak hA8;clear hA8)
      have HSG:=ak (AtW.segs HA8.out (Nat.le_trans HSL.out (by decide)))
      go_wp2_with (first
       | (go_at_call 10;(with_reducible refine HSG.out.mono ?_);rintro e w9 ⟨A9,c9,rfl,hA9,hc9,hr9⟩;have HA9:=ak hA9;have HSI:=ak (sameInts_calls A9 A c9 c S.man.segs S.man.segs w9 (Nat.le_trans HSL.out (by decide)) hr9 hc9 hA9.reads.2 hA9.reads.1);clear hA9 hc9 hr9)
       | (go_at_call 14;(with_reducible refine HSI.out.mono ?_);rintro e w10 ⟨rfl,hb10⟩;have HA10:=ak (HA9.out.below hb10);clear hb10))
      go_ret
      exact⟨by simp,HA10.out.bel⟩
     | true=>
      obtain⟨g1,g2,g3⟩:=HDROP.out hfine
      have HG3:=ak g3
      have HRG:=ak (show ∀x∈S.man.segs,0≤x∧x≤99999999 from fun x hx=>by have h1:=Qd.rises_lt _ _ _ HDI.out.lv.rises x hx;have h2:=HDI.out.lv.next_le;dsimp only at h1 h2;omega)
      clear g3 hfine HDROP HNOT HDI HOKS
      generalize dropM M S segs=q at *
      obtain⟨M',S',er⟩:=q
      dsimp only at g1 g2 HG3 HDD
      subst g1
      have HNW:=ak g2
      clear g2
      go_upto_region 24 with(go_at_call 13;(with_reducible refine HDD.out.mono ?_);rintro e w8 ⟨rfl,hA8⟩;have HA8:=ak hA8;clear hA8)
      have hl9:S'.man.segs.length≤S.man.segs.length:=by rw[HNW.out];exact List.length_filter_le _ _
      have HSG:=ak (AtW.segs HA8.out (Nat.le_trans hl9 (Nat.le_trans HSL.out (by decide))))
      have HL9:=ak hl9
      clear hl9
      go_upto_region 27 with(go_at_call 10;(with_reducible refine HSG.out.mono ?_);rintro e w9 ⟨A9,c9,rfl,hA9,hc9,hr9⟩;have HA9:=ak hA9;have HR9:=ak (And.intro hc9 hr9);clear hA9 hc9 hr9)
      clear HSG HA8 HDD HA7 HA6
      go_wp2
      go_loopg [19] S.man.segs.length (fun kq v19 wr=>∃(k:Nat),v19=.int .i64 k∧Aside0 (k+kq=S.man.segs.length)∧Aside0 (RowKit.Below w9.heap.size w9 wr))
      case atStart=>exact⟨0,rfl,⟨by omega⟩,⟨RowKit.Below.refl _ _⟩⟩
      case round=>
       obtain⟨k,rfl,HK3,HB⟩:=hrel
       cases gk with
       | zero=>
        obtain rfl:k=S.man.segs.length:=by have:=HK3.out;omega
        have f1:decide ((S.man.segs.length:Int) < (S.man.segs.length:Int))=false:=decide_eq_false (by omega)
        have f2:decide (S.man.segs.length < S.man.segs.length)=false:=decide_eq_false (by omega)
        have f3:decide ((S'.man.segs.length:Int)≤(S.man.segs.length:Int))=true:=decide_eq_true (by have:=HL9.out;omega)
        have f4:decide (S'.man.segs.length≤S.man.segs.length)=true:=decide_eq_true HL9.out
        go_wp2
        go_ret
        exact⟨rfl,(HA9.out.below HB.out).bel⟩
       | succ gk=>
        have hk0:k < S.man.segs.length:=by have:=HK3.out;omega
        have f1:decide ((k:Int) < (S.man.segs.length:Int))=true:=decide_eq_true (by omega)
        have f2:decide (k < S.man.segs.length)=true:=decide_eq_true hk0
        have hAr:=HA9.out.below HB.out
        obtain⟨ad,e3,y9⟩:=Kd.at_int HA9.out.reads.2 (k:Int) (by omega) (by omega)
        cases e3
        rw[rd_nat S.man.segs k hk0,Int.toNat_natCast] at y9
        have y0:=pw_cell_below HB.out y9
        obtain⟨g4,g5⟩:=HG3.out _ (List.getElem_mem hk0)
        have hnow:S'.man.segs.contains S.man.segs[k]=!segs.contains S.man.segs[k]:=by
         rw[HNW.out,Bool.eq_iff_iff,List.contains_iff_mem,List.mem_filter]
         exact⟨fun h=>h.2,fun h=>⟨List.getElem_mem hk0,h⟩⟩
        have HWP:=ak (wrap_succ k (by have:=HSL.out;omega))
        have HAR:=ak hAr
        have hrx:=HRG.out _ (List.getElem_mem hk0)
        clear hAr
        generalize S.man.segs[k]=x at *
        have HO1:=ak (fun W'=>show Calls Tryz.prog 16 #[.int .i64 1,.int .i64 x] W' fun e w'=>e=.returned (.string (segN x))∧RowKit.Below W'.heap.size W' w' from of5_calls 1 x (.inl rfl) hrx.1 hrx.2 W')
        have HO2:=ak (fun W'=>show Calls Tryz.prog 16 #[.int .i64 2,.int .i64 x] W' fun e w'=>e=.returned (.string (hintN x))∧RowKit.Below W'.heap.size W' w' from of5_calls 2 x (.inr rfl) hrx.1 hrx.2 W')
        clear hrx
        have HSZ1:=ak (fun W' (hW':RowKit.Below w9.heap.size w9 W')=>AtW.size (HA9.out.below hW') (segN x) (segN_le x))
        have HSZ2:=ak (fun W' (hW':RowKit.Below w9.heap.size w9 W')=>AtW.size (HA9.out.below hW') (hintN x) (hintN_le x))
        have HH1:=ak (fun W' (hW':RowKit.Below w9.heap.size w9 W')=>has_calls a2 c2 segs x W' (by have:=H41.out;omega) (Kd.C_below HS.out (HA9.out.bel.trans (hW'.mono HA9.out.bel.size))) hc2)
        have HH2:=ak (fun W' (hW':RowKit.Below w9.heap.size w9 W')=>has_calls A9 c9 S'.man.segs x W' (by have h1:=HL9.out;have h2:=HSL.out;omega) (Kd.C_below HR9.out.2 hW') HR9.out.1)
        rw[hnow] at HH2
        have HG4:=ak g4
        have HG5:=ak g5
        clear g4 g5 hnow
        rw[HG4.out] at HSZ1
        generalize segs.contains x=gone at *
        obtain⟨hs2,hhs2⟩:∃b,(Dk.look M'.D (hintN x)).isSome=b:=⟨_,rfl⟩
        rw[hhs2] at HSZ2 HG5
        clear hhs2
        go_upto_region 31 with(first
         | (go_at_call 16;(with_reducible refine(HO1.out _).mono ?_);rintro e wa ⟨rfl,hba⟩;have HBA:=ak (HB.out.trans (hba.mono HB.out.size));clear hba)
         | (go_at_call 15;(with_reducible refine(HSZ1.out _ HBA.out).mono ?_);rintro e wb ⟨rfl,hw⟩;obtain rfl:=hw.symm))
        have y1:=pw_cell_below HBA.out y9
        go_upto_region 32 with(first
         | (go_at_call 16;(with_reducible refine(HO2.out _).mono ?_);rintro e wc ⟨rfl,hba⟩;have HBC:=ak (HBA.out.trans (hba.mono HBA.out.size));clear hba)
         | (go_at_call 15;(with_reducible refine(HSZ2.out _ HBC.out).mono ?_);rintro e wd ⟨rfl,hw⟩;obtain rfl:=hw.symm))
        have y2:=pw_cell_below HBC.out y9
        have HHA:=ak (HH1.out _ HBC.out)
        go_upto_region 33 with(go_at_call 12;(with_reducible refine HHA.out.mono ?_);rintro e we ⟨rfl,hbe⟩;have HBE:=ak (HBC.out.trans (hbe.mono HBC.out.size));clear hbe)
        have y3:=pw_cell_below HBE.out y9
        have HHB:=ak (HH2.out _ HBE.out)
        cases gone with
        | true=>
         have h5:hs2=false:=HG5.out rfl
         subst h5
         go_wp2_with (go_at_call 12;(with_reducible refine HHB.out.mono ?_);rintro e wf ⟨rfl,hbf⟩;have HBF:=ak (HBE.out.trans (hbf.mono HBE.out.size));clear hbf)
         go_roundg gk
         case measure=>omega
         case rel=>exact⟨k+1,by rw[HWP.out],⟨by have:=HK3.out;omega⟩,HBF⟩
        | false=>
         go_wp2_with (go_at_call 12;(with_reducible refine HHB.out.mono ?_);rintro e wf ⟨rfl,hbf⟩;have HBF:=ak (HBE.out.trans (hbf.mono HBE.out.size));clear hbf)
         go_roundg gk
         case measure=>omega
         case rel=>exact⟨k+1,by rw[HWP.out],⟨by have:=HK3.out;omega⟩,HBF⟩
  | succ gk=>
   have hk0:k < rs.length:=by have:=HK.out;omega
   have d1:decide ((k:Int) < (rs.length:Int))=true:=decide_eq_true (by omega)
   have d2:decide (k < rs.length)=true:=decide_eq_true hk0
   obtain⟨ad,A5,c5,A6,c6,e1,q0,q1,q2,q3,q4,q5,q6,hk5,hk6⟩:=at_rec HR.out k hk0
   subst e1
   have hok:=HOK.out _ (List.getElem_mem hk0)
   have hstep:=asM_snoc LIM (rs.take k) rs[k]
   rw[← List.take_succ_eq_append_getElem hk0] at hstep
   generalize rs[k]=R at *
   have HBL:=ak HA.out.bel
   have q0:=pw_cell_below HBL.out q0
   have q1:=pw_cell_below HBL.out q1
   have q2:=pw_cell_below HBL.out q2
   have q3:=pw_cell_below HBL.out q3
   have q4:=pw_cell_below HBL.out q4
   have q5:=pw_cell_below HBL.out q5
   have q6:=pw_cell_below HBL.out q6
   have HK5:=ak hk5
   have HK6:=ak hk6
   have HRK:=ak hok
   have HST:=ak hstep
   clear hk5 hk6 hok hstep
   obtain⟨b1,hb1⟩:∃b,decide ((R.f6.length:Int) > 5000)=b:=⟨_,rfl⟩
   obtain⟨b2,hb2⟩:∃b,decide ((R.f5.length:Int) > 600)=b:=⟨_,rfl⟩
   obtain⟨b3,hb3⟩:∃b,decide ((R.f1.size:Int) > 2000)=b:=⟨_,rfl⟩
   have m1:k < rs.length:=hk0
   cases b1 with
   | true=>
    go_wp2
    go_ret
    exact⟨rfl,HBL.out⟩
   | false=>
   cases b2 with
   | true=>
    go_wp2
    go_ret
    exact⟨rfl,HBL.out⟩
   | false=>
   cases b3 with
   | true=>
    go_wp2
    go_ret
    exact⟨rfl,HBL.out⟩
   | false=>
   have HN5:=ak (show R.f5.length≤1000000000 by have:=of_decide_eq_false hb2;omega)
   have HAD:=ak (At.added HA.out HFT.out (Nat.le_trans HSL.out (by decide)) (by have:=HK.out;have:=H40.out;omega) R A5 A6 c5 c6 HRK.out.1 HK5.out HN5.out HK6.out)
   go_wp2_with (go_at_call 9;(with_reducible refine HAD.out.mono ?_);rintro e w5 ⟨v5,rfl,h5⟩;have H5:=ak h5;clear h5)
   go_roundg gk
   case measure=>omega
   case rel=>exact⟨k+1,by rw[wrap_succ k (by have:=HK.out;have:=H40.out;omega)],⟨by have:=HK.out;omega⟩,⟨by rw[HST.out];exact H5.out⟩⟩
end Go.Proofs.YteccdnejnbkbiaaGreat.Dr
namespace Go.Proofs.YteccdnejnbkbiaaGreat.Dr
open Go.RowKit YteccdnejnbkbiaaGreatW.PrintWords
theorem LogDrops.walk (lim:Int) (a0:Option Addr) (n0 c0:Nat) (z0:List Rc.Re) (a2:Option Addr) (n2 c2:Nat) (z2:List Int) (W:World) (hl:(Lit.int .u16 lim).wf=true)
  (h0:z0.length=n0∧n0≤c0∧c0≤maxLen∧Kd.C Pt.k35 W a0 n0 z0∧∀y∈z0,HrA.OkRec y) (h2:z2.length=n2∧n2≤c2∧c2≤maxLen∧Kd.C (Kd.int .i64) W a2 n2 z2∧∀y∈z2,(Lit.int .i64 y).wf=true):
  Calls Tryz.prog 3 #[.int .u16 lim,.slice a0 n0 c0,.slice a2 n2 c2] W fun e w'=>e=.returned (.bool true)∧Below W.heap.size W w':=by
 obtain⟨rfl,p0,m0,q0,r0⟩:=h0
 obtain⟨rfl,p2,m2,q2,r2⟩:=h2
 exact drops_calls lim a0 a2 c0 c2 z0 z2 W q0 p0 r0 q2 p2 (by
  have h:(decide (0≤lim) && decide (lim≤65535))=true:=hl
  simp only[Bool.and_eq_true,decide_eq_true_eq] at h
  omega)
end Go.Proofs.YteccdnejnbkbiaaGreat.Dr
end
section
/- The statement LogDrops, out of the walk of the law. -/
namespace Go.Proofs.YteccdnejnbkbiaaGreat.logDrops
open Go.ChangeShapes Go.WideShapes Go.ChangeAt Go.RowKit
open Go.ChangeMaps (open_string shut_string)
theorem own:ownKnob Tryz.prog.godebug=none:=by kernel_rfl
theorem laidOut:laidOutB Tryz.prog=true:=by kernel_rfl
theorem lifted (os:Os) (started:os.Started) (H:Type) (enc:TypeId×Value→H):
  ReturnsInHanded {} Tryz.checked os 3 .any (Rows.logDropsSpec.pre6 enc Tryz.prog Tryz.f3 Rows.logDropsRow.domain false) (Rows.logDropsSpec.post enc Tryz.prog Tryz.f3 false true false false):=by
 refine returnsInHanded_of_change_sized (C:=Tryz.checked) own started (by kernel_rfl) Tryz.func3
  (ChangeSpec.witness6 (enc:=enc) (C:=Tryz.checked) false ⟨#[],#[.int .u16 0,.slice none 0 0,.slice none 0 0],[]⟩ 8 (by kernel_rfl) (by kernel_rfl) (by kernel_rfl) (by kernel_rfl)) ?_
 intro W base args ds gs before hval0 hW hcnd hsz0 _
 have hsz:(DataW.weightsEach Tryz.prog (Tryz.f3.params.toList++Rows.logDropsSpec.plain.varTypes Tryz.prog) (ds++gs)).all (·≤reachBytes)=true:=hsz0
 have hval:∀(j:Nat) t v,Tryz.f3.params[j]? =some t→args[j]? =some v→Value.okWide Tryz.prog W .any base t v:=hval0
 have hW':=hW
 obtain⟨p,q,hA0,hV,rfl,hfz,hnd⟩:=hW
 have hA:DataW.TrodAll enc Tryz.prog W 0 (fun _=>true) true Tryz.f3.params.toList args.toList ds p:=hA0
 rw[Tryz.params3] at hA hval hsz
 obtain⟨v0,vs0,d0,ds0,p0,q0,hargs,rfl,rfl,h0,r0⟩:=trodAll_cons hA
 obtain⟨v1,vs1,d1,ds1,p1,q1,rfl,rfl,rfl,h1,r1⟩:=trodAll_cons r0
 obtain⟨v2,vs2,d2,ds2,p2,q2,rfl,rfl,rfl,h2,r2⟩:=trodAll_cons r1
 obtain⟨rfl,rfl,rfl⟩:=trodAll_nil r2
 obtain rfl:args=#[v0,v1,v2]:=by cases args;simp_all
 obtain⟨rfl,rfl⟩:=trodVars_none hV
 obtain⟨a0,rfl,rfl,rfl,w0⟩:=open_int Tryz.underlying22 (hval 0 22 v0 rfl rfl) h0
 obtain⟨a1,len1,cap1,rfl⟩:=okWide_slice Tryz.underlying23 (hval 1 23 v1 rfl rfl)
 have k1:=h1
 have lt1:∀x∈p1,x.block < W.heap.size:=by obtain⟨m,hm⟩:=k1;exact DataW.trod_lt m _ _ _ hm
 obtain⟨f1,hf1⟩:=h1
 obtain⟨z1,w1⟩:=HrA.opens_row Tryz.underlying23 (by kernel_rfl) HrA.opens_rec hf1
 obtain⟨a2,len2,cap2,rfl⟩:=okWide_slice Tryz.underlying24 (hval 2 24 v2 rfl rfl)
 have k2:=h2
 have lt2:∀x∈p2,x.block < W.heap.size:=by obtain⟨m,hm⟩:=k2;exact DataW.trod_lt m _ _ _ hm
 obtain⟨f2,hf2⟩:=h2
 obtain⟨z2,w2⟩:=HrA.opens_row (k:=Go.Proofs.YteccdnejnbkbiaaGreatW.PrintWords.Kd.int .i64) Tryz.underlying24 (by kernel_rfl) (HrA.opens_int Tryz.underlying3) hf2
 clear hA0 hval0 hsz0 hsz
 refine(Dr.LogDrops.walk a0 a1 len1 cap1 z1 a2 len2 cap2 z2 W w0 w1 w2).mono fun e W' ⟨he,bel⟩=>?_
 subst he
 exact⟨_,rfl,_,_,_,[],_,[],hW',trodAll_mk1 (shut_bool Tryz.underlying4 _),(trodAll_cons_mk (shut_int Tryz.underlying22 w0) (trodAll_cons_mk (Below.trod laidOut (by kernel_rfl) (of_decide_eq_true (by kernel_rfl)) k1 bel lt1) (trodAll_cons_mk (Below.trod laidOut (by kernel_rfl) (of_decide_eq_true (by kernel_rfl)) k2 bel lt2) trodAll_mk0))),rfl,bel.frame _,fun h=>by cases h⟩
theorem closed:joinedFacts Tryz.pinned.checked.prog 3 Tryz.f3 Rows.logDropsSpec Rows.logDropsRow=true:=of_decide_eq_true (by kernel_rfl)
theorem over:Rows.logDropsRow.holds Tryz.pinned (OpenSpec.ofChange Rows.logDropsSpec):=
 OpenClaim.holds_of_wide 3 Tryz.f3 rfl rfl rfl rfl rfl rfl rfl ⟨rfl,rfl,rfl,rfl,rfl⟩ rfl rfl rfl rfl rfl (by kernel_rfl) Tryz.func3 closed
  (of_decide_eq_true (by kernel_rfl)) (by unfold Func.isWrapper;first | (rw[if_pos (by decide+kernel)];kernel_rfl) | (rw[if_neg (by decide+kernel)];exact⟨rfl,rfl⟩))
  (fun os started H enc _=>lifted os started H enc)
theorem proved:Rows.LogDropsSaid:=over
#print axioms proved
end Go.Proofs.YteccdnejnbkbiaaGreat.logDrops
namespace Go.Proofs.YteccdnejnbkbiaaGreat
theorem logDrops_holds:Rows.LogDropsSaid:=logDrops.proved
end Go.Proofs.YteccdnejnbkbiaaGreat
end
